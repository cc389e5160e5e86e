/- The abstract machine, sound; plain mathematics. No condition. -/
import Derived.Shelf.SlSortCmp.WholeK
import Derived.Test.YtehmnmdohadigaaGreatPoa1
namespace Go.AM
open Go Go.Proofs Go.Sort Go.Shelf
noncomputable def cmpZ (T:FnTab) (I:Oracle) (cf:Nat) (caps:List AV) (hr:AHeap) (a b:AV):Int :=
 match lim T I (.fn cf) (a :: b :: caps) hr with
 | some (.int .i64 z,_) => z
 | _ => 0
structure SortOK (T:FnTab) (I:Oracle) (cf:Nat) (caps:List AV) (hr:AHeap) (row:List AV):Prop where
 sc:∀ a ∈ row,a.scalar = true
 run:∀ a ∈ row, ∀ b ∈ row, ∃ h1,lim T I (.fn cf) (a :: b :: caps) hr = some (.int .i64 (cmpZ T I cf caps hr a b),h1)
 irr:∀ a ∈ row, ¬ cmpZ T I cf caps hr a a < 0
 tr:∀ a ∈ row, ∀ b ∈ row, ∀ c ∈ row,cmpZ T I cf caps hr a b < 0 -> cmpZ T I cf caps hr b c < 0 -> cmpZ T I cf caps hr a c < 0
 tot:∀ a ∈ row, ∀ b ∈ row, ¬ cmpZ T I cf caps hr a b < 0 -> ¬ cmpZ T I cf caps hr b a < 0 -> a = b
def SortedAs (T:FnTab) (I:Oracle) (cf:Nat) (caps:List AV) (hr:AHeap) (row L:List AV):Prop :=
 L.Perm row /\ L.Pairwise fun a b => ¬ cmpZ T I cf caps hr b a < 0
theorem SortOK.unique {T:FnTab} {I:Oracle} {cf:Nat} {caps:List AV} {hr:AHeap} {row L L':List AV} (K:SortOK T I cf caps hr row) (h:SortedAs T I cf caps hr row L) (h':SortedAs T I cf caps hr row L'):L = L' :=
 List.Perm.eq_of_pairwise (fun a b ha hb h1 h2 => K.tot a (h.1.mem_iff.1 ha) b (h'.1.mem_iff.1 hb) h2 h1) h.2 h'.2 (h.1.trans h'.1.symm)
structure SortAt (T0 T:FnTab) (I:Oracle) (h:AHeap) (i o n cf:Nat) (caps c:List AV):Prop where
 pos:0 < n
 top:n < 4611686018427387904
 fit:o + n <= c.length
 fn:∃ fn,T0 cf = some fn
 ok:SortOK T I cf caps (roH h i) ((c.drop o).take n)
 ex:∃ L,SortedAs T I cf caps (roH h i) ((c.drop o).take n) L
noncomputable def sortJ (T0 T:FnTab) (I:Oracle) (args:List AV) (h:AHeap):Option (AV × AHeap) :=
 match args with
 | [.slice i o n _, .fn (.func cf) [] caps] =>
  match h.get i with
  | some (.cells c true) => open Classical in if hx:SortAt T0 T I h i o n cf caps c then some (.tup [],h.set i (.cells (c.take o ++ (Classical.choose hx.ex ++ c.drop (o + n))) true)) else none
  | _ => none
 | _ => none
theorem sortJ_eq {T0 T : FnTab} {I : Oracle} {h : AHeap} {i o n cf : Nat} {cap : ACap} {caps c L : List AV} (hg : h.get i = some (.cells c true)) (hx : SortAt T0 T I h i o n cf caps c) (hL : SortedAs T I cf caps (roH h i) ((c.drop o).take n) L) :
  sortJ T0 T I [.slice i o n cap, .fn (.func cf) [] caps] h = some (.tup [],h.set i (.cells (c.take o ++ (L ++ c.drop (o + n))) true)):=by
 show (match h.get i with
  | some (.cells c true) => open Classical in if hx:SortAt T0 T I h i o n cf caps c then some (AV.tup [],h.set i (.cells (c.take o ++ (Classical.choose hx.ex ++ c.drop (o + n))) true)) else none
  | _ => none) = _
 rw [hg]
 simp only
 rw [dif_pos hx,hx.ok.unique (Classical.choose_spec hx.ex) hL]
theorem row_getD {l:List AV} {k:Nat} (hk:k < l.length):l[k]? = some (l.getD k aundef):=by
 simp [List.getD,List.getElem?_eq_getElem hk]
section
variable {P:Program} {ρ0:Ren}
theorem sortJ_sound (L : SlLaysF.n6 P ρ0) (hm : P.follows .mixedOrders = true) {T0 T : FnTab} (hT : TabOK P T0) (hO : TOpt T0 T) {I : Oracle} (hI : IOK P I) :
  ∀ args av h h',sortJ T0 T I args h = some (av,h') -> ∀ ρ B w (args':Array Value),Sim P ρ h B w -> VRs ρ args args'.toList -> Upon P ((callFunc (ρ0.f 6) args').run P w) (Ans P B ρ h w av h'):=by
 intro args av h h' he ρ B w args' hs ha
 unfold sortJ at he
 split at he <;> first | (cases he; done) | skip
 rename_i i o n cap cf caps
 split at he <;> first | (cases he; done) | skip
 rename_i c hg
 split at he <;> first | (cases he; done) | skip
 rename_i hx
 have hLs:=Classical.choose_spec hx.ex
 generalize Classical.choose hx.ex = Lr at he hLs
 cases he
 obtain ⟨v1,v2,hargs,r1,r2⟩:∃ v1 v2,args'.toList = [v1,v2] /\ VR ρ (.slice i o n cap) v1 /\ VR ρ (.fn (.func cf) [] caps) v2:=by
  generalize args'.toList = l at ha
  cases ha with
  | cons h1 h2 => cases h2 with
   | cons h3 h4 => cases h4; exact ⟨_,_,rfl,h1,h3⟩
 have hargs':args' = #[v1,v2]:=by apply Array.ext'; rw [hargs]
 subst hargs'
 have hn0:=hx.pos
 obtain ⟨p,c0,hp,rfl⟩:∃ p c0, ρ i = some p /\ v1 = .slice (some ⟨p.blk,p.base + o,none⟩) n c0:=by
  cases r1 with
  | slx h1 h2 => exact ⟨_,_,h1,rfl⟩
  | slo h1 h2 h3 => exact ⟨_,_,h1,rfl⟩
  | sle a h1 h2 => exact absurd hn0 (Nat.lt_irrefl _)
 obtain ⟨cb,hcb,rfl⟩:∃ cb:Array Value,VRs ρ caps cb.toList /\ v2 = .func (.func cf) #[] cb:=by
  cases r2 with
  | @fn f a b a' b' hf h1 h2 =>
   refine ⟨b',h2,?_⟩
   have e:a' = #[]:=by
    have:=VRs.length h1
    apply Array.eq_empty_of_size_eq_zero
    rw [<- Array.length_toList, <- this]; rfl
   rw [e]
 obtain ⟨m,rfl⟩:∃ m,n = m + 1:=⟨n - 1,by omega⟩
 obtain ⟨cc,el,fr,q1,q2,q3,q4,q5⟩:=hs.obj i _ p hg hp
 obtain ⟨q5,q6⟩:=q5 rfl
 have K:=hx.ok
 have hfit:=hx.fit
 generalize hrow:(c.drop o).take (m + 1) = row at K hLs
 have hrl:row.length = m + 1:=by rw [<- hrow]; simp; omega
 have hrk:∀ k,k < m + 1 -> row[k]? = c[o + k]?:=fun k hk => by rw [<- hrow,List.getElem?_take_of_lt hk,List.getElem?_drop]
 let rf:Fin (m + 1) -> AV:=fun k => row.getD k aundef
 let enc:Fin (m + 1) -> Value:=fun k => cc.getD (p.base + o + k) undef
 have hrf:∀ k:Fin (m + 1),row[k.val]? = some (rf k):=fun k => row_getD (by rw [hrl]; exact k.isLt)
 have hmem:∀ k,rf k ∈ row:=fun k => List.mem_of_getElem? (hrf k)
 have henc:∀ k:Fin (m + 1),cc[p.base + o + k.val]? = some (enc k) /\ VR ρ (rf k) (enc k):=fun k => by
  have hk:=hrf k
  rw [hrk k k.isLt] at hk
  obtain ⟨v,hv,hr⟩:=q4 _ _ hk
  rw [<- Nat.add_assoc] at hv
  have e:enc k = v:=by
   show cc.getD (p.base + o + k) undef = v
   rw [Array.getD_eq_getD_getElem?,hv]; rfl
  rw [e]; exact ⟨hv,hr⟩
 let cfz:Fin (m + 1) -> Fin (m + 1) -> Int:=fun k l => cmpZ T I cf caps (roH h i) (rf k) (rf l)
 have hSWO:SWO (ltOf cfz):=by
  refine ⟨fun x => decide_eq_false (K.irr _ (hmem x)),fun x y z h1 h2 => ?_,fun x y z h1 h2 => ?_⟩
  ·exact decide_eq_true (K.tr _ (hmem x) _ (hmem y) _ (hmem z) (of_decide_eq_true h1) (of_decide_eq_true h2))
  ·refine decide_eq_false fun h3 => ?_
   have h1':¬ cfz x y < 0:=of_decide_eq_false h1
   have h2':¬ cfz y z < 0:=of_decide_eq_false h2
   by_cases hyx:cfz y x < 0
   ·exact h2' (K.tr _ (hmem y) _ (hmem x) _ (hmem z) hyx h3)
   ·have e:rf x = rf y:=K.tot _ (hmem x) _ (hmem y) h1' hyx
    exact h2' (by show cmpZ T I cf caps (roH h i) (rf y) (rf z) < 0; rw [<- e]; exact h3)
 obtain ⟨fn,hfn⟩:=hx.fn
 obtain ⟨F,f1,f2,f3⟩:=hT cf fn hfn
 unfold trFn at f2
 split at f2 <;> first | (cases f2; done) | skip
 rename_i cbody hbody
 have eg:∀ args w,(callFunc cf args).run P w = .ok (.enter cf args) w:=fun args w => callFunc_enter f1 f3 hbody args w
 let d:Array (Fin (m + 1)):=Array.ofFn id
 have hd:d.size = m + 1:=Array.size_ofFn
 have hdj:∀ j (hj:j < m + 1),d[j]! = ⟨j,hj⟩:=fun j hj => by
  rw [getElem!_pos d j (by rw [hd]; exact hj)]; simp [d]
 have hplace:p.base <= p.base + o:=Nat.le_add_right _ _
 have hturn:∀ (mm:Nat) (os:Array Obj) (dk:Array (Fin (m + 1))),dk.size = m + 1 -> Turned w (sortWorld enc w p.blk (p.base + o) mm dk os) p (putCells enc (p.base + o) dk) :=
  fun mm os dk hdk => turned_sort enc p.blk (p.base + o) mm dk os rfl hplace (by rw [hdk]; omega)
 have hcmp:CmpLays1 P cf cb enc cfz p.blk (p.base + o) d.size w:=by
  intro mm os dk hdk x y
  rw [hd] at hdk
  have t:=hturn mm os dk hdk
  have S:=sim_ro hs hg hp t
  obtain ⟨h1,e1⟩:=K.run _ (hmem x) _ (hmem y)
  obtain ⟨nn,e2⟩:=lim_opt hO e1
  have hv:VRs ρ (rf x :: rf y :: caps) (#[enc x,enc y] ++ cb).toList:=by
   rw [Array.toList_append]
   exact .cons (henc x).2 (.cons (henc y).2 hcb)
  have hup:=(callF_sound hm hT hI nn).fn cf _ _ _ _ e2 ρ (sortWorld enc w p.blk (p.base + o) mm dk os).heap.size _ _ S hv
  rw [eg] at hup
  have hup':CallsIn Fence.wide 0 P cf _ _ _:=hup
  rw [callsIn_wide] at hup'
  refine hup'.mono ?_
  rintro e w' ⟨v,rfl, ρ',hv',st⟩
  generalize sortWorld enc w p.blk (p.base + o) mm dk os = W at S st
  refine ⟨by cases hv'; rfl,w'.drawn - W.drawn,w'.heap.extract W.heap.size w'.heap.size,?_⟩
  have hsame:∀ b,b < W.heap.size -> w'.heap[b]? = W.heap[b]?:=fun b hb => st.frame b hb fun j o q hj _ hw => by
   obtain ⟨_,_,_,_,_,rfl⟩:=roH_some hj
   cases hw
  have hheap:w'.heap = W.heap ++ w'.heap.extract W.heap.size w'.heap.size:=by
   refine Array.ext_getElem? fun b => ?_
   by_cases hb:b < W.heap.size
   ·rw [Array.getElem?_append_left hb,hsame b hb]
   ·rw [Array.getElem?_append_right (by omega),Array.getElem?_extract]
    have:=st.size
    by_cases hb2:b < w'.heap.size
    ·rw [if_pos (by omega),show W.heap.size + (b - W.heap.size) = b by omega]
    ·rw [if_neg (by omega),Array.getElem?_eq_none (by omega)]
  have h4:=st.os
  have h5:=st.tape
  have h6:=st.output
  have h7:=st.drawn
  cases w'
  cases W
  simp only [grow,World.drewN] at hheap h4 h5 h6 h7 ⊢
  subst h4 h5 h6
  rw [<- hheap]
  congr 1
  omega
 have hH:Holds enc w p.blk (p.base + o) d:=by
  intro j hj
  rw [hd] at hj
  rw [hdj j hj]
  refine ⟨?_,?_⟩
  ·unfold World.cell?
   simp only [q1]
   exact (henc ⟨j,hj⟩).1
  ·unfold World.frozen?
   obtain ⟨f1,f2⟩:=fr
   simp only [q1]
   have:=q6 (p.base + o + j) (by omega) (by omega)
   simp only [Bool.and_eq_false_iff,decide_eq_false_iff_not]
   simp only at this
   omega
 have hcon:=Any.slices_SortFunc L enc (fun x => VR.oneCell (henc x).2 (K.sc _ (hmem x))) cfz hSWO cf cb p.blk (p.base + o) c0 d w eg hcmp hH (Array.getElem?_eq_some_iff.1 q1).1 (by rw [hd]; exact hx.top)
 rw [hd] at hcon
 have eg6:∀ args w,(callFunc (ρ0.f 6) args).run P w = .ok (.enter (ρ0.f 6) args) w:=L.f6.enters rfl
 rw [eg6]
 show CallsIn Fence.wide 0 P _ _ w _
 rw [callsIn_wide]
 refine hcon.mono ?_
 rintro e w' ⟨rfl,d',nn,os,⟨hsz,_,hperm⟩,hsorted,rfl⟩
 rw [hd] at hsz
 refine ⟨_,rfl, ρ, .tup .nil,?_⟩
 have t:=hturn nn os d' hsz
 have hall:∀ x:Array (Fin (m + 1)),x.size = m + 1 -> x.extract 0 (m + 1) = x:=fun x hx => by
  refine Array.ext_getElem? fun b => ?_
  rw [Array.getElem?_extract]
  by_cases hb:b < m + 1
  ·rw [if_pos (by omega),Nat.zero_add]
  ·rw [if_neg (by omega),Array.getElem?_eq_none (by omega)]
 rw [hall d' hsz,hall d hd] at hperm
 have hdrow:d.toList.map rf = row:=by
  refine List.ext_getElem? fun j => ?_
  by_cases hj:j < m + 1
  ·have hdj2 : d[j]? = some ⟨j, hj⟩ := by
    rw [Array.getElem?_eq_getElem (by rw [hd]; exact hj)]; simp [d]
   rw [hrf ⟨j,hj⟩,List.getElem?_map,Array.getElem?_toList,hdj2]; rfl
  ·rw [List.getElem?_eq_none (by simp [d]; omega),List.getElem?_eq_none (by omega)]
 have hLr:Lr = d'.toList.map rf:=by
  refine K.unique hLs ⟨?_,?_⟩
  ·rw [<- hdrow]; exact hperm.map rf
  ·rw [List.pairwise_map,List.pairwise_iff_getElem]
   intro a b ha hb hab
   have hb':b < m + 1:=by simpa [hsz] using hb
   have hs1:=hsorted a b (Nat.zero_le _) hab hb'
   rw [getElem!_pos d' a (by omega),getElem!_pos d' b (by omega)] at hs1
   have:=of_decide_eq_false hs1
   simpa using this
 have hdk:∀ k (hk:k < m + 1),d'[k]! = d'[k]'(by omega):=fun k hk => getElem!_pos d' k (by omega)
 have hblk:p.blk < w.heap.size:=(Array.getElem?_eq_some_iff.1 q1).1
 have hc1:(c.take o).length = o:=by simp; omega
 have hLl:Lr.length = m + 1:=by rw [hLr]; simp [hsz]
 have hlen:(c.take o ++ (Lr ++ c.drop (o + (m + 1)))).length = c.length:=by
  rw [List.length_append,List.length_append,hc1,hLl,List.length_drop]; omega
 have hobj:ObjR P ρ B (sortWorld enc w p.blk (p.base + o) nn d' os) (.cells (c.take o ++ (Lr ++ c.drop (o + (m + 1)))) true) p:=by
  have hgw:=t.get p.blk hblk
  rw [if_pos rfl,q1] at hgw
  refine ⟨putCells enc (p.base + o) d' cc,el,fr,hgw,by rw [t.len]; exact q2,by rw [hlen]; exact q3,fun k a hk => ?_,fun _ => ⟨q5,q6⟩⟩
  have hput:(putCells enc (p.base + o) d' cc)[p.base + k]? = (cc[p.base + k]?).map fun x => if p.base + o <= p.base + k /\ p.base + k < p.base + o + d'.size then enc d'[p.base + k - (p.base + o)]! else x:=Array.getElem?_mapIdx
  rw [hput]
  by_cases k1:k < o
  ·rw [List.getElem?_append_left (by rw [hc1]; exact k1),List.getElem?_take_of_lt k1] at hk
   obtain ⟨v,hv,hr⟩:=q4 k a hk
   refine ⟨v,?_,hr⟩
   rw [hv,Option.map_some,if_neg (by omega)]
  ·rw [List.getElem?_append_right (by rw [hc1]; omega),hc1] at hk
   by_cases k2:k - o < m + 1
   ·rw [List.getElem?_append_left (by rw [hLl]; exact k2),hLr] at hk
    have hk2:k - o < d'.size:=by omega
    rw [List.getElem?_map,List.getElem?_eq_getElem (by simpa using hk2)] at hk
    cases hk
    have hcc:∃ y,cc[p.base + k]? = some y:=by
     have:=(henc ⟨k - o,k2⟩).1
     rw [show p.base + o + (k - o) = p.base + k by omega] at this
     exact ⟨_,this⟩
    obtain ⟨y,hy⟩:=hcc
    refine ⟨enc d'[k - o],?_,?_⟩
    ·rw [hy,Option.map_some,if_pos (by omega),show p.base + k - (p.base + o) = k - o by omega,hdk _ k2]
    ·have:=(henc d'[k - o]).2
     simpa using this
   ·rw [List.getElem?_append_right (by rw [hLl]; omega),hLl,List.getElem?_drop,show o + (m + 1) + (k - o - (m + 1)) = k by omega] at hk
    obtain ⟨v,hv,hr⟩:=q4 k a hk
    refine ⟨v,?_,hr⟩
    rw [hv,Option.map_some,if_neg (by omega)]
 have hother:∀ j oj q,j ≠ i -> h.get j = some oj -> ρ j = some q -> ObjR P ρ B (sortWorld enc w p.blk (p.base + o) nn d' os) oj q:=by
  intro j oj q hne hj hq
  have hob:=hs.obj j oj q hj hq
  have hlt:=ObjR.lt hob
  have hap:=hs.sep i j _ _ p q (Ne.symm hne) hg hj hp hq rfl
  cases oj with
  | cells c2 r2 => exact t.cells hob hap id
  | map es =>
   refine ObjR.same ?_ hob
   obtain ⟨_,_,_,ms,ck,g1,_⟩:=hob
   rw [t.get q.blk hlt,if_neg fun e => by rw [e,q1] at g1; cases g1]
  | loop a1 a2 a3 a4 a5 a6 a7 =>
   refine ObjR.same ?_ hob
   obtain ⟨_,_,_,ms,g1,_⟩:=hob
   rw [t.get q.blk hlt,if_neg fun e => by rw [e,q1] at g1; cases g1]
 have hrw:∀ j oj,(h.set i (.cells (c.take o ++ (Lr ++ c.drop (o + (m + 1)))) true)).get j = some oj -> ∃ o2,h.get j = some o2 /\ o2.rw = oj.rw:=by
  intro j oj hj
  rw [AHeap.get_set] at hj
  split at hj
  ·rename_i e; cases hj; rw [e]; exact ⟨_,hg,rfl⟩
  ·exact ⟨_,hj,rfl⟩
 refine ⟨Ext.refl _,⟨Nat.le_trans hs.low t.size,fun j q hq => hs.dom j q hq,fun j oj q hj hq => ?_,fun j j2 oj oj2 q q2 hne hj hj2 hq hq2 hw => ?_,hs.tidy.set hg⟩,rfl,rfl,rfl,t.size,fun b hb hoff => ?_,fun j oj q hj hq hw => ?_,Nat.le_refl _,fun j q hq => .inl hq,fun b Lp hb => ?_,?_⟩
 ·by_cases e:j = i
  ·subst e
   rw [AHeap.get_set_same] at hj; cases hj
   rw [hp] at hq; cases hq
   exact hobj
  ·rw [AHeap.get_set_ne _ _ e] at hj
   exact hother j oj q e hj hq
 ·obtain ⟨o1,g1,w1⟩:=hrw j oj hj
  obtain ⟨o2,g2,w2⟩:=hrw j2 oj2 hj2
  exact hs.sep j j2 o1 o2 q q2 hne g1 g2 hq hq2 (w1.trans hw)
 ·rw [t.get b hb,if_neg (Ne.symm (hoff i _ p hg hp rfl))]
 ·obtain ⟨o1,g1,w1⟩:=hrw j oj hj
  exact .inr ⟨j,o1,q,g1,hq,w1.trans hw,rfl⟩
 ·have hlt:b < w.heap.size:=(Array.getElem?_eq_some_iff.1 hb).1
  refine ⟨Lp,?_⟩
  rw [t.get b hlt,if_neg (fun e => by rw [e,q1] at hb; cases hb)]
  exact hb
 ·show w.drawn <= w.drawn + nn
  omega
end
end Go.AM
namespace Go.AM
open Go
def cells2 (L:List AV):List AV:=L.flatMap AV.cells
def Two2 (L:List AV):Prop:=∀ a ∈ L, ∃ x y,a = .agg [x,y] /\ x.scalar = true /\ y.scalar = true
theorem Two2.len:∀ {L:List AV},Two2 L -> (cells2 L).length = L.length * 2
 | [],_ => rfl
 | a :: r,h => by
  obtain ⟨x,y,rfl,_,_⟩:=h a (.head _)
  have:=Two2.len (L:=r) fun b hb => h b (.tail _ hb)
  show (x :: y :: cells2 r).length = _
  simp only [List.length_cons,this]; omega
theorem Two2.get:∀ {L:List AV},Two2 L -> ∀ t,(cells2 L)[t]? = (L[t / 2]?).bind fun a => a.cells[t % 2]?
 | [],_,t => by simp [cells2]
 | a :: r,h,t => by
  obtain ⟨x,y,rfl,_,_⟩:=h a (.head _)
  have ih:=Two2.get (L:=r) fun b hb => h b (.tail _ hb)
  show (x :: y :: cells2 r)[t]? = _
  match t with
  | 0 => rfl
  | 1 => rfl
  | t + 2 =>
   rw [show (t + 2) / 2 = t / 2 + 1 by omega,show (t + 2) % 2 = t % 2 by omega]
   simpa using ih t
theorem Two2.inj:∀ {L M:List AV},Two2 L -> Two2 M -> cells2 L = cells2 M -> L = M
 | [], [],_,_,_ => rfl
 | [],b :: r,_,k,e => by
  obtain ⟨x,y,rfl,_,_⟩:=k b (.head _)
  exact absurd e (by simp [cells2,AV.cells])
 | a :: l, [],h,_,e => by
  obtain ⟨x,y,rfl,_,_⟩:=h a (.head _)
  exact absurd e (by simp [cells2,AV.cells])
 | a :: l,b :: r,h,k,e => by
  obtain ⟨x,y,rfl,_,_⟩:=h a (.head _)
  obtain ⟨u,v,rfl,_,_⟩:=k b (.head _)
  have e':x :: y :: cells2 l = u :: v :: cells2 r:=e
  simp only [List.cons.injEq] at e'
  obtain ⟨rfl,rfl,e2⟩:=e'
  rw [Two2.inj (fun b hb => h b (.tail _ hb)) (fun b hb => k b (.tail _ hb)) e2]
end Go.AM
namespace Go.AM
open Go Go.Proofs Go.Sort Go.Shelf
structure Sort2OK (T:FnTab) (I:Oracle) (cf:Nat) (caps:List AV) (hr:AHeap) (row:List AV):Prop where
 sc:Two2 row
 run:∀ a ∈ row, ∀ b ∈ row, ∃ h1,lim T I (.fn cf) (a :: b :: caps) hr = some (.int .i64 (cmpZ T I cf caps hr a b),h1)
 irr:∀ a ∈ row, ¬ cmpZ T I cf caps hr a a < 0
 tr:∀ a ∈ row, ∀ b ∈ row, ∀ c ∈ row,cmpZ T I cf caps hr a b < 0 -> cmpZ T I cf caps hr b c < 0 -> cmpZ T I cf caps hr a c < 0
 tot:∀ a ∈ row, ∀ b ∈ row, ¬ cmpZ T I cf caps hr a b < 0 -> ¬ cmpZ T I cf caps hr b a < 0 -> a = b
theorem Sort2OK.unique {T:FnTab} {I:Oracle} {cf:Nat} {caps:List AV} {hr:AHeap} {row L L':List AV} (K:Sort2OK T I cf caps hr row) (h:SortedAs T I cf caps hr row L) (h':SortedAs T I cf caps hr row L'):L = L' :=
 List.Perm.eq_of_pairwise (fun a b ha hb h1 h2 => K.tot a (h.1.mem_iff.1 ha) b (h'.1.mem_iff.1 hb) h2 h1) h.2 h'.2 (h.1.trans h'.1.symm)
structure Sort2At (T0 T:FnTab) (I:Oracle) (h:AHeap) (i o n cf:Nat) (caps c row L:List AV):Prop where
 pos:0 < n
 top:n < 4611686018427387904
 len:row.length = n
 fit:o + n * 2 <= c.length
 cells:(c.drop o).take (n * 2) = cells2 row
 fn:∃ fn,T0 cf = some fn
 ok:Sort2OK T I cf caps (roH h i) row
 srt:SortedAs T I cf caps (roH h i) row L
noncomputable def sort2J (T0 T:FnTab) (I:Oracle) (args:List AV) (h:AHeap):Option (AV × AHeap) :=
 match args with
 | [.slice i o n _, .fn (.func cf) [] caps] =>
  match h.get i with
  | some (.cells c true) => open Classical in if hx:∃ q:List AV × List AV,Sort2At T0 T I h i o n cf caps c q.1 q.2 then some (.tup [],h.set i (.cells (c.take o ++ (cells2 (Classical.choose hx).2 ++ c.drop (o + n * 2))) true)) else none
  | _ => none
 | _ => none
theorem sort2J_eq {T0 T : FnTab} {I : Oracle} {h : AHeap} {i o n cf : Nat} {cap : ACap} {caps c row L : List AV} (hg : h.get i = some (.cells c true)) (hx : Sort2At T0 T I h i o n cf caps c row L) :
  sort2J T0 T I [.slice i o n cap, .fn (.func cf) [] caps] h = some (.tup [],h.set i (.cells (c.take o ++ (cells2 L ++ c.drop (o + n * 2))) true)):=by
 show (match h.get i with
  | some (.cells c true) => open Classical in if hx:∃ q:List AV × List AV,Sort2At T0 T I h i o n cf caps c q.1 q.2 then some (AV.tup [],h.set i (.cells (c.take o ++ (cells2 (Classical.choose hx).2 ++ c.drop (o + n * 2))) true)) else none
  | _ => none) = _
 rw [hg]
 simp only
 have he:∃ q:List AV × List AV,Sort2At T0 T I h i o n cf caps c q.1 q.2:=⟨(row,L),hx⟩
 rw [dif_pos he]
 have hs:=Classical.choose_spec he
 have e1:(Classical.choose he).1 = row:=hs.ok.sc.inj hx.ok.sc (by rw [<- hs.cells,hx.cells])
 have e2:(Classical.choose he).2 = L:=by
  have h1:=hs.ok
  have h2:=hs.srt
  rw [e1] at h1 h2
  exact h1.unique h2 hx.srt
 rw [e2]
section
variable {P:Program} {ρ0:Ren}
theorem sort2J_sound (L : SlLaysF0.n6 P ρ0) (aE : ∀ w, (isAgg (ρ0.t 24)).run P w = .ok true w) (zE : ∀ w, (Go.sizeOf (ρ0.t 24)).run P w = .ok 2 w) (hm : P.follows .mixedOrders = true) {T0 T : FnTab} (hT : TabOK P T0) (hO : TOpt T0 T) {I : Oracle} (hI : IOK P I) :
  ∀ args av h h',sort2J T0 T I args h = some (av,h') -> ∀ ρ B w (args':Array Value),Sim P ρ h B w -> VRs ρ args args'.toList -> Upon P ((callFunc (ρ0.f 6) args').run P w) (Ans P B ρ h w av h'):=by
 intro args av h h' he ρ B w args' hs ha
 unfold sort2J at he
 split at he <;> first | (cases he; done) | skip
 rename_i i o n cap cf caps
 split at he <;> first | (cases he; done) | skip
 rename_i c hg
 split at he <;> first | (cases he; done) | skip
 rename_i hex
 have hx:=Classical.choose_spec hex
 generalize (Classical.choose hex).1 = row at hx
 generalize (Classical.choose hex).2 = Lr at hx he
 have hLs:=hx.srt
 cases he
 obtain ⟨v1,v2,hargs,r1,r2⟩:∃ v1 v2,args'.toList = [v1,v2] /\ VR ρ (.slice i o n cap) v1 /\ VR ρ (.fn (.func cf) [] caps) v2:=by
  generalize args'.toList = l at ha
  cases ha with
  | cons h1 h2 => cases h2 with
   | cons h3 h4 => cases h4; exact ⟨_,_,rfl,h1,h3⟩
 have hargs':args' = #[v1,v2]:=by apply Array.ext'; rw [hargs]
 subst hargs'
 have hn0:=hx.pos
 obtain ⟨p,c0,hp,rfl⟩:∃ p c0, ρ i = some p /\ v1 = .slice (some ⟨p.blk,p.base + o,none⟩) n c0:=by
  cases r1 with
  | slx h1 h2 => exact ⟨_,_,h1,rfl⟩
  | slo h1 h2 h3 => exact ⟨_,_,h1,rfl⟩
  | sle a h1 h2 => exact absurd hn0 (Nat.lt_irrefl _)
 obtain ⟨cb,hcb,rfl⟩:∃ cb:Array Value,VRs ρ caps cb.toList /\ v2 = .func (.func cf) #[] cb:=by
  cases r2 with
  | @fn f a b a' b' hf h1 h2 =>
   refine ⟨b',h2,?_⟩
   have e:a' = #[]:=by
    have:=VRs.length h1
    apply Array.eq_empty_of_size_eq_zero
    rw [<- Array.length_toList, <- this]; rfl
   rw [e]
 obtain ⟨m,rfl⟩:∃ m,n = m + 1:=⟨n - 1,by omega⟩
 obtain ⟨cc,el,fr,q1,q2,q3,q4,q5⟩:=hs.obj i _ p hg hp
 obtain ⟨q5,q6⟩:=q5 rfl
 have K:=hx.ok
 have hfit:=hx.fit
 have hrl:=hx.len
 have hsc:=K.sc
 have hrk:∀ t,t < (m + 1) * 2 -> (cells2 row)[t]? = c[o + t]?:=fun t ht => by rw [<- hx.cells,List.getElem?_take_of_lt ht,List.getElem?_drop]
 let rf:Fin (m + 1) -> AV:=fun k => row.getD k aundef
 let enc:Fin (m + 1) -> List Value:=fun k => [cc.getD (p.base + o + k * 2) undef,cc.getD (p.base + o + k * 2 + 1) undef]
 have hrf:∀ k:Fin (m + 1),row[k.val]? = some (rf k):=fun k => row_getD (by rw [hrl]; exact k.isLt)
 have hmem:∀ k,rf k ∈ row:=fun k => List.mem_of_getElem? (hrf k)
 have hcell:∀ t,t < (m + 1) * 2 -> ∃ a v,(cells2 row)[t]? = some a /\ c[o + t]? = some a /\ cc[p.base + o + t]? = some v /\ cc.getD (p.base + o + t) undef = v /\ VR ρ a v:=fun t ht => by
  have e:=hrk t ht
  obtain ⟨a,ha⟩:∃ a,c[o + t]? = some a:=⟨c[o + t]'(by omega),List.getElem?_eq_getElem (by omega)⟩
  obtain ⟨v,hv,hr⟩:=q4 _ _ ha
  rw [<- Nat.add_assoc] at hv
  exact ⟨a,v,by rw [e,ha],ha,hv,by rw [Array.getD_eq_getD_getElem?,hv]; rfl,hr⟩
 have henc:∀ k:Fin (m + 1), ∃ a b u v,rf k = .agg [a,b] /\ enc k = [u,v] /\ a.scalar = true /\ b.scalar = true /\ VR ρ a u /\ VR ρ b v /\ cc[p.base + o + k * 2]? = some u /\ cc[p.base + o + k * 2 + 1]? = some v:=fun k => by
  have hk:=k.isLt
  obtain ⟨x,y,e,s1,s2⟩:=hsc _ (hmem k)
  obtain ⟨a,u,a1,a2,a3,a4,a5⟩:=hcell (k.val * 2) (by omega)
  obtain ⟨b,v,b1,b2,b3,b4,b5⟩:=hcell (k.val * 2 + 1) (by omega)
  rw [hsc.get,show k.val * 2 / 2 = k.val by omega,show k.val * 2 % 2 = 0 by omega,hrf k,e] at a1
  rw [hsc.get,show (k.val * 2 + 1) / 2 = k.val by omega,show (k.val * 2 + 1) % 2 = 1 by omega,hrf k,e] at b1
  cases a1; cases b1
  refine ⟨x,y,u,v,e,?_,s1,s2,a5,b5,a3,b3⟩
  show [cc.getD (p.base + o + k * 2) undef,cc.getD (p.base + o + k * 2 + 1) undef] = _
  rw [a4,show p.base + o + k.val * 2 + 1 = p.base + o + (k.val * 2 + 1) by omega,b4]
 have hk2:∀ x,(enc x).length = 2:=fun _ => rfl
 have hone:∀ x, ∀ v ∈ enc x,v.oneCell' = true:=fun x v hv => by
  obtain ⟨a,b,u,w,e1,e2,s1,s2,r1,r2,_,_⟩:=henc x
  rw [e2] at hv
  rcases List.mem_cons.1 hv with q | q
  ·rw [q]; exact VR.oneCell r1 s1
  ·rw [List.mem_singleton.1 q]; exact VR.oneCell r2 s2
 have hagg:∀ x,VR ρ (rf x) (.agg (enc x).toArray):=fun x => by
  obtain ⟨a,b,u,w,e1,e2,s1,s2,r1,r2,_,_⟩:=henc x
  rw [e1,e2]
  exact .agg (.cons r1 (.cons r2 .nil))
 let cfz:Fin (m + 1) -> Fin (m + 1) -> Int:=fun k l => cmpZ T I cf caps (roH h i) (rf k) (rf l)
 have hSWO:SWO (ltOf cfz):=by
  refine ⟨fun x => decide_eq_false (K.irr _ (hmem x)),fun x y z h1 h2 => ?_,fun x y z h1 h2 => ?_⟩
  ·exact decide_eq_true (K.tr _ (hmem x) _ (hmem y) _ (hmem z) (of_decide_eq_true h1) (of_decide_eq_true h2))
  ·refine decide_eq_false fun h3 => ?_
   have h1':¬ cfz x y < 0:=of_decide_eq_false h1
   have h2':¬ cfz y z < 0:=of_decide_eq_false h2
   by_cases hyx:cfz y x < 0
   ·exact h2' (K.tr _ (hmem y) _ (hmem x) _ (hmem z) hyx h3)
   ·have e:rf x = rf y:=K.tot _ (hmem x) _ (hmem y) h1' hyx
    exact h2' (by show cmpZ T I cf caps (roH h i) (rf y) (rf z) < 0; rw [<- e]; exact h3)
 obtain ⟨fn,hfn⟩:=hx.fn
 obtain ⟨F,f1,f2,f3⟩:=hT cf fn hfn
 unfold trFn at f2
 split at f2 <;> first | (cases f2; done) | skip
 rename_i cbody hbody
 have eg:∀ args w,(callFunc cf args).run P w = .ok (.enter cf args) w:=fun args w => callFunc_enter f1 f3 hbody args w
 let d:Array (Fin (m + 1)):=Array.ofFn id
 have hd:d.size = m + 1:=Array.size_ofFn
 have hdj:∀ j (hj:j < m + 1),d[j]! = ⟨j,hj⟩:=fun j hj => by
  rw [getElem!_pos d j (by rw [hd]; exact hj)]; simp [d]
 have hplace:p.base <= p.base + o:=Nat.le_add_right _ _
 have hturn:∀ (mm:Nat) (os:Array Obj) (dk:Array (Fin (m + 1))),dk.size = m + 1 -> Turned w (sortWorldK enc 2 w p.blk (p.base + o) mm dk os) p (putCells id (p.base + o) (flatK enc 2 dk)) :=
  fun mm os dk hdk => turned_sort id p.blk (p.base + o) mm (flatK enc 2 dk) os rfl hplace (by rw [size_flatK,hdk]; omega)
 have hcmp:CmpLays P cf cb enc 2 cfz p.blk (p.base + o) d.size w:=by
  intro mm os dk hdk x y
  rw [hd] at hdk
  have t:=hturn mm os dk hdk
  have S:=sim_ro hs hg hp t
  obtain ⟨h1,e1⟩:=K.run _ (hmem x) _ (hmem y)
  obtain ⟨nn,e2⟩:=lim_opt hO e1
  have hv:VRs ρ (rf x :: rf y :: caps) (#[Value.agg (enc x).toArray, .agg (enc y).toArray] ++ cb).toList:=by
   rw [Array.toList_append]
   exact .cons (hagg x) (.cons (hagg y) hcb)
  have hup:=(callF_sound hm hT hI nn).fn cf _ _ _ _ e2 ρ (sortWorldK enc 2 w p.blk (p.base + o) mm dk os).heap.size _ _ S hv
  rw [eg] at hup
  have hup':CallsIn Fence.wide 0 P cf _ _ _:=hup
  rw [callsIn_wide] at hup'
  refine hup'.mono ?_
  rintro e w' ⟨v,rfl, ρ',hv',st⟩
  generalize sortWorldK enc 2 w p.blk (p.base + o) mm dk os = W at S st
  refine ⟨by cases hv'; rfl,w'.drawn - W.drawn,w'.heap.extract W.heap.size w'.heap.size,?_⟩
  have hsame:∀ b,b < W.heap.size -> w'.heap[b]? = W.heap[b]?:=fun b hb => st.frame b hb fun j o q hj _ hw => by
   obtain ⟨_,_,_,_,_,rfl⟩:=roH_some hj
   cases hw
  have hheap:w'.heap = W.heap ++ w'.heap.extract W.heap.size w'.heap.size:=by
   refine Array.ext_getElem? fun b => ?_
   by_cases hb:b < W.heap.size
   ·rw [Array.getElem?_append_left hb,hsame b hb]
   ·rw [Array.getElem?_append_right (by omega),Array.getElem?_extract]
    have:=st.size
    by_cases hb2:b < w'.heap.size
    ·rw [if_pos (by omega),show W.heap.size + (b - W.heap.size) = b by omega]
    ·rw [if_neg (by omega),Array.getElem?_eq_none (by omega)]
  have h4:=st.os
  have h5:=st.tape
  have h6:=st.output
  have h7:=st.drawn
  cases w'
  cases W
  simp only [grow,World.drewN] at hheap h4 h5 h6 h7 ⊢
  subst h4 h5 h6
  rw [<- hheap]
  congr 1
  omega
 have hflat:∀ (x:Array (Fin (m + 1))) (t:Nat),x.size = m + 1 -> t < (m + 1) * 2 -> (flatK enc 2 x)[t]! = (enc x[t / 2]!)[t % 2]! := fun x t hx ht => get_flatK enc 2 x t (by rw [hx]; exact ht)
 have hencT:∀ (k:Fin (m + 1)) (s:Nat),s < 2 -> cc[p.base + o + k * 2 + s]? = some (enc k)[s]! /\ ∃ a,(rf k).cells[s]? = some a /\ VR ρ a (enc k)[s]! := fun k s hs => by
  obtain ⟨a,b,u,w,e1,e2,s1,s2,r1,r2,g1,g2⟩:=henc k
  rw [e1,e2]
  rcases (show s = 0 \/ s = 1 by omega) with rfl | rfl
  ·exact ⟨g1,a,rfl,r1⟩
  ·exact ⟨g2,b,rfl,r2⟩
 have hH:HoldsK enc 2 w p.blk (p.base + o) d:=by
  intro j hj
  rw [size_flatK,hd] at hj
  rw [hflat d j hd hj,hdj (j / 2) (by omega)]
  have h2:=(hencT ⟨j / 2,by omega⟩ (j % 2) (by omega)).1
  rw [show p.base + o + (j / 2) * 2 + j % 2 = p.base + o + j by omega] at h2
  refine ⟨?_,?_⟩
  ·unfold World.cell?
   simp only [q1]
   exact h2
  ·unfold World.frozen?
   obtain ⟨f1,f2⟩:=fr
   simp only [q1]
   have:=q6 (p.base + o + j) (by omega) (by omega)
   simp only [Bool.and_eq_false_iff,decide_eq_false_iff_not]
   simp only at this
   omega
 have hcon:=AnyQ.slices_SortFunc L 2 aE zE enc hk2 hone cfz hSWO cf cb p.blk (p.base + o) c0 d w eg hcmp hH (Array.getElem?_eq_some_iff.1 q1).1 (by rw [hd]; exact hx.top)
 rw [hd] at hcon
 have eg6:∀ args w,(callFunc (ρ0.f 6) args).run P w = .ok (.enter (ρ0.f 6) args) w:=L.f6.enters rfl
 rw [eg6]
 show CallsIn Fence.wide 0 P _ _ w _
 rw [callsIn_wide]
 refine hcon.mono ?_
 rintro e w' ⟨rfl,d',nn,os,⟨hsz,_,hperm⟩,hsorted,rfl⟩
 rw [hd] at hsz
 refine ⟨_,rfl, ρ, .tup .nil,?_⟩
 have t:=hturn nn os d' hsz
 have hall:∀ x:Array (Fin (m + 1)),x.size = m + 1 -> x.extract 0 (m + 1) = x:=fun x hx => by
  refine Array.ext_getElem? fun b => ?_
  rw [Array.getElem?_extract]
  by_cases hb:b < m + 1
  ·rw [if_pos (by omega),Nat.zero_add]
  ·rw [if_neg (by omega),Array.getElem?_eq_none (by omega)]
 rw [hall d' hsz,hall d hd] at hperm
 have hdrow:d.toList.map rf = row:=by
  refine List.ext_getElem? fun j => ?_
  by_cases hj:j < m + 1
  ·have hdj2 : d[j]? = some ⟨j, hj⟩ := by
    rw [Array.getElem?_eq_getElem (by rw [hd]; exact hj)]; simp [d]
   rw [hrf ⟨j,hj⟩,List.getElem?_map,Array.getElem?_toList,hdj2]; rfl
  ·rw [List.getElem?_eq_none (by simp [d]; omega),List.getElem?_eq_none (by omega)]
 have hLr:Lr = d'.toList.map rf:=by
  refine K.unique hLs ⟨?_,?_⟩
  ·rw [<- hdrow]; exact hperm.map rf
  ·rw [List.pairwise_map,List.pairwise_iff_getElem]
   intro a b ha hb hab
   have hb':b < m + 1:=by simpa [hsz] using hb
   have hs1:=hsorted a b (Nat.zero_le _) hab hb'
   rw [getElem!_pos d' a (by omega),getElem!_pos d' b (by omega)] at hs1
   have:=of_decide_eq_false hs1
   simpa using this
 have hblk:p.blk < w.heap.size:=(Array.getElem?_eq_some_iff.1 q1).1
 have hc1:(c.take o).length = o:=by simp; omega
 have hLm:∀ a ∈ Lr,a ∈ row:=fun a ha => hLs.1.mem_iff.1 ha
 have hL2:Two2 Lr:=fun a ha => hsc a (hLm a ha)
 have hLn:Lr.length = m + 1:=by rw [hLr]; simp [hsz]
 have hLl:(cells2 Lr).length = (m + 1) * 2:=by rw [hL2.len,hLn]
 have hlen:(c.take o ++ (cells2 Lr ++ c.drop (o + (m + 1) * 2))).length = c.length:=by
  rw [List.length_append,List.length_append,hc1,hLl,List.length_drop]; omega
 have hobj:ObjR P ρ B (sortWorldK enc 2 w p.blk (p.base + o) nn d' os) (.cells (c.take o ++ (cells2 Lr ++ c.drop (o + (m + 1) * 2))) true) p:=by
  have hgw:=t.get p.blk hblk
  rw [if_pos rfl,q1] at hgw
  refine ⟨putCells id (p.base + o) (flatK enc 2 d') cc,el,fr,hgw,by rw [t.len]; exact q2,by rw [hlen]; exact q3,fun k a hk => ?_,fun _ => ⟨q5,q6⟩⟩
  have hput:(putCells id (p.base + o) (flatK enc 2 d') cc)[p.base + k]? = (cc[p.base + k]?).map fun x => if p.base + o <= p.base + k /\ p.base + k < p.base + o + (flatK enc 2 d').size then id (flatK enc 2 d')[p.base + k - (p.base + o)]! else x:=Array.getElem?_mapIdx
  rw [hput,size_flatK,hsz]
  by_cases k1:k < o
  ·rw [List.getElem?_append_left (by rw [hc1]; exact k1),List.getElem?_take_of_lt k1] at hk
   obtain ⟨v,hv,hr⟩:=q4 k a hk
   refine ⟨v,?_,hr⟩
   rw [hv,Option.map_some,if_neg (by omega)]
  ·rw [List.getElem?_append_right (by rw [hc1]; omega),hc1] at hk
   by_cases k2:k - o < (m + 1) * 2
   ·rw [List.getElem?_append_left (by rw [hLl]; exact k2),hL2.get] at hk
    have hq:(k - o) / 2 < d'.size:=by omega
    have hg:Lr[(k - o) / 2]? = some (rf d'[(k - o) / 2]):=by
     rw [hLr,List.getElem?_map,List.getElem?_eq_getElem (by simpa using hq)]; simp
    rw [hg] at hk
    obtain ⟨g1,a',g2,g3⟩:=hencT d'[(k - o) / 2] ((k - o) % 2) (by omega)
    have hk':(rf d'[(k - o) / 2]).cells[(k - o) % 2]? = some a:=hk
    rw [g2] at hk'; cases hk'
    have hcc:∃ y,cc[p.base + k]? = some y:=⟨cc[p.base + k]'(by omega),Array.getElem?_eq_getElem (by omega)⟩
    obtain ⟨y,hy⟩:=hcc
    refine ⟨(enc d'[(k - o) / 2])[(k - o) % 2]!,?_,g3⟩
    rw [hy,Option.map_some,if_pos (by omega),show p.base + k - (p.base + o) = k - o by omega,hflat d' (k - o) hsz k2,getElem!_pos d' ((k - o) / 2) hq]
    rfl
   ·rw [List.getElem?_append_right (by rw [hLl]; omega),hLl,List.getElem?_drop,show o + (m + 1) * 2 + (k - o - (m + 1) * 2) = k by omega] at hk
    obtain ⟨v,hv,hr⟩:=q4 k a hk
    refine ⟨v,?_,hr⟩
    rw [hv,Option.map_some,if_neg (by omega)]
 have hother:∀ j oj q,j ≠ i -> h.get j = some oj -> ρ j = some q -> ObjR P ρ B (sortWorldK enc 2 w p.blk (p.base + o) nn d' os) oj q:=by
  intro j oj q hne hj hq
  have hob:=hs.obj j oj q hj hq
  have hlt:=ObjR.lt hob
  have hap:=hs.sep i j _ _ p q (Ne.symm hne) hg hj hp hq rfl
  cases oj with
  | cells c2 r2 => exact t.cells hob hap id
  | map es =>
   refine ObjR.same ?_ hob
   obtain ⟨_,_,_,ms,ck,g1,_⟩:=hob
   rw [t.get q.blk hlt,if_neg fun e => by rw [e,q1] at g1; cases g1]
  | loop a1 a2 a3 a4 a5 a6 a7 =>
   refine ObjR.same ?_ hob
   obtain ⟨_,_,_,ms,g1,_⟩:=hob
   rw [t.get q.blk hlt,if_neg fun e => by rw [e,q1] at g1; cases g1]
 have hrw:∀ j oj,(h.set i (.cells (c.take o ++ (cells2 Lr ++ c.drop (o + (m + 1) * 2))) true)).get j = some oj -> ∃ o2,h.get j = some o2 /\ o2.rw = oj.rw:=by
  intro j oj hj
  rw [AHeap.get_set] at hj
  split at hj
  ·rename_i e; cases hj; rw [e]; exact ⟨_,hg,rfl⟩
  ·exact ⟨_,hj,rfl⟩
 refine ⟨Ext.refl _,⟨Nat.le_trans hs.low t.size,fun j q hq => hs.dom j q hq,fun j oj q hj hq => ?_,fun j j2 oj oj2 q q2 hne hj hj2 hq hq2 hw => ?_,hs.tidy.set hg⟩,rfl,rfl,rfl,t.size,fun b hb hoff => ?_,fun j oj q hj hq hw => ?_,Nat.le_refl _,fun j q hq => .inl hq,fun b Lp hb => ?_,?_⟩
 ·by_cases e:j = i
  ·subst e
   rw [AHeap.get_set_same] at hj; cases hj
   rw [hp] at hq; cases hq
   exact hobj
  ·rw [AHeap.get_set_ne _ _ e] at hj
   exact hother j oj q e hj hq
 ·obtain ⟨o1,g1,w1⟩:=hrw j oj hj
  obtain ⟨o2,g2,w2⟩:=hrw j2 oj2 hj2
  exact hs.sep j j2 o1 o2 q q2 hne g1 g2 hq hq2 (w1.trans hw)
 ·rw [t.get b hb,if_neg (Ne.symm (hoff i _ p hg hp rfl))]
 ·obtain ⟨o1,g1,w1⟩:=hrw j oj hj
  exact .inr ⟨j,o1,q,g1,hq,w1.trans hw,rfl⟩
 ·have hlt:b < w.heap.size:=(Array.getElem?_eq_some_iff.1 hb).1
  refine ⟨Lp,?_⟩
  rw [t.get b hlt,if_neg (fun e => by rw [e,q1] at hb; cases hb)]
  exact hb
 ·show w.drawn <= w.drawn + nn
  omega
end
end Go.AM
namespace Go.GT
abbrev Pm:=List Nat
def ap (p:Pm) (i:Nat):Nat:=p.getD i 0
theorem ap_lt_len {p:Pm} {i:Nat} (h:i < p.length):ap p i = p[i]:=by simp [ap,List.getD,h]
theorem ap_get? {p:Pm} {i x:Nat} (h:p[i]? = some x):ap p i = x:=by simp [ap,List.getD,h]
theorem get?_ap {p:Pm} {i:Nat} (h:i < p.length):p[i]? = some (ap p i):=by simp [ap,List.getD,h]
theorem ap_mem {p:Pm} {i:Nat} (h:i < p.length):ap p i ∈ p:=by rw [ap_lt_len h]; exact List.getElem_mem h
theorem ext {p q:Pm} (hl:p.length = q.length) (h:∀ i,i < p.length -> ap p i = ap q i):p = q:=by
 refine List.ext_getElem hl fun i h1 h2 => ?_
 have:=h i h1
 rwa [ap_lt_len h1,ap_lt_len h2] at this
theorem nodup_le {α:Type} [DecidableEq α]:∀ {l l':List α},l.Nodup -> (∀ x ∈ l,x ∈ l') -> l.length <= l'.length
 | [],_,_,_ => Nat.zero_le _
 | x :: l,l',hn,hs => by
  have hx:=hs x (.head _)
  have h1:=List.length_erase_of_mem hx
  have hpos:0 < l'.length:=List.length_pos_of_mem hx
  obtain ⟨hx1,hn1⟩:=List.nodup_cons.1 hn
  have:=nodup_le (l:=l) (l':=l'.erase x) hn1 fun y hy => by
   have hne:y ≠ x:=fun e => hx1 (e ▸ hy)
   exact (List.mem_erase_of_ne hne).2 (hs y (.tail _ hy))
  simp only [List.length_cons]
  omega
theorem nodup_full {α:Type} [DecidableEq α] {l l':List α} (hn:l.Nodup) (hs:∀ x ∈ l,x ∈ l') (hl:l'.length <= l.length) {y:α} (hy:y ∈ l'):y ∈ l:=by
 refine Decidable.byContradiction fun hc => ?_
 have h1:=List.length_erase_of_mem hy
 have hpos:0 < l'.length:=List.length_pos_of_mem hy
 have:=nodup_le (l:=l) (l':=l'.erase y) hn fun x hx => (List.mem_erase_of_ne (fun e => hc (by rw [<- e]; exact hx))).2 (hs x hx)
 omega
theorem asc_unique {α:Type} {R:α -> α -> Prop} (irr:∀ a, ¬ R a a) (tr:∀ a b c,R a b -> R b c -> R a c):∀ {l l':List α},l.Pairwise R -> l'.Pairwise R -> (∀ x,x ∈ l ↔ x ∈ l') -> l = l'
 | [], [],_,_,_ => rfl
 | [],y :: _,_,_,h => absurd ((h y).2 (.head _)) List.not_mem_nil
 | x :: _, [],_,_,h => absurd ((h x).1 (.head _)) List.not_mem_nil
 | x :: l,y :: l',h1,h2,h => by
  obtain ⟨a1,a2⟩:=List.pairwise_cons.1 h1
  obtain ⟨b1,b2⟩:=List.pairwise_cons.1 h2
  have hxy:x = y:=by
   rcases List.mem_cons.1 ((h x).1 (.head _)) with e | e
   ·exact e
   ·rcases List.mem_cons.1 ((h y).2 (.head _)) with e' | e'
    ·exact e'.symm
    ·exact absurd (tr _ _ _ (b1 _ e) (a1 _ e')) (irr _)
  subst hxy
  congr 1
  refine asc_unique irr tr a2 b2 fun z => ?_
  constructor
  ·intro hz
   rcases List.mem_cons.1 ((h z).1 (.tail _ hz)) with e | e
   ·subst e; exact absurd (a1 _ hz) (irr _)
   ·exact e
  ·intro hz
   rcases List.mem_cons.1 ((h z).2 (.tail _ hz)) with e | e
   ·subst e; exact absurd (b1 _ hz) (irr _)
   ·exact e
structure PV (n:Nat) (p:Pm):Prop where
 len:p.length = n
 lt:∀ x ∈ p,x < n
 nd:p.Nodup
section
variable {n:Nat} {p q r:Pm}
theorem PV.ap_lt (h:PV n p) {i:Nat} (hi:i < n):ap p i < n:=h.lt _ (ap_mem (by rw [h.len]; exact hi))
theorem PV.inj (h:PV n p) {i j:Nat} (hi:i < n) (hj:j < n) (e:ap p i = ap p j):i = j:=by
 have h1:i < p.length:=by rw [h.len]; exact hi
 have h2:j < p.length:=by rw [h.len]; exact hj
 rw [ap_lt_len h1,ap_lt_len h2] at e
 exact (List.getElem_inj h.nd).1 e
theorem PV.mem (h:PV n p) {y:Nat} (hy:y < n):y ∈ p:=nodup_full h.nd (l':=List.range n) (fun x hx => List.mem_range.2 (h.lt x hx)) (by rw [List.length_range,h.len]; exact Nat.le_refl _) (List.mem_range.2 hy)
theorem PV.surj (h:PV n p) {y:Nat} (hy:y < n):∃ i,i < n /\ ap p i = y:=by
 obtain ⟨i,hi,e⟩:=List.mem_iff_getElem.1 (h.mem hy)
 exact ⟨i,by rw [<- h.len]; exact hi,by rw [ap_lt_len hi]; exact e⟩
theorem PV.ext (h:PV n p) (k:PV n q) (e:∀ i,i < n -> ap p i = ap q i):p = q:=GT.ext (by rw [h.len,k.len]) fun i hi => e i (by rw [<- h.len]; exact hi)
theorem PV.mk' (hl:p.length = n) (h1:∀ i,i < n -> ap p i < n) (h2:∀ i j,i < n -> j < n -> ap p i = ap p j -> i = j):PV n p:=by
 refine ⟨hl,fun x hx => ?_,?_⟩
 ·obtain ⟨i,hi,e⟩:=List.mem_iff_getElem.1 hx
  rw [<- e, <- ap_lt_len hi]; exact h1 i (by omega)
 ·refine List.pairwise_iff_getElem.2 fun i j hi hj hij e => ?_
  rw [<- ap_lt_len hi, <- ap_lt_len hj] at e
  have:=h2 i j (by omega) (by omega) e
  omega
def one (n:Nat):Pm:=List.range n
theorem ap_one {i:Nat} (hi:i < n):ap (one n) i = i:=by
 unfold one; rw [ap_lt_len (by simpa using hi)]; simp
theorem PV.one (n:Nat):PV n (one n):=⟨List.length_range,fun _ hx => List.mem_range.1 hx,List.nodup_range⟩
def mul (a b:Pm):Pm:=a.map (ap b)
theorem length_mul:(mul p q).length = p.length:=List.length_map _
theorem ap_mul {i:Nat} (hi:i < p.length):ap (mul p q) i = ap q (ap p i):=by
 unfold mul; rw [ap_lt_len (by simpa using hi),ap_lt_len hi]; simp
theorem PV.ap_mul (h:PV n p) {i:Nat} (hi:i < n):ap (GT.mul p q) i = ap q (ap p i):=GT.ap_mul (by rw [h.len]; exact hi)
theorem PV.mul (h:PV n p) (k:PV n q):PV n (mul p q):=by
 refine PV.mk' (by rw [length_mul,h.len]) (fun i hi => ?_) fun i j hi hj e => ?_
 ·rw [h.ap_mul hi]; exact k.ap_lt (h.ap_lt hi)
 ·rw [h.ap_mul hi,h.ap_mul hj] at e
  exact h.inj hi hj (k.inj (h.ap_lt hi) (h.ap_lt hj) e)
theorem PV.assoc (h:PV n p) (k:PV n q) (m:PV n r):GT.mul (GT.mul p q) r = GT.mul p (GT.mul q r) :=
 ((h.mul k).mul m).ext (h.mul (k.mul m)) fun i hi => by rw [(h.mul k).ap_mul hi,h.ap_mul hi,h.ap_mul hi,k.ap_mul (h.ap_lt hi)]
theorem PV.one_mul (h:PV n p):GT.mul (GT.one n) p = p:=((PV.one n).mul h).ext h fun i hi => by rw [(PV.one n).ap_mul hi,ap_one hi]
theorem PV.mul_one (h:PV n p):GT.mul p (GT.one n) = p:=(h.mul (PV.one n)).ext h fun i hi => by rw [h.ap_mul hi,ap_one (h.ap_lt hi)]
def inv (a:Pm):Pm:=(List.range a.length).map fun y => a.idxOf y
theorem length_inv:(inv p).length = p.length:=by simp [inv]
theorem PV.ap_inv (h:PV n p) {i:Nat} (hi:i < n):ap (GT.inv p) (ap p i) = i:=by
 have hl:ap p i < (GT.inv p).length:=by rw [length_inv,h.len]; exact h.ap_lt hi
 rw [ap_lt_len hl]
 have hi':i < p.length:=by rw [h.len]; exact hi
 simp only [GT.inv,List.getElem_map,List.getElem_range]
 rw [ap_lt_len hi']
 exact h.nd.idxOf_getElem i hi'
theorem PV.ap_ap_inv (h:PV n p) {y:Nat} (hy:y < n):ap p (ap (GT.inv p) y) = y:=by
 obtain ⟨i,hi,rfl⟩:=h.surj hy
 rw [h.ap_inv hi]
theorem PV.inv (h:PV n p):PV n (inv p):=by
 refine PV.mk' (by rw [length_inv,h.len]) (fun y hy => ?_) fun x y hx hy e => ?_
 ·obtain ⟨i,hi,rfl⟩:=h.surj hy
  rw [h.ap_inv hi]; exact hi
 ·rw [<- h.ap_ap_inv hx, <- h.ap_ap_inv hy,e]
theorem PV.mul_inv (h:PV n p):GT.mul p (GT.inv p) = GT.one n:=(h.mul h.inv).ext (PV.one n) fun i hi => by rw [h.ap_mul hi,h.ap_inv hi,ap_one hi]
theorem PV.inv_mul (h:PV n p):GT.mul (GT.inv p) p = GT.one n:=(h.inv.mul h).ext (PV.one n) fun i hi => by rw [h.inv.ap_mul hi,h.ap_ap_inv hi,ap_one hi]
theorem PV.inv_mul_cancel (h:PV n p) (k:PV n q):GT.mul (GT.mul q (GT.inv p)) p = q:=by rw [k.assoc h.inv h,h.inv_mul,k.mul_one]
theorem PV.mul_inv_cancel (h:PV n p) (k:PV n q):GT.mul (GT.mul q p) (GT.inv p) = q:=by rw [k.assoc h h.inv,h.mul_inv,k.mul_one]
theorem PV.inv_one:GT.inv (GT.one n) = GT.one n:=by
 have:=(PV.one n).inv.mul_one
 rw [(PV.one n).inv_mul] at this
 exact this.symm
theorem PV.cancel_l (h:PV n p) (k:PV n q) (m:PV n r) (e:GT.mul r p = GT.mul r q):p = q:=by
 have:=congrArg (fun z => GT.mul (GT.inv r) z) e
 rwa [<- m.inv.assoc m h, <- m.inv.assoc m k,m.inv_mul,h.one_mul,k.one_mul] at this
end
def pw (n:Nat) (p:Pm):Nat -> Pm
 | 0 => one n
 | k + 1 => mul (pw n p k) p
def allL (n:Nat):Nat -> List Pm
 | 0 => [[]]
 | k + 1 => (allL n k).flatMap fun l => (List.range n).map fun x => x :: l
theorem mem_allL {n:Nat}:∀ {k:Nat} {p:Pm},p.length = k -> (∀ x ∈ p,x < n) -> p ∈ allL n k
 | 0,p,hl,_ => by simp [allL,List.length_eq_zero_iff.1 hl]
 | k + 1, [],hl,_ => by simp at hl
 | k + 1,x :: p,hl,h => by
  unfold allL
  refine List.mem_flatMap.2 ⟨p,mem_allL (by simpa using hl) fun y hy => h y (.tail _ hy),List.mem_map.2 ⟨x,List.mem_range.2 (h x (.head _)),rfl⟩⟩
section
variable {n:Nat} {p q r:Pm}
theorem PV.pw (h:PV n p):∀ k,PV n (pw n p k)
 | 0 => PV.one n
 | k + 1 => (PV.pw h k).mul h
theorem PV.pw_add (h:PV n p) (i:Nat):∀ j,GT.pw n p (i + j) = GT.mul (GT.pw n p i) (GT.pw n p j)
 | 0 => by rw [Nat.add_zero]; exact ((h.pw i).mul_one).symm
 | j + 1 => by
  show GT.mul (GT.pw n p (i + j)) p = GT.mul _ (GT.mul _ p)
  rw [PV.pw_add h i j,(h.pw i).assoc (h.pw j) h]
theorem repeats {α:Type} [DecidableEq α] (f:Nat -> α) (l:List α) (h:∀ i,f i ∈ l):∃ i j,i < j /\ f i = f j:=by
 refine Classical.byContradiction fun hc => ?_
 have hn:((List.range (l.length + 1)).map f).Nodup:=by
  refine List.pairwise_iff_getElem.2 fun i j hi hj hij e => ?_
  rw [List.getElem_map,List.getElem_map,List.getElem_range,List.getElem_range] at e
  exact hc ⟨i,j,hij,e⟩
 have:=nodup_le hn fun x hx => by obtain ⟨i,_,rfl⟩:=List.mem_map.1 hx; exact h i
 simp at this
 omega
theorem PV.inv_pw (h:PV n p):∃ k,GT.inv p = GT.pw n p k:=by
 obtain ⟨i,j,hij,e⟩:=repeats (GT.pw n p) (allL n n) fun i => mem_allL (h.pw i).len (h.pw i).lt
 obtain ⟨d,rfl⟩:∃ d,j = i + (d + 1):=⟨j - i - 1,by omega⟩
 rw [h.pw_add i (d + 1)] at e
 have e2:GT.pw n p (d + 1) = GT.one n:=by
  refine (h.pw (d + 1)).cancel_l (PV.one n) (h.pw i) ?_
  rw [<- e,(h.pw i).mul_one]
 refine ⟨d,?_⟩
 have e3:GT.mul (GT.pw n p d) p = GT.one n:=e2
 have:GT.mul (GT.mul (GT.pw n p d) p) (GT.inv p) = GT.inv p:=by rw [e3,h.inv.one_mul]
 rw [h.mul_inv_cancel (h.pw d)] at this
 exact this.symm
end
inductive Gen (n:Nat) (S:List Pm):Pm -> Prop
 | one:Gen n S (one n)
 | mul {a s:Pm} (h:Gen n S a) (hs:s ∈ S):Gen n S (mul a s)
section
variable {n:Nat} {S T:List Pm} {a b:Pm}
theorem Gen.pv (hS:∀ s ∈ S,PV n s) (h:Gen n S a):PV n a:=by
 induction h with
 | one => exact PV.one n
 | mul _ hs ih => exact ih.mul (hS _ hs)
theorem Gen.of (hS:∀ s ∈ S,PV n s) {s:Pm} (hs:s ∈ S):Gen n S s:=by
 have:=Gen.mul (Gen.one (n:=n) (S:=S)) hs
 rwa [(hS s hs).one_mul] at this
theorem Gen.mul' (hS:∀ s ∈ S,PV n s) (ha:Gen n S a) (hb:Gen n S b):Gen n S (GT.mul a b):=by
 have pa:=ha.pv hS
 induction hb with
 | one => rw [pa.mul_one]; exact ha
 | mul hb hs ih => rw [<- pa.assoc (hb.pv hS) (hS _ hs)]; exact ih.mul hs
theorem Gen.pw (hS:∀ s ∈ S,PV n s) (ha:Gen n S a):∀ k,Gen n S (pw n a k)
 | 0 => .one
 | k + 1 => (Gen.pw hS ha k).mul' hS ha
theorem Gen.inv (hS:∀ s ∈ S,PV n s) (ha:Gen n S a):Gen n S (inv a):=by
 obtain ⟨k,e⟩:=(ha.pv hS).inv_pw
 rw [e]; exact ha.pw hS k
theorem Gen.mono (hS:∀ s ∈ S,PV n s) (hST:∀ s ∈ T,Gen n S s) (h:Gen n T a):Gen n S a:=by
 induction h with
 | one => exact .one
 | mul _ hs ih => exact ih.mul' hS (hST _ hs)
theorem Gen.ind {P:Pm -> Prop} (h1:P (GT.one n)) (hm:∀ x,P x -> ∀ s ∈ S,P (GT.mul x s)) (h:Gen n S a):P a:=by
 induction h with
 | one => exact h1
 | mul _ hs ih => exact hm _ ih _ hs
end
def lex:Pm -> Pm -> Bool
 | [], [] => false
 | [],_ :: _ => true
 | _ :: _, [] => false
 | x :: a,y :: b => decide (x < y) || (decide (x = y) && lex a b)
theorem lex_irr:∀ a:Pm,lex a a = false
 | [] => rfl
 | x :: a => by simp [lex,lex_irr a]
theorem lex_trans:∀ {a b c:Pm},lex a b = true -> lex b c = true -> lex a c = true
 | [], [],_,h,_ => by simp [lex] at h
 | [],_ :: _, [],_,h => by simp [lex] at h
 | [],_ :: _,_ :: _,_,_ => rfl
 | _ :: _, [],_,h,_ => by simp [lex] at h
 | _ :: _,_ :: _, [],_,h => by simp [lex] at h
 | x :: a,y :: b,z :: c,h,k => by
  simp only [lex,Bool.or_eq_true,Bool.and_eq_true,decide_eq_true_eq] at h k ⊢
  rcases h with h | ⟨e,h⟩
  ·rcases k with k | ⟨e',k⟩
   ·exact .inl (by omega)
   ·exact .inl (by omega)
  ·rcases k with k | ⟨e',k⟩
   ·exact .inl (by omega)
   ·exact .inr ⟨by omega,lex_trans h k⟩
theorem lex_total:∀ {a b:Pm},lex a b = false -> lex b a = false -> a = b
 | [], [],_,_ => rfl
 | [],_ :: _,h,_ => by simp [lex] at h
 | _ :: _, [],_,h => by simp [lex] at h
 | x :: a,y :: b,h,k => by
  simp only [lex,Bool.or_eq_false_iff,Bool.and_eq_false_iff,decide_eq_false_iff_not] at h k
  have e:x = y:=by omega
  subst e
  have h2:lex a b = false:=h.2.resolve_left (fun h => h rfl)
  have k2:lex b a = false:=k.2.resolve_left (fun h => h rfl)
  rw [lex_total h2 k2]
theorem lex_asymm {a b:Pm} (h:lex a b = true):lex b a = false:=by
 cases e:lex b a with
 | false => rfl
 | true => have:=lex_trans h e; rw [lex_irr] at this; cases this
theorem lex_at:∀ {a b:Pm} {k:Nat},a.length = b.length -> k < a.length -> (∀ i,i < k -> ap a i = ap b i) -> ap a k < ap b k -> lex a b = true
 | [],_,k,_,hk,_,_ => by simp at hk
 | _ :: _, [],_,hl,_,_,_ => by simp at hl
 | x :: a,y :: b,0,_,_,_,h => by
  have h':x < y:=h
  simp [lex,h']
 | x :: a,y :: b,k + 1,hl,hk,he,h => by
  have e:x = y:=he 0 (by omega)
  subst e
  simp only [lex,decide_true,Bool.true_and,Bool.or_eq_true]
  exact .inr (lex_at (k:=k) (by simpa using hl) (by simpa using hk) (fun i hi => he (i + 1) (by omega)) h)
def Asc (l:List Pm):Prop:=l.Pairwise fun a b => lex a b = true
theorem Asc.nodup {l:List Pm} (h:Asc l):l.Nodup:=by
 refine List.Pairwise.imp ?_ h
 intro a b hab e
 subst e; rw [lex_irr] at hab; cases hab
theorem Asc.unique {l l':List Pm} (h:Asc l) (k:Asc l') (e:∀ x,x ∈ l ↔ x ∈ l'):l = l' :=
 asc_unique (R:=fun a b => lex a b = true) (fun a ha => by rw [lex_irr] at ha; cases ha) (fun _ _ _ => lex_trans) h k e
end Go.GT
namespace Go.GT
def Fx (k:Nat) (p:Pm):Prop:=∀ i,i < k -> ap p i = i
section
variable {n k:Nat} {p q:Pm}
theorem Fx.zero:Fx 0 p:=fun _ h => absurd h (Nat.not_lt_zero _)
theorem Fx.one (hk:k <= n):Fx k (one n):=fun i hi => ap_one (by omega)
theorem Fx.mul (hp:PV n p) (hk:k <= n) (h:Fx k p) (h':Fx k q):Fx k (mul p q):=fun i hi => by rw [hp.ap_mul (by omega),h i hi,h' i hi]
theorem Fx.inv (hp:PV n p) (hk:k <= n) (h:Fx k p):Fx k (inv p):=fun i hi => by
 have e:=hp.ap_inv (show i < n by omega)
 rwa [h i hi] at e
theorem Fx.succ (h:Fx k p) (e:ap p k = k):Fx (k + 1) p:=fun i hi => by
 by_cases e':i = k
 ·subst e'; exact e
 ·exact h i (by omega)
theorem Fx.le {j:Nat} (h:Fx k p) (hj:j <= k):Fx j p:=fun i hi => h i (by omega)
theorem Fx.all (hp:PV n p) (h:Fx n p):p = GT.one n:=hp.ext (PV.one n) fun i hi => by rw [h i hi,ap_one hi]
end
structure Lv where
 orb:List Nat
 wd:List (Option Pm)
 gs:List Pm
def wat (l:Lv) (x:Nat):Option Pm:=(l.wd[x]?).getD none
def InS:List Lv -> Nat -> Pm -> Prop
 | [],_,_ => True
 | l :: r,k,p => match wat l (ap p k) with | none => False | some w => InS r (k + 1) (mul p (inv w))
theorem InS_cons {l:Lv} {r:List Lv} {k:Nat} {p:Pm}:InS (l :: r) k p ↔ ∃ w,wat l (ap p k) = some w /\ InS r (k + 1) (mul p (inv w)):=by
 have e:InS (l :: r) k p = (match wat l (ap p k) with | none => False | some w => InS r (k + 1) (mul p (inv w))):=rfl
 rw [e]
 cases h:wat l (ap p k) with
 | none => simp
 | some w => simp
def hg:List Lv -> List Pm
 | [] => []
 | l :: _ => l.gs
structure LvOK (n:Nat) (G0:List Pm) (k:Nat) (l:Lv):Prop where
 wlen:l.wd.length = n
 base:wat l k = some (one n)
 word:∀ x w,wat l x = some w -> PV n w /\ Fx k w /\ ap w k = x /\ Gen n l.gs w
 orb:∀ x,x ∈ l.orb ↔ ∃ w,wat l x = some w
 ond:l.orb.Nodup
 gen:∀ g ∈ l.gs,PV n g /\ Fx k g /\ Gen n G0 g
 gnd:l.gs.Nodup
def ChOK (n:Nat) (G0:List Pm):Nat -> List Lv -> Prop
 | k, [] => k = n
 | k,l :: r => k < n /\ LvOK n G0 k l /\ (∀ g ∈ hg r,Gen n l.gs g) /\ ChOK n G0 (k + 1) r
def Cl:Nat -> List Lv -> Prop
 | _, [] => True
 | k,l :: r => (∀ x w,wat l x = some w -> ∀ g ∈ l.gs,InS (l :: r) k (mul w g)) /\ Cl (k + 1) r
def LvLe (l l':Lv):Prop:=∀ x w,wat l x = some w -> wat l' x = some w
def ChLe:List Lv -> List Lv -> Prop
 | [], [] => True
 | l :: r,l' :: r' => LvLe l l' /\ ChLe r r'
 | _,_ => False
theorem LvLe.refl (l:Lv):LvLe l l:=fun _ _ h => h
theorem LvLe.trans {a b c:Lv} (h:LvLe a b) (k:LvLe b c):LvLe a c:=fun x w e => k x w (h x w e)
theorem ChLe.refl:∀ l:List Lv,ChLe l l
 | [] => trivial
 | l :: r => ⟨LvLe.refl l,ChLe.refl r⟩
theorem ChLe.trans:∀ {a b c:List Lv},ChLe a b -> ChLe b c -> ChLe a c
 | [], [], [],_,_ => trivial
 | [], [],_ :: _,_,h => h.elim
 | [],_ :: _,_,h,_ => h.elim
 | _ :: _, [],_,h,_ => h.elim
 | _ :: _,_ :: _, [],_,h => h.elim
 | _ :: _,_ :: _,_ :: _,h,k => ⟨h.1.trans k.1,ChLe.trans h.2 k.2⟩
theorem InS.mono:∀ {a b:List Lv} {k:Nat} {p:Pm},ChLe a b -> InS a k p -> InS b k p
 | [], [],_,_,_,_ => trivial
 | [],_ :: _,_,_,h,_ => h.elim
 | _ :: _, [],_,_,h,_ => h.elim
 | l :: r,l' :: r',k,p,h,hi => by
  obtain ⟨w,h1,h2⟩:=InS_cons.1 hi
  exact InS_cons.2 ⟨w,h.1 _ _ h1,InS.mono h.2 h2⟩
section
variable {n:Nat} {G0:List Pm}
theorem ChOK.hg {k:Nat} {ls:List Lv} (h:ChOK n G0 k ls):∀ g ∈ hg ls,PV n g /\ Fx k g /\ Gen n G0 g:=by
 cases ls with
 | nil => intro g hg; cases hg
 | cons l r => exact h.2.1.gen
theorem LvOK.pvs {k:Nat} {l:Lv} (h:LvOK n G0 k l):∀ g ∈ l.gs,PV n g:=fun g hg => (h.gen g hg).1
theorem gen_fx {k:Nat} (hk:k <= n) {S:List Pm} (hS:∀ s ∈ S,PV n s /\ Fx k s) {p:Pm} (h:Gen n S p):Fx k p:=by
 induction h with
 | one => exact Fx.one hk
 | mul h hs ih => exact Fx.mul (h.pv fun s hs => (hS s hs).1) hk ih (hS _ hs).2
theorem LvOK.div {k:Nat} (hk:k < n) {l:Lv} (h:LvOK n G0 k l) {p w:Pm} (hp:PV n p) (hf:Fx k p) (hw:wat l (ap p k) = some w):PV n (mul p (inv w)) /\ Fx (k + 1) (mul p (inv w)) /\ mul (mul p (inv w)) w = p:=by
 obtain ⟨w1,w2,w3,w4⟩:=h.word _ _ hw
 refine ⟨hp.mul w1.inv,?_,w1.inv_mul_cancel hp⟩
 refine (Fx.mul hp (by omega) hf (w2.inv w1 (by omega))).succ ?_
 rw [hp.ap_mul hk, <- w3,w1.ap_inv hk]
theorem complete:∀ {k:Nat} {ls:List Lv},ChOK n G0 k ls -> Cl k ls -> ∀ {p:Pm},PV n p -> Fx k p -> (InS ls k p ↔ Gen n (hg ls) p)
 | k, [],h,_,p,hp,hf => by
  have e:k = n:=h
  subst e
  rw [hf.all hp]
  exact ⟨fun _ => .one,fun _ => trivial⟩
 | k,l :: r,h,hc,p,hp,hf => by
  obtain ⟨hk,hl,hlink,hr⟩:=h
  obtain ⟨hc1,hc2⟩:=hc
  have ih:∀ {q:Pm},PV n q -> Fx (k + 1) q -> (InS r (k + 1) q ↔ Gen n (hg r) q):=fun hq hf => complete hr hc2 hq hf
  constructor
  ·intro hi
   obtain ⟨w,h1,h2⟩:=InS_cons.1 hi
   obtain ⟨d1,d2,d3⟩:=hl.div hk hp hf h1
   have g1:=Gen.mono hl.pvs hlink ((ih d1 d2).1 h2)
   obtain ⟨w1,w2,w3,w4⟩:=hl.word _ _ h1
   have:=g1.mul' hl.pvs w4
   rwa [d3] at this
  ·intro hg
   have gfx:∀ {q:Pm},Gen n l.gs q -> PV n q /\ Fx k q:=fun hq => ⟨hq.pv hl.pvs,gen_fx (Nat.le_of_lt hk) (fun s hs => ⟨(hl.gen s hs).1,(hl.gen s hs).2.1⟩) hq⟩
   have key:Gen n l.gs p -> InS (l :: r) k p:=by
    intro hg
    clear hp hf
    induction hg with
    | one =>
     refine InS_cons.2 ⟨one n,by rw [ap_one hk]; exact hl.base,?_⟩
     rw [(PV.one n).mul_inv]
     exact (ih (PV.one n) (Fx.one hk)).2 .one
    | @mul a s ha hs iha =>
     obtain ⟨pa,fa⟩:=gfx ha
     have ps:=hl.pvs s hs
     obtain ⟨w,h1,h2⟩:=InS_cons.1 (iha ha)
     obtain ⟨d1,d2,d3⟩:=hl.div hk pa fa h1
     obtain ⟨w1,w2,w3,w4⟩:=hl.word _ _ h1
     obtain ⟨v,k1,k2⟩:=InS_cons.1 (hc1 _ _ h1 s hs)
     have e1:ap (mul w s) k = ap (mul a s) k:=by rw [w1.ap_mul hk,pa.ap_mul hk,w3]
     have fws:Fx k (mul w s):=(gfx (w4.mul hs)).2
     obtain ⟨c1,c2,c3⟩:=hl.div hk (w1.mul ps) fws k1
     rw [e1] at k1
     obtain ⟨v1,v2,v3,v4⟩:=hl.word _ _ k1
     refine InS_cons.2 ⟨v,k1,?_⟩
     have e2:mul (mul a s) (inv v) = mul (mul a (inv w)) (mul (mul w s) (inv v)):=by
      rw [<- d1.assoc (w1.mul ps) v1.inv, <- d1.assoc w1 ps,d3]
     rw [e2]
     have g1:=(ih d1 d2).1 h2
     have g2:=(ih c1 c2).1 k2
     exact (ih (d1.mul c1) (Fx.mul d1 hk d2 c2)).2 (g1.mul' (fun g hg => (hr.hg g hg).1) g2)
   exact key hg
end
end Go.GT
namespace Go.GT
def so (u:Pm) (orb:List Nat):List Nat:=orb.mergeSort fun x y => decide (ap u x <= ap u y)
theorem so_perm (u:Pm) (orb:List Nat):(so u orb).Perm orb:=List.mergeSort_perm _ _
theorem so_mem {u:Pm} {orb:List Nat} {x:Nat}:x ∈ so u orb ↔ x ∈ orb:=(so_perm u orb).mem_iff
theorem so_asc {u:Pm} {n:Nat} (hu:PV n u) {orb:List Nat} (hn:orb.Nodup) (ho:∀ x ∈ orb,x < n):(so u orb).Pairwise fun x y => ap u x < ap u y:=by
 have h1:(so u orb).Pairwise fun x y => decide (ap u x <= ap u y) = true:=List.pairwise_mergeSort (fun a b c h k => by simp at h k ⊢; omega) (fun a b => by simp; omega) orb
 have h2:(so u orb).Nodup:=(so_perm u orb).nodup_iff.2 hn
 have h3:=List.Pairwise.and_mem.1 (h1.and h2)
 refine List.Pairwise.imp ?_ h3
 rintro x y ⟨hx,hy,e1,e2⟩
 have e3:ap u x <= ap u y:=of_decide_eq_true e1
 have:ap u x ≠ ap u y:=fun e => e2 (hu.inj (ho x (so_mem.1 hx)) (ho y (so_mem.1 hy)) e)
 omega
def wd! (l:Lv) (x:Nat):Pm:=(wat l x).getD []
theorem wd!_eq {l:Lv} {x:Nat} {w:Pm} (h:wat l x = some w):wd! l x = w:=by unfold wd!; rw [h]; rfl
def els:List Lv -> Nat -> Pm -> List Pm
 | [],_,u => [u]
 | l :: r,k,u => (so u l.orb).flatMap fun x => els r (k + 1) (mul (wd! l x) u)
def ordC:List Lv -> Nat
 | [] => 1
 | l :: r => l.orb.length * ordC r
section
variable {n:Nat} {G0:List Pm}
theorem LvOK.orb_lt {k:Nat} {l:Lv} (h:LvOK n G0 k l) (hk:k < n) {x:Nat} (hx:x ∈ l.orb):x < n:=by
 obtain ⟨w,e⟩:=(h.orb x).1 hx
 obtain ⟨w1,_,w3,_⟩:=h.word _ _ e
 rw [<- w3]; exact w1.ap_lt hk
theorem LvOK.wd! {k:Nat} {l:Lv} (h:LvOK n G0 k l) {x:Nat} (hx:x ∈ l.orb):wat l x = some (wd! l x) /\ PV n (wd! l x) /\ Fx k (wd! l x) /\ ap (wd! l x) k = x:=by
 obtain ⟨w,e⟩:=(h.orb x).1 hx
 obtain ⟨w1,w2,w3,_⟩:=h.word _ _ e
 rw [wd!_eq e]; exact ⟨e,w1,w2,w3⟩
theorem mem_els:∀ {k:Nat} {ls:List Lv},ChOK n G0 k ls -> ∀ {u q:Pm},PV n u -> (q ∈ els ls k u ↔ ∃ s,PV n s /\ Fx k s /\ InS ls k s /\ q = mul s u)
 | k, [],h,u,q,hu => by
  have e:k = n:=h
  subst e
  show q ∈ [u] ↔ _
  rw [List.mem_singleton]
  constructor
  ·rintro rfl; exact ⟨one k,PV.one k,Fx.one (Nat.le_refl _),trivial,hu.one_mul.symm⟩
  ·rintro ⟨s,h1,h2,_,rfl⟩; rw [h2.all h1,hu.one_mul]
 | k,l :: r,h,u,q,hu => by
  obtain ⟨hk,hl,hlink,hr⟩:=h
  show q ∈ (so u l.orb).flatMap _ ↔ _
  rw [List.mem_flatMap]
  constructor
  ·rintro ⟨x,hx,hq⟩
   obtain ⟨w1,w2,w3,w4⟩:=hl.wd! (so_mem.1 hx)
   obtain ⟨s,s1,s2,s3,rfl⟩:=(mem_els hr (w2.mul hu)).1 hq
   have e:ap (mul s (GT.wd! l x)) k = x:=by rw [s1.ap_mul hk,s2 k (Nat.lt_succ_self k),w4]
   refine ⟨mul s (GT.wd! l x),s1.mul w2,Fx.mul s1 (Nat.le_of_lt hk) (s2.le (Nat.le_succ k)) w3,InS_cons.2 ⟨_,by rw [e]; exact w1,?_⟩,(s1.assoc w2 hu).symm⟩
   rw [w2.mul_inv_cancel s1]; exact s3
  ·rintro ⟨s,s1,s2,s3,rfl⟩
   obtain ⟨w,k1,k2⟩:=InS_cons.1 s3
   have hx:ap s k ∈ l.orb:=(hl.orb _).2 ⟨w,k1⟩
   obtain ⟨d1,d2,d3⟩:=hl.div hk s1 s2 k1
   obtain ⟨w1,_,_,_⟩:=hl.word _ _ k1
   refine ⟨ap s k,so_mem.2 hx,?_⟩
   rw [wd!_eq k1]
   refine (mem_els hr (w1.mul hu)).2 ⟨_,d1,d2,k2,?_⟩
   rw [<- d1.assoc w1 hu,d3]
theorem length_els:∀ {k:Nat} {ls:List Lv} {u:Pm},(els ls k u).length = ordC ls
 | k, [],u => rfl
 | k,l :: r,u => by
  show ((so u l.orb).flatMap _).length = l.orb.length * ordC r
  rw [List.length_flatMap, <- (so_perm u l.orb).length_eq]
  generalize so u l.orb = s
  induction s with
  | nil => simp
  | cons x s ih =>
   rw [List.map_cons,List.sum_cons,ih,length_els,List.length_cons,Nat.add_mul]
   omega
theorem asc_els:∀ {k:Nat} {ls:List Lv},ChOK n G0 k ls -> ∀ {u:Pm},PV n u -> Asc (els ls k u)
 | k, [],_,u,_ => List.pairwise_singleton _ _
 | k,l :: r,h,u,hu => by
  obtain ⟨hk,hl,hlink,hr⟩:=h
  show List.Pairwise _ ((so u l.orb).flatMap _)
  rw [List.pairwise_flatMap]
  refine ⟨fun x hx => asc_els hr ((hl.wd! (so_mem.1 hx)).2.1.mul hu),?_⟩
  refine List.Pairwise.imp ?_ (List.Pairwise.and_mem.1 (so_asc hu hl.ond fun x hx => hl.orb_lt hk hx))
  rintro x y ⟨hx,hy,hxy⟩ a ha b hb
  have key:∀ {z:Nat} {q:Pm},z ∈ so u l.orb -> q ∈ els r (k + 1) (mul (GT.wd! l z) u) -> q.length = n /\ (∀ i,i < k -> ap q i = ap u i) /\ ap q k = ap u z:=by
   intro z q hz hq
   obtain ⟨w1,w2,w3,w4⟩:=hl.wd! (so_mem.1 hz)
   obtain ⟨s,s1,s2,s3,rfl⟩:=(mem_els hr (w2.mul hu)).1 hq
   refine ⟨(s1.mul (w2.mul hu)).len,fun i hi => ?_,?_⟩
   ·rw [s1.ap_mul (by omega),s2 i (by omega),w2.ap_mul (by omega),w3 i hi]
   ·rw [s1.ap_mul hk,s2 k (by omega),w2.ap_mul hk,w4]
  obtain ⟨a1,a2,a3⟩:=key hx ha
  obtain ⟨b1,b2,b3⟩:=key hy hb
  exact lex_at (k:=k) (by rw [a1,b1]) (by omega) (fun i hi => by rw [a2 i hi,b2 i hi]) (by rw [a3,b3]; exact hxy)
def idxC:List Lv -> Nat -> Pm -> Pm -> Option Nat
 | [],_,_,_ => some 0
 | l :: r,k,u,p => match l.orb.find? (fun x => ap u x == ap p k) with
  | none => none
  | some x => match idxC r (k + 1) (mul (wd! l x) u) p with
   | some i => some ((l.orb.filter fun x => decide (ap u x < ap p k)).length * ordC r + i)
   | none => none
theorem flatMap_at {α β:Type} {f:α -> List β} {B:Nat}:∀ {s:List α} {j i:Nat} {x:α} {q:β},(∀ x ∈ s,(f x).length = B) -> s[j]? = some x -> (f x)[i]? = some q -> (s.flatMap f)[j * B + i]? = some q
 | [],j,i,x,q,_,h,_ => by simp at h
 | y :: s,0,i,x,q,hB,h,hq => by
  simp at h; subst h
  have hlt:i < (f y).length:=(List.getElem?_eq_some_iff.1 hq).1
  rw [List.flatMap_cons,Nat.zero_mul,Nat.zero_add,List.getElem?_append_left hlt]; exact hq
 | y :: s,j + 1,i,x,q,hB,h,hq => by
  have e:=hB y (.head _)
  rw [List.flatMap_cons,List.getElem?_append_right (by rw [e,Nat.succ_mul]; omega),e]
  have:(j + 1) * B + i - B = j * B + i:=by rw [Nat.succ_mul]; omega
  rw [this]
  exact flatMap_at (fun x hx => hB x (.tail _ hx)) (by simpa using h) hq
theorem filter_before {α:Type} {R:α -> Nat}:∀ {s:List α} {j:Nat} {x:α},s.Pairwise (fun a b => R a < R b) -> s[j]? = some x -> (s.filter fun a => decide (R a < R x)).length = j
 | [],j,x,_,h => by simp at h
 | y :: s,0,x,hs,h => by
  simp at h; subst h
  obtain ⟨h1,h2⟩:=List.pairwise_cons.1 hs
  rw [List.filter_cons_of_neg (by simp),List.length_eq_zero_iff,List.filter_eq_nil_iff]
  intro a ha
  have:=h1 a ha
  simp; omega
 | y :: s,j + 1,x,hs,h => by
  obtain ⟨h1,h2⟩:=List.pairwise_cons.1 hs
  have hx:s[j]? = some x:=by simpa using h
  rw [List.filter_cons_of_pos (by simpa using h1 x (List.mem_of_getElem? hx)),List.length_cons,filter_before h2 hx]
theorem find_orb {u:Pm} (hu:PV n u) {orb:List Nat} (ho:∀ x ∈ orb,x < n) {x y:Nat} (hx:x ∈ orb) (e:ap u x = y):orb.find? (fun z => ap u z == y) = some x:=by
 cases hf:orb.find? (fun z => ap u z == y) with
 | none => have:=List.find?_eq_none.1 hf x hx; simp [e] at this
 | some z =>
  have h1:=List.find?_some hf
  have h2:=List.mem_of_find?_eq_some hf
  simp at h1
  rw [hu.inj (ho z h2) (ho x hx) (h1.trans e.symm)]
theorem idx_els:∀ {k:Nat} {ls:List Lv},ChOK n G0 k ls -> ∀ {u q:Pm},PV n u -> q ∈ els ls k u -> ∃ i,idxC ls k u q = some i /\ (els ls k u)[i]? = some q
 | k, [],_,u,q,_,hq => ⟨0,rfl,by rw [List.mem_singleton.1 hq]; rfl⟩
 | k,l :: r,h,u,q,hu,hq => by
  obtain ⟨hk,hl,hlink,hr⟩:=h
  obtain ⟨x,hx,hq⟩:=List.mem_flatMap.1 hq
  have hxo:=so_mem.1 hx
  obtain ⟨w1,w2,w3,w4⟩:=hl.wd! hxo
  obtain ⟨s,s1,s2,s3,e⟩:=(mem_els hr (w2.mul hu)).1 hq
  have e3:ap u x = ap q k:=by rw [e,s1.ap_mul hk,s2 k (by omega),w2.ap_mul hk,w4]
  obtain ⟨i,i1,i2⟩:=idx_els hr (w2.mul hu) hq
  have hf:=find_orb hu (fun x hx => hl.orb_lt hk hx) hxo e3
  refine ⟨(l.orb.filter fun x => decide (ap u x < ap q k)).length * ordC r + i,?_,?_⟩
  ·unfold idxC
   rw [hf]
   simp only [i1]
  ·obtain ⟨j,hj,ej⟩:=List.mem_iff_getElem.1 hx
   have hj':(so u l.orb)[j]? = some x:=by rw [List.getElem?_eq_getElem hj,ej]
   have hc:=filter_before (R:=ap u) (so_asc hu hl.ond fun x hx => hl.orb_lt hk hx) hj'
   have hp:=((so_perm u l.orb).filter fun a => decide (ap u a < ap u x)).length_eq
   rw [<- e3, <- hp,hc]
   exact flatMap_at (B:=ordC r) (fun y _ => length_els) hj' i2
end
end Go.GT
namespace Go.GT
def setWord (l:Lv) (x:Nat) (p:Pm):Lv:=⟨l.orb ++ [x],l.wd.set x (some p),l.gs⟩
def addGen (l:Lv) (g:Pm):Lv:=⟨l.orb,l.wd,l.gs ++ [g]⟩
theorem wat_addGen {l:Lv} {g:Pm} {x:Nat}:wat (addGen l g) x = wat l x:=rfl
theorem wat_set {l:Lv} {x:Nat} {p:Pm} (hx:x < l.wd.length) (y:Nat):wat (setWord l x p) y = if y = x then some p else wat l y:=by
 unfold wat setWord
 by_cases e:y = x
 ·subst e; simp [hx]
 ·rw [if_neg e]; simp only [List.getElem?_set_ne (fun h => e h.symm)]
section
variable {n:Nat} {G0:List Pm}
theorem InS_one:∀ {k:Nat} {ls:List Lv},ChOK n G0 k ls -> InS ls k (one n)
 | k, [],_ => trivial
 | k,l :: r,h => by
  obtain ⟨hk,hl,_,hr⟩:=h
  refine InS_cons.2 ⟨one n,by rw [ap_one hk]; exact hl.base,?_⟩
  rw [(PV.one n).mul_inv]; exact InS_one hr
theorem LvOK.setWord {k:Nat} (hk:k < n) {l:Lv} (h:LvOK n G0 k l) {p:Pm} (hp:PV n p) (hf:Fx k p) (hg:Gen n l.gs p) (hx:wat l (ap p k) = none):LvOK n G0 k (setWord l (ap p k) p) /\ LvLe l (setWord l (ap p k) p):=by
 have hlt:ap p k < l.wd.length:=by rw [h.wlen]; exact hp.ap_lt hk
 have hw:=wat_set (l:=l) (p:=p) hlt
 have hne:k ≠ ap p k:=fun e => by rw [<- e,h.base] at hx; cases hx
 refine ⟨⟨?_,?_,?_,?_,?_,h.gen,h.gnd⟩,?_⟩
 ·show (l.wd.set _ _).length = n
  rw [List.length_set]; exact h.wlen
 ·rw [hw,if_neg hne]; exact h.base
 ·intro y w e
  rw [hw] at e
  by_cases ey:y = ap p k
  ·rw [if_pos ey] at e; cases e; exact ⟨hp,hf,ey.symm,hg⟩
  ·rw [if_neg ey] at e; exact h.word y w e
 ·intro y
  show y ∈ l.orb ++ [ap p k] ↔ _
  rw [hw,List.mem_append,List.mem_singleton,h.orb]
  by_cases ey:y = ap p k
  ·simp [ey]
  ·simp [ey]
 ·show (l.orb ++ [ap p k]).Nodup
  refine List.nodup_append.2 ⟨h.ond,List.pairwise_singleton _ _,fun a ha b hb e => ?_⟩
  rw [List.mem_singleton] at hb
  obtain ⟨w,hw'⟩:=(h.orb a).1 ha
  rw [e,hb,hx] at hw'; cases hw'
 ·intro y w e
  rw [hw,if_neg (fun ey => by rw [ey,hx] at e; cases e)]; exact e
theorem LvOK.addGen {k:Nat} {l:Lv} (h:LvOK n G0 k l) {g:Pm} (hp:PV n g) (hf:Fx k g) (hg:Gen n G0 g) (hn:g ∉ l.gs):LvOK n G0 k (addGen l g):=by
 have hm:∀ s ∈ l.gs ++ [g],PV n s:=fun s hs => by
  rcases List.mem_append.1 hs with hs | hs
  ·exact h.pvs s hs
  ·rw [List.mem_singleton.1 hs]; exact hp
 refine ⟨h.wlen,h.base,fun x w e => ?_,h.orb,h.ond,fun s hs => ?_,?_⟩
 ·obtain ⟨w1,w2,w3,w4⟩:=h.word x w e
  exact ⟨w1,w2,w3,w4.mono hm fun s hs => Gen.of hm (List.mem_append.2 (.inl hs))⟩
 ·rcases List.mem_append.1 hs with hs | hs
  ·exact h.gen s hs
  ·rw [List.mem_singleton.1 hs]; exact ⟨hp,hf,hg⟩
 ·refine List.nodup_append.2 ⟨h.gnd,List.pairwise_singleton _ _,fun a ha b hb e => ?_⟩
  rw [List.mem_singleton.1 hb] at e
  exact hn (e ▸ ha)
theorem LvLe.orb_le {k:Nat} {l l':Lv} (h:LvOK n G0 k l) (h':LvOK n G0 k l') (hle:LvLe l l'):l.orb.length <= l'.orb.length :=
 nodup_le h.ond fun x hx => by
  obtain ⟨w,e⟩:=(h.orb x).1 hx
  exact (h'.orb x).2 ⟨w,hle x w e⟩
theorem LvOK.orb_n {k:Nat} (hk:k < n) {l:Lv} (h:LvOK n G0 k l):l.orb.length <= n:=by
 have:=nodup_le h.ond (l':=List.range n) fun x hx => List.mem_range.2 (h.orb_lt hk hx)
 simpa using this
structure Reached (n:Nat) (G0:List Pm) (k:Nat) (l:Lv) (r:List Lv) (p:Pm) (l':Lv) (r':List Lv):Prop where
 gs:l'.gs = l.gs
 le:LvLe l l'
 les:ChLe r r'
 ok:ChOK n G0 k (l' :: r')
 cl:Cl (k + 1) r'
 mem:InS (l' :: r') k p
 new:∀ x w,wat l x = none -> wat l' x = some w -> ∀ g ∈ l.gs,InS (l' :: r') k (mul w g)
structure Inserted (n:Nat) (G0:List Pm) (k:Nat) (l:Lv) (r:List Lv) (g:Pm) (l':Lv) (r':List Lv):Prop where
 gs:l'.gs = l.gs ++ [g]
 le:LvLe l l'
 les:ChLe r r'
 ok:ChOK n G0 k (l' :: r')
 cl:Cl k (l' :: r')
structure Reaching (n:Nat) (G0:List Pm) (k:Nat) (l:Lv) (r:List Lv) (p:Pm) (i:Nat) (l':Lv) (r':List Lv):Prop where
 gs:l'.gs = l.gs
 le:LvLe (setWord l (ap p k) p) l'
 les:ChLe r r'
 ok:ChOK n G0 k (l' :: r')
 cl:Cl (k + 1) r'
 done:∀ j g,j < i -> l.gs[j]? = some g -> InS (l' :: r') k (mul p g)
 new:∀ x w,wat (setWord l (ap p k) p) x = none -> wat l' x = some w -> ∀ g ∈ l.gs,InS (l' :: r') k (mul w g)
theorem Reaching.start {k:Nat} {l:Lv} {r:List Lv} (h:ChOK n G0 k (l :: r)) (hc:Cl (k + 1) r) {p:Pm} (hp:PV n p) (hf:Fx k p) (hg:Gen n l.gs p) (hx:wat l (ap p k) = none):Reaching n G0 k l r p 0 (setWord l (ap p k) p) r:=by
 obtain ⟨hk,hl,hlink,hr⟩:=h
 refine ⟨rfl,LvLe.refl _,ChLe.refl _,⟨hk,(hl.setWord hk hp hf hg hx).1,hlink,hr⟩,hc,fun j g hj => absurd hj (Nat.not_lt_zero _),fun x w e e' => ?_⟩
 rw [e] at e'; cases e'
theorem Reaching.step {k:Nat} {l:Lv} {r:List Lv} {p g:Pm} {i:Nat} {l1 l2:Lv} {r1 r2:List Lv} (h:Reaching n G0 k l r p i l1 r1) (hi:l.gs[i]? = some g) (hr:Reached n G0 k l1 r1 (mul p g) l2 r2):Reaching n G0 k l r p (i + 1) l2 r2:=by
 have hle:ChLe (l1 :: r1) (l2 :: r2):=⟨hr.le,hr.les⟩
 refine ⟨hr.gs.trans h.gs,h.le.trans hr.le,h.les.trans hr.les,hr.ok,hr.cl,fun j q hj hq => ?_,fun x w e e' q hq => ?_⟩
 ·by_cases e:j = i
  ·subst e; rw [hi] at hq; cases hq; exact hr.mem
  ·exact (h.done j q (by omega) hq).mono hle
 ·cases e1:wat l1 x with
  | none => exact hr.new x w e1 e' q (by rw [h.gs]; exact hq)
  | some v =>
   have:=hr.le x v e1
   rw [this] at e'; cases e'
   exact (h.new x w e e1 q hq).mono hle
theorem Reaching.finish {k:Nat} {l:Lv} {r:List Lv} (h0:ChOK n G0 k (l :: r)) {p:Pm} (hp:PV n p) (hf:Fx k p) (hg:Gen n l.gs p) (hx:wat l (ap p k) = none) {l1:Lv} {r1:List Lv} (h:Reaching n G0 k l r p l.gs.length l1 r1):Reached n G0 k l r p l1 r1:=by
 obtain ⟨hk,hl,hlink,hr⟩:=h0
 obtain ⟨s1,s2⟩:=hl.setWord hk hp hf hg hx
 have hw:=wat_set (l:=l) (p:=p) (x:=ap p k) (by rw [hl.wlen]; exact hp.ap_lt hk)
 have hp1:wat l1 (ap p k) = some p:=h.le _ _ (by rw [hw,if_pos rfl])
 refine ⟨h.gs,s2.trans h.le,h.les,h.ok,h.cl,InS_cons.2 ⟨p,hp1,?_⟩,fun x w e e' g hg' => ?_⟩
 ·rw [hp.mul_inv]; exact InS_one h.ok.2.2.2
 ·by_cases ex:x = ap p k
  ·rw [ex,hp1] at e'; cases e'
   obtain ⟨j,hj,ej⟩:=List.mem_iff_getElem.1 hg'
   exact h.done j g hj (by rw [List.getElem?_eq_getElem hj,ej])
  ·exact h.new x w (by rw [hw,if_neg ex]; exact e) e' g hg'
theorem Reached.there {k:Nat} {l:Lv} {r:List Lv} (h0:ChOK n G0 k (l :: r)) (hc:Cl (k + 1) r) {p w:Pm} (hw:wat l (ap p k) = some w) (hi:InS r (k + 1) (mul p (inv w))):Reached n G0 k l r p l r :=
 ⟨rfl,LvLe.refl _,ChLe.refl _,h0,hc,InS_cons.2 ⟨w,hw,hi⟩,fun x v e e' => by rw [e] at e'; cases e'⟩
theorem Gen.monoG {k:Nat} {l:Lv} (hl:LvOK n G0 k l) {p:Pm} (h:Gen n l.gs p) (hG:∀ s ∈ G0,PV n s):Gen n G0 p:=h.mono hG fun s hs => (hl.gen s hs).2.2
structure Insertable (n:Nat) (G0:List Pm) (k:Nat) (ls:List Lv) (g:Pm):Prop where
 pv:PV n g
 fx:Fx k g
 g0:Gen n G0 g
 out:¬ InS ls k g
theorem Reached.rest {k : Nat} {l : Lv} {r : List Lv} (h0 : ChOK n G0 k (l :: r)) {p w : Pm} (hp : PV n p) (hf : Fx k p) (hg : Gen n l.gs p) (hw : wat l (ap p k) = some w) (hi : ¬ InS r (k + 1) (mul p (inv w))) (hG : ∀ s ∈ G0, PV n s) :
  Insertable n G0 (k + 1) r (mul p (inv w)) /\ Gen n l.gs (mul p (inv w)):=by
 obtain ⟨hk,hl,hlink,hr⟩:=h0
 obtain ⟨d1,d2,_⟩:=hl.div hk hp hf hw
 obtain ⟨_,_,_,w4⟩:=hl.word _ _ hw
 have hgen:=hg.mul' hl.pvs (w4.inv hl.pvs)
 exact ⟨⟨d1,d2,hgen.monoG hl hG,hi⟩,hgen⟩
theorem Reached.insert {k : Nat} {l : Lv} {r : List Lv} (h0 : ChOK n G0 k (l :: r)) {p w : Pm} (hp : PV n p) (hf : Fx k p) (hg : Gen n l.gs p) (hw : wat l (ap p k) = some w) {l2 l3 : Lv} {r2 r3 : List Lv} (e : r = l2 :: r2)
  (h:Inserted n G0 (k + 1) l2 r2 (mul p (inv w)) l3 r3):Reached n G0 k l r p l (l3 :: r3):=by
 subst e
 obtain ⟨hk,hl,hlink,hr⟩:=h0
 obtain ⟨d1,d2,d3⟩:=hl.div hk hp hf hw
 obtain ⟨_,_,_,w4⟩:=hl.word _ _ hw
 have hgen:=hg.mul' hl.pvs (w4.inv hl.pvs)
 refine ⟨rfl,LvLe.refl _,⟨h.le,h.les⟩,⟨hk,hl,fun g hg' => ?_,h.ok⟩,h.cl,InS_cons.2 ⟨w,hw,?_⟩,fun x v e e' => by rw [e] at e'; cases e'⟩
 ·have hg2:g ∈ l2.gs ++ [mul p (inv w)]:=by rw [<- h.gs]; exact hg'
  rcases List.mem_append.1 hg2 with q | q
  ·exact hlink g q
  ·rw [List.mem_singleton.1 q]; exact hgen
 ·refine (complete h.ok h.cl d1 d2).2 (Gen.of h.ok.2.1.pvs ?_)
  show mul p (inv w) ∈ l3.gs
  rw [h.gs]; exact List.mem_append.2 (.inr (.head _))
structure Inserting (n:Nat) (G0:List Pm) (k:Nat) (l:Lv) (r:List Lv) (g:Pm) (i:Nat) (l':Lv) (r':List Lv):Prop where
 gs:l'.gs = l.gs ++ [g]
 le:LvLe l l'
 les:ChLe r r'
 ok:ChOK n G0 k (l' :: r')
 cl:Cl (k + 1) r'
 done:∀ j x w,j < i -> l.orb[j]? = some x -> wat l x = some w -> InS (l' :: r') k (mul w g)
 new:∀ x w,wat l x = none -> wat l' x = some w -> ∀ q ∈ l.gs ++ [g],InS (l' :: r') k (mul w q)
theorem Insertable.not_mem {k:Nat} {ls:List Lv} (h:ChOK n G0 k ls) (hc:Cl k ls) {g:Pm} (hi:Insertable n G0 k ls g):g ∉ hg ls:=fun hm =>
 hi.out ((complete h hc hi.pv hi.fx).2 (Gen.of (fun s hs => (h.hg s hs).1) hm))
theorem Inserting.start {k:Nat} {l:Lv} {r:List Lv} (h:ChOK n G0 k (l :: r)) (hc:Cl k (l :: r)) {g:Pm} (hi:Insertable n G0 k (l :: r) g):Inserting n G0 k l r g 0 (addGen l g) r:=by
 have hn:g ∉ l.gs:=hi.not_mem h hc
 obtain ⟨hk,hl,hlink,hr⟩:=h
 have hl':=hl.addGen hi.pv hi.fx hi.g0 hn
 refine ⟨rfl,LvLe.refl _,ChLe.refl _,⟨hk,hl',fun q hq => (hlink q hq).mono hl'.pvs fun s hs => Gen.of hl'.pvs (List.mem_append.2 (.inl hs)),hr⟩,hc.2,fun j x w hj => absurd hj (Nat.not_lt_zero _),fun x w e e' => ?_⟩
 rw [wat_addGen,e] at e'; cases e'
theorem Inserting.step {k:Nat} {l:Lv} {r:List Lv} {g:Pm} {i:Nat} {l1 l2:Lv} {r1 r2:List Lv} {x:Nat} {w:Pm} (h:Inserting n G0 k l r g i l1 r1) (hx:l.orb[i]? = some x) (hw:wat l x = some w) (hr:Reached n G0 k l1 r1 (mul w g) l2 r2):Inserting n G0 k l r g (i + 1) l2 r2:=by
 have hle:ChLe (l1 :: r1) (l2 :: r2):=⟨hr.le,hr.les⟩
 refine ⟨hr.gs.trans h.gs,h.le.trans hr.le,h.les.trans hr.les,hr.ok,hr.cl,fun j y v hj hy hv => ?_,fun y v e e' q hq => ?_⟩
 ·by_cases e:j = i
  ·subst e; rw [hx] at hy; cases hy; rw [hw] at hv; cases hv; exact hr.mem
  ·exact (h.done j y v (by omega) hy hv).mono hle
 ·cases e1:wat l1 y with
  | none => exact hr.new y v e1 e' q (by rw [h.gs]; exact hq)
  | some z =>
   have:=hr.le y z e1
   rw [this] at e'; cases e'
   exact (h.new y v e e1 q hq).mono hle
theorem Inserting.finish {k:Nat} {l:Lv} {r:List Lv} (h0:ChOK n G0 k (l :: r)) (hc:Cl k (l :: r)) {g:Pm} {l1:Lv} {r1:List Lv} (h:Inserting n G0 k l r g l.orb.length l1 r1):Inserted n G0 k l r g l1 r1:=by
 refine ⟨h.gs,h.le,h.les,h.ok,fun x w e q hq => ?_,h.cl⟩
 rw [h.gs] at hq
 cases e1:wat l x with
 | none => exact h.new x w e1 e q hq
 | some v =>
  have:=h.le x v e1
  rw [this] at e; cases e
  rcases List.mem_append.1 hq with q1 | q1
  ·exact (hc.1 x w e1 q q1).mono (show ChLe (l :: r) (l1 :: r1) from ⟨h.le,h.les⟩)
  ·rw [List.mem_singleton.1 q1]
   obtain ⟨j,hj,ej⟩:=List.mem_iff_getElem.1 ((h0.2.1.orb x).2 ⟨w,e1⟩)
   exact h.done j x w hj (by rw [List.getElem?_eq_getElem hj,ej]) e1
theorem Inserting.call {k : Nat} {l : Lv} {r : List Lv} {g : Pm} {i : Nat} {l1 : Lv} {r1 : List Lv} (h0 : ChOK n G0 k (l :: r)) (hp : PV n g) (hf : Fx k g) (h : Inserting n G0 k l r g i l1 r1) {x : Nat} {w : Pm} (hw : wat l x = some w) :
  wat l1 x = some w /\ PV n w /\ PV n (mul w g) /\ Fx k (mul w g) /\ Gen n l1.gs (mul w g):=by
 obtain ⟨hk,hl,_,_⟩:=h0
 obtain ⟨w1,w2,w3,w4⟩:=hl.word _ _ hw
 obtain ⟨v1,v2,v3,v4⟩:=h.ok.2.1.word _ _ (h.le _ _ hw)
 exact ⟨h.le _ _ hw,w1,w1.mul hp,Fx.mul w1 (Nat.le_of_lt hk) w2 hf,v4.mul (by rw [h.gs]; exact List.mem_append.2 (.inr (.head _)))⟩
theorem Reaching.call {k : Nat} {l : Lv} {r : List Lv} {p g : Pm} {i : Nat} {l1 : Lv} {r1 : List Lv} (h0 : ChOK n G0 k (l :: r)) (hp : PV n p) (hf : Fx k p) (hg : Gen n l.gs p) (h : Reaching n G0 k l r p i l1 r1) (hi : l.gs[i]? = some g) :
  PV n g /\ PV n (mul p g) /\ Fx k (mul p g) /\ Gen n l1.gs (mul p g):=by
 obtain ⟨hk,hl,_,_⟩:=h0
 have hm:=List.mem_of_getElem? hi
 obtain ⟨g1,g2,_⟩:=hl.gen g hm
 refine ⟨g1,hp.mul g1,Fx.mul hp (Nat.le_of_lt hk) hf g2,?_⟩
 rw [h.gs]; exact hg.mul hm
theorem Reaching.orb_gt {k:Nat} {l:Lv} {r:List Lv} (h0:ChOK n G0 k (l :: r)) {p:Pm} (hp:PV n p) (hf:Fx k p) (hg:Gen n l.gs p) (hx:wat l (ap p k) = none) {i:Nat} {l1:Lv} {r1:List Lv} (h:Reaching n G0 k l r p i l1 r1):l.orb.length < l1.orb.length:=by
 obtain ⟨hk,hl,_,_⟩:=h0
 have:=LvLe.orb_le (hl.setWord hk hp hf hg hx).1 h.ok.2.1 h.le
 have e:(setWord l (ap p k) p).orb.length = l.orb.length + 1:=by simp [setWord]
 omega
def lv0 (n i:Nat):Lv:=⟨[i],(List.replicate n none).set i (some (one n)), []⟩
theorem wat_lv0 {n i x:Nat} (hi:i < n):wat (lv0 n i) x = if x = i then some (one n) else none:=by
 unfold wat lv0
 by_cases e:x = i
 ·subst e; simp [hi]
 ·rw [if_neg e]; simp only [List.getElem?_set_ne (fun h => e h.symm)]
  by_cases hx:x < n
  ·simp [hx]
  ·simp [hx]
theorem lv0_ok {i:Nat} (hi:i < n):LvOK n G0 i (lv0 n i):=by
 refine ⟨by simp [lv0],by rw [wat_lv0 hi,if_pos rfl],fun x w e => ?_,fun x => ?_,List.pairwise_singleton _ _,fun g hg => (by cases hg),List.Pairwise.nil⟩
 ·rw [wat_lv0 hi] at e
  by_cases ex:x = i
  ·rw [if_pos ex] at e; cases e; exact ⟨PV.one n,Fx.one (Nat.le_of_lt hi),by rw [ap_one hi,ex], .one⟩
  ·rw [if_neg ex] at e; cases e
 ·rw [wat_lv0 hi]
  show x ∈ [i] ↔ _
  rw [List.mem_singleton]
  by_cases ex:x = i
  ·simp [ex]
  ·simp [ex]
def ch0 (n:Nat):Nat -> Nat -> List Lv
 | _,0 => []
 | k,m + 1 => lv0 n k :: ch0 n (k + 1) m
theorem ch0_ok:∀ {m k:Nat},k + m = n -> ChOK n G0 k (ch0 n k m) /\ Cl k (ch0 n k m) /\ hg (ch0 n k m) = []
 | 0,k,h => ⟨h,trivial,rfl⟩
 | m + 1,k,h => by
  obtain ⟨a,b,c⟩:=ch0_ok (m:=m) (k:=k + 1) (by omega)
  refine ⟨⟨by omega,lv0_ok (by omega),fun g h2 => ?_,a⟩,⟨fun x w _ g h2 => ?_,b⟩,rfl⟩
  ·have h3:g ∈ hg (ch0 n (k + 1) m):=h2
   rw [c] at h3; cases h3
  ·cases h2
end
end Go.GT
namespace Go.GT
def place (l:List Pm) (p:Pm):Nat:=(l.takeWhile fun q => lex q p).length
theorem place_le {p:Pm}:∀ {l:List Pm},place l p <= l.length
 | [] => Nat.le_refl _
 | q :: l => by
  unfold place
  rw [List.takeWhile_cons]
  split
  ·have:=place_le (l:=l) (p:=p)
   unfold place at this
   simp only [List.length_cons]; omega
  ·simp
theorem place_of {p:Pm}:∀ {l:List Pm} {k:Nat},k <= l.length -> (∀ i q,i < k -> l[i]? = some q -> lex q p = true) -> (∀ q,l[k]? = some q -> lex q p = false) -> place l p = k
 | [],k,hk,_,_ => by simp at hk; subst hk; rfl
 | q :: l,0,_,_,h2 => by
  have:=h2 q rfl
  simp [place,this]
 | q :: l,k + 1,hk,h1,h2 => by
  have hq:=h1 0 q (by omega) rfl
  have ih:=place_of (p:=p) (l:=l) (k:=k) (by simpa using hk) (fun i r hi hr => h1 (i + 1) r (by omega) (by simpa using hr)) (fun r hr => h2 r (by simpa using hr))
  unfold place at ih ⊢
  rw [List.takeWhile_cons,if_pos hq,List.length_cons,ih]
theorem place_before {p:Pm}:∀ {l:List Pm} {i:Nat} {q:Pm},i < place l p -> l[i]? = some q -> lex q p = true
 | [],i,q,h,_ => by simp [place] at h
 | r :: l,i,q,h,hq => by
  unfold place at h
  rw [List.takeWhile_cons] at h
  split at h
  ·rename_i hr
   cases i with
   | zero => simp at hq; subst hq; exact hr
   | succ i =>
    refine place_before (l:=l) (i:=i) ?_ (by simpa using hq)
    unfold place; simpa using h
  ·simp at h
theorem place_at {p:Pm}:∀ {l:List Pm} {q:Pm},l[place l p]? = some q -> lex q p = false
 | [],q,h => by simp [place] at h
 | r :: l,q,h => by
  unfold place at h
  rw [List.takeWhile_cons] at h
  split at h
  ·rename_i hr
   refine place_at (l:=l) ?_
   unfold place; simpa using h
  ·rename_i hr
   simp at h; subst h
   simpa using hr
theorem Asc.lt {l:List Pm} (h:Asc l) {i j:Nat} {a b:Pm} (hij:i < j) (ha:l[i]? = some a) (hb:l[j]? = some b):lex a b = true:=by
 obtain ⟨h1,e1⟩:=List.getElem?_eq_some_iff.1 ha
 obtain ⟨h2,e2⟩:=List.getElem?_eq_some_iff.1 hb
 have:=List.pairwise_iff_getElem.1 h i j h1 h2 hij
 rwa [e1,e2] at this
theorem Asc.mem_iff {l:List Pm} (h:Asc l) {p:Pm}:p ∈ l ↔ l[place l p]? = some p:=by
 constructor
 ·intro hp
  obtain ⟨j,hj,ej⟩:=List.mem_iff_getElem.1 hp
  have hj':l[j]? = some p:=by rw [List.getElem?_eq_getElem hj,ej]
  have:place l p = j:=place_of (Nat.le_of_lt hj) (fun i q hi hq => h.lt hi hq hj') fun q hq => by
   rw [hj'] at hq; cases hq; exact lex_irr _
  rw [this]; exact hj'
 ·exact fun hp => List.mem_of_getElem? hp
theorem Asc.place_get {l:List Pm} (h:Asc l) {p:Pm} {j:Nat} (hj:l[j]? = some p):place l p = j:=by
 have hlt:=(List.getElem?_eq_some_iff.1 hj).1
 exact place_of (Nat.le_of_lt hlt) (fun i q hi hq => h.lt hi hq hj) fun q hq => by
  rw [hj] at hq; cases hq; exact lex_irr _
def putL (l:List Pm) (p:Pm):List Pm:=l.take (place l p) ++ p :: l.drop (place l p)
theorem mem_putL {l:List Pm} {p q:Pm}:q ∈ putL l p ↔ q = p \/ q ∈ l:=by
 unfold putL
 rw [List.mem_append,List.mem_cons]
 have:q ∈ l ↔ q ∈ l.take (place l p) \/ q ∈ l.drop (place l p):=by rw [<- List.mem_append,List.take_append_drop]
 rw [this]
 constructor
 ·rintro (h | h | h)
  ·exact .inr (.inl h)
  ·exact .inl h
  ·exact .inr (.inr h)
 ·rintro (h | h | h)
  ·exact .inr (.inl h)
  ·exact .inl h
  ·exact .inr (.inr h)
theorem length_putL {l:List Pm} {p:Pm}:(putL l p).length = l.length + 1:=by
 have:=place_le (l:=l) (p:=p)
 unfold putL; simp; omega
theorem Asc.putL {l:List Pm} (h:Asc l) {p:Pm} (hp:p ∉ l):Asc (putL l p):=by
 have hb:∀ a ∈ l.take (place l p),lex a p = true:=fun a ha => by
  obtain ⟨i,hi,ei⟩:=List.mem_iff_getElem.1 ha
  have hi':i < place l p:=by simp at hi; omega
  refine place_before (l:=l) hi' ?_
  rw [List.getElem_take] at ei
  rw [List.getElem?_eq_getElem (by simp at hi; omega),ei]
 have ha':∀ b ∈ l.drop (place l p),lex p b = true:=fun b hb => by
  obtain ⟨i,hi,ei⟩:=List.mem_iff_getElem.1 hb
  rw [List.getElem_drop] at ei
  have hlt:place l p < l.length:=by simp at hi; omega
  have h0:l[place l p]? = some l[place l p]:=List.getElem?_eq_getElem hlt
  have h1:=place_at h0
  have hle:∀ c,c ∈ l -> lex c p = false -> lex p c = true:=fun c hc e => by
   cases e2:lex p c with
   | true => rfl
   | false => exact absurd (lex_total e e2 ▸ hc) hp
  cases i with
  | zero => simp at ei; subst ei; exact hle _ (List.getElem_mem _) h1
  | succ i =>
   have h2:l[place l p + (i + 1)]? = some b:=by rw [List.getElem?_eq_getElem (by simp at hi; omega),ei]
   exact lex_trans (hle _ (List.getElem_mem _) h1) (h.lt (by omega) h0 h2)
 refine List.pairwise_append.2 ⟨List.Pairwise.sublist (List.take_sublist _ _) h,List.pairwise_cons.2 ⟨ha',List.Pairwise.sublist (List.drop_sublist _ _) h⟩,fun a ha b hb' => ?_⟩
 rcases List.mem_cons.1 hb' with e | e
 ·subst e; exact hb a ha
 ·exact lex_trans (hb a ha) (ha' b e)
structure IsEl (n:Nat) (S:List Pm) (l:List Pm):Prop where
 asc:Asc l
 mem:∀ p,p ∈ l ↔ Gen n S p
theorem IsEl.unique {n:Nat} {S l l':List Pm} (h:IsEl n S l) (k:IsEl n S l'):l = l':=h.asc.unique k.asc fun p => by rw [h.mem,k.mem]
structure BFS (n:Nat) (S all work:List Pm) (i k:Nat):Prop where
 asc:Asc all
 mem:∀ p,p ∈ all ↔ p ∈ work
 gen:∀ p ∈ work,Gen n S p
 one:one n ∈ work
 nd:work.Nodup
 done:∀ j w,j < i -> work[j]? = some w -> ∀ s ∈ S,mul w s ∈ work
 part:∀ w,work[i]? = some w -> ∀ j s,j < k -> S[j]? = some s -> mul w s ∈ work
section
variable {n:Nat} {S all work:List Pm} {i k:Nat} {w s:Pm}
theorem BFS.len (h:BFS n S all work i k):all.length = work.length :=
 Nat.le_antisymm (nodup_le h.asc.nodup fun x hx => (h.mem x).1 hx) (nodup_le h.nd fun x hx => (h.mem x).2 hx)
theorem BFS.start:BFS n S [GT.one n] [GT.one n] 0 0 :=
 ⟨List.pairwise_singleton _ _,fun _ => Iff.rfl,fun p hp => by rw [List.mem_singleton.1 hp]; exact .one, .head _,List.pairwise_singleton _ _,fun j w hj => absurd hj (Nat.not_lt_zero _),fun w _ j s hj => absurd hj (Nat.not_lt_zero _)⟩
theorem BFS.found (h:BFS n S all work i k) (hs:S[k]? = some s) (hw:work[i]? = some w) (hm:mul w s ∈ all):BFS n S all work i (k + 1):=by
 refine ⟨h.asc,h.mem,h.gen,h.one,h.nd,h.done,fun w' hw' j s' hj hs' => ?_⟩
 by_cases e:j = k
 ·subst e; rw [hs] at hs'; cases hs'; rw [hw] at hw'; cases hw'; exact (h.mem _).1 hm
 ·exact h.part w' hw' j s' (by omega) hs'
theorem BFS.new (h:BFS n S all work i k) (hs:S[k]? = some s) (hw:work[i]? = some w) (hm:mul w s ∉ all):BFS n S (putL all (mul w s)) (work ++ [mul w s]) i (k + 1):=by
 have hi:=(List.getElem?_eq_some_iff.1 hw).1
 have get:∀ {j w'},j <= i -> (work ++ [mul w s])[j]? = some w' -> work[j]? = some w':=fun hj e => by
  rwa [List.getElem?_append_left (by omega)] at e
 refine ⟨h.asc.putL hm,fun p => ?_,fun p hp => ?_,List.mem_append.2 (.inl h.one),?_,fun j w' hj hw' s' hs' => List.mem_append.2 (.inl (h.done j w' hj (get (by omega) hw') s' hs')),fun w' hw' j s' hj hs' => ?_⟩
 ·rw [mem_putL,List.mem_append,List.mem_singleton,h.mem]
  exact ⟨fun h => h.symm,fun h => h.symm⟩
 ·rcases List.mem_append.1 hp with e | e
  ·exact h.gen p e
  ·rw [List.mem_singleton.1 e]; exact (h.gen w (List.mem_of_getElem? hw)).mul (List.mem_of_getElem? hs)
 ·refine List.nodup_append.2 ⟨h.nd,List.pairwise_singleton _ _,fun a ha b hb e => ?_⟩
  rw [List.mem_singleton.1 hb] at e
  exact hm ((h.mem _).2 (e ▸ ha))
 ·have hw2:=get (Nat.le_refl _) hw'
  by_cases e:j = k
  ·subst e; rw [hs] at hs'; cases hs'; rw [hw] at hw2; cases hw2; exact List.mem_append.2 (.inr (.head _))
  ·exact List.mem_append.2 (.inl (h.part w' hw2 j s' (by omega) hs'))
theorem BFS.next (h:BFS n S all work i S.length):BFS n S all work (i + 1) 0:=by
 refine ⟨h.asc,h.mem,h.gen,h.one,h.nd,fun j w hj hw s hs => ?_,fun w _ j s hj => absurd hj (Nat.not_lt_zero _)⟩
 by_cases e:j = i
 ·subst e
  obtain ⟨k,hk,ek⟩:=List.mem_iff_getElem.1 hs
  exact h.part w hw k s hk (by rw [List.getElem?_eq_getElem hk,ek])
 ·exact h.done j w (by omega) hw s hs
theorem BFS.finish (h:BFS n S all work work.length 0):IsEl n S all:=by
 refine ⟨h.asc,fun p => ⟨fun hp => h.gen p ((h.mem p).1 hp),fun hp => (h.mem p).2 ?_⟩⟩
 refine Gen.ind (P:=fun q => q ∈ work) h.one (fun x hx s hs => ?_) hp
 obtain ⟨j,hj,ej⟩:=List.mem_iff_getElem.1 hx
 exact h.done j x hj (by rw [List.getElem?_eq_getElem hj,ej]) s hs
theorem BFS.many (h:BFS n S all work i k) (hs:S[k]? = some s) (hw:work[i]? = some w) (hm:mul w s ∉ all) {l:List Pm} (hl:IsEl n S l):all.length < l.length:=by
 have:=nodup_le (h.new hs hw hm).nd fun x hx => (hl.mem x).2 ((h.new hs hw hm).gen x hx)
 rw [h.len]
 simp at this; omega
end
theorem lex_diff:∀ {a b:Pm},a.length = b.length -> lex a b = true -> ∃ k,k < a.length /\ (∀ i,i < k -> ap a i = ap b i) /\ ap a k < ap b k
 | [], [],_,h => by simp [lex] at h
 | [],_ :: _,hl,_ => by simp at hl
 | _ :: _, [],hl,_ => by simp at hl
 | x :: a,y :: b,hl,h => by
  simp only [lex,Bool.or_eq_true,Bool.and_eq_true,decide_eq_true_eq] at h
  rcases h with h | ⟨e,h⟩
  ·exact ⟨0,by simp,fun i hi => absurd hi (Nat.not_lt_zero _),h⟩
  ·obtain ⟨k,h1,h2,h3⟩:=lex_diff (a:=a) (b:=b) (by simpa using hl) h
   refine ⟨k + 1,by simpa using h1,fun i hi => ?_,h3⟩
   cases i with
   | zero => exact e
   | succ i => exact h2 i (by omega)
theorem lex_one {n:Nat} {p:Pm} (hp:PV n p):lex p (one n) = false:=by
 cases e:lex p (one n) with
 | false => rfl
 | true =>
  obtain ⟨k,h1,h2,h3⟩:=lex_diff (by rw [hp.len,(PV.one n).len]) e
  rw [hp.len] at h1
  rw [ap_one h1] at h3
  have h4:=h2 (ap p k) h3
  rw [ap_one (by omega)] at h4
  have:=hp.inj (by omega) h1 h4
  omega
section
variable {n:Nat} {S l:List Pm}
theorem IsEl.pos (h:IsEl n S l):0 < l.length:=List.length_pos_of_mem ((h.mem _).2 .one)
theorem IsEl.first (hS:∀ s ∈ S,PV n s) (h:IsEl n S l):l[0]? = some (one n):=by
 have h1:=h.asc.mem_iff.1 ((h.mem (one n)).2 .one)
 have:place l (one n) = 0:=place_of (Nat.zero_le _) (fun i q hi => absurd hi (Nat.not_lt_zero _)) fun q hq => lex_one (((h.mem q).1 (List.mem_of_getElem? hq)).pv hS)
 rwa [this] at h1
def el (l:List Pm) (i:Nat):Pm:=l.getD i []
theorem el_get {i:Nat} {p:Pm} (h:l[i]? = some p):el l i = p:=by unfold el List.getD; rw [h]; rfl
theorem get_el {i:Nat} (h:i < l.length):l[i]? = some (el l i):=by rw [List.getElem?_eq_getElem h]; unfold el List.getD; rw [List.getElem?_eq_getElem h]; rfl
def op (l:List Pm) (i j:Nat):Nat:=place l (mul (el l i) (el l j))
structure TG (N:Nat) (m:Nat -> Nat -> Nat):Prop where
 pos:0 < N
 cl:∀ i j,i < N -> j < N -> m i j < N
 assoc:∀ i j k,i < N -> j < N -> k < N -> m (m i j) k = m i (m j k)
 l1:∀ i,i < N -> m 0 i = i
 r1:∀ i,i < N -> m i 0 = i
 inv:∀ i,i < N -> ∃ j,j < N /\ m i j = 0 /\ m j i = 0
theorem IsEl.el (hS:∀ s ∈ S,PV n s) (h:IsEl n S l) {i:Nat} (hi:i < l.length):GT.Gen n S (el l i) /\ PV n (el l i):=by
 have:=(h.mem _).1 (List.mem_of_getElem? (get_el hi))
 exact ⟨this,this.pv hS⟩
theorem IsEl.place (h:IsEl n S l) {p:Pm} (hp:GT.Gen n S p):place l p < l.length /\ GT.el l (place l p) = p:=by
 have h1:=h.asc.mem_iff.1 ((h.mem p).2 hp)
 exact ⟨(List.getElem?_eq_some_iff.1 h1).1,el_get h1⟩
theorem IsEl.op (hS:∀ s ∈ S,PV n s) (h:IsEl n S l) {i j:Nat} (hi:i < l.length) (hj:j < l.length):op l i j < l.length /\ GT.el l (op l i j) = mul (GT.el l i) (GT.el l j) :=
 h.place ((h.el hS hi).1.mul' hS (h.el hS hj).1)
theorem IsEl.inj (h:IsEl n S l) {i j:Nat} (hi:i < l.length) (hj:j < l.length) (e:GT.el l i = GT.el l j):i = j:=by
 rw [<- h.asc.place_get (get_el hi),e,h.asc.place_get (get_el hj)]
theorem IsEl.tg (hS:∀ s ∈ S,PV n s) (h:IsEl n S l):TG l.length (GT.op l):=by
 have h0:GT.el l 0 = one n:=el_get (h.first hS)
 refine ⟨h.pos,fun i j hi hj => (h.op hS hi hj).1,fun i j k hi hj hk => ?_,fun i hi => ?_,fun i hi => ?_,fun i hi => ?_⟩
 ·obtain ⟨a1,a2⟩:=h.op hS hi hj
  obtain ⟨b1,b2⟩:=h.op hS hj hk
  refine h.inj (h.op hS a1 hk).1 (h.op hS hi b1).1 ?_
  rw [(h.op hS a1 hk).2,(h.op hS hi b1).2,a2,b2,(h.el hS hi).2.assoc (h.el hS hj).2 (h.el hS hk).2]
 ·refine h.inj (h.op hS h.pos hi).1 hi ?_
  rw [(h.op hS h.pos hi).2,h0,(h.el hS hi).2.one_mul]
 ·refine h.inj (h.op hS hi h.pos).1 hi ?_
  rw [(h.op hS hi h.pos).2,h0,(h.el hS hi).2.mul_one]
 ·obtain ⟨g,p⟩:=h.el hS hi
  obtain ⟨c1,c2⟩:=h.place (g.inv hS)
  refine ⟨GT.place l (GT.inv (GT.el l i)),c1,?_,?_⟩
  ·refine h.inj (h.op hS hi c1).1 h.pos ?_
   rw [(h.op hS hi c1).2,c2,h0,p.mul_inv]
  ·refine h.inj (h.op hS c1 hi).1 h.pos ?_
   rw [(h.op hS c1 hi).2,c2,h0,p.inv_mul]
end
end Go.GT
namespace Go.AM
open Go Go.GT
section
variable {C:CallT} {K:List Fr} {Q:AX -> St -> Prop}
theorem WK_loopI {b:ACode} (I:Nat -> St -> Prop) (N:Nat) (step:∀ k,k <= N -> ∀ s,I k s -> (k < N -> ∀ s',I (k + 1) s' -> WK C (.loop b) K s' Q) -> WK C b (.loop b :: K) s Q):∀ (d k:Nat) (s:St),k + d = N -> I k s -> WK C (.loop b) K s Q
 | 0,k,s,hk,hI => WK_loop (step k (by omega) s hI fun h => absurd h (by omega))
 | d + 1,k,s,hk,hI => WK_loop (step k (by omega) s hI fun _ s' hI' => WK_loopI I N step d (k + 1) s' (by omega) hI')
theorem WK_loopJ {b:ACode} (I:Nat -> St -> Prop) (N:Nat) {s:St} (h0:I 0 s) (step:∀ k,k <= N -> ∀ s,I k s -> (k < N -> ∀ s',I (k + 1) s' -> WK C (.loop b) K s' Q) -> WK C b (.loop b :: K) s Q):WK C (.loop b) K s Q :=
 WK_loopI I N step N 0 s (by omega) h0
theorem WK_loopM {b:ACode} (I:Nat -> St -> Prop) (step:∀ m s,I m s -> (∀ m' s',m' < m -> I m' s' -> WK C (.loop b) K s' Q) -> WK C b (.loop b :: K) s Q):∀ (m:Nat) (s:St),I m s -> WK C (.loop b) K s Q:=fun m => by
 induction m using Nat.strongRecOn with
 | ind m ih => intro s hI; exact WK_loop (step m s hI fun m' s' hm hI' => ih m' hm s' hI')
end
section
variable {e:EqK} {k:IntKind} {a b:Int}
theorem lssT (h:a < b):bin .lss e (.int k a) (.int k b) = some (.bool true):=by rw [lss_int,decide_eq_true h]
theorem lssF (h:b <= a):bin .lss e (.int k a) (.int k b) = some (.bool false):=by rw [lss_int,decide_eq_false (by omega)]
theorem gtrT (h:b < a):bin .gtr e (.int k a) (.int k b) = some (.bool true):=by rw [gtr_int,decide_eq_true h]
theorem gtrF (h:a <= b):bin .gtr e (.int k a) (.int k b) = some (.bool false):=by rw [gtr_int,decide_eq_false (by omega)]
theorem leqT (h:a <= b):bin .leq e (.int k a) (.int k b) = some (.bool true):=by rw [leq_int,decide_eq_true h]
theorem leqF (h:b < a):bin .leq e (.int k a) (.int k b) = some (.bool false):=by rw [leq_int,decide_eq_false (by omega)]
theorem geqT (h:b <= a):bin .geq e (.int k a) (.int k b) = some (.bool true):=by rw [geq_int,decide_eq_true h]
theorem geqF (h:a < b):bin .geq e (.int k a) (.int k b) = some (.bool false):=by rw [geq_int,decide_eq_false (by omega)]
theorem eqlT (h:a = b):bin .eql e (.int k a) (.int k b) = some (.bool true):=by rw [eql_int,decide_eq_true h]
theorem eqlF (h:a ≠ b):bin .eql e (.int k a) (.int k b) = some (.bool false):=by rw [eql_int,decide_eq_false h]
theorem neqT (h:a ≠ b):bin .neq e (.int k a) (.int k b) = some (.bool true):=by rw [neq_int,decide_eq_true h]
theorem neqF (h:a = b):bin .neq e (.int k a) (.int k b) = some (.bool false):=by rw [neq_int,decide_eq_false (by omega)]
theorem add1N {n:Nat} (h:n < 4611686018427387904):bin .add e (.int .i64 (n:Int)) (.int .i64 1) = some (.int .i64 ((n + 1:Nat):Int)):=by
 rw [add_i64 (by omega) (by omega)]; rfl
theorem addN {n m:Nat} (h:n + m < 4611686018427387904):bin .add e (.int .i64 (n:Int)) (.int .i64 (m:Int)) = some (.int .i64 ((n + m:Nat):Int)):=by
 rw [add_i64 (by omega) (by omega)]; rfl
theorem mulN {n m:Nat} (h:n * m < 4611686018427387904):bin .mul e (.int .i64 (n:Int)) (.int .i64 (m:Int)) = some (.int .i64 ((n * m:Nat):Int)):=by
 have:((n * m:Nat):Int) = (n:Int) * (m:Int):=by simp
 rw [mul_i64 (by omega) (by omega),this]
theorem nilsEq:bin .eql (.ref 1) .nils .nils = some (.bool true):=rfl
theorem sliceEq {i o n:Nat} {c:ACap}:bin .eql (.ref 1) (.slice i o n c) .nils = some (.bool false):=rfl
theorem sliceNe {i o n:Nat} {c:ACap}:bin .neq (.ref 1) (.slice i o n c) .nils = some (.bool true):=rfl
end
def nilckV (v:AV):Option AV:=match v with
 | .ptr i o => some (.ptr i o)
 | .fn (.func f) a b => some (.fn (.func f) a b)
 | .fn (.yield l) a b => some (.fn (.yield l) a b)
 | _ => none
def faddrV (off:Nat) (v:AV):Option AV:=match v with | .ptr i o => some (.ptr i (o + off)) | _ => none
def bslV (v:AV) (h:AHeap):Option (AObj × AV):=if v.cells.length = 1 then some (.cells v.cells true, .slice h.next 0 1 (.exact 1)) else none
noncomputable def mkslV (bytes:Nat) (z:List AV) (l c:AV) (h:AHeap):Option (AObj × AV):=match l,c with
 | .int _ l, .int _ c => if 0 <= l /\ l <= c /\ c * bytes <= 140737488355328 then some (.cells (repl c.toNat z) true, .slice h.next 0 l.toNat (.exact c.toNat)) else none
 | _,_ => none
section
variable {tm:List AV} {h:AHeap}
theorem evalQ_nilckV (x:AOpd):evalQ (.nilck x) tm h = nilckV (ev tm x):=rfl
theorem nilckV_ptr {i o:Nat}:nilckV (.ptr i o) = some (.ptr i o):=rfl
theorem evalQ_faddrV (off:Nat) (x:AOpd):evalQ (.faddr off x) tm h = faddrV off (ev tm x):=rfl
theorem faddrV_ptr {i o off:Nat}:faddrV off (.ptr i o) = some (.ptr i (o + off)):=rfl
theorem evalQ_mkfnV (f:Fn) (fs cs:List AOpd):evalQ (.mkfn f fs cs) tm h = some (.fn f (evs tm fs) (evs tm cs)):=rfl
theorem evalA_boxV (x:AOpd):evalA (.box x) tm h = some (.cells (ev tm x).cells true, .ptr h.next 0):=rfl
theorem evalA_allocV (z:List AV):evalA (.alloc z) tm h = some (.cells z true, .ptr h.next 0):=rfl
theorem evalA_mkmapV:evalA .mkmap tm h = some (.map [], .map h.next):=rfl
theorem evalA_mkslV (sz bytes:Nat) (z:List AV) (l c:AOpd):evalA (.mkslice sz bytes z l c) tm h = mkslV bytes z (ev tm l) (ev tm c) h:=rfl
theorem mkslV_nat {bytes n:Nat} {z:List AV} {k:IntKind} (hb:n * bytes <= 140737488355328):mkslV bytes z (.int k (n:Int)) (.int k (n:Int)) h = some (.cells (repl n z) true, .slice h.next 0 n (.exact n)):=by
 show (if 0 <= (n:Int) /\ (n:Int) <= (n:Int) /\ (n:Int) * (bytes:Int) <= 140737488355328 then _ else _) = _
 have:(n:Int) * (bytes:Int) = ((n * bytes:Nat):Int):=by simp
 rw [if_pos ⟨by omega,by omega,by omega⟩,Int.toNat_natCast]
theorem evalA_bslV {z:AV} (x:AOpd):evalA (.bslice 1 1 [z] [(0,x)]) tm h = bslV (ev tm x) h:=by
 unfold bslV
 simp only [evalA,fillsS,Nat.zero_mul]
 generalize (ev tm x).cells = c
 by_cases hc:c.length = 1
 ·obtain ⟨y,rfl⟩:=List.length_eq_one_iff.1 hc
  rw [if_pos hc,if_pos hc]
  simp only [lay_cons,lay_zero]
 ·rw [if_neg hc,if_neg hc]
theorem bslV_int {k:IntKind} {n:Int}:bslV (.int k n) h = some (.cells [.int k n] true, .slice h.next 0 1 (.exact 1)):=rfl
theorem bslV_ptr {i o:Nat}:bslV (.ptr i o) h = some (.cells [.ptr i o] true, .slice h.next 0 1 (.exact 1)):=rfl
theorem bslV_sc {v:AV} (hv:v.scalar = true):bslV v h = some (.cells [v] true, .slice h.next 0 1 (.exact 1)):=by
 unfold bslV; rw [scalar_cells hv]; rfl
theorem recheck_load {d:Option Nat} {n:Option Nat} {x:AOpd} {h':AHeap} {v v':AV} (hv:loadV n (ev tm x) h' = some v') (e:v' = v):recheck ⟨d, .load n x,none⟩ tm h v h' = true:=by
 show (match loadV n (ev tm x) h' with | some v' => AV.beq v' v | none => false) = true
 rw [hv,e]; exact AV.beq_refl v
end
theorem cells_agg {cs:List AV}:(AV.agg cs).cells = cs:=rfl
def RSe:=PLift.up (And.intro @RSd.down (And.intro @WOs_nilck (And.intro @WOs_faddr (And.intro @WOs_box (And.intro @WOs_mkfn (And.intro @WOs_lookup (And.intro @WOs_mupd (And.intro @WOs_mkmap (And.intro @WOs_iface (And.intro @WOs_copy (And.intro @WOs_index (And.intro @WDs_nilck (And.intro @WDs_faddr (And.intro @WDs_load (And.intro @WDs_iaddr (And.intro @WDs_len (And.intro @WDs_extr (And.intro @WDs_field (And.intro @WDs_un (And.intro @WDs_toInt (And.intro @WDs_pick (And.intro @WDs_mkfn (And.intro @WDs_store (And.intro @evalQ_nilckV (And.intro @nilckV_ptr (And.intro @evalQ_faddrV (And.intro @faddrV_ptr (And.intro @evalQ_mkfnV (And.intro @evalA_boxV (And.intro @evalA_allocV (And.intro @evalA_mkmapV (And.intro @evalA_mkslV (And.intro @evalA_bslV (And.intro @bslV_int (And.intro @bslV_ptr (And.intro @evalE_store (And.intro @nilsEq (And.intro @sliceEq (And.intro @sliceNe (And.intro @lssT (And.intro @lssF (And.intro @gtrT (And.intro @gtrF (And.intro @leqT (And.intro @leqF (And.intro @geqT (And.intro @geqF (And.intro @eqlT (And.intro @eqlF (And.intro @neqT (And.intro @neqF (And.intro @add1N (And.intro @cells_agg (And.intro @Nat.zero_add @Nat.add_zero))))))))))))))))))))))))))))))))))))))))))))))))))))))
def pc (p:Pm):List AV:=p.map fun x:Nat => .int .i64 (x:Int)
theorem pc_len {p:Pm}:(pc p).length = p.length:=List.length_map _
theorem pc_get {p:Pm} {i:Nat} (hi:i < p.length):(pc p)[i]? = some (.int .i64 (ap p i:Int)):=by
 unfold pc; rw [List.getElem?_map,get?_ap hi]; rfl
theorem pc_inj {p q:Pm} (h:pc p = pc q):p = q:=by
 unfold pc at h
 refine List.map_inj_right (fun a b e => ?_) |>.1 h
 injection e with _ e; omega
abbrev PmAt (h:AHeap) (v:AV) (p:Pm):Prop:=SlAt h v (pc p)
theorem PmAt.gro {h h':AHeap} {v:AV} {p:Pm} (s:PmAt h v p) (g:Gro h h'):PmAt h' v p:=SlAt.gro s g
theorem PmAt.chg {F:Nat -> Prop} {h h':AHeap} {v:AV} {p:Pm} (s:PmAt h v p) (k:Chg F h h') (hF:∀ i,oid v = some i -> ¬ F i):PmAt h' v p:=SlAt.chg s k hF
theorem PmAt.iaddr {h:AHeap} {v:AV} {p:Pm} (s:PmAt h v p) {k:Nat} {q:IntKind} (hk:k < p.length):iaddrV 1 v (.int q (k:Int)) = some (eaddr v k):=SlAt.iaddr s (by rw [pc_len]; exact hk)
theorem PmAt.load {h:AHeap} {v:AV} {p:Pm} (s:PmAt h v p) {k:Nat} (hk:k < p.length):loadV none (eaddr v k) h = some (.int .i64 (ap p k:Int)):=SlAt.load s (pc_get hk)
theorem PmAt.len {h:AHeap} {v:AV} {p:Pm} (s:PmAt h v p) {h':AHeap}:lenV 1 v h' = some (.int .i64 (p.length:Int)):=by rw [SlAt.len s,pc_len]
theorem tab_at {h:AHeap} {i:Nat} {c:List AV} {r:Bool} (hi:i < h.next) (hg:h.get i = some (.cells c r)) {n:Nat} (hn:c.length = n) {cap:ACap} (hc:capOK 1 n cap):SlAt h (.slice i 0 n cap) c :=
 .inr ⟨i,0,cap,c,by rw [hn],hi,fun _ => ⟨cellsOf_get hg,cut_all c⟩,by rw [hn]; exact hc⟩
def tbl (n:Nat) (f:Nat -> AV):List AV:=(List.range n).map f
theorem tbl_len {n:Nat} {f:Nat -> AV}:(tbl n f).length = n:=by unfold tbl; rw [List.length_map,List.length_range]
theorem tbl_get {n:Nat} {f:Nat -> AV} {i:Nat} (hi:i < n):(tbl n f)[i]? = some (f i):=by
 unfold tbl; rw [List.getElem?_map,List.getElem?_range hi]; rfl
theorem tbl_set {n:Nat} {f:Nat -> AV} {i:Nat} {v:AV}:(tbl n f).set i v = tbl n fun j => if j = i then v else f j:=by
 refine List.ext_getElem? fun j => ?_
 by_cases hj:j < n
 ·rw [tbl_get hj]
  by_cases e:j = i
  ·subst e; rw [if_pos rfl,List.getElem?_set_self (by rw [tbl_len]; exact hj)]
  ·rw [if_neg e,List.getElem?_set_ne (fun h => e h.symm),tbl_get hj]
 ·rw [List.getElem?_eq_none (by rw [List.length_set,tbl_len]; omega),List.getElem?_eq_none (by rw [tbl_len]; omega)]
theorem tbl_congr {n:Nat} {f g:Nat -> AV} (h:∀ i,i < n -> f i = g i):tbl n f = tbl n g:=by
 unfold tbl; exact List.map_congr_left fun i hi => h i (List.mem_range.1 hi)
theorem tbl_repl {v:AV}:∀ n:Nat,repl n [v] = tbl n fun _ => v
 | 0 => rfl
 | n + 1 => by
  have e:repl (n + 1) [v] = v :: repl n [v]:=rfl
  rw [e,tbl_repl n]
  unfold tbl; rw [List.range_succ_eq_map]; simp
theorem tbl_pc {n:Nat} {p:Pm} (hl:p.length = n):pc p = tbl n fun i => .int .i64 (ap p i:Int):=by
 refine List.ext_getElem? fun j => ?_
 by_cases hj:j < n
 ·rw [tbl_get hj,pc_get (by omega)]
 ·rw [List.getElem?_eq_none (by rw [pc_len]; omega),List.getElem?_eq_none (by rw [tbl_len]; omega)]
theorem stV_tbl {h:AHeap} {i k n:Nat} {f:Nat -> AV} {x:AV} (hg:h.get i = some (.cells (tbl n f) true)) (hk:k < n) (hx:x.scalar = true):stV 1 (.ptr i k) x h = some (aundef,h.set i (.cells (tbl n fun j => if j = k then x else f j) true)):=by
 rw [stV_at hg (by rw [tbl_len]; exact hk) hx,tbl_set]
theorem box_ld {h h':AHeap} {c:List AV} {r:Bool} (g:Gro (h.push (.cells c r)) h') {o:Nat} {x:AV} (hx:c[o]? = some x):loadV none (.ptr h.next o) h' = some x :=
 loadV_get (by rw [g.same _ (Nat.lt_succ_self _)]; exact AHeap.get_push_same h _) hx
theorem box_all {h h':AHeap} {c:List AV} {r:Bool} (g:Gro (h.push (.cells c r)) h') {n:Nat} (hn:c.length = n):loadV (some n) (.ptr h.next 0) h' = some (.agg c):=by
 show (match cellsOf h' h.next with | some c => fit (some n) 0 c | none => none) = _
 rw [g.cells (Nat.lt_succ_self _),cellsOf_push]
 show (match cut c 0 n with | some l => some (AV.agg l) | none => none) = _
 rw [<- hn,cut_all]
def NoI (I:Oracle):Prop:=∀ f a h,f ≠ 159 -> f ≠ 171 -> f ≠ 196 -> f ≠ 147 -> I f a h = none
theorem NoI.at {I:Oracle} (h:NoI I) {f:Nat} (a:List AV) (hp:AHeap) (h1:f ≠ 159) (h2:f ≠ 171) (h3:f ≠ 196) (h4:f ≠ 147:=by decide):I f a hp = none:=h f a hp h1 h2 h3 h4
end Go.AM
namespace Go.GT
inductive GenT (m:Nat -> Nat -> Nat) (S:List Nat):Nat -> Prop
 | one:GenT m S 0
 | mul {a s:Nat} (h:GenT m S a) (hs:s ∈ S):GenT m S (m a s)
structure Sub (N:Nat) (m:Nat -> Nat -> Nat) (H:List Nat):Prop where
 asc:H.Pairwise (· < ·)
 lt:∀ x ∈ H,x < N
 one:0 ∈ H
 cl:∀ x ∈ H, ∀ y ∈ H,m x y ∈ H
theorem ascN_unique {H K:List Nat} (h:H.Pairwise (· < ·)) (k:K.Pairwise (· < ·)) (e:∀ x,x ∈ H ↔ x ∈ K):H = K :=
 asc_unique (R:=(· < ·)) (fun a => Nat.lt_irrefl a) (fun _ _ _ => Nat.lt_trans) h k e
theorem ascN_nodup {H:List Nat} (h:H.Pairwise (· < ·)):H.Nodup:=List.Pairwise.imp (fun hab e => by subst e; exact Nat.lt_irrefl _ hab) h
noncomputable def those (N:Nat) (p:Nat -> Prop):List Nat:=open Classical in (List.range N).filter fun x => decide (p x)
theorem mem_those {N:Nat} {p:Nat -> Prop} {x:Nat}:x ∈ those N p ↔ x < N /\ p x:=by
 unfold those; rw [List.mem_filter,List.mem_range]; simp
theorem those_asc {N:Nat} {p:Nat -> Prop}:(those N p).Pairwise (· < ·):=List.Pairwise.sublist (List.filter_sublist) List.pairwise_lt_range
noncomputable def clo (N:Nat) (m:Nat -> Nat -> Nat) (S:List Nat):List Nat:=those N (GenT m S)
section
variable {N:Nat} {m:Nat -> Nat -> Nat} {S H K:List Nat}
theorem Sub.nd (h:Sub N m H):H.Nodup:=ascN_nodup h.asc
theorem Sub.ext (h:Sub N m H) (k:Sub N m K) (e:∀ x,x ∈ H ↔ x ∈ K):H = K:=ascN_unique h.asc k.asc e
theorem GenT.lt (hT:TG N m) (hS:∀ s ∈ S,s < N) {x:Nat} (h:GenT m S x):x < N:=by
 induction h with
 | one => exact hT.pos
 | mul h hs ih => exact hT.cl _ _ ih (hS _ hs)
theorem mem_clo (hT:TG N m) (hS:∀ s ∈ S,s < N) {x:Nat}:x ∈ clo N m S ↔ GenT m S x:=by
 unfold clo; rw [mem_those]; exact ⟨fun h => h.2,fun h => ⟨h.lt hT hS,h⟩⟩
theorem GenT.mul' (hT:TG N m) (hS:∀ s ∈ S,s < N) {x y:Nat} (hx:GenT m S x) (hy:GenT m S y):GenT m S (m x y):=by
 induction hy with
 | one => rw [hT.r1 _ (hx.lt hT hS)]; exact hx
 | mul h hs ih => rw [<- hT.assoc _ _ _ (hx.lt hT hS) (h.lt hT hS) (hS _ hs)]; exact ih.mul hs
theorem GenT.of (hT:TG N m) (hS:∀ s ∈ S,s < N) {s:Nat} (hs:s ∈ S):GenT m S s:=by
 have:=GenT.mul (m:=m) (S:=S) .one hs
 rwa [hT.l1 _ (hS s hs)] at this
theorem clo_sub (hT:TG N m) (hS:∀ s ∈ S,s < N):Sub N m (clo N m S) :=
 ⟨those_asc,fun _ hx => (mem_those.1 hx).1,(mem_clo hT hS).2 .one,fun _ hx _ hy => (mem_clo hT hS).2 (((mem_clo hT hS).1 hx).mul' hT hS ((mem_clo hT hS).1 hy))⟩
theorem Sub.gen (h:Sub N m H) (hS:∀ s ∈ S,s ∈ H) {x:Nat} (hx:GenT m S x):x ∈ H:=by
 induction hx with
 | one => exact h.one
 | mul _ hs ih => exact h.cl _ ih _ (hS _ hs)
theorem clo_le (h:Sub N m H) (hS:∀ s ∈ S,s ∈ H) {x:Nat} (hx:x ∈ clo N m S):x ∈ H:=h.gen hS (mem_those.1 hx).2
theorem le_clo (hT:TG N m) (hS:∀ s ∈ S,s < N) {s:Nat} (hs:s ∈ S):s ∈ clo N m S:=(mem_clo hT hS).2 (.of hT hS hs)
theorem clo_eq (hT:TG N m) (hS:∀ s ∈ S,s < N) (h:Sub N m H) (h1:∀ s ∈ S,s ∈ H) (h2:∀ x ∈ H,GenT m S x):H = clo N m S :=
 h.ext (clo_sub hT hS) fun x => ⟨fun hx => (mem_clo hT hS).2 (h2 x hx),fun hx => clo_le h h1 hx⟩
theorem clo_self (hT:TG N m) (h:Sub N m H):clo N m H = H:=((clo_eq hT h.lt h (fun _ hs => hs) fun _ hx => .of hT h.lt hx)).symm
theorem clo_congr (hT:TG N m) {S':List Nat} (hS:∀ s ∈ S,s < N) (hS':∀ s ∈ S',s < N) (h1:∀ s ∈ S,s ∈ clo N m S') (h2:∀ s ∈ S',s ∈ clo N m S):clo N m S = clo N m S' :=
 (clo_sub hT hS).ext (clo_sub hT hS') fun _ => ⟨fun hx => clo_le (clo_sub hT hS') h1 hx,fun hx => clo_le (clo_sub hT hS) h2 hx⟩
theorem sub_zero (hT:TG N m):Sub N m [0] :=
 ⟨List.pairwise_singleton _ _,fun x hx => by rw [List.mem_singleton.1 hx]; exact hT.pos, .head _,fun x hx y hy => by
  rw [List.mem_singleton.1 hx,List.mem_singleton.1 hy,hT.l1 _ hT.pos]; exact .head _⟩
theorem sub_all (hT:TG N m):Sub N m (List.range N) :=
 ⟨List.pairwise_lt_range,fun _ hx => List.mem_range.1 hx,List.mem_range.2 hT.pos,fun x hx y hy => List.mem_range.2 (hT.cl x y (List.mem_range.1 hx) (List.mem_range.1 hy))⟩
noncomputable def ti (N:Nat) (m:Nat -> Nat -> Nat) (x:Nat):Nat:=open Classical in if h:∃ y,y < N /\ m x y = 0 /\ m y x = 0 then Classical.choose h else 0
theorem ti_spec (hT:TG N m) {x:Nat} (hx:x < N):ti N m x < N /\ m x (ti N m x) = 0 /\ m (ti N m x) x = 0:=by
 have h:=hT.inv x hx
 unfold ti
 rw [dif_pos h]
 exact Classical.choose_spec h
theorem TG.cancel_r (hT:TG N m) {x y z:Nat} (hx:x < N) (hy:y < N) (hz:z < N) (e:m x z = m y z):x = y:=by
 obtain ⟨i1,i2,i3⟩:=ti_spec hT hz
 have:=congrArg (fun a => m a (ti N m z)) e
 rwa [hT.assoc _ _ _ hx hz i1,hT.assoc _ _ _ hy hz i1,i2,hT.r1 _ hx,hT.r1 _ hy] at this
theorem TG.cancel_l (hT:TG N m) {x y z:Nat} (hx:x < N) (hy:y < N) (hz:z < N) (e:m z x = m z y):x = y:=by
 obtain ⟨i1,i2,i3⟩:=ti_spec hT hz
 have:=congrArg (fun a => m (ti N m z) a) e
 rwa [<- hT.assoc _ _ _ i1 hz hx, <- hT.assoc _ _ _ i1 hz hy,i3,hT.l1 _ hx,hT.l1 _ hy] at this
theorem ti_eq (hT:TG N m) {x y:Nat} (hx:x < N) (hy:y < N) (e:m x y = 0):y = ti N m x :=
 hT.cancel_l hy (ti_spec hT hx).1 hx (by rw [e,(ti_spec hT hx).2.1])
def pwT (m:Nat -> Nat -> Nat) (x:Nat):Nat -> Nat
 | 0 => 0
 | k + 1 => m (pwT m x k) x
theorem pwT_lt (hT:TG N m) {x:Nat} (hx:x < N):∀ k,pwT m x k < N
 | 0 => hT.pos
 | k + 1 => hT.cl _ _ (pwT_lt hT hx k) hx
theorem pwT_add (hT:TG N m) {x:Nat} (hx:x < N) (i:Nat):∀ j,pwT m x (i + j) = m (pwT m x i) (pwT m x j)
 | 0 => (hT.r1 _ (pwT_lt hT hx i)).symm
 | j + 1 => by
  show m (pwT m x (i + j)) x = m _ (m _ x)
  rw [pwT_add hT hx i j,hT.assoc _ _ _ (pwT_lt hT hx i) (pwT_lt hT hx j) hx]
theorem ti_pw (hT:TG N m) {x:Nat} (hx:x < N):∃ k,ti N m x = pwT m x k:=by
 obtain ⟨i,j,hij,e⟩:=repeats (pwT m x) (List.range N) fun i => List.mem_range.2 (pwT_lt hT hx i)
 obtain ⟨d,rfl⟩:∃ d,j = i + (d + 1):=⟨j - i - 1,by omega⟩
 rw [pwT_add hT hx i (d + 1)] at e
 have e2:pwT m x (d + 1) = 0:=hT.cancel_l (pwT_lt hT hx _) hT.pos (pwT_lt hT hx i) (by rw [<- e,hT.r1 _ (pwT_lt hT hx i)])
 refine ⟨d,hT.cancel_r (ti_spec hT hx).1 (pwT_lt hT hx d) hx ?_⟩
 rw [(ti_spec hT hx).2.2]; exact e2.symm
theorem Sub.pw (h:Sub N m H) {x:Nat} (hx:x ∈ H):∀ k,pwT m x k ∈ H
 | 0 => h.one
 | k + 1 => h.cl _ (Sub.pw h hx k) _ hx
theorem Sub.inv (hT:TG N m) (h:Sub N m H) {x:Nat} (hx:x ∈ H):ti N m x ∈ H:=by
 obtain ⟨k,e⟩:=ti_pw hT (h.lt x hx)
 rw [e]; exact h.pw hx k
theorem filter_le_length {α:Type} (p:α -> Bool) (l:List α):(l.filter p).length + (l.filter fun x => !p x).length = l.length:=by
 induction l with
 | nil => rfl
 | cons x l ih =>
  cases h:p x <;> simp [h] <;> omega
theorem nodup_eq_len {α:Type} [DecidableEq α] {l l':List α} (h:l.Nodup) (k:l'.Nodup) (e:∀ x,x ∈ l ↔ x ∈ l'):l.length = l'.length :=
 Nat.le_antisymm (nodup_le h fun x hx => (e x).1 hx) (nodup_le k fun x hx => (e x).2 hx)
theorem nodup_map {α β:Type} {f:α -> β}:∀ {l:List α},l.Nodup -> (∀ x ∈ l, ∀ y ∈ l,f x = f y -> x = y) -> (l.map f).Nodup
 | [],_,_ => List.Pairwise.nil
 | x :: l,h,hf => by
  obtain ⟨h1,h2⟩:=List.nodup_cons.1 h
  refine List.nodup_cons.2 ⟨fun hm => ?_,nodup_map h2 fun a ha b hb => hf a (.tail _ ha) b (.tail _ hb)⟩
  obtain ⟨y,hy,e⟩:=List.mem_map.1 hm
  have:=hf y (.tail _ hy) x (.head _) e
  subst this; exact h1 hy
theorem dvd_of_cosets (hT:TG N m) (h:Sub N m H):∀ (k:Nat) (U:List Nat),U.length <= k -> U.Nodup -> (∀ x ∈ U,x < N) -> (∀ x ∈ U, ∀ a ∈ H,m a x ∈ U) -> H.length ∣ U.length
 | 0,U,hk,_,_,_ => by
  have:U.length = 0:=by omega
  rw [this]; exact Nat.dvd_zero _
 | k + 1, [],_,_,_,_ => Nat.dvd_zero _
 | k + 1,x :: U0,hk,hn,hlt,hc => by
  generalize hU:x :: U0 = U at hk hn hlt hc ⊢
  have hx:x ∈ U:=by rw [<- hU]; exact .head _
  have hxN:=hlt x hx
  have hC:(H.map fun a => m a x).Nodup:=nodup_map h.nd fun a ha b hb e => hT.cancel_r (h.lt a ha) (h.lt b hb) hxN e
  have hCl:(H.map fun a => m a x).length = H.length:=List.length_map _
  have hpos:0 < H.length:=List.length_pos_of_mem h.one
  have h1:(U.filter fun y => decide (y ∈ H.map fun a => m a x)).length = H.length:=by
   rw [<- hCl]
   refine nodup_eq_len (List.Pairwise.sublist List.filter_sublist hn) hC fun y => ?_
   rw [List.mem_filter]
   constructor
   ·exact fun hy => of_decide_eq_true hy.2
   ·intro hy
    obtain ⟨a,ha,rfl⟩:=List.mem_map.1 hy
    exact ⟨hc x hx a ha,decide_eq_true hy⟩
  have h2:=filter_le_length (fun y => decide (y ∈ H.map fun a => m a x)) U
  rw [h1] at h2
  have ih:=dvd_of_cosets hT h k (U.filter fun y => !decide (y ∈ H.map fun a => m a x)) (by omega) (List.Pairwise.sublist List.filter_sublist hn) (fun y hy => hlt y ((List.mem_filter.1 hy).1)) fun y hy a ha => by
   rw [List.mem_filter] at hy ⊢
   refine ⟨hc y hy.1 a ha,?_⟩
   have hne:y ∉ H.map fun a => m a x:=by simpa using hy.2
   have:m a y ∉ H.map fun a => m a x:=fun hm => by
    obtain ⟨b,hb,e⟩:=List.mem_map.1 hm
    refine hne (List.mem_map.2 ⟨m (ti N m a) b,h.cl _ (h.inv hT ha) _ hb,?_⟩)
    obtain ⟨i1,i2,i3⟩:=ti_spec hT (h.lt a ha)
    have hyN:=hlt y hy.1
    show m (m (ti N m a) b) x = y
    rw [hT.assoc _ _ _ i1 (h.lt b hb) hxN,e, <- hT.assoc _ _ _ i1 (h.lt a ha) hyN,i3,hT.l1 _ hyN]
   simpa using this
  rw [<- h2]
  exact Nat.dvd_add (Nat.dvd_refl _) ih
theorem lagrange (hT:TG N m) (h:Sub N m H) (k:Sub N m K) (hle:∀ x ∈ H,x ∈ K):H.length ∣ K.length :=
 dvd_of_cosets hT h K.length K (Nat.le_refl _) k.nd k.lt fun x hx a ha => k.cl a (hle a ha) x hx
def less (a b:List Nat):Bool:=if a.length = b.length then lex a b else decide (a.length < b.length)
theorem less_irr (a:List Nat):less a a = false:=by simp [less,lex_irr]
theorem less_trans {a b c:List Nat} (h:less a b = true) (k:less b c = true):less a c = true:=by
 unfold less at *
 split at h <;> split at k <;> split <;> simp_all
 ·exact lex_trans h k
 ·omega
 ·omega
theorem less_total {a b:List Nat} (h:less a b = false) (k:less b a = false):a = b:=by
 unfold less at *
 split at h <;> split at k <;> simp_all
 ·exact lex_total h k
 ·omega
structure SubsL (N:Nat) (m:Nat -> Nat -> Nat) (L:List (List Nat)):Prop where
 asc:L.Pairwise fun a b => less a b = true
 mem:∀ H,H ∈ L ↔ Sub N m H
theorem less_unique {L L':List (List Nat)} (h:L.Pairwise fun a b => less a b = true) (k:L'.Pairwise fun a b => less a b = true) (e:∀ H,H ∈ L ↔ H ∈ L'):L = L' :=
 asc_unique (R:=fun a b => less a b = true) (fun a ha => by rw [less_irr] at ha; cases ha) (fun _ _ _ => less_trans) h k e
theorem SubsL.unique {L L':List (List Nat)} (h:SubsL N m L) (k:SubsL N m L'):L = L':=less_unique h.asc k.asc fun H => by rw [h.mem,k.mem]
structure SBFS (N:Nat) (m:Nat -> Nat -> Nat) (F:List (List Nat)) (i x:Nat):Prop where
 sub:∀ H ∈ F,Sub N m H
 nd:F.Nodup
 one:[0] ∈ F
 done:∀ j H,j < i -> F[j]? = some H -> ∀ y,y < N -> clo N m (H ++ [y]) ∈ F
 part:∀ H,F[i]? = some H -> ∀ y,y < x -> clo N m (H ++ [y]) ∈ F
theorem clo_app (hT:TG N m) (h:Sub N m H) {y:Nat} (hy:y < N):Sub N m (clo N m (H ++ [y])) /\ (∀ x ∈ H,x ∈ clo N m (H ++ [y])) /\ y ∈ clo N m (H ++ [y]):=by
 have hS:∀ s ∈ H ++ [y],s < N:=fun s hs => by
  rcases List.mem_append.1 hs with e | e
  ·exact h.lt s e
  ·rw [List.mem_singleton.1 e]; exact hy
 exact ⟨clo_sub hT hS,fun x hx => le_clo hT hS (List.mem_append.2 (.inl hx)),le_clo hT hS (List.mem_append.2 (.inr (.head _)))⟩
theorem clo_app_mem (hT:TG N m) (h:Sub N m H) {y:Nat} (hy:y ∈ H):clo N m (H ++ [y]) = H:=by
 obtain ⟨a,b,c⟩:=clo_app hT h (h.lt y hy)
 refine a.ext h fun x => ⟨fun hx => clo_le h (fun s hs => ?_) hx,b x⟩
 rcases List.mem_append.1 hs with e | e
 ·exact e
 ·rw [List.mem_singleton.1 e]; exact hy
variable {F:List (List Nat)} {i x:Nat}
theorem SBFS.start (hT:TG N m):SBFS N m [[0]] 0 0 :=
 ⟨fun H hH => by rw [List.mem_singleton.1 hH]; exact sub_zero hT,List.pairwise_singleton _ _, .head _,fun j H hj => absurd hj (Nat.not_lt_zero _),fun H _ y hy => absurd hy (Nat.not_lt_zero _)⟩
theorem SBFS.found (h:SBFS N m F i x) (hH:F[i]? = some H) (hm:clo N m (H ++ [x]) ∈ F):SBFS N m F i (x + 1):=by
 refine ⟨h.sub,h.nd,h.one,h.done,fun K hK y hy => ?_⟩
 by_cases e:y = x
 ·subst e; rw [hH] at hK; cases hK; exact hm
 ·exact h.part K hK y (by omega)
theorem SBFS.new (hT:TG N m) (h:SBFS N m F i x) (hH:F[i]? = some H) (hx:x < N) (hm:clo N m (H ++ [x]) ∉ F):SBFS N m (F ++ [clo N m (H ++ [x])]) i (x + 1):=by
 have hi:=(List.getElem?_eq_some_iff.1 hH).1
 have get:∀ {j K},j <= i -> (F ++ [clo N m (H ++ [x])])[j]? = some K -> F[j]? = some K:=fun hj e => by rwa [List.getElem?_append_left (by omega)] at e
 refine ⟨fun K hK => ?_,?_,List.mem_append.2 (.inl h.one),fun j K hj hK y hy => List.mem_append.2 (.inl (h.done j K hj (get (by omega) hK) y hy)),fun K hK y hy => ?_⟩
 ·rcases List.mem_append.1 hK with e | e
  ·exact h.sub K e
  ·rw [List.mem_singleton.1 e]; exact (clo_app hT (h.sub H (List.mem_of_getElem? hH)) hx).1
 ·refine List.nodup_append.2 ⟨h.nd,List.pairwise_singleton _ _,fun a ha b hb e => ?_⟩
  rw [List.mem_singleton.1 hb] at e
  exact hm (e ▸ ha)
 ·have hK2:=get (Nat.le_refl _) hK
  by_cases e:y = x
  ·subst e; rw [hH] at hK2; cases hK2; exact List.mem_append.2 (.inr (.head _))
  ·exact List.mem_append.2 (.inl (h.part K hK2 y (by omega)))
theorem SBFS.next (h:SBFS N m F i N):SBFS N m F (i + 1) 0:=by
 refine ⟨h.sub,h.nd,h.one,fun j H hj hH y hy => ?_,fun H _ y hy => absurd hy (Nat.not_lt_zero _)⟩
 by_cases e:j = i
 ·subst e; exact h.part H hH y hy
 ·exact h.done j H (by omega) hH y hy
theorem SBFS.finish (hT:TG N m) (h:SBFS N m F F.length 0):∀ H,H ∈ F ↔ Sub N m H:=by
 intro H
 refine ⟨h.sub H,fun hH => ?_⟩
 have key:∀ (s t:List Nat),H = s ++ t -> clo N m s ∈ F -> H ∈ F:=by
  intro s t
  induction t generalizing s with
  | nil => intro e hs; rw [List.append_nil] at e; subst e; rwa [clo_self hT hH] at hs
  | cons y t ih =>
   intro e hs
   have hS:∀ z ∈ s ++ [y],z ∈ H:=fun z hz => by
    rw [e]
    rcases List.mem_append.1 hz with q | q
    ·exact List.mem_append.2 (.inl q)
    ·rw [List.mem_singleton.1 q]; exact List.mem_append.2 (.inr (.head _))
   have hs1:∀ z ∈ s,z < N:=fun z hz => hH.lt z (hS z (List.mem_append.2 (.inl hz)))
   have hy:y < N:=hH.lt y (hS y (List.mem_append.2 (.inr (.head _))))
   refine ih (s ++ [y]) (by simp [e]) ?_
   obtain ⟨j,hj,ej⟩:=List.mem_iff_getElem.1 hs
   have:=h.done j _ hj (by rw [List.getElem?_eq_getElem hj,ej]) y hy
   have hc:=clo_sub hT hs1
   have hsy:∀ z ∈ s ++ [y],z < N:=fun z hz => hH.lt z (hS z hz)
   have hcy:∀ z ∈ clo N m s ++ [y],z < N:=fun z hz => by
    rcases List.mem_append.1 hz with q | q
    ·exact hc.lt z q
    ·rw [List.mem_singleton.1 q]; exact hy
   have e2:clo N m (clo N m s ++ [y]) = clo N m (s ++ [y]):=by
    refine clo_congr hT hcy hsy (fun z hz => ?_) fun z hz => ?_
    ·rcases List.mem_append.1 hz with q | q
     ·exact clo_le (clo_sub hT hsy) (fun u hu => le_clo hT hsy (List.mem_append.2 (.inl hu))) q
     ·exact le_clo hT hsy (List.mem_append.2 (.inr q))
    ·rcases List.mem_append.1 hz with q | q
     ·exact le_clo hT hcy (List.mem_append.2 (.inl (le_clo hT hs1 q)))
     ·exact le_clo hT hcy (List.mem_append.2 (.inr q))
   rwa [e2] at this
 refine key [] H rfl ?_
 have:clo N m [] = [0]:=by
  refine (clo_eq hT (fun s hs => by cases hs) (sub_zero hT) (fun s hs => by cases hs) fun x hx => ?_).symm
  rw [List.mem_singleton.1 hx]; exact .one
 rw [this]; exact h.one
end
end Go.GT
namespace Go.GT
theorem and_split {n u v c d:Nat} (hu:u < 2 ^ n) (hc:c < 2 ^ n):(2 ^ n * v + u) &&& (2 ^ n * d + c) = 2 ^ n * (v &&& d) + (u &&& c):=by
 refine Nat.eq_of_testBit_eq fun i => ?_
 rw [Nat.testBit_and,Nat.testBit_two_pow_mul_add _ hu,Nat.testBit_two_pow_mul_add _ hc,Nat.testBit_two_pow_mul_add _ (Nat.lt_of_le_of_lt Nat.and_le_left hu)]
 split
 ·rw [Nat.testBit_and]
 ·rw [Nat.testBit_and]
theorem and_low {x M:Nat} (hx:x < 16777216):x &&& M = x &&& (M % 16777216):=by
 have h:=and_split (n:=24) (u:=x) (v:=0) (c:=M % 16777216) (d:=M / 16777216) hx (Nat.mod_lt _ (by decide))
 have e:2 ^ 24 * (M / 16777216) + M % 16777216 = M:=by omega
 rw [e,Nat.zero_and,Nat.mul_zero,Nat.zero_add,Nat.zero_add] at h
 exact h
def by3 (a b c:Nat):Nat:=256 * (256 * c + b) + a
theorem and3 {a b c k:Nat} (ha:a < 256) (hb:b < 256) (hk:k < 256):by3 a b c &&& by3 k k k = by3 (a &&& k) (b &&& k) (c &&& k):=by
 unfold by3
 rw [show (256:Nat) = 2 ^ 8 by decide,and_split (n:=8) ha hk,and_split (n:=8) hb hk]
def ocA (x:Nat):Nat:=(x / 2 &&& 85) + (x &&& 85)
def ocB (x:Nat):Nat:=(x / 4 &&& 51) + (x &&& 51)
def ocC (x:Nat):Nat:=(x / 16 + x) &&& 15
def pcb (x:Nat):Nat:=ocC (ocB (ocA x))
theorem ocA1:∀ x,x < 256 -> ∀ e,e < 2 -> (x / 2 + 128 * e) &&& 85 = x / 2 &&& 85:=by decide +kernel
theorem ocA2:∀ x,x < 256 -> ocA x < 171:=by decide +kernel
theorem ocB1:∀ x,x < 171 -> ∀ e,e < 4 -> (x / 4 + 64 * e) &&& 51 = x / 4 &&& 51:=by decide +kernel
theorem ocB2:∀ x,x < 256 -> ocB (ocA x) < 69 /\ ocB (ocA x) % 16 < 5:=by decide +kernel
theorem ocC1:∀ x,x < 69 -> ∀ e,e < 16 -> (x / 16 + 16 * e + x) &&& 15 = ocC x:=by decide +kernel
theorem ocC2:∀ x,x < 256 -> pcb x < 9:=by decide +kernel
def oc (x:Nat):Nat :=
 let a:=(x / 2 &&& 6148914691236517205) + (x &&& 6148914691236517205)
 let b:=(a / 4 &&& 3689348814741910323) + (a &&& 3689348814741910323)
 let c:=(b / 16 + b) &&& 1085102592571150095
 let d:=c + c / 256
 let e:=d + d / 65536
 (e + e / 4294967296) % 128
theorem oc_steps {a b c : Nat} (ha : a < 256) (hb : b < 256) (hc : c < 256) :
  (by3 a b c / 2 &&& 6148914691236517205) + (by3 a b c &&& 6148914691236517205) = by3 (ocA a) (ocA b) (ocA c) /\
  (by3 (ocA a) (ocA b) (ocA c) / 4 &&& 3689348814741910323) + (by3 (ocA a) (ocA b) (ocA c) &&& 3689348814741910323) = by3 (ocB (ocA a)) (ocB (ocA b)) (ocB (ocA c)) /\
  (by3 (ocB (ocA a)) (ocB (ocA b)) (ocB (ocA c)) / 16 + by3 (ocB (ocA a)) (ocB (ocA b)) (ocB (ocA c))) &&& 1085102592571150095 = by3 (pcb a) (pcb b) (pcb c):=by
 have lt:∀ {x y z:Nat},x < 256 -> y < 256 -> z < 256 -> by3 x y z < 16777216:=fun h1 h2 h3 => by unfold by3; omega
 have hA:=fun x (hx:x < 256) => ocA2 x hx
 have hB:=fun x (hx:x < 256) => ocB2 x hx
 refine ⟨?_,?_,?_⟩
 ·have e2:by3 a b c / 2 = by3 (a / 2 + 128 * (b % 2)) (b / 2 + 128 * (c % 2)) (c / 2 + 128 * 0):=by unfold by3; omega
  have m:6148914691236517205 % 16777216 = by3 85 85 85:=by decide
  rw [e2,and_low (lt (by omega) (by omega) (by omega)),and_low (lt ha hb hc),m,and3 (by omega) (by omega) (by decide),and3 ha hb (by decide),ocA1 a ha _ (by omega),ocA1 b hb _ (by omega),ocA1 c hc 0 (by decide)]
  unfold by3 ocA; omega
 ·have h1:=hA a ha; have h2:=hA b hb; have h3:=hA c hc
  generalize ocA a = a at h1 ⊢; generalize ocA b = b at h2 ⊢; generalize ocA c = c at h3 ⊢
  have e2:by3 a b c / 4 = by3 (a / 4 + 64 * (b % 4)) (b / 4 + 64 * (c % 4)) (c / 4 + 64 * 0):=by unfold by3; omega
  have m:3689348814741910323 % 16777216 = by3 51 51 51:=by decide
  have l1:by3 a b c < 16777216:=lt (by omega) (by omega) (by omega)
  have k1:by3 a b c &&& by3 51 51 51 = by3 (a &&& 51) (b &&& 51) (c &&& 51):=and3 (by omega) (by omega) (by decide)
  rw [e2,and_low (lt (by omega) (by omega) (by omega)),and_low l1,m,k1,and3 (by omega) (by omega) (by decide),ocB1 a h1 _ (by omega),ocB1 b h2 _ (by omega),ocB1 c h3 0 (by decide)]
  unfold by3 ocB; omega
 ·unfold pcb
  have h1:=hB a ha; have h2:=hB b hb; have h3:=hB c hc
  generalize ocB (ocA a) = a at h1 ⊢; generalize ocB (ocA b) = b at h2 ⊢; generalize ocB (ocA c) = c at h3 ⊢
  have e2:by3 a b c / 16 + by3 a b c = by3 (a / 16 + 16 * (b % 16) + a) (b / 16 + 16 * (c % 16) + b) (c / 16 + 16 * 0 + c):=by unfold by3; omega
  have m:1085102592571150095 % 16777216 = by3 15 15 15:=by decide
  rw [e2,and_low (lt (by omega) (by omega) (by omega)),m,and3 (by omega) (by omega) (by decide),ocC1 a h1.1 _ (by omega),ocC1 b h2.1 _ (by omega),ocC1 c h3.1 0 (by decide)]
theorem oc_by3 {a b c:Nat} (ha:a < 256) (hb:b < 256) (hc:c < 256):oc (by3 a b c) = pcb a + pcb b + pcb c:=by
 obtain ⟨e1,e2,e3⟩:=oc_steps ha hb hc
 unfold oc
 simp only [e1,e2,e3]
 have h1:=ocC2 a ha; have h2:=ocC2 b hb; have h3:=ocC2 c hc
 unfold by3
 generalize pcb a = a at h1 ⊢; generalize pcb b = b at h2 ⊢; generalize pcb c = c at h3 ⊢
 have q1:(256 * (256 * c + b) + a) / 256 = 256 * c + b:=by omega
 rw [q1]
 have q2:(256 * (256 * c + b) + a + (256 * c + b)) / 65536 = c:=by omega
 rw [q2]
 have q3:(256 * (256 * c + b) + a + (256 * c + b) + c) / 4294967296 = 0:=by omega
 rw [q3]
 omega
def ones (n x:Nat):Nat:=((List.range n).filter x.testBit).length
theorem ones_byte:∀ x,x < 256 -> ones 8 x = pcb x:=by decide +kernel
theorem ones_split {n x y:Nat} (hx:x < 256):ones (8 + n) (256 * y + x) = ones 8 x + ones n y:=by
 unfold ones
 rw [List.range_add,List.filter_append,List.length_append,List.filter_map,List.length_map]
 have e1:(List.range 8).filter (256 * y + x).testBit = (List.range 8).filter x.testBit:=by
  refine List.filter_congr fun i hi => ?_
  have:=List.mem_range.1 hi
  rw [show (256:Nat) = 2 ^ 8 by decide,Nat.testBit_two_pow_mul_add _ (show x < 2 ^ 8 by omega),if_pos this]
 have e2:(List.range n).filter ((256 * y + x).testBit ∘ (8 + ·)) = (List.range n).filter y.testBit:=by
  refine List.filter_congr fun i _ => ?_
  show (256 * y + x).testBit (8 + i) = _
  rw [show (256:Nat) = 2 ^ 8 by decide,Nat.testBit_two_pow_mul_add _ (show x < 2 ^ 8 by omega),if_neg (by omega),show 8 + i - 8 = i by omega]
 rw [e1,e2]
theorem oc_ones {x:Nat} (hx:x < 16777216):oc x = ones 24 x:=by
 have e:x = by3 (x % 256) (x / 256 % 256) (x / 65536):=by unfold by3; omega
 rw [e,oc_by3 (Nat.mod_lt _ (by decide)) (Nat.mod_lt _ (by decide)) (by omega)]
 unfold by3
 rw [show (24:Nat) = 8 + (8 + 8) by decide,ones_split (Nat.mod_lt _ (by decide)),ones_split (Nat.mod_lt _ (by decide)),ones_byte _ (Nat.mod_lt _ (by decide)),ones_byte _ (Nat.mod_lt _ (by decide)),ones_byte _ (by omega),Nat.add_assoc]
end Go.GT
namespace Go.GT
section
variable {α:Type} {N:Nat} {m:Nat -> Nat -> Nat} {H:List Nat} {Y:List α} {f:Nat -> α -> α}
noncomputable def orb (H:List Nat) (Y:List α) (f:Nat -> α -> α) (y:α):List α:=open Classical in Y.filter fun z => decide (∃ h ∈ H,f h y = z)
end
end Go.GT
namespace Go.GT
section
variable {N:Nat} {m:Nat -> Nat -> Nat} {H K:List Nat}
theorem same_of_len (hH:H.Nodup) (hle:∀ x ∈ H,x ∈ K) (e:H.length = K.length) {x:Nat} (hx:x ∈ K):x ∈ H:=by
 refine Classical.byContradiction fun hn => ?_
 have:=nodup_le (List.nodup_cons.2 ⟨hn,hH⟩) (l':=K) fun y hy => by
  rcases List.mem_cons.1 hy with q | q
  ·rw [q]; exact hx
  ·exact hle y q
 rw [List.length_cons] at this
 omega
theorem strict_len (hT:TG N m) (h:Sub N m H) (k:Sub N m K) (hle:∀ x ∈ H,x ∈ K) (hne:H ≠ K):2 * H.length <= K.length:=by
 obtain ⟨q,hq⟩:=lagrange hT h k hle
 have hk:0 < K.length:=List.length_pos_of_mem k.one
 match q,hq with
 | 0,hq => rw [Nat.mul_zero] at hq; omega
 | 1,hq => exact absurd (h.ext k fun x => ⟨hle x,same_of_len h.nd hle (by omega)⟩) hne
 | q + 2,hq =>
  rw [hq,Nat.mul_comm]
  exact Nat.mul_le_mul_left _ (by omega)
theorem length_parts_le {α β:Type} [DecidableEq β] {g:α -> β} {t:Nat}:∀ {F:List β} {T:List α},F.Nodup -> (∀ H ∈ F,t <= (T.filter fun x => decide (g x = H)).length) -> F.length * t <= T.length
 | [],T,_,_ => by simp
 | H :: F,T,nd,h => by
  have h0:=h H (.head _)
  have hn:=List.nodup_cons.1 nd
  have ih:=length_parts_le (F:=F) (T:=T.filter fun x => !decide (g x = H)) hn.2 fun K hK => by
   have e:(T.filter fun x => !decide (g x = H)).filter (fun x => decide (g x = K)) = T.filter fun x => decide (g x = K):=by
    rw [List.filter_filter]
    congr 1; funext x
    by_cases q:g x = K
    ·have hKH:K ≠ H:=fun e => hn.1 (by rw [<- e]; exact hK)
     simp [q,hKH]
    ·simp [q]
   rw [e]; exact h K (.tail _ hK)
  have:=filter_le_length (fun x => decide (g x = H)) T
  rw [List.length_cons,Nat.add_mul,Nat.one_mul]
  omega
theorem flat_ge {α β:Type} {f:α -> List β} {q:α -> Bool} {t:Nat}:∀ {l:List α},(∀ a ∈ l,q a = true -> t <= (f a).length) -> (l.filter q).length * t <= (l.flatMap f).length
 | [],_ => by simp
 | a :: l,h => by
  have ih:=flat_ge (l:=l) fun b hb => h b (.tail _ hb)
  rw [List.flatMap_cons,List.length_append]
  cases e:q a with
  | true =>
   have:=h a (.head _) e
   rw [List.filter_cons_of_pos e,List.length_cons,Nat.add_mul,Nat.one_mul]
   omega
  | false =>
   rw [List.filter_cons_of_neg (by rw [e]; decide)]
   omega
theorem cnt_diff (h:Sub N m H) (K:List Nat):H.length - K.length <= ((List.range N).filter fun x => decide (x ∈ H /\ x ∉ K)).length:=by
 have h1:=filter_le_length (fun x => decide (x ∈ K)) H
 have h2:(H.filter fun x => decide (x ∈ K)).length <= K.length:=nodup_le (h.nd.filter _) fun x hx => of_decide_eq_true (List.mem_filter.1 hx).2
 have h3:(H.filter fun x => !decide (x ∈ K)).length <= ((List.range N).filter fun x => decide (x ∈ H /\ x ∉ K)).length:=nodup_le (h.nd.filter _) fun x hx => by
  obtain ⟨a,b⟩:=List.mem_filter.1 hx
  refine List.mem_filter.2 ⟨List.mem_range.2 (h.lt x a),decide_eq_true ⟨a,fun hk => ?_⟩⟩
  rw [decide_eq_true hk] at b; cases b
 omega
def trip (N:Nat):List (List Nat):=(List.range N).flatMap fun a => (List.range N).flatMap fun b => (List.range N).map fun c => [a,b,c]
theorem flat_len {α β:Type} {f:α -> List β} {t:Nat}:∀ {l:List α},(∀ a ∈ l,(f a).length = t) -> (l.flatMap f).length = l.length * t
 | [],_ => by simp
 | a :: l,h => by
  rw [List.flatMap_cons,List.length_append,h a (.head _),flat_len (l:=l) fun b hb => h b (.tail _ hb),List.length_cons,Nat.add_mul,Nat.one_mul,Nat.add_comm]
theorem trip_len:(trip N).length = N * (N * N):=by
 unfold trip
 rw [flat_len (t:=N * N) fun a _ => by rw [flat_len (t:=N) fun b _ => by simp]; simp]; simp
theorem two_sub (hT:TG N m) {a b:Nat} (ha:a < N) (hb:b < N):Sub N m (clo N m [a,b]) /\ a ∈ clo N m [a,b] /\ b ∈ clo N m [a,b]:=by
 have hS:∀ s ∈ [a,b],s < N:=fun s hs => by
  rcases List.mem_cons.1 hs with q | q
  ·rw [q]; exact ha
  ·rw [List.mem_singleton.1 q]; exact hb
 exact ⟨clo_sub hT hS,le_clo hT hS (.head _),le_clo hT hS (.tail _ (.head _))⟩
theorem triples (hT:TG N m) (h:Sub N m H) (hd:H.length <= 12) (h2:∀ a b,a < N -> b < N -> clo N m [a,b] ≠ H):168 <= ((trip N).filter fun t => decide (clo N m t = H)).length:=by
 have hpos:=hT.pos
 have lt:=h.lt
 have s1:∀ {a},a ∈ H -> Sub N m (clo N m [a]) /\ a ∈ clo N m [a] /\ ∀ x ∈ clo N m [a],x ∈ H:=fun {a} ha => by
  have hS:∀ s ∈ [a],s < N:=fun s hs => by rw [List.mem_singleton.1 hs]; exact lt a ha
  exact ⟨clo_sub hT hS,le_clo hT hS (.head _),fun x hx => clo_le h (fun s hs => by rw [List.mem_singleton.1 hs]; exact ha) hx⟩
 have s2:∀ {a b},a ∈ H -> b ∈ H -> ∀ x ∈ clo N m [a,b],x ∈ H:=fun {a b} ha hb x hx => clo_le h (fun s hs => by
  rcases List.mem_cons.1 hs with q | q
  ·rw [q]; exact ha
  ·rw [List.mem_singleton.1 q]; exact hb) hx
 have l1:∀ {a b},a ∈ H -> b ∈ H -> b ∉ clo N m [a] -> 2 * (clo N m [a]).length <= (clo N m [a,b]).length /\ 2 * (clo N m [a,b]).length <= H.length:=fun {a b} ha hb hn => by
  obtain ⟨k1,k2,k3⟩:=s1 ha
  obtain ⟨j1,j2,j3⟩:=two_sub hT (lt a ha) (lt b hb)
  refine ⟨strict_len hT k1 j1 (fun x hx => clo_le j1 (fun s hs => by rw [List.mem_singleton.1 hs]; exact j2) hx) fun e => hn (by rw [e]; exact j3),strict_len hT j1 h (s2 ha hb) (h2 a b (lt a ha) (lt b hb))⟩
 have ex:∀ {a},a ∈ H -> ∃ b ∈ H,b ∉ clo N m [a]:=fun {a} ha => by
  refine Classical.byContradiction fun hn => ?_
  obtain ⟨k1,k2,k3⟩:=s1 ha
  obtain ⟨j1,j2,j3⟩:=two_sub hT (lt a ha) (lt a ha)
  refine h2 a a (lt a ha) (lt a ha) (j1.ext h fun x => ⟨s2 ha ha x,fun hx => ?_⟩)
  have hx':x ∈ clo N m [a]:=Classical.byContradiction fun hh => hn ⟨x,hx,hh⟩
  exact clo_le j1 (fun s hs => by rw [List.mem_singleton.1 hs]; exact j2) hx'
 have z1:∀ {a},a ∈ H -> a ∉ [0] -> 2 <= (clo N m [a]).length:=fun {a} ha hn => by
  obtain ⟨k1,k2,k3⟩:=s1 ha
  have:=strict_len hT (sub_zero hT) k1 (fun x hx => by rw [List.mem_singleton.1 hx]; exact k1.one) fun e => hn (by rw [e]; exact k2)
  simpa using this
 have d1:∀ {a},a ∈ H -> (clo N m [a]).length * 4 <= H.length:=fun {a} ha => by
  obtain ⟨b,hb,hn⟩:=ex ha
  have:=l1 ha hb hn
  omega
 have h8:8 <= H.length:=by
  have h1:H ≠ [0]:=fun e => by
   obtain ⟨b,hb,hn⟩:=ex (a:=0) h.one
   rw [e] at hb
   have:=List.mem_singleton.1 hb
   exact hn (by rw [this]; exact (s1 h.one).2.1)
  obtain ⟨a,ha,hn⟩:∃ a ∈ H,a ∉ [0]:=Classical.byContradiction fun hh => h1 (h.ext (sub_zero hT) fun x => ⟨fun hx => Classical.byContradiction fun hq => hh ⟨x,hx,hq⟩,fun hx => by rw [List.mem_singleton.1 hx]; exact h.one⟩)
  have:=z1 ha hn
  have:=d1 ha
  omega
 unfold trip
 rw [List.filter_flatMap]
 have hin:∀ a ∈ List.range N,decide (a ∈ H /\ a ∉ [0]) = true -> 24 <= (((List.range N).flatMap fun b => (List.range N).map fun c => [a,b,c]).filter fun t => decide (clo N m t = H)).length:=fun a haN hq => by
  obtain ⟨ha,ha0⟩:=of_decide_eq_true hq
  rw [List.filter_flatMap]
  have hin2:∀ b ∈ List.range N,decide (b ∈ H /\ b ∉ clo N m [a]) = true -> 4 <= (((List.range N).map fun c => [a,b,c]).filter fun t => decide (clo N m t = H)).length:=fun b hbN hq => by
   obtain ⟨hb,hb0⟩:=of_decide_eq_true hq
   rw [List.filter_map,List.length_map]
   have hl:=l1 ha hb hb0
   have c1:=cnt_diff h (clo N m [a,b])
   have c2:((List.range N).filter fun x => decide (x ∈ H /\ x ∉ clo N m [a,b])).length <= ((List.range N).filter ((fun t => decide (clo N m t = H)) ∘ fun c => [a,b,c])).length:=by
    refine nodup_le (List.nodup_range.filter _) fun c hc => ?_
    obtain ⟨e1,e2⟩:=List.mem_filter.1 hc
    obtain ⟨hcH,hc0⟩:=of_decide_eq_true e2
    refine List.mem_filter.2 ⟨e1,decide_eq_true ?_⟩
    have hS:∀ s ∈ [a,b,c],s ∈ H:=fun s hs => by
     rcases List.mem_cons.1 hs with q | q
     ·rw [q]; exact ha
     ·rcases List.mem_cons.1 q with q | q
      ·rw [q]; exact hb
      ·rw [List.mem_singleton.1 q]; exact hcH
    have hS':∀ s ∈ [a,b,c],s < N:=fun s hs => lt s (hS s hs)
    have k:=clo_sub hT hS'
    refine Classical.byContradiction fun hne => ?_
    have t1:=strict_len hT k h (fun x hx => clo_le h hS hx) hne
    obtain ⟨j1,j2,j3⟩:=two_sub hT (lt a ha) (lt b hb)
    have t2:=strict_len hT j1 k (fun x hx => clo_le k (fun s hs => by
     rcases List.mem_cons.1 hs with q | q
     ·rw [q]; exact le_clo hT hS' (.head _)
     ·rw [List.mem_singleton.1 q]; exact le_clo hT hS' (.tail _ (.head _))) hx) fun e => hc0 (by rw [e]; exact le_clo hT hS' (.tail _ (.tail _ (.head _))))
    have:=z1 ha ha0
    omega
   omega
  have:=flat_ge (f:=fun b => ((List.range N).map fun c => [a,b,c]).filter fun t => decide (clo N m t = H)) (q:=fun b => decide (b ∈ H /\ b ∉ clo N m [a])) hin2
  have c1:=cnt_diff h (clo N m [a])
  have:=d1 ha
  have h6:6 <= ((List.range N).filter fun b => decide (b ∈ H /\ b ∉ clo N m [a])).length:=by omega
  have:=Nat.mul_le_mul_right 4 h6
  omega
 have:=flat_ge (f:=fun a => ((List.range N).flatMap fun b => (List.range N).map fun c => [a,b,c]).filter fun t => decide (clo N m t = H)) (q:=fun a => decide (a ∈ H /\ a ∉ [0])) hin
 have c1:=cnt_diff h [0]
 have h7:7 <= ((List.range N).filter fun a => decide (a ∈ H /\ a ∉ [0])).length:=by
  rw [List.length_singleton] at c1; omega
 have:=Nat.mul_le_mul_right 24 h7
 omega
def pairs:Nat -> List (List Nat)
 | 0 => []
 | n + 1 => pairs n ++ (List.range (n + 1)).map fun a => [a,n]
theorem pairs_mem {a b:Nat}:∀ {n:Nat},b < n -> a <= b -> [a,b] ∈ pairs n
 | 0,h,_ => absurd h (Nat.not_lt_zero _)
 | n + 1,h,hab => by
  unfold pairs
  by_cases e:b = n
  ·subst e
   exact List.mem_append.2 (.inr (List.mem_map.2 ⟨a,List.mem_range.2 (by omega),rfl⟩))
  ·exact List.mem_append.2 (.inl (pairs_mem (by omega) hab))
theorem pairs_len:∀ n:Nat,2 * (pairs n).length = n * (n + 1)
 | 0 => rfl
 | n + 1 => by
  unfold pairs
  have:=pairs_len n
  rw [List.length_append,List.length_map,List.length_range]
  have e:(n + 1) * (n + 1 + 1) = n * (n + 1) + 2 * (n + 1):=by rw [Nat.mul_comm, <- Nat.add_mul]
  omega
theorem clo_swap (hT:TG N m) {a b:Nat} (ha:a < N) (hb:b < N):clo N m [a,b] = clo N m [b,a]:=by
 obtain ⟨j1,j2,j3⟩:=two_sub hT ha hb
 obtain ⟨k1,k2,k3⟩:=two_sub hT hb ha
 refine j1.ext k1 fun x => ⟨fun hx => clo_le k1 (fun s hs => ?_) hx,fun hx => clo_le j1 (fun s hs => ?_) hx⟩
 ·rcases List.mem_cons.1 hs with q | q
  ·rw [q]; exact k3
  ·rw [List.mem_singleton.1 q]; exact k2
 ·rcases List.mem_cons.1 hs with q | q
  ·rw [q]; exact j3
  ·rw [List.mem_singleton.1 q]; exact j2
theorem subs_few (hT:TG N m) (hN:N <= 24) {F:List (List Nat)} (nd:F.Nodup) (hF:∀ H ∈ F,Sub N m H):F.length <= 512:=by
 let A:=F.filter fun H => decide (H ∈ (pairs N).map (clo N m))
 let B:=F.filter fun H => !decide (H ∈ (pairs N).map (clo N m))
 let B1:=B.filter fun H => decide (H = List.range N)
 let B2:=B.filter fun H => !decide (H = List.range N)
 have e1:A.length + B.length = F.length:=filter_le_length _ F
 have e2:B1.length + B2.length = B.length:=filter_le_length _ B
 have hA:A.length <= (pairs N).length:=by
  have:A.length <= ((pairs N).map (clo N m)).length:=nodup_le (nd.filter _) fun H hH => of_decide_eq_true (List.mem_filter.1 hH).2
  rwa [List.length_map] at this
 have hp:=pairs_len N
 have hpN:N * (N + 1) <= 24 * 25:=Nat.mul_le_mul hN (by omega)
 have hB1:B1.length <= [List.range N].length:=nodup_le ((nd.filter _).filter _) fun H hH => by
  rw [of_decide_eq_true (List.mem_filter.1 hH).2]; exact .head _
 have hB2:B2.length * 168 <= (trip N).length:=length_parts_le (g:=clo N m) ((nd.filter _).filter _) fun H hH => by
  obtain ⟨q1,q2⟩:=List.mem_filter.1 hH
  obtain ⟨q3,q4⟩:=List.mem_filter.1 q1
  have hs:=hF H q3
  have hne:H ≠ List.range N:=fun e => by rw [decide_eq_true e] at q2; cases q2
  have hl:=strict_len hT hs (sub_all hT) (fun x hx => List.mem_range.2 (hs.lt x hx)) hne
  rw [List.length_range] at hl
  refine triples hT hs (by omega) fun a b ha hb e => ?_
  have:H ∈ (pairs N).map (clo N m):=by
   by_cases hab:a <= b
   ·exact List.mem_map.2 ⟨[a,b],pairs_mem hb hab,e⟩
   ·exact List.mem_map.2 ⟨[b,a],pairs_mem ha (by omega),by rw [clo_swap hT hb ha,e]⟩
  rw [decide_eq_true this] at q4; cases q4
 rw [trip_len] at hB2
 have h3:N * (N * N) <= 24 * (24 * 24):=Nat.mul_le_mul hN (Nat.mul_le_mul hN hN)
 rw [List.length_singleton] at hB1
 omega
end
end Go.GT
namespace Go.GT
def subB (a b:List Nat):Bool:=a.all fun x => b.contains x
theorem subB_iff {a b:List Nat}:subB a b = true ↔ ∀ x ∈ a,x ∈ b:=by
 unfold subB
 rw [List.all_eq_true]
 constructor
 ·intro h x hx; have:=h x hx; rwa [List.contains_iff_mem] at this
 ·intro h x hx; rw [List.contains_iff_mem]; exact h x hx
def sumIn (H:List Nat):List (List Nat) -> List Int -> Int
 | K :: R,x :: r => (if subB H K = true then x else 0) + sumIn H R r
 | _,_ => 0
def moe:List (List Nat) -> List Int
 | [] => []
 | H :: R => ((if R = [] then 1 else 0) - sumIn H R (moe R)) :: moe R
theorem moe_len:∀ L:List (List Nat),(moe L).length = L.length
 | [] => rfl
 | H :: R => by show (moe R).length + 1 = _; rw [moe_len R]; rfl
section
variable {N:Nat} {m:Nat -> Nat -> Nat} {L:List (List Nat)}
theorem less_not_sub {H K:List Nat} (hH:H.Pairwise (· < ·)) (hK:K.Pairwise (· < ·)) (h:less H K = true):subB K H = false:=by
 refine Bool.eq_false_iff.2 fun hs => ?_
 have hs':=subB_iff.1 hs
 have h1:=nodup_le (ascN_nodup hK) hs'
 have h2:H.length = K.length:=by
  unfold less at h
  split at h
  ·assumption
  ·have:=of_decide_eq_true h; omega
 have:H = K:=ascN_unique hH hK fun x => ⟨fun hx => same_of_len (ascN_nodup hK) hs' h2.symm hx,hs' x⟩
 rw [this,less_irr] at h; cases h
theorem moe_sum {G:List Nat}:∀ {L:List (List Nat)},L.Pairwise (fun a b => less a b = true) -> (∀ K ∈ L,K.Pairwise (· < ·)) -> (∀ K ∈ L,K ≠ G -> less K G = true) -> (L ≠ [] -> G ∈ L) -> ∀ K ∈ L,sumIn K L (moe L) = if K = G then 1 else 0
 | [],_,_,_,_,K,hK => by cases hK
 | H :: R,hp,ha,hl,hG,K,hK => by
  obtain ⟨hp1,hp2⟩:=List.pairwise_cons.1 hp
  have self:∀ Z,subB Z Z = true:=fun Z => subB_iff.2 fun _ hx => hx
  show (if subB K H = true then (if R = [] then 1 else 0) - sumIn H R (moe R) else 0) + sumIn K R (moe R) = _
  by_cases hR:R = []
  ·subst hR
   rw [List.mem_singleton.1 hK,List.mem_singleton.1 (hG (by simp)),if_pos (self _),if_pos rfl,if_pos rfl]
   simp [sumIn]
  ·have hHG : H ≠ G := fun e => by
    obtain ⟨k,hk⟩:=List.exists_mem_of_ne_nil R hR
    have h1:=hp1 k hk
    have hkG:k ≠ G:=fun e2 => by rw [e2,e,less_irr] at h1; cases h1
    have h2:=hl k (.tail _ hk) hkG
    rw [e] at h1
    have:=less_trans h1 h2
    rw [less_irr] at this; cases this
   have hGR:G ∈ R:=by
    rcases List.mem_cons.1 (hG (by simp)) with q | q
    ·exact absurd q.symm hHG
    ·exact q
   rcases List.mem_cons.1 hK with q | q
   ·subst q
    rw [if_pos (self _),if_neg hR,if_neg hHG]
    omega
   ·have ih:=moe_sum hp2 (fun k hk => ha k (.tail _ hk)) (fun k hk => hl k (.tail _ hk)) (fun _ => hGR) K q
    rw [less_not_sub (ha H (.head _)) (ha K hK) (hp1 K q),ih]
    simp
def wsum (c:List Nat -> Int):List (List Nat) -> List Int -> Int
 | H :: L,x :: M => x * c H + wsum c L M
 | _,_ => 0
theorem wsum_zero:∀ {L:List (List Nat)} {M:List Int},wsum (fun _ => 0) L M = 0
 | [],_ => rfl
 | _ :: _, [] => rfl
 | H :: L,x :: M => by show x * 0 + wsum (fun _ => 0) L M = 0; rw [wsum_zero]; simp
theorem wsum_add {c d:List Nat -> Int}:∀ {L:List (List Nat)} {M:List Int},wsum (fun H => c H + d H) L M = wsum c L M + wsum d L M
 | [],_ => rfl
 | _ :: _, [] => rfl
 | H :: L,x :: M => by
  show x * (c H + d H) + wsum (fun H => c H + d H) L M = (x * c H + wsum c L M) + (x * d H + wsum d L M)
  rw [wsum_add,Int.mul_add]; omega
theorem wsum_congr {c d:List Nat -> Int}:∀ {L:List (List Nat)} {M:List Int},(∀ H ∈ L,c H = d H) -> wsum c L M = wsum d L M
 | [],_,_ => rfl
 | _ :: _, [],_ => rfl
 | H :: L,x :: M,h => by
  show x * c H + wsum c L M = x * d H + wsum d L M
  rw [h H (.head _),wsum_congr fun K hK => h K (.tail _ hK)]
theorem wsum_in {K:List Nat}:∀ {L:List (List Nat)} {M:List Int},wsum (fun H => if subB K H = true then 1 else 0) L M = sumIn K L M
 | [],_ => rfl
 | _ :: _, [] => rfl
 | H :: L,x :: M => by
  show x * (if subB K H = true then 1 else 0) + wsum (fun H => if subB K H = true then 1 else 0) L M = (if subB K H = true then x else 0) + sumIn K L M
  rw [wsum_in]
  split <;> simp
theorem SubsL.last (hT:TG N m) (hL:SubsL N m L):∀ K ∈ L,K ≠ List.range N -> less K (List.range N) = true:=fun K hK hne => by
 have hs:=(hL.mem K).1 hK
 cases e:less K (List.range N) with
 | true => rfl
 | false =>
  have h2:less (List.range N) K = false:=by
   refine Bool.eq_false_iff.2 fun h3 => ?_
   have:=less_not_sub (sub_all hT).asc hs.asc h3
   rw [subB_iff.2 fun x hx => List.mem_range.2 (hs.lt x hx)] at this
   cases this
  exact absurd (less_total e h2) hne
theorem hall (hT:TG N m) (hL:SubsL N m L):∀ {T:List (List Nat)},(∀ t ∈ T, ∀ x ∈ t,x < N) -> wsum (fun H => ((T.filter fun t => subB t H).length:Int)) L (moe L) = ((T.filter fun t => decide (clo N m t = List.range N)).length:Int)
 | [],_ => wsum_zero
 | t :: T,h => by
  have ih:=hall hT hL (T:=T) fun s hs => h s (.tail _ hs)
  have ht:=h t (.head _)
  have hc:=clo_sub hT ht
  have e1:wsum (fun H => (((t :: T).filter fun t => subB t H).length:Int)) L (moe L) = wsum (fun H => (if subB (clo N m t) H = true then 1 else 0) + ((T.filter fun t => subB t H).length:Int)) L (moe L):=wsum_congr fun H hH => by
   have hs:=(hL.mem H).1 hH
   have e:subB (clo N m t) H = subB t H:=by
    rw [Bool.eq_iff_iff,subB_iff,subB_iff]
    exact ⟨fun q x hx => q x (le_clo hT ht hx),fun q x hx => clo_le hs q hx⟩
   rw [e,List.filter_cons]
   split
   ·rw [List.length_cons]; omega
   ·omega
  rw [e1,wsum_add,wsum_in,ih,moe_sum hL.asc (fun K hK => ((hL.mem K).1 hK).asc) (hL.last hT) (fun _ => (hL.mem _).2 (sub_all hT)) _ ((hL.mem _).2 hc),List.filter_cons]
  by_cases e:clo N m t = List.range N
  ·rw [if_pos e,if_pos (decide_eq_true e),List.length_cons]; omega
  ·rw [if_neg e,if_neg (by rw [decide_eq_false e]; decide)]; omega
end
end Go.GT
namespace Go.GT
def wd (H:List Nat):Nat:=H.foldr (fun i w => w ||| 2 ^ i) 0
theorem tb_wd:∀ (H:List Nat) (i:Nat),(wd H).testBit i = decide (i ∈ H)
 | [],i => by simp [wd]
 | x :: H,i => by
  show (wd H ||| 2 ^ x).testBit i = _
  rw [Nat.testBit_or,tb_wd H i,Nat.testBit_two_pow]
  by_cases e:x = i
  ·subst e; simp
  ·have:¬ i = x:=fun h => e h.symm
   simp [e,this]
theorem wd_lt {n:Nat}:∀ {H:List Nat},(∀ x ∈ H,x < n) -> wd H < 2 ^ n
 | [],_ => Nat.two_pow_pos n
 | x :: H,h => Nat.or_lt_two_pow (wd_lt fun y hy => h y (.tail _ hy)) (Nat.pow_lt_pow_right (by decide) (h x (.head _)))
theorem wd_of {w:Nat} {H:List Nat} (h:∀ i,w.testBit i = true ↔ i ∈ H):w = wd H:=by
 refine Nat.eq_of_testBit_eq fun i => ?_
 rw [tb_wd,Bool.eq_iff_iff,h,decide_eq_true_eq]
theorem wd_mem {H K:List Nat} (e:wd H = wd K) (x:Nat):x ∈ H ↔ x ∈ K:=by
 have h:=congrArg (fun w => w.testBit x) e
 simp only [tb_wd] at h
 rw [<- decide_eq_true_eq (p:=x ∈ H),h,decide_eq_true_eq]
theorem wd_inj {H K:List Nat} (h:H.Pairwise (· < ·)) (k:K.Pairwise (· < ·)) (e:wd H = wd K):H = K:=ascN_unique h k (wd_mem e)
theorem ones_wd {H:List Nat} (h:H.Pairwise (· < ·)) (hl:∀ x ∈ H,x < 24):ones 24 (wd H) = H.length:=by
 unfold ones
 refine nodup_eq_len (List.nodup_range.filter _) (ascN_nodup h) fun x => ?_
 rw [List.mem_filter,List.mem_range,tb_wd,decide_eq_true_eq]
 exact ⟨fun q => q.2,fun q => ⟨hl x q,q⟩⟩
theorem wd_sub {H K:List Nat}:(∀ i,(wd H).testBit i = true -> (wd K).testBit i = true) ↔ subB H K = true:=by
 rw [subB_iff]
 simp only [tb_wd,decide_eq_true_eq]
end Go.GT
namespace Go.GT
def combs:List Nat -> Nat -> List (List Nat)
 | _,0 => [[]]
 | [],_ + 1 => []
 | x :: l,k + 1 => (combs l k).map (x :: ·) ++ combs l (k + 1)
theorem mem_combs:∀ {l:List Nat} {k:Nat} {S:List Nat},l.Pairwise (· < ·) -> (S ∈ combs l k ↔ S.Pairwise (· < ·) /\ S.length = k /\ ∀ x ∈ S,x ∈ l)
 | l,0,S,_ => by
  have e:combs l 0 = [[]]:=by cases l <;> rfl
  rw [e,List.mem_singleton]
  constructor
  ·rintro rfl; exact ⟨.nil,rfl,fun x hx => by cases hx⟩
  ·rintro ⟨_,h,_⟩; exact List.length_eq_zero_iff.1 h
 | [],k + 1,S,_ => by
  constructor
  ·intro h; cases h
  ·rintro ⟨_,h,h2⟩
   cases S with
   | nil => cases h
   | cons y S => have:=h2 y (.head _); cases this
 | x :: l,k + 1,S,hl => by
  obtain ⟨l1,l2⟩:=List.pairwise_cons.1 hl
  show S ∈ (combs l k).map (x :: ·) ++ combs l (k + 1) ↔ _
  rw [List.mem_append,List.mem_map,mem_combs l2]
  constructor
  ·rintro (⟨S',h,rfl⟩ | ⟨h1,h2,h3⟩)
   ·obtain ⟨h1,h2,h3⟩:=(mem_combs l2).1 h
    refine ⟨List.pairwise_cons.2 ⟨fun y hy => l1 y (h3 y hy),h1⟩,by rw [List.length_cons,h2],fun y hy => ?_⟩
    rcases List.mem_cons.1 hy with q | q
    ·rw [q]; exact .head _
    ·exact .tail _ (h3 y q)
   ·exact ⟨h1,h2,fun y hy => .tail _ (h3 y hy)⟩
  ·rintro ⟨h1,h2,h3⟩
   cases S with
   | nil => cases h2
   | cons y S =>
    obtain ⟨p1,p2⟩:=List.pairwise_cons.1 h1
    rcases List.mem_cons.1 (h3 y (.head _)) with q | q
    ·subst q
     refine .inl ⟨S,(mem_combs l2).2 ⟨p2,by simpa using h2,fun z hz => ?_⟩,rfl⟩
     rcases List.mem_cons.1 (h3 z (.tail _ hz)) with q | q
     ·have:=p1 z hz; omega
     ·exact q
    ·refine .inr ⟨h1,h2,fun z hz => ?_⟩
     rcases List.mem_cons.1 (h3 z hz) with q2 | q2
     ·exfalso
      have a:=l1 y q
      rcases List.mem_cons.1 hz with q3 | q3
      ·omega
      ·have:=p1 z q3; omega
     ·exact q2
section
variable {N:Nat} {m:Nat -> Nat -> Nat} {H S:List Nat}
noncomputable def rc (N:Nat) (m:Nat -> Nat -> Nat) (H:List Nat) (x:Nat):List Nat:=those N fun y => ∃ h,h ∈ H /\ m h x = y
end
end Go.GT
namespace Go.GT
section
variable {N:Nat} {m:Nat -> Nat -> Nat} {H S P Q:List Nat}
noncomputable def cjS (N:Nat) (m:Nat -> Nat -> Nat) (x:Nat) (S:List Nat):List Nat:=those N fun y => ∃ s,s ∈ S /\ m (m (ti N m x) s) x = y
theorem cj_lt (hT:TG N m) {x s:Nat} (hx:x < N) (hs:s < N):m (m (ti N m x) s) x < N:=hT.cl _ _ (hT.cl _ _ (ti_spec hT hx).1 hs) hx
theorem mem_cjS (hT:TG N m) (hS:∀ s ∈ S,s < N) {x y:Nat} (hx:x < N):y ∈ cjS N m x S ↔ ∃ s,s ∈ S /\ m (m (ti N m x) s) x = y:=by
 unfold cjS; rw [mem_those]
 refine ⟨fun h => h.2,fun h => ⟨?_,h⟩⟩
 obtain ⟨s,h1,h2⟩:=h
 rw [<- h2]; exact cj_lt hT hx (hS s h1)
theorem cj_mul (hT:TG N m) {x s t:Nat} (hx:x < N) (hs:s < N) (ht:t < N):m (m (m (ti N m x) s) x) (m (m (ti N m x) t) x) = m (m (ti N m x) (m s t)) x:=by
 obtain ⟨i1,i2,i3⟩:=ti_spec hT hx
 generalize ti N m x = i at i1 i2 i3 ⊢
 have ha:=hT.cl i s i1 hs
 have hb:=hT.cl i t i1 ht
 rw [hT.assoc _ x _ ha hx (hT.cl _ _ hb hx), <- hT.assoc x _ x hx hb hx, <- hT.assoc x i t hx i1 ht,i2,hT.l1 t ht, <- hT.assoc _ t x ha ht hx,hT.assoc i s t i1 hs ht]
theorem cjS_sub (hT:TG N m) (h:Sub N m S) {x:Nat} (hx:x < N):Sub N m (cjS N m x S):=by
 refine ⟨those_asc,fun y hy => (mem_those.1 hy).1,(mem_cjS hT h.lt hx).2 ⟨0,h.one,?_⟩,fun a ha b hb => ?_⟩
 ·obtain ⟨i1,i2,i3⟩:=ti_spec hT hx
  rw [hT.r1 _ i1,i3]
 ·obtain ⟨s,s1,s2⟩:=(mem_cjS hT h.lt hx).1 ha
  obtain ⟨t,t1,t2⟩:=(mem_cjS hT h.lt hx).1 hb
  refine (mem_cjS hT h.lt hx).2 ⟨m s t,h.cl s s1 t t1,?_⟩
  rw [<- cj_mul hT hx (h.lt s s1) (h.lt t t1),s2,t2]
theorem ti_ti (hT:TG N m) {x:Nat} (hx:x < N):ti N m (ti N m x) = x:=by
 obtain ⟨i1,i2,i3⟩:=ti_spec hT hx
 exact (ti_eq hT i1 hx i3).symm
end
end Go.GT
namespace Go.GT
def tiC (N:Nat) (m:Nat -> Nat -> Nat) (x:Nat):Nat:=((List.range N).find? fun y => m x y == 0).getD 0
def cjC (N:Nat) (m:Nat -> Nat -> Nat) (x:Nat) (S:List Nat):List Nat:=(List.range N).filter fun y => S.any fun s => m (m (tiC N m x) s) x == y
def lk (L:List (List Nat)) (k:Nat):List Nat:=L.getD k []
def norL (N:Nat) (m:Nat -> Nat -> Nat) (L:List (List Nat)):List Nat:=(List.range L.length).filter fun k => (List.range N).all fun x => cjC N m x (lk L k) == lk L k
def nobB (L:List (List Nat)) (i k:Nat):Bool:=(List.range k).all fun j => !(decide (i < j) && (subB (lk L i) (lk L j) && subB (lk L j) (lk L k)))
def covB (L:List (List Nat)) (i k:Nat):Bool:=decide (i < k) && (subB (lk L i) (lk L k) && nobB L i k)
def covL (L:List (List Nat)):List (Nat × Nat):=(List.range L.length).flatMap fun i => ((List.range L.length).filter (covB L i)).map fun k => (i,k)
def maxL (L:List (List Nat)):List Nat:=(List.range L.length).filter fun i => covB L i (L.length - 1)
section
variable {N:Nat} {m:Nat -> Nat -> Nat} {L:List (List Nat)} {H K S:List Nat}
theorem tiC_eq (hT:TG N m) {x:Nat} (hx:x < N):tiC N m x = ti N m x:=by
 obtain ⟨i1,i2,_⟩:=ti_spec hT hx
 unfold tiC
 cases e:(List.range N).find? fun y => m x y == 0 with
 | none =>
  have:=List.find?_eq_none.1 e (ti N m x) (List.mem_range.2 i1)
  simp [i2] at this
 | some y =>
  have h1:=List.find?_some e
  have h2:=List.mem_range.1 (List.mem_of_find?_eq_some e)
  exact ti_eq hT hx h2 (by simpa using h1)
theorem cjC_eq (hT:TG N m) {x:Nat} (hx:x < N):cjC N m x S = cjS N m x S:=by
 refine ascN_unique (List.Pairwise.sublist List.filter_sublist List.pairwise_lt_range) those_asc fun y => ?_
 unfold cjC cjS
 rw [mem_those,List.mem_filter,List.mem_range,tiC_eq hT hx]
 simp
theorem lk_get {k:Nat} {H:List Nat} (h:L[k]? = some H):lk L k = H:=by unfold lk List.getD; rw [h]; rfl
theorem get_lk {k:Nat} (h:k < L.length):L[k]? = some (lk L k):=by unfold lk List.getD; rw [List.getElem?_eq_getElem h]; rfl
theorem lk_mem {k:Nat} (h:k < L.length):lk L k ∈ L:=List.mem_of_getElem? (get_lk h)
theorem SubsL.nd (hL:SubsL N m L):L.Nodup:=List.Pairwise.imp (fun {a b} h e => by rw [e,less_irr] at h; cases h) hL.asc
theorem SubsL.sub (hL:SubsL N m L) {k:Nat} (h:k < L.length):Sub N m (lk L k):=(hL.mem _).1 (lk_mem h)
theorem SubsL.ord (hL:SubsL N m L) {i k:Nat} (h:i < k) (hk:k < L.length):less (lk L i) (lk L k) = true:=by
 have:=List.pairwise_iff_getElem.1 hL.asc i k (by omega) hk h
 have e1:=get_lk (L:=L) (k:=i) (by omega)
 have e2:=get_lk hk
 rw [List.getElem?_eq_getElem (by omega)] at e1 e2
 rw [<- Option.some.inj e1, <- Option.some.inj e2]
 exact this
theorem SubsL.inj (hL:SubsL N m L) {i k:Nat} (hi:i < L.length) (hk:k < L.length) (e:lk L i = lk L k):i = k:=by
 rcases Nat.lt_trichotomy i k with h | h | h
 ·have:=hL.ord h hk; rw [e,less_irr] at this; cases this
 ·exact h
 ·have:=hL.ord h hi; rw [e,less_irr] at this; cases this
theorem SubsL.later (hL:SubsL N m L) {i k:Nat} (h:i < k) (hk:k < L.length):subB (lk L k) (lk L i) = false :=
 less_not_sub (hL.sub (by omega)).asc (hL.sub hk).asc (hL.ord h hk)
theorem SubsL.find (hL:SubsL N m L) (h:Sub N m H):∃ k,k < L.length /\ lk L k = H:=by
 obtain ⟨k,hk⟩:=List.getElem?_of_mem ((hL.mem H).2 h)
 have:=(List.getElem?_eq_some_iff.1 hk).1
 exact ⟨k,this,lk_get hk⟩
theorem SubsL.pos (hT:TG N m) (hL:SubsL N m L):0 < L.length:=List.length_pos_of_mem ((hL.mem _).2 (sub_all hT))
end
end Go.GT
namespace Go.GT
structure Hm (N:Nat) (m:Nat -> Nat -> Nat) (M:Nat) (q:Nat -> Nat -> Nat) (K:List Nat) (f:Nat -> Nat):Prop where
 map:∀ x,x < N -> f x < M
 mul:∀ x y,x < N -> y < N -> f (m x y) = q (f x) (f y)
 sur:∀ y,y < M -> ∃ x,x < N /\ f x = y
 ker:∀ x,x < N -> (f x = 0 ↔ x ∈ K)
def pre (N:Nat) (f:Nat -> Nat) (B:List Nat):List Nat:=(List.range N).filter fun x => B.contains (f x)
def img (M:Nat) (f:Nat -> Nat) (H:List Nat):List Nat:=(List.range M).filter fun y => H.any fun x => f x == y
theorem len_or {α:Type} {p q:α -> Bool} (h:∀ x,p x = true -> q x = false):∀ l:List α,(l.filter fun x => p x || q x).length = (l.filter p).length + (l.filter q).length
 | [] => rfl
 | a :: l => by
  have ih:=len_or h l
  cases e:p a with
  | true =>
   have:=h a e
   simp [e,this]; omega
  | false =>
   cases e2:q a with
   | true => simp [e,e2]; omega
   | false => simp [e,e2]; omega
section
variable {N M:Nat} {m q:Nat -> Nat -> Nat} {K H B:List Nat} {f:Nat -> Nat}
theorem mem_pre {x:Nat}:x ∈ pre N f B ↔ x < N /\ f x ∈ B:=by
 unfold pre; rw [List.mem_filter,List.mem_range,List.contains_iff_mem]
theorem mem_img {y:Nat}:y ∈ img M f H ↔ y < M /\ ∃ x ∈ H,f x = y:=by
 unfold img; rw [List.mem_filter,List.mem_range,List.any_eq_true]; simp
variable (hT:TG N m) (hq:TG M q) (hm:Hm N m M q K f)
include hT hq hm
theorem Hm.zero:f 0 = 0:=by
 have h1:=hm.mul 0 0 hT.pos hT.pos
 rw [hT.l1 0 hT.pos] at h1
 have h2:=hm.map 0 hT.pos
 have h3:q (f 0) 0 = q (f 0) (f 0):=by rw [hq.r1 _ h2]; exact h1
 exact (hq.cancel_l hq.pos h2 h2 h3).symm
theorem pre_sub (hB:Sub M q B):Sub N m (pre N f B) :=
 ⟨List.Pairwise.sublist List.filter_sublist List.pairwise_lt_range,fun x hx => (mem_pre.1 hx).1,mem_pre.2 ⟨hT.pos,by rw [hm.zero hT hq]; exact hB.one⟩,fun x hx y hy => by
  obtain ⟨x1,x2⟩:=mem_pre.1 hx
  obtain ⟨y1,y2⟩:=mem_pre.1 hy
  exact mem_pre.2 ⟨hT.cl x y x1 y1,by rw [hm.mul x y x1 y1]; exact hB.cl _ x2 _ y2⟩⟩
omit hT hq in
theorem pre_ker (hB:Sub M q B) (hK:Sub N m K):∀ x ∈ K,x ∈ pre N f B:=fun x hx => by
 have hxN:=hK.lt x hx
 exact mem_pre.2 ⟨hxN,by rw [(hm.ker x hxN).2 hx]; exact hB.one⟩
theorem img_sub (hH:Sub N m H):Sub M q (img M f H) :=
 ⟨List.Pairwise.sublist List.filter_sublist List.pairwise_lt_range,fun x hx => (mem_img.1 hx).1,mem_img.2 ⟨hq.pos,0,hH.one,hm.zero hT hq⟩,fun x hx y hy => by
  obtain ⟨x1,a,a1,rfl⟩:=mem_img.1 hx
  obtain ⟨y1,b,b1,rfl⟩:=mem_img.1 hy
  exact mem_img.2 ⟨hq.cl _ _ x1 y1,m a b,hH.cl a a1 b b1,hm.mul a b (hH.lt a a1) (hH.lt b b1)⟩⟩
theorem img_pre (hB:Sub M q B):img M f (pre N f B) = B :=
 (img_sub hT hq hm (pre_sub hT hq hm hB)).ext hB fun y => by
  rw [mem_img]
  constructor
  ·rintro ⟨_,x,hx,rfl⟩; exact (mem_pre.1 hx).2
  ·intro hy
   have hyM:=hB.lt y hy
   obtain ⟨x,hx,rfl⟩:=hm.sur y hyM
   exact ⟨hyM,x,mem_pre.2 ⟨hx,hy⟩,rfl⟩
theorem Hm.coset {h x:Nat} (hh:h < N) (hx:x < N) (e:f h = f x):∃ k ∈ K,m h k = x:=by
 obtain ⟨j,j1,j2,j3⟩:=hT.inv h hh
 have h1:f (m j x) = 0:=by rw [hm.mul j x j1 hx, <- e, <- hm.mul j h j1 hh,j3]; exact hm.zero hT hq
 refine ⟨m j x,(hm.ker _ (hT.cl j x j1 hx)).1 h1,?_⟩
 rw [<- hT.assoc h j x hh j1 hx,j2,hT.l1 x hx]
theorem pre_img (hH:Sub N m H) (hle:∀ x ∈ K,x ∈ H):pre N f (img M f H) = H :=
 (pre_sub hT hq hm (img_sub hT hq hm hH)).ext hH fun x => by
  rw [mem_pre,mem_img]
  constructor
  ·rintro ⟨hx,_,a,a1,e⟩
   obtain ⟨k,k1,k2⟩:=hm.coset hT hq (hH.lt a a1) hx e
   rw [<- k2]; exact hH.cl a a1 k (hle k k1)
  ·intro hx
   have hxN:=hH.lt x hx
   exact ⟨hxN,hm.map x hxN,x,hx,rfl⟩
theorem fib_len (hK:Sub N m K) {b:Nat} (hb:b < M):((List.range N).filter fun x => f x == b).length = K.length:=by
 obtain ⟨h,hh,rfl⟩:=hm.sur b hb
 have hnd:(K.map (m h)).Nodup:=by
  rw [List.nodup_iff_pairwise_ne,List.pairwise_map]
  exact List.Pairwise.imp_of_mem (fun {a b} ha hb hab e => by
   have:=hT.cancel_l (hK.lt a ha) (hK.lt b hb) hh e
   omega) hK.asc
 rw [<- List.length_map (f:=m h) («as»:=K)]
 refine nodup_eq_len (List.nodup_range.filter _) hnd fun x => ?_
 rw [List.mem_filter,List.mem_range,List.mem_map,beq_iff_eq]
 constructor
 ·rintro ⟨hx,e⟩
  exact hm.coset hT hq hh hx e.symm
 ·rintro ⟨k,hk,rfl⟩
  have hkN:=hK.lt k hk
  refine ⟨hT.cl h k hh hkN,?_⟩
  rw [hm.mul h k hh hkN,(hm.ker k hkN).2 hk,hq.r1 _ (hm.map h hh)]
theorem pre_len (hK:Sub N m K):∀ {B:List Nat},B.Nodup -> (∀ b ∈ B,b < M) -> (pre N f B).length = K.length * B.length
 | [],_,_ => by
  have:pre N f [] = []:=List.filter_eq_nil_iff.2 fun x _ => by simp
  rw [this]; simp
 | b :: B,hn,hb => by
  have ih:=pre_len hK (List.nodup_cons.1 hn).2 fun x hx => hb x (.tail _ hx)
  have e:pre N f (b :: B) = (List.range N).filter fun x => (f x == b) || B.contains (f x):=by
   unfold pre
   exact List.filter_congr fun x _ => by rw [List.contains_cons]
  have h1:=fib_len hT hq hm hK (hb b (.head _))
  have h2:=len_or (p:=fun x => f x == b) (q:=fun x => B.contains (f x)) (fun x hx => by
   rw [beq_iff_eq] at hx
   rw [hx]
   exact Bool.eq_false_iff.2 fun hh => (List.nodup_cons.1 hn).1 (List.contains_iff_mem.1 hh)) (List.range N)
  rw [e,h2,h1,List.length_cons,Nat.mul_succ]
  unfold pre at ih
  omega
theorem cor_len (hK:Sub N m K) {L Q:List (List Nat)} (hL:SubsL N m L) (hQ:SubsL M q Q):(L.filter fun H => subB K H).map List.length = Q.map fun B => K.length * B.length:=by
 have hsQ:∀ B ∈ Q,Sub M q B:=fun B hB => (hQ.mem B).1 hB
 have hlen:∀ B ∈ Q,(pre N f B).length = K.length * B.length:=fun B hB => pre_len hT hq hm hK (hsQ B hB).nd (hsQ B hB).lt
 have hnd:(Q.map (pre N f)).Nodup:=by
  rw [List.nodup_iff_pairwise_ne,List.pairwise_map]
  exact List.Pairwise.imp_of_mem (fun {a b} ha hb hab e => hab (by rw [<- img_pre hT hq hm (hsQ a ha),e,img_pre hT hq hm (hsQ b hb)])) (List.nodup_iff_pairwise_ne.1 hQ.nd)
 have hp:(L.filter fun H => subB K H).Perm (Q.map (pre N f)):=by
  refine (List.perm_ext_iff_of_nodup (hL.nd.filter _) hnd).2 fun H => ?_
  rw [List.mem_filter,hL.mem,List.mem_map,subB_iff]
  constructor
  ·rintro ⟨h1,h2⟩
   exact ⟨img M f H,(hQ.mem _).2 (img_sub hT hq hm h1),pre_img hT hq hm h1 h2⟩
  ·rintro ⟨B,hB,rfl⟩
   exact ⟨pre_sub hT hq hm (hsQ B hB),pre_ker hm (hsQ B hB) hK⟩
 have hle:∀ {a b:List Nat},less a b = true -> a.length <= b.length:=fun {a b} h => by
  unfold less at h
  split at h
  ·omega
  ·exact Nat.le_of_lt (of_decide_eq_true h)
 have e1:(Q.map (pre N f)).map List.length = Q.map fun B => K.length * B.length:=by
  rw [List.map_map]
  exact List.map_congr_left fun B hB => hlen B hB
 rw [<- e1]
 refine List.Perm.eq_of_pairwise (le:=(· <= ·)) (fun a b _ _ h1 h2 => Nat.le_antisymm h1 h2) ?_ ?_ (hp.map _)
 ·rw [List.pairwise_map]
  exact List.Pairwise.imp hle (List.Pairwise.sublist List.filter_sublist hL.asc)
 ·rw [e1,List.pairwise_map]
  exact List.Pairwise.imp (fun h => Nat.mul_le_mul_left _ (hle h)) hQ.asc
end
def CvR (N:Nat) (m:Nat -> Nat -> Nat) (A B:List Nat):Prop:=A ≠ B /\ (∀ x ∈ A,x ∈ B) /\ ∀ C,Sub N m C -> (∀ x ∈ A,x ∈ C) -> (∀ x ∈ C,x ∈ B) -> C = A \/ C = B
section
variable {N:Nat} {m:Nat -> Nat -> Nat} {L:List (List Nat)}
theorem sub_less {A B:List Nat} (hA:Sub N m A) (hB:Sub N m B) (h:∀ x ∈ A,x ∈ B) (hne:A ≠ B):less A B = true:=by
 have h1:=nodup_le hA.nd h
 have h2:A.length ≠ B.length:=fun e => hne (hA.ext hB fun x => ⟨h x,fun hx => Classical.byContradiction fun hn => by
  have:=nodup_le (l:=x :: A) (l':=B) (List.nodup_cons.2 ⟨hn,hA.nd⟩) fun y hy => by
   rcases List.mem_cons.1 hy with e | hy
   ·rw [e]; exact hx
   ·exact h y hy
  rw [List.length_cons] at this; omega⟩)
 unfold less
 rw [if_neg h2]
 exact decide_eq_true (by omega)
theorem SubsL.idx (hL:SubsL N m L) {i k:Nat} (hi:i < L.length) (hk:k < L.length) (h:less (lk L i) (lk L k) = true):i < k:=by
 rcases Nat.lt_trichotomy i k with e | e | e
 ·exact e
 ·subst e; rw [less_irr] at h; cases h
 ·have:=less_trans h (hL.ord e hi)
  rw [less_irr] at this; cases this
theorem cov_iff (hL:SubsL N m L) {i k:Nat} (hi:i < L.length) (hk:k < L.length):covB L i k = true ↔ CvR N m (lk L i) (lk L k):=by
 unfold covB nobB
 rw [Bool.and_eq_true,Bool.and_eq_true,decide_eq_true_eq,List.all_eq_true,subB_iff]
 constructor
 ·rintro ⟨h1,h2,h3⟩
  refine ⟨fun e => ?_,h2,fun C hC a b => ?_⟩
  ·have:=hL.ord h1 hk
   rw [e,less_irr] at this; cases this
  ·obtain ⟨j,hj,rfl⟩:=hL.find hC
   by_cases e1:lk L j = lk L i
   ·exact .inl e1
   by_cases e2:lk L j = lk L k
   ·exact .inr e2
   have i1:=hL.idx hi hj (sub_less (hL.sub hi) hC a fun e => e1 e.symm)
   have i2:=hL.idx hj hk (sub_less hC (hL.sub hk) b e2)
   have:=h3 j (List.mem_range.2 i2)
   rw [decide_eq_true i1,subB_iff.2 a,subB_iff.2 b] at this
   cases this
 ·rintro ⟨h1,h2,h3⟩
  refine ⟨hL.idx hi hk (sub_less (hL.sub hi) (hL.sub hk) h2 h1),h2,fun j hj => ?_⟩
  have hj:=List.mem_range.1 hj
  have hjL:j < L.length:=by omega
  cases e:(decide (i < j) && (subB (lk L i) (lk L j) && subB (lk L j) (lk L k))) with
  | false => rfl
  | true =>
   rw [Bool.and_eq_true,Bool.and_eq_true,decide_eq_true_eq,subB_iff,subB_iff] at e
   rcases h3 _ (hL.sub hjL) e.2.1 e.2.2 with q | q
   ·have:=hL.ord e.1 hjL
    rw [q,less_irr] at this; cases this
   ·have:=hL.ord hj hk
    rw [q,less_irr] at this; cases this
end
end Go.GT
namespace Go.GT
section
variable {L:List (List Nat)}
theorem mem_covL {p:Nat × Nat}:p ∈ covL L ↔ p.1 < L.length /\ p.2 < L.length /\ covB L p.1 p.2 = true:=by
 unfold covL
 rw [List.mem_flatMap]
 constructor
 ·rintro ⟨i,hi,h⟩
  obtain ⟨k,hk,rfl⟩:=List.mem_map.1 h
  rw [List.mem_filter,List.mem_range] at hk
  exact ⟨List.mem_range.1 hi,hk.1,hk.2⟩
 ·rintro ⟨h1,h2,h3⟩
  exact ⟨p.1,List.mem_range.2 h1,List.mem_map.2 ⟨p.2,List.mem_filter.2 ⟨List.mem_range.2 h2,h3⟩,rfl⟩⟩
theorem covL_nd:(covL L).Nodup:=by
 unfold covL
 rw [List.nodup_iff_pairwise_ne,List.pairwise_flatMap]
 refine ⟨fun i _ => ?_,?_⟩
 ·rw [List.pairwise_map]
  exact List.Pairwise.imp (fun {a b} h e => h (Prod.mk.inj e).2) (List.Pairwise.sublist List.filter_sublist (List.nodup_iff_pairwise_ne.1 List.nodup_range))
 ·refine List.Pairwise.imp (fun {a b} h x hx y hy e => ?_) (List.nodup_iff_pairwise_ne.1 (List.nodup_range (n:=L.length)))
  obtain ⟨_,_,rfl⟩:=List.mem_map.1 hx
  obtain ⟨_,_,rfl⟩:=List.mem_map.1 hy
  exact h (Prod.mk.inj e).1
end
section
variable {N M:Nat} {m q:Nat -> Nat -> Nat} {K:List Nat} {f:Nat -> Nat} (hT:TG N m) (hq:TG M q) (hm:Hm N m M q K f)
include hT hq hm
theorem cv_img {A B:List Nat} (hA:Sub N m A) (hB:Sub N m B) (hle:∀ x ∈ K,x ∈ A) (h:CvR N m A B):CvR M q (img M f A) (img M f B):=by
  obtain ⟨h1,h2,h3⟩:=h
  have hleB:∀ x ∈ K,x ∈ B:=fun x hx => h2 x (hle x hx)
  refine ⟨fun e => h1 (by rw [← pre_img hT hq hm hA hle,e,pre_img hT hq hm hB hleB]),fun y hy => ?_,fun C hC a b => ?_⟩
  · obtain ⟨y1,x,x1,x2⟩:=mem_img.1 hy
    exact mem_img.2 ⟨y1,x,h2 x x1,x2⟩
  · rcases h3 (pre N f C) (pre_sub hT hq hm hC) (fun x hx => by
        have hxN:=hA.lt x hx
        exact mem_pre.2 ⟨hxN,a _ (mem_img.2 ⟨hm.map x hxN,x,hx,rfl⟩)⟩) (fun x hx => by
        obtain ⟨x1,x2⟩:=mem_pre.1 hx
        have:=b _ x2
        rw [← pre_img hT hq hm hB hleB]
        exact mem_pre.2 ⟨x1,this⟩) with e | e
    · exact .inl (by rw [← e,img_pre hT hq hm hC])
    · exact .inr (by rw [← e,img_pre hT hq hm hC])
theorem cv_pre (hK:Sub N m K) {A B:List Nat} (hA:Sub M q A) (hB:Sub M q B) (h:CvR M q A B):CvR N m (pre N f A) (pre N f B):=by
 obtain ⟨h1,h2,h3⟩:=h
 refine ⟨fun e => h1 (by rw [<- img_pre hT hq hm hA,e,img_pre hT hq hm hB]),fun y hy => ?_,fun C hC a b => ?_⟩
 ·obtain ⟨y1,y2⟩:=mem_pre.1 hy
  exact mem_pre.2 ⟨y1,h2 _ y2⟩
 ·have hle:∀ x ∈ K,x ∈ C:=fun x hx => a x (pre_ker hm hA hK x hx)
  rcases h3 (img M f C) (img_sub hT hq hm hC) (fun y hy => by
    have hyM:=hA.lt y hy
    obtain ⟨x,hx,rfl⟩:=hm.sur y hyM
    exact mem_img.2 ⟨hyM,x,a x (mem_pre.2 ⟨hx,hy⟩),rfl⟩) (fun y hy => by
    obtain ⟨_,x,hx,rfl⟩:=mem_img.1 hy
    exact (mem_pre.1 (b x hx)).2) with e | e
  ·exact .inl (by rw [<- e,pre_img hT hq hm hC hle])
  ·exact .inr (by rw [<- e,pre_img hT hq hm hC hle])
theorem cor_cov (hK:Sub N m K) {L Q:List (List Nat)} (hL:SubsL N m L) (hQ:SubsL M q Q):((covL L).filter fun p => subB K (lk L p.1)).length = (covL Q).length:=by
 have n1:(((covL L).filter fun p => subB K (lk L p.1)).map fun p => (lk L p.1,lk L p.2)).Nodup:=by
  rw [List.nodup_iff_pairwise_ne,List.pairwise_map]
  refine List.Pairwise.imp_of_mem (fun {a b} ha hb hab e => hab ?_) (List.nodup_iff_pairwise_ne.1 (covL_nd.filter _))
  obtain ⟨a1,a2,_⟩:=mem_covL.1 (List.mem_filter.1 ha).1
  obtain ⟨b1,b2,_⟩:=mem_covL.1 (List.mem_filter.1 hb).1
  exact Prod.ext (hL.inj a1 b1 (Prod.mk.inj e).1) (hL.inj a2 b2 (Prod.mk.inj e).2)
 have n2:((covL Q).map fun p => (pre N f (lk Q p.1),pre N f (lk Q p.2))).Nodup:=by
  rw [List.nodup_iff_pairwise_ne,List.pairwise_map]
  refine List.Pairwise.imp_of_mem (fun {a b} ha hb hab e => hab ?_) (List.nodup_iff_pairwise_ne.1 covL_nd)
  obtain ⟨a1,a2,_⟩:=mem_covL.1 ha
  obtain ⟨b1,b2,_⟩:=mem_covL.1 hb
  have e1:lk Q a.1 = lk Q b.1:=by rw [<- img_pre hT hq hm (hQ.sub a1),(Prod.mk.inj e).1,img_pre hT hq hm (hQ.sub b1)]
  have e2:lk Q a.2 = lk Q b.2:=by rw [<- img_pre hT hq hm (hQ.sub a2),(Prod.mk.inj e).2,img_pre hT hq hm (hQ.sub b2)]
  exact Prod.ext (hQ.inj a1 b1 e1) (hQ.inj a2 b2 e2)
 rw [<- List.length_map (f:=fun p:Nat × Nat => (lk L p.1,lk L p.2)) («as»:=(covL L).filter fun p => subB K (lk L p.1)), <- List.length_map (f:=fun p:Nat × Nat => (pre N f (lk Q p.1),pre N f (lk Q p.2))) («as»:=covL Q)]
 refine nodup_eq_len n1 n2 fun x => ?_
 rw [List.mem_map,List.mem_map]
 constructor
 ·rintro ⟨p,hp,rfl⟩
  obtain ⟨hp,hk⟩:=List.mem_filter.1 hp
  obtain ⟨p1,p2,p3⟩:=mem_covL.1 hp
  have hle:=subB_iff.1 hk
  have hc:=(cov_iff hL p1 p2).1 p3
  have hleB:∀ x ∈ K,x ∈ lk L p.2:=fun x hx => hc.2.1 x (hle x hx)
  obtain ⟨i,hi,ei⟩:=hQ.find (img_sub hT hq hm (hL.sub p1))
  obtain ⟨k,hk,ek⟩:=hQ.find (img_sub hT hq hm (hL.sub p2))
  refine ⟨(i,k),mem_covL.2 ⟨hi,hk,(cov_iff hQ hi hk).2 (by rw [ei,ek]; exact cv_img hT hq hm (hL.sub p1) (hL.sub p2) hle hc)⟩,?_⟩
  show (pre N f (lk Q i),pre N f (lk Q k)) = _
  rw [ei,ek,pre_img hT hq hm (hL.sub p1) hle,pre_img hT hq hm (hL.sub p2) hleB]
 ·rintro ⟨p,hp,rfl⟩
  obtain ⟨p1,p2,p3⟩:=mem_covL.1 hp
  have hc:=(cov_iff hQ p1 p2).1 p3
  obtain ⟨i,hi,ei⟩:=hL.find (pre_sub hT hq hm (hQ.sub p1))
  obtain ⟨k,hk,ek⟩:=hL.find (pre_sub hT hq hm (hQ.sub p2))
  refine ⟨(i,k),List.mem_filter.2 ⟨mem_covL.2 ⟨hi,hk,(cov_iff hL hi hk).2 (by rw [ei,ek]; exact cv_pre hT hq hm hK (hQ.sub p1) (hQ.sub p2) hc)⟩,subB_iff.2 fun x hx => by
   show x ∈ lk L i
   rw [ei]; exact pre_ker hm (hQ.sub p1) hK x hx⟩,?_⟩
  show (lk L i,lk L k) = _
  rw [ei,ek]
end
end Go.GT
namespace Go.GT
def rep (N:Nat) (m:Nat -> Nat -> Nat) (K:List Nat) (x:Nat):Nat:=((List.range N).find? fun y => K.any fun k => m k x == y).getD 0
section
variable {N:Nat} {m:Nat -> Nat -> Nat} {K:List Nat} (hT:TG N m) (hK:Sub N m K)
include hT hK
theorem rep_spec {x:Nat} (hx:x < N):rep N m K x < N /\ (∃ k ∈ K,m k x = rep N m K x) /\ ∀ y,y < N -> (∃ k ∈ K,m k x = y) -> rep N m K x <= y:=by
 unfold rep
 cases e:(List.range N).find? (fun y => K.any fun k => m k x == y) with
 | none =>
  have:=List.find?_eq_none.1 e x (List.mem_range.2 hx)
  exact absurd (List.any_eq_true.2 ⟨0,hK.one,by rw [hT.l1 x hx]; simp⟩) this
 | some y =>
  have h1:=List.find?_some e
  have h2:=List.mem_range.1 (List.mem_of_find?_eq_some e)
  obtain ⟨k,k1,k2⟩:=List.any_eq_true.1 h1
  refine ⟨h2,⟨k,k1,by simpa using k2⟩,fun z hz ⟨k',q1,q2⟩ => Classical.byContradiction fun hlt => ?_⟩
  have hlt':z < y:=by
   have:¬ y <= z:=hlt
   omega
  obtain ⟨as0,bs,e2,e3⟩:=(List.find?_eq_some_iff_append.1 e).2
  have hz':z ∈ as0:=by
   have hzm:z ∈ List.range N:=List.mem_range.2 hz
   rw [e2] at hzm
   rcases List.mem_append.1 hzm with q | q
   ·exact q
   ·have hp:(as0 ++ y :: bs).Pairwise (· < ·):=by rw [<- e2]; exact List.pairwise_lt_range
    have hp2:=(List.pairwise_append.1 hp).2.1
    rcases List.mem_cons.1 q with q | q
    ·omega
    ·have:=(List.pairwise_cons.1 hp2).1 z q
     omega
  have:=e3 z hz'
  rw [List.any_eq_true.2 ⟨k',q1,by rw [q2]; simp⟩] at this
  cases this
theorem rep_eq {x k:Nat} (hx:x < N) (hk:k ∈ K):rep N m K (m k x) = rep N m K x:=by
 have hkN:=hK.lt k hk
 have hkx:=hT.cl k x hkN hx
 obtain ⟨j,j1,j2,j3⟩:=hT.inv k hkN
 have hj:j ∈ K:=by
  have:=hK.inv hT hk
  rwa [<- ti_eq hT hkN j1 j2] at this
 obtain ⟨a1,⟨a,a2,a3⟩,a4⟩:=rep_spec hT hK hx
 obtain ⟨b1,⟨b,b2,b3⟩,b4⟩:=rep_spec hT hK hkx
 refine Nat.le_antisymm (b4 _ a1 ⟨m a j,hK.cl a a2 j hj,?_⟩) (a4 _ b1 ⟨m b k,hK.cl b b2 k hk,?_⟩)
 ·rw [hT.assoc a j (m k x) (hK.lt a a2) j1 hkx, <- hT.assoc j k x j1 hkN hx,j3,hT.l1 x hx,a3]
 ·rw [hT.assoc b k x (hK.lt b b2) hkN hx,b3]
theorem rep_iff {x y:Nat} (hx:x < N) (hy:y < N):rep N m K x = rep N m K y ↔ ∃ k ∈ K,m k x = y:=by
 constructor
 ·intro e
  obtain ⟨_,⟨a,a2,a3⟩,_⟩:=rep_spec hT hK hx
  obtain ⟨_,⟨b,b2,b3⟩,_⟩:=rep_spec hT hK hy
  have hbN:=hK.lt b b2
  obtain ⟨j,j1,j2,j3⟩:=hT.inv b hbN
  have hj:j ∈ K:=by
   have:=hK.inv hT b2
   rwa [<- ti_eq hT hbN j1 j2] at this
  refine ⟨m j a,hK.cl j hj a a2,?_⟩
  rw [hT.assoc j a x j1 (hK.lt a a2) hx,a3,e, <- b3, <- hT.assoc j b y j1 hbN hy,j3,hT.l1 y hy]
 ·rintro ⟨k,hk,rfl⟩
  exact (rep_eq hT hK hx hk).symm
theorem rep_rep {x:Nat} (hx:x < N):rep N m K (rep N m K x) = rep N m K x:=by
 obtain ⟨a1,⟨a,a2,a3⟩,_⟩:=rep_spec hT hK hx
 have:=rep_eq hT hK hx a2
 rw [a3] at this; exact this
end
end Go.GT
namespace Go.GT
def fst (N:Nat) (m:Nat -> Nat -> Nat) (K:List Nat):List Nat:=(List.range N).filter fun x => rep N m K x == x
def cix (N:Nat) (m:Nat -> Nat -> Nat) (K:List Nat) (x:Nat):Nat:=(fst N m K).idxOf (rep N m K x)
def cpm (N:Nat) (m:Nat -> Nat -> Nat) (K:List Nat) (x:Nat):Pm:=(fst N m K).map fun c => cix N m K (m c x)
section
variable {N:Nat} {m:Nat -> Nat -> Nat} {K:List Nat}
theorem mem_fst {x:Nat}:x ∈ fst N m K ↔ x < N /\ rep N m K x = x:=by
 unfold fst; rw [List.mem_filter,List.mem_range,beq_iff_eq]
theorem fst_nd:(fst N m K).Nodup:=List.nodup_range.filter _
variable (hT:TG N m) (hK:Sub N m K)
include hT hK
theorem rep_fst {x:Nat} (hx:x < N):rep N m K x ∈ fst N m K:=mem_fst.2 ⟨(rep_spec hT hK hx).1,rep_rep hT hK hx⟩
theorem cix_lt {x:Nat} (hx:x < N):cix N m K x < (fst N m K).length:=List.idxOf_lt_length_of_mem (rep_fst hT hK hx)
theorem cix_get {x:Nat} (hx:x < N):(fst N m K)[cix N m K x]? = some (rep N m K x):=by
 have h:=cix_lt hT hK hx
 rw [List.getElem?_eq_getElem h]
 congr 1
 exact List.getElem_idxOf h
theorem cix_iff {x y:Nat} (hx:x < N) (hy:y < N):cix N m K x = cix N m K y ↔ ∃ k ∈ K,m k x = y:=by
 rw [<- rep_iff hT hK hx hy]
 constructor
 ·intro e
  have h1:=cix_get hT hK hx
  rw [e,cix_get hT hK hy] at h1
  exact (Option.some.inj h1).symm
 ·intro e; unfold cix; rw [e]
theorem cix_fst {i c:Nat} (h:(fst N m K)[i]? = some c):cix N m K c = i:=by
 have hc:=mem_fst.1 (List.mem_of_getElem? h)
 have h1:=cix_get hT hK hc.1
 rw [hc.2] at h1
 have hi:=(List.getElem?_eq_some_iff.1 h).1
 exact (List.getElem?_inj (cix_lt hT hK hc.1) fst_nd).1 (by rw [h1,h])
omit hT hK in
theorem cpm_len {x:Nat}:(cpm N m K x).length = (fst N m K).length:=List.length_map _
omit hT hK in
theorem cpm_ap {x i c:Nat} (h:(fst N m K)[i]? = some c):ap (cpm N m K x) i = cix N m K (m c x):=ap_get? (by unfold cpm; rw [List.getElem?_map,h]; rfl)
omit hT hK in
theorem fst_get {i:Nat} (h:i < (fst N m K).length):∃ c,(fst N m K)[i]? = some c /\ c < N /\ rep N m K c = c:=by
 refine ⟨(fst N m K)[i],List.getElem?_eq_getElem h,?_⟩
 exact mem_fst.1 (List.getElem_mem h)
theorem cpm_pv {x:Nat} (hx:x < N):PV (fst N m K).length (cpm N m K x):=by
 refine PV.mk' cpm_len (fun i hi => ?_) fun i j hi hj e => ?_
 ·obtain ⟨c,hc,c1,_⟩:=fst_get hi
  rw [cpm_ap hc]; exact cix_lt hT hK (hT.cl c x c1 hx)
 ·obtain ⟨c,hc,c1,c2⟩:=fst_get hi
  obtain ⟨d,hd,d1,d2⟩:=fst_get hj
  rw [cpm_ap hc,cpm_ap hd] at e
  obtain ⟨k,hk,e2⟩:=(cix_iff hT hK (hT.cl c x c1 hx) (hT.cl d x d1 hx)).1 e
  have hkN:=hK.lt k hk
  rw [<- hT.assoc k c x hkN c1 hx] at e2
  have e3:=hT.cancel_r (hT.cl k c hkN c1) d1 hx e2
  have e4:=(rep_iff hT hK c1 d1).2 ⟨k,hk,e3⟩
  rw [c2,d2] at e4
  subst e4
  rw [<- cix_fst hT hK hc, <- cix_fst hT hK hd]
theorem cpm_mul {x y:Nat} (hx:x < N) (hy:y < N):cpm N m K (m x y) = mul (cpm N m K x) (cpm N m K y):=by
 refine List.ext_getElem? fun i => ?_
 by_cases hi:i < (fst N m K).length
 ·obtain ⟨c,hc,c1,_⟩:=fst_get hi
  have hcx:=hT.cl c x c1 hx
  obtain ⟨r1,⟨k,hk,r2⟩,_⟩:=rep_spec hT hK hcx
  have hkN:=hK.lt k hk
  have h1:(cpm N m K (m x y))[i]? = some (cix N m K (m c (m x y))):=by unfold cpm; rw [List.getElem?_map,hc]; rfl
  have h2:(mul (cpm N m K x) (cpm N m K y))[i]? = some (ap (cpm N m K y) (cix N m K (m c x))):=by
   unfold mul; rw [List.getElem?_map]
   show ((cpm N m K x)[i]?).map _ = _
   unfold cpm; rw [List.getElem?_map,hc]; rfl
  rw [h1,h2,cpm_ap (cix_get hT hK hcx)]
  congr 1
  refine (cix_iff hT hK (hT.cl c _ c1 (hT.cl x y hx hy)) (hT.cl _ y r1 hy)).2 ⟨k,hk,?_⟩
  rw [<- r2,hT.assoc k (m c x) y hkN hcx hy,hT.assoc c x y c1 hx hy]
 ·rw [List.getElem?_eq_none (by rw [cpm_len]; omega),List.getElem?_eq_none (by rw [length_mul,cpm_len]; omega)]
theorem rep_zero:rep N m K 0 = 0:=by
 obtain ⟨_,_,h⟩:=rep_spec hT hK hT.pos
 have:=h 0 hT.pos ⟨0,hK.one,hT.l1 0 hT.pos⟩
 omega
theorem cpm_ker (hn:∀ x,x < N -> ∀ k ∈ K,m (m (ti N m x) k) x ∈ K) {x:Nat} (hx:x < N):cpm N m K x = one (fst N m K).length ↔ x ∈ K:=by
 constructor
 ·intro e
  have h0:0 ∈ fst N m K:=mem_fst.2 ⟨hT.pos,rep_zero hT hK⟩
  obtain ⟨i,hi⟩:=List.getElem?_of_mem h0
  have hil:=(List.getElem?_eq_some_iff.1 hi).1
  have h1:=cpm_ap (x:=x) hi
  rw [e,ap_one hil,hT.l1 x hx] at h1
  have h2:=cix_fst hT hK hi
  rw [<- h2] at h1
  obtain ⟨k,hk,e2⟩:=(cix_iff hT hK hT.pos hx).1 h1
  rw [hT.r1 k (hK.lt k hk)] at e2
  rw [<- e2]; exact hk
 ·intro hk
  refine List.ext_getElem? fun i => ?_
  by_cases hi:i < (fst N m K).length
  ·obtain ⟨c,hc,c1,_⟩:=fst_get hi
   have h1:(cpm N m K x)[i]? = some (cix N m K (m c x)):=by unfold cpm; rw [List.getElem?_map,hc]; rfl
   rw [h1]
   unfold one
   rw [List.getElem?_range hi]
   congr 1
   have hcx:=hT.cl c x c1 hx
   have:=cix_fst hT hK hc
   rw [<- this]
   obtain ⟨t1,t2,t3⟩:=ti_spec hT c1
   have hnk:=hn (ti N m c) t1 x hk
   rw [ti_ti hT c1] at hnk
   refine ((cix_iff hT hK c1 hcx).2 ⟨m (m c x) (ti N m c),hnk,?_⟩).symm
   rw [hT.assoc (m c x) (ti N m c) c hcx t1 c1,t3,hT.r1 _ hcx]
  ·rw [List.getElem?_eq_none (by rw [cpm_len]; omega),List.getElem?_eq_none (by unfold one; rw [List.length_range]; omega)]
end
end Go.GT
namespace Go.GT
section
variable {n:Nat} {S l:List Pm} {K:List Nat} (hS:∀ s ∈ S,PV n s) (h:IsEl n S l) (hK:Sub l.length (op l) K) (hn:∀ x,x < l.length -> ∀ k ∈ K,op l (op l (ti l.length (op l) x) k) x ∈ K)
def cgens (l:List Pm) (K:List Nat) (S:List Pm):List Pm:=S.map fun s => cpm l.length (op l) K (place l s)
include hS h
theorem place_one:place l (one n) = 0:=h.asc.place_get (h.first hS)
include hK
theorem cgens_pv:∀ s ∈ cgens l K S,PV (fst l.length (op l) K).length s:=fun s hs => by
 obtain ⟨a,ha,rfl⟩:=List.mem_map.1 hs
 exact cpm_pv (h.tg hS) hK (h.place (.of hS ha)).1
include hn
theorem cgens_iff {p:Pm}:Gen (fst l.length (op l) K).length (cgens l K S) p ↔ ∃ x,x < l.length /\ cpm l.length (op l) K x = p:=by
 have hT:=h.tg hS
 have hz:cpm l.length (op l) K 0 = one (fst l.length (op l) K).length:=(cpm_ker hT hK hn hT.pos).2 hK.one
 constructor
 ·intro hp
  refine hp.ind (P:=fun p => ∃ x,x < l.length /\ cpm l.length (op l) K x = p) ⟨0,hT.pos,hz⟩ fun a ha s hs => ?_
  obtain ⟨x,hx,rfl⟩:=ha
  obtain ⟨b,hb,rfl⟩:=List.mem_map.1 hs
  have hbl:=(h.place (.of hS hb)).1
  exact ⟨op l x (place l b),hT.cl x _ hx hbl,cpm_mul hT hK hx hbl⟩
 ·rintro ⟨x,hx,rfl⟩
  have key:∀ p,Gen n S p -> Gen n S p /\ Gen (fst l.length (op l) K).length (cgens l K S) (cpm l.length (op l) K (place l p)):=fun p hp => by
   refine hp.ind (P:=fun p => Gen n S p /\ Gen (fst l.length (op l) K).length (cgens l K S) (cpm l.length (op l) K (place l p))) ⟨.one,?_⟩ fun a ha s hs => ?_
   ·rw [place_one hS h,hz]; exact .one
   ·obtain ⟨a1,a2⟩:=ha
    have hs1:Gen n S s := .of hS hs
    have ha':=h.place a1
    have hs':=h.place hs1
    have e:place l (mul a s) = op l (place l a) (place l s):=by unfold op; rw [ha'.2,hs'.2]
    refine ⟨.mul a1 hs,?_⟩
    rw [e,cpm_mul hT hK ha'.1 hs'.1]
    exact a2.mul (List.mem_map.2 ⟨s,hs,rfl⟩)
  have:=(key (el l x) (h.el hS hx).1).2
  rwa [h.asc.place_get (get_el hx)] at this
theorem cor_hm {lQ:List Pm} (hQ:IsEl (fst l.length (op l) K).length (cgens l K S) lQ):Hm l.length (op l) lQ.length (op lQ) K fun x => place lQ (cpm l.length (op l) K x):=by
 have hT:=h.tg hS
 have hpv:=cgens_pv hS h hK
 have hg:∀ x,x < l.length -> Gen (fst l.length (op l) K).length (cgens l K S) (cpm l.length (op l) K x):=fun x hx => (cgens_iff hS h hK hn).2 ⟨x,hx,rfl⟩
 have h0:el lQ 0 = one (fst l.length (op l) K).length:=el_get (hQ.first hpv)
 refine ⟨fun x hx => (hQ.place (hg x hx)).1,fun x y hx hy => ?_,fun y hy => ?_,fun x hx => ?_⟩
 ·show place lQ (cpm l.length (op l) K (op l x y)) = place lQ (mul (el lQ (place lQ (cpm l.length (op l) K x))) (el lQ (place lQ (cpm l.length (op l) K y))))
  rw [(hQ.place (hg x hx)).2,(hQ.place (hg y hy)).2,cpm_mul hT hK hx hy]
 ·obtain ⟨x,hx,e⟩:=(cgens_iff hS h hK hn).1 (hQ.el hpv hy).1
  exact ⟨x,hx,by show place lQ (cpm l.length (op l) K x) = y; rw [e]; exact hQ.asc.place_get (get_el hy)⟩
 ·rw [<- cpm_ker hT hK hn hx]
  constructor
  ·intro e
   have:=(hQ.place (hg x hx)).2
   rw [show place lQ (cpm l.length (op l) K x) = 0 from e,h0] at this
   exact this.symm
  ·intro e
   show place lQ (cpm l.length (op l) K x) = 0
   rw [e]; exact hQ.asc.place_get (hQ.first hpv)
end
end Go.GT
namespace Go.GT
section
variable {N:Nat} {m:Nat -> Nat -> Nat} {K:List Nat} (hT:TG N m) (hK:Sub N m K)
include hT hK
theorem coset_len {c:Nat} (hc:c < N) (hr:rep N m K c = c):((List.range N).filter fun x => rep N m K x == c).length = K.length:=by
 have hnd:(K.map fun k => m k c).Nodup:=by
  rw [List.nodup_iff_pairwise_ne,List.pairwise_map]
  exact List.Pairwise.imp_of_mem (fun {a b} ha hb hab e => by
   have:=hT.cancel_r (hK.lt a ha) (hK.lt b hb) hc e
   omega) hK.asc
 rw [<- List.length_map (f:=fun k => m k c) («as»:=K)]
 refine nodup_eq_len (List.nodup_range.filter _) hnd fun x => ?_
 rw [List.mem_filter,List.mem_range,List.mem_map,beq_iff_eq]
 constructor
 ·rintro ⟨hx,e⟩
  exact (rep_iff hT hK hc hx).1 (by rw [hr,e])
 ·rintro ⟨k,hk,rfl⟩
  exact ⟨hT.cl k c (hK.lt k hk) hc,by rw [rep_eq hT hK hc hk,hr]⟩
theorem cosets_len:∀ {F:List Nat},F.Nodup -> (∀ c ∈ F,c < N /\ rep N m K c = c) -> ((List.range N).filter fun x => F.contains (rep N m K x)).length = K.length * F.length
 | [],_,_ => by
  have:((List.range N).filter fun x => ([]:List Nat).contains (rep N m K x)) = []:=List.filter_eq_nil_iff.2 fun x _ => by simp
  rw [this]; simp
 | c :: F,hn,hF => by
  have ih:=cosets_len (List.nodup_cons.1 hn).2 fun x hx => hF x (.tail _ hx)
  obtain ⟨c1,c2⟩:=hF c (.head _)
  have e:((List.range N).filter fun x => (c :: F).contains (rep N m K x)) = (List.range N).filter fun x => (rep N m K x == c) || F.contains (rep N m K x) :=
   List.filter_congr fun x _ => by rw [List.contains_cons]
  have h2:=len_or (p:=fun x => rep N m K x == c) (q:=fun x => F.contains (rep N m K x)) (fun x hx => by
   rw [beq_iff_eq] at hx
   rw [hx]
   exact Bool.eq_false_iff.2 fun hh => (List.nodup_cons.1 hn).1 (List.contains_iff_mem.1 hh)) (List.range N)
  rw [e,h2,coset_len hT hK c1 c2,ih,List.length_cons,Nat.mul_succ]
  omega
theorem fst_len:N = K.length * (fst N m K).length:=by
 rw [<- cosets_len hT hK fst_nd fun c hc => mem_fst.1 hc]
 have:((List.range N).filter fun x => (fst N m K).contains (rep N m K x)) = List.range N:=List.filter_eq_self.2 fun x hx => List.contains_iff_mem.2 (rep_fst hT hK (List.mem_range.1 hx))
 rw [this,List.length_range]
theorem fst_div:N / K.length = (fst N m K).length:=by
 have hp:0 < K.length:=List.length_pos_iff.2 fun e => by have:=hK.one; rw [e] at this; cases this
 have:=fst_len hT hK
 exact Nat.div_eq_of_eq_mul_right hp this
end
end Go.GT
namespace Go.GT
theorem nor_cj {N:Nat} {m:Nat -> Nat -> Nat} {K:List Nat} (hT:TG N m) (hK:Sub N m K) (h:((List.range N).all fun x => cjC N m x K == K) = true):∀ x,x < N -> ∀ k ∈ K,m (m (ti N m x) k) x ∈ K:=fun x hx k hk => by
 have h1:=List.all_eq_true.1 h x (List.mem_range.2 hx)
 rw [beq_iff_eq,cjC_eq hT hx] at h1
 have h2:m (m (ti N m x) k) x ∈ cjS N m x K:=(mem_cjS hT hK.lt hx).2 ⟨k,hk,rfl⟩
 rw [h1] at h2; exact h2
theorem nor_mem {N:Nat} {m:Nat -> Nat -> Nat} {L:List (List Nat)} {k:Nat} (h:k ∈ norL N m L):k < L.length /\ ((List.range N).all fun x => cjC N m x (lk L k) == lk L k) = true:=by
 unfold norL at h
 rw [List.mem_filter,List.mem_range] at h
 exact h
end Go.GT
namespace Go.GT
def s3g:List Pm:=[[1,0,2], [1,2,0]]
def s3e:List Pm:=[[0,1,2], [0,2,1], [1,0,2], [1,2,0], [2,0,1], [2,1,0]]
def s3L:List (List Nat):=[[0], [0,1], [0,2], [0,5], [0,3,4], [0,1,2,3,4,5]]
theorem s3_el:IsEl 3 s3g s3e:=by
 refine ⟨by unfold Asc; decide,fun p => ⟨fun hp => ?_,fun hp => ?_⟩⟩
 ·have g0:Gen 3 s3g [0,1,2] := .one
  have g2:Gen 3 s3g [1,0,2] := .mul (a:=[0,1,2]) (s:=[1,0,2]) g0 (by decide)
  have g3:Gen 3 s3g [1,2,0] := .mul (a:=[0,1,2]) (s:=[1,2,0]) g0 (by decide)
  have g4:Gen 3 s3g [2,0,1] := .mul (a:=[1,2,0]) (s:=[1,2,0]) g3 (by decide)
  have g5:Gen 3 s3g [2,1,0] := .mul (a:=[1,0,2]) (s:=[1,2,0]) g2 (by decide)
  have g1:Gen 3 s3g [0,2,1] := .mul (a:=[1,2,0]) (s:=[1,0,2]) g3 (by decide)
  simp only [s3e,List.mem_cons,List.not_mem_nil,or_false] at hp
  rcases hp with rfl | rfl | rfl | rfl | rfl | rfl <;> assumption
 ·induction hp with
  | one => decide
  | @mul a s h hs ih => exact (by decide:∀ a ∈ s3e, ∀ s ∈ s3g,mul a s ∈ s3e) a ih s hs
def subC (N:Nat) (m:Nat -> Nat -> Nat) (H:List Nat):Bool:=H.contains 0 && (H.all fun x => decide (x < N) && H.all fun y => H.contains (m x y))
theorem subC_iff {N:Nat} {m:Nat -> Nat -> Nat} {H:List Nat} (ha:H.Pairwise (· < ·)):subC N m H = true ↔ Sub N m H:=by
 unfold subC
 rw [Bool.and_eq_true,List.all_eq_true,List.contains_iff_mem]
 constructor
 ·rintro ⟨h0,h1⟩
  refine ⟨ha,fun x hx => ?_,h0,fun x hx y hy => ?_⟩
  ·have:=h1 x hx
   rw [Bool.and_eq_true] at this; exact of_decide_eq_true this.1
  ·have:=h1 x hx
   rw [Bool.and_eq_true,List.all_eq_true] at this
   exact List.contains_iff_mem.1 (this.2 y hy)
 ·intro h
  refine ⟨h.one,fun x hx => ?_⟩
  rw [Bool.and_eq_true,List.all_eq_true]
  exact ⟨decide_eq_true (h.lt x hx),fun y hy => List.contains_iff_mem.2 (h.cl x hx y hy)⟩
theorem s3_all:((List.range 7).all fun k => (combs (List.range 6) k).all fun T => subC 6 (op s3e) T == s3L.contains T) = true:=by decide +kernel
theorem s3_subs:SubsL 6 (op s3e) s3L:=by
 refine ⟨by decide +kernel,fun H => ⟨fun hH => ?_,fun hH => ?_⟩⟩
 ·have ha:H.Pairwise (· < ·):=(by decide:∀ H ∈ s3L,H.Pairwise (· < ·)) H hH
  exact (subC_iff ha).1 ((by decide +kernel:∀ H ∈ s3L,subC 6 (op s3e) H = true) H hH)
 ·have hm:H ∈ combs (List.range 6) H.length:=(mem_combs List.pairwise_lt_range).2 ⟨hH.asc,rfl,fun x hx => List.mem_range.2 (hH.lt x hx)⟩
  have hl:=nodup_le hH.nd (l':=List.range 6) fun x hx => List.mem_range.2 (hH.lt x hx)
  rw [List.length_range] at hl
  have h1:=List.all_eq_true.1 s3_all H.length (List.mem_range.2 (by omega))
  have h2:=List.all_eq_true.1 h1 H hm
  rw [(subC_iff hH.asc).2 hH] at h2
  have h3:true = s3L.contains H:=by simpa using h2
  exact List.contains_iff_mem.1 h3.symm
theorem s3_nor:norL 6 (op s3e) s3L = [0,4,5]:=by decide +kernel
theorem s3_max:maxL s3L = [1,2,3,4]:=by decide +kernel
theorem s3_moe:moe s3L = [3, -1, -1, -1, -1,1]:=by decide +kernel
end Go.GT
