/- The abstract machine, sound; plain mathematics. No condition. -/
import Derived.Laws.IdiomRangeMap
import Derived.Test.YtehmnmdohadigaaGreatPya1
namespace Go.AM
open Go Go.Proofs Go.Sort Go.Shelf
noncomputable def cmpZ (T:FnTab) (I:Oracle) (cf:Nat) (caps:List AV) (hr:AHeap) (a b:AV):Int :=
 match lim T I (.fn cf) (a :: b :: caps) hr with
 | some (.int .i64 z,_) => z
 | _ => 0
structure SortOK (T:FnTab) (I:Oracle) (cf:Nat) (caps:List AV) (hr:AHeap) (row:List AV):Prop where
 sc:∀ a ∈ row,a.scalar = true
 run:∀ a ∈ row, ∀ b ∈ row, ∃ h1,lim T I (.fn cf) (a :: b :: caps) hr = some (.int .i64 (cmpZ T I cf caps hr a b),h1)
 irr:∀ a ∈ row, ¬ cmpZ T I cf caps hr a a < 0
 tr:∀ a ∈ row, ∀ b ∈ row, ∀ c ∈ row,cmpZ T I cf caps hr a b < 0 -> cmpZ T I cf caps hr b c < 0 -> cmpZ T I cf caps hr a c < 0
 tot:∀ a ∈ row, ∀ b ∈ row, ¬ cmpZ T I cf caps hr a b < 0 -> ¬ cmpZ T I cf caps hr b a < 0 -> a = b
def SortedAs (T:FnTab) (I:Oracle) (cf:Nat) (caps:List AV) (hr:AHeap) (row L:List AV):Prop :=
 L.Perm row /\ L.Pairwise fun a b => ¬ cmpZ T I cf caps hr b a < 0
theorem SortOK.unique {T:FnTab} {I:Oracle} {cf:Nat} {caps:List AV} {hr:AHeap} {row L L':List AV} (K:SortOK T I cf caps hr row) (h:SortedAs T I cf caps hr row L) (h':SortedAs T I cf caps hr row L'):L = L' :=
 List.Perm.eq_of_pairwise (fun a b ha hb h1 h2 => K.tot a (h.1.mem_iff.1 ha) b (h'.1.mem_iff.1 hb) h2 h1) h.2 h'.2 (h.1.trans h'.1.symm)
structure SortAt (T0 T:FnTab) (I:Oracle) (h:AHeap) (i o n cf:Nat) (caps c:List AV):Prop where
 pos:0 < n
 top:n < 4611686018427387904
 fit:o + n <= c.length
 fn:∃ fn,T0 cf = some fn
 ok:SortOK T I cf caps (roH h i) ((c.drop o).take n)
 ex:∃ L,SortedAs T I cf caps (roH h i) ((c.drop o).take n) L
noncomputable def sortJ (T0 T:FnTab) (I:Oracle) (args:List AV) (h:AHeap):Option (AV × AHeap) :=
 match args with
 | [.slice i o n _, .fn (.func cf) [] caps] =>
  match h.get i with
  | some (.cells c true) => open Classical in if hx:SortAt T0 T I h i o n cf caps c then some (.tup [],h.set i (.cells (c.take o ++ (Classical.choose hx.ex ++ c.drop (o + n))) true)) else none
  | _ => none
 | _ => none
theorem sortJ_eq {T0 T : FnTab} {I : Oracle} {h : AHeap} {i o n cf : Nat} {cap : ACap} {caps c L : List AV} (hg : h.get i = some (.cells c true)) (hx : SortAt T0 T I h i o n cf caps c) (hL : SortedAs T I cf caps (roH h i) ((c.drop o).take n) L) :
  sortJ T0 T I [.slice i o n cap, .fn (.func cf) [] caps] h = some (.tup [],h.set i (.cells (c.take o ++ (L ++ c.drop (o + n))) true)):=by
 show (match h.get i with
  | some (.cells c true) => open Classical in if hx:SortAt T0 T I h i o n cf caps c then some (AV.tup [],h.set i (.cells (c.take o ++ (Classical.choose hx.ex ++ c.drop (o + n))) true)) else none
  | _ => none) = _
 rw [hg]
 simp only
 rw [dif_pos hx,hx.ok.unique (Classical.choose_spec hx.ex) hL]
theorem row_getD {l:List AV} {k:Nat} (hk:k < l.length):l[k]? = some (l.getD k aundef):=by
 simp [List.getD,List.getElem?_eq_getElem hk]
section
variable {P:Program} {ρ0:Ren}
theorem sortJ_sound (L : SlLaysF.n6 P ρ0) (hm : P.follows .mixedOrders = true) {T0 T : FnTab} (hT : TabOK P T0) (hO : TOpt T0 T) {I : Oracle} (hI : IOK P I) :
  ∀ args av h h',sortJ T0 T I args h = some (av,h') -> ∀ ρ B w (args':Array Value),Sim P ρ h B w -> VRs ρ args args'.toList -> Upon P ((callFunc (ρ0.f 6) args').run P w) (Ans P B ρ h w av h'):=by
 intro args av h h' he ρ B w args' hs ha
 unfold sortJ at he
 split at he <;> first | (cases he; done) | skip
 rename_i i o n cap cf caps
 split at he <;> first | (cases he; done) | skip
 rename_i c hg
 split at he <;> first | (cases he; done) | skip
 rename_i hx
 have hLs:=Classical.choose_spec hx.ex
 generalize Classical.choose hx.ex = Lr at he hLs
 cases he
 obtain ⟨v1,v2,hargs,r1,r2⟩:∃ v1 v2,args'.toList = [v1,v2] /\ VR ρ (.slice i o n cap) v1 /\ VR ρ (.fn (.func cf) [] caps) v2:=by
  generalize args'.toList = l at ha
  cases ha with
  | cons h1 h2 => cases h2 with
   | cons h3 h4 => cases h4; exact ⟨_,_,rfl,h1,h3⟩
 have hargs':args' = #[v1,v2]:=by apply Array.ext'; rw [hargs]
 subst hargs'
 have hn0:=hx.pos
 obtain ⟨p,c0,hp,rfl⟩:∃ p c0, ρ i = some p /\ v1 = .slice (some ⟨p.blk,p.base + o,none⟩) n c0:=by
  cases r1 with
  | slx h1 h2 => exact ⟨_,_,h1,rfl⟩
  | slo h1 h2 h3 => exact ⟨_,_,h1,rfl⟩
  | sle a h1 h2 => exact absurd hn0 (Nat.lt_irrefl _)
 obtain ⟨cb,hcb,rfl⟩:∃ cb:Array Value,VRs ρ caps cb.toList /\ v2 = .func (.func cf) #[] cb:=by
  cases r2 with
  | @fn f a b a' b' hf h1 h2 =>
   refine ⟨b',h2,?_⟩
   have e:a' = #[]:=by
    have:=VRs.length h1
    apply Array.eq_empty_of_size_eq_zero
    rw [<- Array.length_toList, <- this]; rfl
   rw [e]
 obtain ⟨m,rfl⟩:∃ m,n = m + 1:=⟨n - 1,by omega⟩
 obtain ⟨cc,el,fr,q1,q2,q3,q4,q5⟩:=hs.obj i _ p hg hp
 obtain ⟨q5,q6⟩:=q5 rfl
 have K:=hx.ok
 have hfit:=hx.fit
 generalize hrow:(c.drop o).take (m + 1) = row at K hLs
 have hrl:row.length = m + 1:=by rw [<- hrow]; simp; omega
 have hrk:∀ k,k < m + 1 -> row[k]? = c[o + k]?:=fun k hk => by rw [<- hrow,List.getElem?_take_of_lt hk,List.getElem?_drop]
 let rf:Fin (m + 1) -> AV:=fun k => row.getD k aundef
 let enc:Fin (m + 1) -> Value:=fun k => cc.getD (p.base + o + k) undef
 have hrf:∀ k:Fin (m + 1),row[k.val]? = some (rf k):=fun k => row_getD (by rw [hrl]; exact k.isLt)
 have hmem:∀ k,rf k ∈ row:=fun k => List.mem_of_getElem? (hrf k)
 have henc:∀ k:Fin (m + 1),cc[p.base + o + k.val]? = some (enc k) /\ VR ρ (rf k) (enc k):=fun k => by
  have hk:=hrf k
  rw [hrk k k.isLt] at hk
  obtain ⟨v,hv,hr⟩:=q4 _ _ hk
  rw [<- Nat.add_assoc] at hv
  have e:enc k = v:=by
   show cc.getD (p.base + o + k) undef = v
   rw [Array.getD_eq_getD_getElem?,hv]; rfl
  rw [e]; exact ⟨hv,hr⟩
 let cfz:Fin (m + 1) -> Fin (m + 1) -> Int:=fun k l => cmpZ T I cf caps (roH h i) (rf k) (rf l)
 have hSWO:SWO (ltOf cfz):=by
  refine ⟨fun x => decide_eq_false (K.irr _ (hmem x)),fun x y z h1 h2 => ?_,fun x y z h1 h2 => ?_⟩
  ·exact decide_eq_true (K.tr _ (hmem x) _ (hmem y) _ (hmem z) (of_decide_eq_true h1) (of_decide_eq_true h2))
  ·refine decide_eq_false fun h3 => ?_
   have h1':¬ cfz x y < 0:=of_decide_eq_false h1
   have h2':¬ cfz y z < 0:=of_decide_eq_false h2
   by_cases hyx:cfz y x < 0
   ·exact h2' (K.tr _ (hmem y) _ (hmem x) _ (hmem z) hyx h3)
   ·have e:rf x = rf y:=K.tot _ (hmem x) _ (hmem y) h1' hyx
    exact h2' (by show cmpZ T I cf caps (roH h i) (rf y) (rf z) < 0; rw [<- e]; exact h3)
 obtain ⟨fn,hfn⟩:=hx.fn
 obtain ⟨F,f1,f2,f3⟩:=hT cf fn hfn
 unfold trFn at f2
 split at f2 <;> first | (cases f2; done) | skip
 rename_i cbody hbody
 have eg:∀ args w,(callFunc cf args).run P w = .ok (.enter cf args) w:=fun args w => callFunc_enter f1 f3 hbody args w
 let d:Array (Fin (m + 1)):=Array.ofFn id
 have hd:d.size = m + 1:=Array.size_ofFn
 have hdj:∀ j (hj:j < m + 1),d[j]! = ⟨j,hj⟩:=fun j hj => by
  rw [getElem!_pos d j (by rw [hd]; exact hj)]; simp [d]
 have hplace:p.base <= p.base + o:=Nat.le_add_right _ _
 have hturn:∀ (mm:Nat) (os:Array Obj) (dk:Array (Fin (m + 1))),dk.size = m + 1 -> Turned w (sortWorld enc w p.blk (p.base + o) mm dk os) p (putCells enc (p.base + o) dk) :=
  fun mm os dk hdk => turned_sort enc p.blk (p.base + o) mm dk os rfl hplace (by rw [hdk]; omega)
 have hcmp:CmpLays1 P cf cb enc cfz p.blk (p.base + o) d.size w:=by
  intro mm os dk hdk x y
  rw [hd] at hdk
  have t:=hturn mm os dk hdk
  have S:=sim_ro hs hg hp t
  obtain ⟨h1,e1⟩:=K.run _ (hmem x) _ (hmem y)
  obtain ⟨nn,e2⟩:=lim_opt hO e1
  have hv:VRs ρ (rf x :: rf y :: caps) (#[enc x,enc y] ++ cb).toList:=by
   rw [Array.toList_append]
   exact .cons (henc x).2 (.cons (henc y).2 hcb)
  have hup:=(callF_sound hm hT hI nn).fn cf _ _ _ _ e2 ρ (sortWorld enc w p.blk (p.base + o) mm dk os).heap.size _ _ S hv
  rw [eg] at hup
  have hup':CallsIn Fence.wide 0 P cf _ _ _:=hup
  rw [callsIn_wide] at hup'
  refine hup'.mono ?_
  rintro e w' ⟨v,rfl, ρ',hv',st⟩
  generalize sortWorld enc w p.blk (p.base + o) mm dk os = W at S st
  refine ⟨by cases hv'; rfl,w'.drawn - W.drawn,w'.heap.extract W.heap.size w'.heap.size,?_⟩
  have hsame:∀ b,b < W.heap.size -> w'.heap[b]? = W.heap[b]?:=fun b hb => st.frame b hb fun j o q hj _ hw => by
   obtain ⟨_,_,_,_,_,rfl⟩:=roH_some hj
   cases hw
  have hheap:w'.heap = W.heap ++ w'.heap.extract W.heap.size w'.heap.size:=by
   refine Array.ext_getElem? fun b => ?_
   by_cases hb:b < W.heap.size
   ·rw [Array.getElem?_append_left hb,hsame b hb]
   ·rw [Array.getElem?_append_right (by omega),Array.getElem?_extract]
    have:=st.size
    by_cases hb2:b < w'.heap.size
    ·rw [if_pos (by omega),show W.heap.size + (b - W.heap.size) = b by omega]
    ·rw [if_neg (by omega),Array.getElem?_eq_none (by omega)]
  have h4:=st.os
  have h5:=st.tape
  have h6:=st.output
  have h7:=st.drawn
  cases w'
  cases W
  simp only [grow,World.drewN] at hheap h4 h5 h6 h7 ⊢
  subst h4 h5 h6
  rw [<- hheap]
  congr 1
  omega
 have hH:Holds enc w p.blk (p.base + o) d:=by
  intro j hj
  rw [hd] at hj
  rw [hdj j hj]
  refine ⟨?_,?_⟩
  ·unfold World.cell?
   simp only [q1]
   exact (henc ⟨j,hj⟩).1
  ·unfold World.frozen?
   obtain ⟨f1,f2⟩:=fr
   simp only [q1]
   have:=q6 (p.base + o + j) (by omega) (by omega)
   simp only [Bool.and_eq_false_iff,decide_eq_false_iff_not]
   simp only at this
   omega
 have hcon:=Any.slices_SortFunc L enc (fun x => VR.oneCell (henc x).2 (K.sc _ (hmem x))) cfz hSWO cf cb p.blk (p.base + o) c0 d w eg hcmp hH (Array.getElem?_eq_some_iff.1 q1).1 (by rw [hd]; exact hx.top)
 rw [hd] at hcon
 have eg6:∀ args w,(callFunc (ρ0.f 6) args).run P w = .ok (.enter (ρ0.f 6) args) w:=L.f6.enters rfl
 rw [eg6]
 show CallsIn Fence.wide 0 P _ _ w _
 rw [callsIn_wide]
 refine hcon.mono ?_
 rintro e w' ⟨rfl,d',nn,os,⟨hsz,_,hperm⟩,hsorted,rfl⟩
 rw [hd] at hsz
 refine ⟨_,rfl, ρ, .tup .nil,?_⟩
 have t:=hturn nn os d' hsz
 have hall:∀ x:Array (Fin (m + 1)),x.size = m + 1 -> x.extract 0 (m + 1) = x:=fun x hx => by
  refine Array.ext_getElem? fun b => ?_
  rw [Array.getElem?_extract]
  by_cases hb:b < m + 1
  ·rw [if_pos (by omega),Nat.zero_add]
  ·rw [if_neg (by omega),Array.getElem?_eq_none (by omega)]
 rw [hall d' hsz,hall d hd] at hperm
 have hdrow:d.toList.map rf = row:=by
  refine List.ext_getElem? fun j => ?_
  by_cases hj:j < m + 1
  ·have hdj2 : d[j]? = some ⟨j, hj⟩ := by
    rw [Array.getElem?_eq_getElem (by rw [hd]; exact hj)]; simp [d]
   rw [hrf ⟨j,hj⟩,List.getElem?_map,Array.getElem?_toList,hdj2]; rfl
  ·rw [List.getElem?_eq_none (by simp [d]; omega),List.getElem?_eq_none (by omega)]
 have hLr:Lr = d'.toList.map rf:=by
  refine K.unique hLs ⟨?_,?_⟩
  ·rw [<- hdrow]; exact hperm.map rf
  ·rw [List.pairwise_map,List.pairwise_iff_getElem]
   intro a b ha hb hab
   have hb':b < m + 1:=by simpa [hsz] using hb
   have hs1:=hsorted a b (Nat.zero_le _) hab hb'
   rw [getElem!_pos d' a (by omega),getElem!_pos d' b (by omega)] at hs1
   have:=of_decide_eq_false hs1
   simpa using this
 have hdk:∀ k (hk:k < m + 1),d'[k]! = d'[k]'(by omega):=fun k hk => getElem!_pos d' k (by omega)
 have hblk:p.blk < w.heap.size:=(Array.getElem?_eq_some_iff.1 q1).1
 have hc1:(c.take o).length = o:=by simp; omega
 have hLl:Lr.length = m + 1:=by rw [hLr]; simp [hsz]
 have hlen:(c.take o ++ (Lr ++ c.drop (o + (m + 1)))).length = c.length:=by
  rw [List.length_append,List.length_append,hc1,hLl,List.length_drop]; omega
 have hobj:ObjR P ρ B (sortWorld enc w p.blk (p.base + o) nn d' os) (.cells (c.take o ++ (Lr ++ c.drop (o + (m + 1)))) true) p:=by
  have hgw:=t.get p.blk hblk
  rw [if_pos rfl,q1] at hgw
  refine ⟨putCells enc (p.base + o) d' cc,el,fr,hgw,by rw [t.len]; exact q2,by rw [hlen]; exact q3,fun k a hk => ?_,fun _ => ⟨q5,q6⟩⟩
  have hput:(putCells enc (p.base + o) d' cc)[p.base + k]? = (cc[p.base + k]?).map fun x => if p.base + o <= p.base + k /\ p.base + k < p.base + o + d'.size then enc d'[p.base + k - (p.base + o)]! else x:=Array.getElem?_mapIdx
  rw [hput]
  by_cases k1:k < o
  ·rw [List.getElem?_append_left (by rw [hc1]; exact k1),List.getElem?_take_of_lt k1] at hk
   obtain ⟨v,hv,hr⟩:=q4 k a hk
   refine ⟨v,?_,hr⟩
   rw [hv,Option.map_some,if_neg (by omega)]
  ·rw [List.getElem?_append_right (by rw [hc1]; omega),hc1] at hk
   by_cases k2:k - o < m + 1
   ·rw [List.getElem?_append_left (by rw [hLl]; exact k2),hLr] at hk
    have hk2:k - o < d'.size:=by omega
    rw [List.getElem?_map,List.getElem?_eq_getElem (by simpa using hk2)] at hk
    cases hk
    have hcc:∃ y,cc[p.base + k]? = some y:=by
     have:=(henc ⟨k - o,k2⟩).1
     rw [show p.base + o + (k - o) = p.base + k by omega] at this
     exact ⟨_,this⟩
    obtain ⟨y,hy⟩:=hcc
    refine ⟨enc d'[k - o],?_,?_⟩
    ·rw [hy,Option.map_some,if_pos (by omega),show p.base + k - (p.base + o) = k - o by omega,hdk _ k2]
    ·have:=(henc d'[k - o]).2
     simpa using this
   ·rw [List.getElem?_append_right (by rw [hLl]; omega),hLl,List.getElem?_drop,show o + (m + 1) + (k - o - (m + 1)) = k by omega] at hk
    obtain ⟨v,hv,hr⟩:=q4 k a hk
    refine ⟨v,?_,hr⟩
    rw [hv,Option.map_some,if_neg (by omega)]
 have hother:∀ j oj q,j ≠ i -> h.get j = some oj -> ρ j = some q -> ObjR P ρ B (sortWorld enc w p.blk (p.base + o) nn d' os) oj q:=by
  intro j oj q hne hj hq
  have hob:=hs.obj j oj q hj hq
  have hlt:=ObjR.lt hob
  have hap:=hs.sep i j _ _ p q (Ne.symm hne) hg hj hp hq rfl
  cases oj with
  | cells c2 r2 => exact t.cells hob hap id
  | map es =>
   refine ObjR.same ?_ hob
   obtain ⟨_,_,_,ms,ck,g1,_⟩:=hob
   rw [t.get q.blk hlt,if_neg fun e => by rw [e,q1] at g1; cases g1]
  | loop a1 a2 a3 a4 a5 a6 a7 =>
   refine ObjR.same ?_ hob
   obtain ⟨_,_,_,ms,g1,_⟩:=hob
   rw [t.get q.blk hlt,if_neg fun e => by rw [e,q1] at g1; cases g1]
 have hrw:∀ j oj,(h.set i (.cells (c.take o ++ (Lr ++ c.drop (o + (m + 1)))) true)).get j = some oj -> ∃ o2,h.get j = some o2 /\ o2.rw = oj.rw:=by
  intro j oj hj
  rw [AHeap.get_set] at hj
  split at hj
  ·rename_i e; cases hj; rw [e]; exact ⟨_,hg,rfl⟩
  ·exact ⟨_,hj,rfl⟩
 refine ⟨Ext.refl _,⟨Nat.le_trans hs.low t.size,fun j q hq => hs.dom j q hq,fun j oj q hj hq => ?_,fun j j2 oj oj2 q q2 hne hj hj2 hq hq2 hw => ?_,hs.tidy.set hg⟩,rfl,rfl,rfl,t.size,fun b hb hoff => ?_,fun j oj q hj hq hw => ?_,Nat.le_refl _,fun j q hq => .inl hq,fun b Lp hb => ?_,?_⟩
 ·by_cases e:j = i
  ·subst e
   rw [AHeap.get_set_same] at hj; cases hj
   rw [hp] at hq; cases hq
   exact hobj
  ·rw [AHeap.get_set_ne _ _ e] at hj
   exact hother j oj q e hj hq
 ·obtain ⟨o1,g1,w1⟩:=hrw j oj hj
  obtain ⟨o2,g2,w2⟩:=hrw j2 oj2 hj2
  exact hs.sep j j2 o1 o2 q q2 hne g1 g2 hq hq2 (w1.trans hw)
 ·rw [t.get b hb,if_neg (Ne.symm (hoff i _ p hg hp rfl))]
 ·obtain ⟨o1,g1,w1⟩:=hrw j oj hj
  exact .inr ⟨j,o1,q,g1,hq,w1.trans hw,rfl⟩
 ·have hlt:b < w.heap.size:=(Array.getElem?_eq_some_iff.1 hb).1
  refine ⟨Lp,?_⟩
  rw [t.get b hlt,if_neg (fun e => by rw [e,q1] at hb; cases hb)]
  exact hb
 ·show w.drawn <= w.drawn + nn
  omega
end
end Go.AM
namespace Go.AM
open Go
def cells2 (L:List AV):List AV:=L.flatMap AV.cells
end Go.AM
namespace Go.GT
abbrev Pm:=List Nat
def ap (p:Pm) (i:Nat):Nat:=p.getD i 0
theorem ap_lt_len {p:Pm} {i:Nat} (h:i < p.length):ap p i = p[i]:=by simp [ap,List.getD,h]
theorem ap_get? {p:Pm} {i x:Nat} (h:p[i]? = some x):ap p i = x:=by simp [ap,List.getD,h]
theorem get?_ap {p:Pm} {i:Nat} (h:i < p.length):p[i]? = some (ap p i):=by simp [ap,List.getD,h]
theorem ap_mem {p:Pm} {i:Nat} (h:i < p.length):ap p i ∈ p:=by rw [ap_lt_len h]; exact List.getElem_mem h
theorem ext {p q:Pm} (hl:p.length = q.length) (h:∀ i,i < p.length -> ap p i = ap q i):p = q:=by
 refine List.ext_getElem hl fun i h1 h2 => ?_
 have:=h i h1
 rwa [ap_lt_len h1,ap_lt_len h2] at this
theorem nodup_le {α:Type} [DecidableEq α]:∀ {l l':List α},l.Nodup -> (∀ x ∈ l,x ∈ l') -> l.length <= l'.length
 | [],_,_,_ => Nat.zero_le _
 | x :: l,l',hn,hs => by
  have hx:=hs x (.head _)
  have h1:=List.length_erase_of_mem hx
  have hpos:0 < l'.length:=List.length_pos_of_mem hx
  obtain ⟨hx1,hn1⟩:=List.nodup_cons.1 hn
  have:=nodup_le (l:=l) (l':=l'.erase x) hn1 fun y hy => by
   have hne:y ≠ x:=fun e => hx1 (e ▸ hy)
   exact (List.mem_erase_of_ne hne).2 (hs y (.tail _ hy))
  simp only [List.length_cons]
  omega
theorem nodup_full {α:Type} [DecidableEq α] {l l':List α} (hn:l.Nodup) (hs:∀ x ∈ l,x ∈ l') (hl:l'.length <= l.length) {y:α} (hy:y ∈ l'):y ∈ l:=by
 refine Decidable.byContradiction fun hc => ?_
 have h1:=List.length_erase_of_mem hy
 have hpos:0 < l'.length:=List.length_pos_of_mem hy
 have:=nodup_le (l:=l) (l':=l'.erase y) hn fun x hx => (List.mem_erase_of_ne (fun e => hc (by rw [<- e]; exact hx))).2 (hs x hx)
 omega
theorem asc_unique {α:Type} {R:α -> α -> Prop} (irr:∀ a, ¬ R a a) (tr:∀ a b c,R a b -> R b c -> R a c):∀ {l l':List α},l.Pairwise R -> l'.Pairwise R -> (∀ x,x ∈ l ↔ x ∈ l') -> l = l'
 | [], [],_,_,_ => rfl
 | [],y :: _,_,_,h => absurd ((h y).2 (.head _)) List.not_mem_nil
 | x :: _, [],_,_,h => absurd ((h x).1 (.head _)) List.not_mem_nil
 | x :: l,y :: l',h1,h2,h => by
  obtain ⟨a1,a2⟩:=List.pairwise_cons.1 h1
  obtain ⟨b1,b2⟩:=List.pairwise_cons.1 h2
  have hxy:x = y:=by
   rcases List.mem_cons.1 ((h x).1 (.head _)) with e | e
   ·exact e
   ·rcases List.mem_cons.1 ((h y).2 (.head _)) with e' | e'
    ·exact e'.symm
    ·exact absurd (tr _ _ _ (b1 _ e) (a1 _ e')) (irr _)
  subst hxy
  congr 1
  refine asc_unique irr tr a2 b2 fun z => ?_
  constructor
  ·intro hz
   rcases List.mem_cons.1 ((h z).1 (.tail _ hz)) with e | e
   ·subst e; exact absurd (a1 _ hz) (irr _)
   ·exact e
  ·intro hz
   rcases List.mem_cons.1 ((h z).2 (.tail _ hz)) with e | e
   ·subst e; exact absurd (b1 _ hz) (irr _)
   ·exact e
structure PV (n:Nat) (p:Pm):Prop where
 len:p.length = n
 lt:∀ x ∈ p,x < n
 nd:p.Nodup
section
variable {n:Nat} {p q r:Pm}
theorem PV.ap_lt (h:PV n p) {i:Nat} (hi:i < n):ap p i < n:=h.lt _ (ap_mem (by rw [h.len]; exact hi))
theorem PV.inj (h:PV n p) {i j:Nat} (hi:i < n) (hj:j < n) (e:ap p i = ap p j):i = j:=by
 have h1:i < p.length:=by rw [h.len]; exact hi
 have h2:j < p.length:=by rw [h.len]; exact hj
 rw [ap_lt_len h1,ap_lt_len h2] at e
 exact (List.getElem_inj h.nd).1 e
theorem PV.mem (h:PV n p) {y:Nat} (hy:y < n):y ∈ p:=nodup_full h.nd (l':=List.range n) (fun x hx => List.mem_range.2 (h.lt x hx)) (by rw [List.length_range,h.len]; exact Nat.le_refl _) (List.mem_range.2 hy)
theorem PV.surj (h:PV n p) {y:Nat} (hy:y < n):∃ i,i < n /\ ap p i = y:=by
 obtain ⟨i,hi,e⟩:=List.mem_iff_getElem.1 (h.mem hy)
 exact ⟨i,by rw [<- h.len]; exact hi,by rw [ap_lt_len hi]; exact e⟩
theorem PV.ext (h:PV n p) (k:PV n q) (e:∀ i,i < n -> ap p i = ap q i):p = q:=GT.ext (by rw [h.len,k.len]) fun i hi => e i (by rw [<- h.len]; exact hi)
theorem PV.mk' (hl:p.length = n) (h1:∀ i,i < n -> ap p i < n) (h2:∀ i j,i < n -> j < n -> ap p i = ap p j -> i = j):PV n p:=by
 refine ⟨hl,fun x hx => ?_,?_⟩
 ·obtain ⟨i,hi,e⟩:=List.mem_iff_getElem.1 hx
  rw [<- e, <- ap_lt_len hi]; exact h1 i (by omega)
 ·refine List.pairwise_iff_getElem.2 fun i j hi hj hij e => ?_
  rw [<- ap_lt_len hi, <- ap_lt_len hj] at e
  have:=h2 i j (by omega) (by omega) e
  omega
def one (n:Nat):Pm:=List.range n
theorem ap_one {i:Nat} (hi:i < n):ap (one n) i = i:=by
 unfold one; rw [ap_lt_len (by simpa using hi)]; simp
theorem PV.one (n:Nat):PV n (one n):=⟨List.length_range,fun _ hx => List.mem_range.1 hx,List.nodup_range⟩
def mul (a b:Pm):Pm:=a.map (ap b)
theorem length_mul:(mul p q).length = p.length:=List.length_map _
theorem ap_mul {i:Nat} (hi:i < p.length):ap (mul p q) i = ap q (ap p i):=by
 unfold mul; rw [ap_lt_len (by simpa using hi),ap_lt_len hi]; simp
theorem PV.ap_mul (h:PV n p) {i:Nat} (hi:i < n):ap (GT.mul p q) i = ap q (ap p i):=GT.ap_mul (by rw [h.len]; exact hi)
theorem PV.mul (h:PV n p) (k:PV n q):PV n (mul p q):=by
 refine PV.mk' (by rw [length_mul,h.len]) (fun i hi => ?_) fun i j hi hj e => ?_
 ·rw [h.ap_mul hi]; exact k.ap_lt (h.ap_lt hi)
 ·rw [h.ap_mul hi,h.ap_mul hj] at e
  exact h.inj hi hj (k.inj (h.ap_lt hi) (h.ap_lt hj) e)
theorem PV.assoc (h:PV n p) (k:PV n q) (m:PV n r):GT.mul (GT.mul p q) r = GT.mul p (GT.mul q r) :=
 ((h.mul k).mul m).ext (h.mul (k.mul m)) fun i hi => by rw [(h.mul k).ap_mul hi,h.ap_mul hi,h.ap_mul hi,k.ap_mul (h.ap_lt hi)]
theorem PV.one_mul (h:PV n p):GT.mul (GT.one n) p = p:=((PV.one n).mul h).ext h fun i hi => by rw [(PV.one n).ap_mul hi,ap_one hi]
theorem PV.mul_one (h:PV n p):GT.mul p (GT.one n) = p:=(h.mul (PV.one n)).ext h fun i hi => by rw [h.ap_mul hi,ap_one (h.ap_lt hi)]
def inv (a:Pm):Pm:=(List.range a.length).map fun y => a.idxOf y
theorem length_inv:(inv p).length = p.length:=by simp [inv]
theorem PV.ap_inv (h:PV n p) {i:Nat} (hi:i < n):ap (GT.inv p) (ap p i) = i:=by
 have hl:ap p i < (GT.inv p).length:=by rw [length_inv,h.len]; exact h.ap_lt hi
 rw [ap_lt_len hl]
 have hi':i < p.length:=by rw [h.len]; exact hi
 simp only [GT.inv,List.getElem_map,List.getElem_range]
 rw [ap_lt_len hi']
 exact h.nd.idxOf_getElem i hi'
theorem PV.ap_ap_inv (h:PV n p) {y:Nat} (hy:y < n):ap p (ap (GT.inv p) y) = y:=by
 obtain ⟨i,hi,rfl⟩:=h.surj hy
 rw [h.ap_inv hi]
theorem PV.inv (h:PV n p):PV n (inv p):=by
 refine PV.mk' (by rw [length_inv,h.len]) (fun y hy => ?_) fun x y hx hy e => ?_
 ·obtain ⟨i,hi,rfl⟩:=h.surj hy
  rw [h.ap_inv hi]; exact hi
 ·rw [<- h.ap_ap_inv hx, <- h.ap_ap_inv hy,e]
theorem PV.mul_inv (h:PV n p):GT.mul p (GT.inv p) = GT.one n:=(h.mul h.inv).ext (PV.one n) fun i hi => by rw [h.ap_mul hi,h.ap_inv hi,ap_one hi]
theorem PV.inv_mul (h:PV n p):GT.mul (GT.inv p) p = GT.one n:=(h.inv.mul h).ext (PV.one n) fun i hi => by rw [h.inv.ap_mul hi,h.ap_ap_inv hi,ap_one hi]
theorem PV.inv_mul_cancel (h:PV n p) (k:PV n q):GT.mul (GT.mul q (GT.inv p)) p = q:=by rw [k.assoc h.inv h,h.inv_mul,k.mul_one]
theorem PV.mul_inv_cancel (h:PV n p) (k:PV n q):GT.mul (GT.mul q p) (GT.inv p) = q:=by rw [k.assoc h h.inv,h.mul_inv,k.mul_one]
theorem PV.inv_one:GT.inv (GT.one n) = GT.one n:=by
 have:=(PV.one n).inv.mul_one
 rw [(PV.one n).inv_mul] at this
 exact this.symm
theorem PV.eq_inv (h:PV n p) (k:PV n q) (e:GT.mul p q = GT.one n):q = GT.inv p:=by
 have:GT.mul (GT.inv p) (GT.mul p q) = GT.inv p:=by rw [e,h.inv.mul_one]
 rw [<- h.inv.assoc h k,h.inv_mul,k.one_mul] at this
 exact this
theorem PV.cancel_l (h:PV n p) (k:PV n q) (m:PV n r) (e:GT.mul r p = GT.mul r q):p = q:=by
 have:=congrArg (fun z => GT.mul (GT.inv r) z) e
 rwa [<- m.inv.assoc m h, <- m.inv.assoc m k,m.inv_mul,h.one_mul,k.one_mul] at this
end
def pw (n:Nat) (p:Pm):Nat -> Pm
 | 0 => one n
 | k + 1 => mul (pw n p k) p
def allL (n:Nat):Nat -> List Pm
 | 0 => [[]]
 | k + 1 => (allL n k).flatMap fun l => (List.range n).map fun x => x :: l
theorem mem_allL {n:Nat}:∀ {k:Nat} {p:Pm},p.length = k -> (∀ x ∈ p,x < n) -> p ∈ allL n k
 | 0,p,hl,_ => by simp [allL,List.length_eq_zero_iff.1 hl]
 | k + 1, [],hl,_ => by simp at hl
 | k + 1,x :: p,hl,h => by
  unfold allL
  refine List.mem_flatMap.2 ⟨p,mem_allL (by simpa using hl) fun y hy => h y (.tail _ hy),List.mem_map.2 ⟨x,List.mem_range.2 (h x (.head _)),rfl⟩⟩
section
variable {n:Nat} {p q r:Pm}
theorem PV.pw (h:PV n p):∀ k,PV n (pw n p k)
 | 0 => PV.one n
 | k + 1 => (PV.pw h k).mul h
theorem PV.pw_add (h:PV n p) (i:Nat):∀ j,GT.pw n p (i + j) = GT.mul (GT.pw n p i) (GT.pw n p j)
 | 0 => by rw [Nat.add_zero]; exact ((h.pw i).mul_one).symm
 | j + 1 => by
  show GT.mul (GT.pw n p (i + j)) p = GT.mul _ (GT.mul _ p)
  rw [PV.pw_add h i j,(h.pw i).assoc (h.pw j) h]
theorem repeats {α:Type} [DecidableEq α] (f:Nat -> α) (l:List α) (h:∀ i,f i ∈ l):∃ i j,i < j /\ f i = f j:=by
 refine Classical.byContradiction fun hc => ?_
 have hn:((List.range (l.length + 1)).map f).Nodup:=by
  refine List.pairwise_iff_getElem.2 fun i j hi hj hij e => ?_
  rw [List.getElem_map,List.getElem_map,List.getElem_range,List.getElem_range] at e
  exact hc ⟨i,j,hij,e⟩
 have:=nodup_le hn fun x hx => by obtain ⟨i,_,rfl⟩:=List.mem_map.1 hx; exact h i
 simp at this
 omega
theorem PV.inv_pw (h:PV n p):∃ k,GT.inv p = GT.pw n p k:=by
 obtain ⟨i,j,hij,e⟩:=repeats (GT.pw n p) (allL n n) fun i => mem_allL (h.pw i).len (h.pw i).lt
 obtain ⟨d,rfl⟩:∃ d,j = i + (d + 1):=⟨j - i - 1,by omega⟩
 rw [h.pw_add i (d + 1)] at e
 have e2:GT.pw n p (d + 1) = GT.one n:=by
  refine (h.pw (d + 1)).cancel_l (PV.one n) (h.pw i) ?_
  rw [<- e,(h.pw i).mul_one]
 refine ⟨d,?_⟩
 have e3:GT.mul (GT.pw n p d) p = GT.one n:=e2
 have:GT.mul (GT.mul (GT.pw n p d) p) (GT.inv p) = GT.inv p:=by rw [e3,h.inv.one_mul]
 rw [h.mul_inv_cancel (h.pw d)] at this
 exact this.symm
end
inductive Gen (n:Nat) (S:List Pm):Pm -> Prop
 | one:Gen n S (one n)
 | mul {a s:Pm} (h:Gen n S a) (hs:s ∈ S):Gen n S (mul a s)
section
variable {n:Nat} {S T:List Pm} {a b:Pm}
theorem Gen.pv (hS:∀ s ∈ S,PV n s) (h:Gen n S a):PV n a:=by
 induction h with
 | one => exact PV.one n
 | mul _ hs ih => exact ih.mul (hS _ hs)
theorem Gen.of (hS:∀ s ∈ S,PV n s) {s:Pm} (hs:s ∈ S):Gen n S s:=by
 have:=Gen.mul (Gen.one (n:=n) (S:=S)) hs
 rwa [(hS s hs).one_mul] at this
theorem Gen.mul' (hS:∀ s ∈ S,PV n s) (ha:Gen n S a) (hb:Gen n S b):Gen n S (GT.mul a b):=by
 have pa:=ha.pv hS
 induction hb with
 | one => rw [pa.mul_one]; exact ha
 | mul hb hs ih => rw [<- pa.assoc (hb.pv hS) (hS _ hs)]; exact ih.mul hs
theorem Gen.pw (hS:∀ s ∈ S,PV n s) (ha:Gen n S a):∀ k,Gen n S (pw n a k)
 | 0 => .one
 | k + 1 => (Gen.pw hS ha k).mul' hS ha
theorem Gen.inv (hS:∀ s ∈ S,PV n s) (ha:Gen n S a):Gen n S (inv a):=by
 obtain ⟨k,e⟩:=(ha.pv hS).inv_pw
 rw [e]; exact ha.pw hS k
theorem Gen.mono (hS:∀ s ∈ S,PV n s) (hST:∀ s ∈ T,Gen n S s) (h:Gen n T a):Gen n S a:=by
 induction h with
 | one => exact .one
 | mul _ hs ih => exact ih.mul' hS (hST _ hs)
theorem Gen.ind {P:Pm -> Prop} (h1:P (GT.one n)) (hm:∀ x,P x -> ∀ s ∈ S,P (GT.mul x s)) (h:Gen n S a):P a:=by
 induction h with
 | one => exact h1
 | mul _ hs ih => exact hm _ ih _ hs
end
def lex:Pm -> Pm -> Bool
 | [], [] => false
 | [],_ :: _ => true
 | _ :: _, [] => false
 | x :: a,y :: b => decide (x < y) || (decide (x = y) && lex a b)
theorem lex_irr:∀ a:Pm,lex a a = false
 | [] => rfl
 | x :: a => by simp [lex,lex_irr a]
theorem lex_trans:∀ {a b c:Pm},lex a b = true -> lex b c = true -> lex a c = true
 | [], [],_,h,_ => by simp [lex] at h
 | [],_ :: _, [],_,h => by simp [lex] at h
 | [],_ :: _,_ :: _,_,_ => rfl
 | _ :: _, [],_,h,_ => by simp [lex] at h
 | _ :: _,_ :: _, [],_,h => by simp [lex] at h
 | x :: a,y :: b,z :: c,h,k => by
  simp only [lex,Bool.or_eq_true,Bool.and_eq_true,decide_eq_true_eq] at h k ⊢
  rcases h with h | ⟨e,h⟩
  ·rcases k with k | ⟨e',k⟩
   ·exact .inl (by omega)
   ·exact .inl (by omega)
  ·rcases k with k | ⟨e',k⟩
   ·exact .inl (by omega)
   ·exact .inr ⟨by omega,lex_trans h k⟩
theorem lex_total:∀ {a b:Pm},lex a b = false -> lex b a = false -> a = b
 | [], [],_,_ => rfl
 | [],_ :: _,h,_ => by simp [lex] at h
 | _ :: _, [],_,h => by simp [lex] at h
 | x :: a,y :: b,h,k => by
  simp only [lex,Bool.or_eq_false_iff,Bool.and_eq_false_iff,decide_eq_false_iff_not] at h k
  have e:x = y:=by omega
  subst e
  have h2:lex a b = false:=h.2.resolve_left (fun h => h rfl)
  have k2:lex b a = false:=k.2.resolve_left (fun h => h rfl)
  rw [lex_total h2 k2]
theorem lex_asymm {a b:Pm} (h:lex a b = true):lex b a = false:=by
 cases e:lex b a with
 | false => rfl
 | true => have:=lex_trans h e; rw [lex_irr] at this; cases this
theorem lex_at:∀ {a b:Pm} {k:Nat},a.length = b.length -> k < a.length -> (∀ i,i < k -> ap a i = ap b i) -> ap a k < ap b k -> lex a b = true
 | [],_,k,_,hk,_,_ => by simp at hk
 | _ :: _, [],_,hl,_,_,_ => by simp at hl
 | x :: a,y :: b,0,_,_,_,h => by
  have h':x < y:=h
  simp [lex,h']
 | x :: a,y :: b,k + 1,hl,hk,he,h => by
  have e:x = y:=he 0 (by omega)
  subst e
  simp only [lex,decide_true,Bool.true_and,Bool.or_eq_true]
  exact .inr (lex_at (k:=k) (by simpa using hl) (by simpa using hk) (fun i hi => he (i + 1) (by omega)) h)
def Asc (l:List Pm):Prop:=l.Pairwise fun a b => lex a b = true
theorem Asc.nodup {l:List Pm} (h:Asc l):l.Nodup:=by
 refine List.Pairwise.imp ?_ h
 intro a b hab e
 subst e; rw [lex_irr] at hab; cases hab
theorem Asc.unique {l l':List Pm} (h:Asc l) (k:Asc l') (e:∀ x,x ∈ l ↔ x ∈ l'):l = l' :=
 asc_unique (R:=fun a b => lex a b = true) (fun a ha => by rw [lex_irr] at ha; cases ha) (fun _ _ _ => lex_trans) h k e
end Go.GT
namespace Go.GT
def Fx (k:Nat) (p:Pm):Prop:=∀ i,i < k -> ap p i = i
section
variable {n k:Nat} {p q:Pm}
theorem Fx.zero:Fx 0 p:=fun _ h => absurd h (Nat.not_lt_zero _)
theorem Fx.one (hk:k <= n):Fx k (one n):=fun i hi => ap_one (by omega)
theorem Fx.mul (hp:PV n p) (hk:k <= n) (h:Fx k p) (h':Fx k q):Fx k (mul p q):=fun i hi => by rw [hp.ap_mul (by omega),h i hi,h' i hi]
theorem Fx.inv (hp:PV n p) (hk:k <= n) (h:Fx k p):Fx k (inv p):=fun i hi => by
 have e:=hp.ap_inv (show i < n by omega)
 rwa [h i hi] at e
theorem Fx.succ (h:Fx k p) (e:ap p k = k):Fx (k + 1) p:=fun i hi => by
 by_cases e':i = k
 ·subst e'; exact e
 ·exact h i (by omega)
theorem Fx.le {j:Nat} (h:Fx k p) (hj:j <= k):Fx j p:=fun i hi => h i (by omega)
theorem Fx.all (hp:PV n p) (h:Fx n p):p = GT.one n:=hp.ext (PV.one n) fun i hi => by rw [h i hi,ap_one hi]
end
structure Lv where
 orb:List Nat
 wd:List (Option Pm)
 gs:List Pm
def wat (l:Lv) (x:Nat):Option Pm:=(l.wd[x]?).getD none
def InS:List Lv -> Nat -> Pm -> Prop
 | [],_,_ => True
 | l :: r,k,p => match wat l (ap p k) with | none => False | some w => InS r (k + 1) (mul p (inv w))
theorem InS_cons {l:Lv} {r:List Lv} {k:Nat} {p:Pm}:InS (l :: r) k p ↔ ∃ w,wat l (ap p k) = some w /\ InS r (k + 1) (mul p (inv w)):=by
 have e:InS (l :: r) k p = (match wat l (ap p k) with | none => False | some w => InS r (k + 1) (mul p (inv w))):=rfl
 rw [e]
 cases h:wat l (ap p k) with
 | none => simp
 | some w => simp
def hg:List Lv -> List Pm
 | [] => []
 | l :: _ => l.gs
structure LvOK (n:Nat) (G0:List Pm) (k:Nat) (l:Lv):Prop where
 wlen:l.wd.length = n
 base:wat l k = some (one n)
 word:∀ x w,wat l x = some w -> PV n w /\ Fx k w /\ ap w k = x /\ Gen n l.gs w
 orb:∀ x,x ∈ l.orb ↔ ∃ w,wat l x = some w
 ond:l.orb.Nodup
 gen:∀ g ∈ l.gs,PV n g /\ Fx k g /\ Gen n G0 g
 gnd:l.gs.Nodup
def ChOK (n:Nat) (G0:List Pm):Nat -> List Lv -> Prop
 | k, [] => k = n
 | k,l :: r => k < n /\ LvOK n G0 k l /\ (∀ g ∈ hg r,Gen n l.gs g) /\ ChOK n G0 (k + 1) r
def Cl:Nat -> List Lv -> Prop
 | _, [] => True
 | k,l :: r => (∀ x w,wat l x = some w -> ∀ g ∈ l.gs,InS (l :: r) k (mul w g)) /\ Cl (k + 1) r
def LvLe (l l':Lv):Prop:=∀ x w,wat l x = some w -> wat l' x = some w
def ChLe:List Lv -> List Lv -> Prop
 | [], [] => True
 | l :: r,l' :: r' => LvLe l l' /\ ChLe r r'
 | _,_ => False
theorem LvLe.refl (l:Lv):LvLe l l:=fun _ _ h => h
theorem LvLe.trans {a b c:Lv} (h:LvLe a b) (k:LvLe b c):LvLe a c:=fun x w e => k x w (h x w e)
theorem ChLe.refl:∀ l:List Lv,ChLe l l
 | [] => trivial
 | l :: r => ⟨LvLe.refl l,ChLe.refl r⟩
theorem ChLe.trans:∀ {a b c:List Lv},ChLe a b -> ChLe b c -> ChLe a c
 | [], [], [],_,_ => trivial
 | [], [],_ :: _,_,h => h.elim
 | [],_ :: _,_,h,_ => h.elim
 | _ :: _, [],_,h,_ => h.elim
 | _ :: _,_ :: _, [],_,h => h.elim
 | _ :: _,_ :: _,_ :: _,h,k => ⟨h.1.trans k.1,ChLe.trans h.2 k.2⟩
theorem InS.mono:∀ {a b:List Lv} {k:Nat} {p:Pm},ChLe a b -> InS a k p -> InS b k p
 | [], [],_,_,_,_ => trivial
 | [],_ :: _,_,_,h,_ => h.elim
 | _ :: _, [],_,_,h,_ => h.elim
 | l :: r,l' :: r',k,p,h,hi => by
  obtain ⟨w,h1,h2⟩:=InS_cons.1 hi
  exact InS_cons.2 ⟨w,h.1 _ _ h1,InS.mono h.2 h2⟩
section
variable {n:Nat} {G0:List Pm}
theorem ChOK.hg {k:Nat} {ls:List Lv} (h:ChOK n G0 k ls):∀ g ∈ hg ls,PV n g /\ Fx k g /\ Gen n G0 g:=by
 cases ls with
 | nil => intro g hg; cases hg
 | cons l r => exact h.2.1.gen
theorem LvOK.pvs {k:Nat} {l:Lv} (h:LvOK n G0 k l):∀ g ∈ l.gs,PV n g:=fun g hg => (h.gen g hg).1
theorem gen_fx {k:Nat} (hk:k <= n) {S:List Pm} (hS:∀ s ∈ S,PV n s /\ Fx k s) {p:Pm} (h:Gen n S p):Fx k p:=by
 induction h with
 | one => exact Fx.one hk
 | mul h hs ih => exact Fx.mul (h.pv fun s hs => (hS s hs).1) hk ih (hS _ hs).2
theorem LvOK.div {k:Nat} (hk:k < n) {l:Lv} (h:LvOK n G0 k l) {p w:Pm} (hp:PV n p) (hf:Fx k p) (hw:wat l (ap p k) = some w):PV n (mul p (inv w)) /\ Fx (k + 1) (mul p (inv w)) /\ mul (mul p (inv w)) w = p:=by
 obtain ⟨w1,w2,w3,w4⟩:=h.word _ _ hw
 refine ⟨hp.mul w1.inv,?_,w1.inv_mul_cancel hp⟩
 refine (Fx.mul hp (by omega) hf (w2.inv w1 (by omega))).succ ?_
 rw [hp.ap_mul hk, <- w3,w1.ap_inv hk]
theorem complete:∀ {k:Nat} {ls:List Lv},ChOK n G0 k ls -> Cl k ls -> ∀ {p:Pm},PV n p -> Fx k p -> (InS ls k p ↔ Gen n (hg ls) p)
 | k, [],h,_,p,hp,hf => by
  have e:k = n:=h
  subst e
  rw [hf.all hp]
  exact ⟨fun _ => .one,fun _ => trivial⟩
 | k,l :: r,h,hc,p,hp,hf => by
  obtain ⟨hk,hl,hlink,hr⟩:=h
  obtain ⟨hc1,hc2⟩:=hc
  have ih:∀ {q:Pm},PV n q -> Fx (k + 1) q -> (InS r (k + 1) q ↔ Gen n (hg r) q):=fun hq hf => complete hr hc2 hq hf
  constructor
  ·intro hi
   obtain ⟨w,h1,h2⟩:=InS_cons.1 hi
   obtain ⟨d1,d2,d3⟩:=hl.div hk hp hf h1
   have g1:=Gen.mono hl.pvs hlink ((ih d1 d2).1 h2)
   obtain ⟨w1,w2,w3,w4⟩:=hl.word _ _ h1
   have:=g1.mul' hl.pvs w4
   rwa [d3] at this
  ·intro hg
   have gfx:∀ {q:Pm},Gen n l.gs q -> PV n q /\ Fx k q:=fun hq => ⟨hq.pv hl.pvs,gen_fx (Nat.le_of_lt hk) (fun s hs => ⟨(hl.gen s hs).1,(hl.gen s hs).2.1⟩) hq⟩
   have key:Gen n l.gs p -> InS (l :: r) k p:=by
    intro hg
    clear hp hf
    induction hg with
    | one =>
     refine InS_cons.2 ⟨one n,by rw [ap_one hk]; exact hl.base,?_⟩
     rw [(PV.one n).mul_inv]
     exact (ih (PV.one n) (Fx.one hk)).2 .one
    | @mul a s ha hs iha =>
     obtain ⟨pa,fa⟩:=gfx ha
     have ps:=hl.pvs s hs
     obtain ⟨w,h1,h2⟩:=InS_cons.1 (iha ha)
     obtain ⟨d1,d2,d3⟩:=hl.div hk pa fa h1
     obtain ⟨w1,w2,w3,w4⟩:=hl.word _ _ h1
     obtain ⟨v,k1,k2⟩:=InS_cons.1 (hc1 _ _ h1 s hs)
     have e1:ap (mul w s) k = ap (mul a s) k:=by rw [w1.ap_mul hk,pa.ap_mul hk,w3]
     have fws:Fx k (mul w s):=(gfx (w4.mul hs)).2
     obtain ⟨c1,c2,c3⟩:=hl.div hk (w1.mul ps) fws k1
     rw [e1] at k1
     obtain ⟨v1,v2,v3,v4⟩:=hl.word _ _ k1
     refine InS_cons.2 ⟨v,k1,?_⟩
     have e2:mul (mul a s) (inv v) = mul (mul a (inv w)) (mul (mul w s) (inv v)):=by
      rw [<- d1.assoc (w1.mul ps) v1.inv, <- d1.assoc w1 ps,d3]
     rw [e2]
     have g1:=(ih d1 d2).1 h2
     have g2:=(ih c1 c2).1 k2
     exact (ih (d1.mul c1) (Fx.mul d1 hk d2 c2)).2 (g1.mul' (fun g hg => (hr.hg g hg).1) g2)
   exact key hg
end
end Go.GT
namespace Go.GT
def so (u:Pm) (orb:List Nat):List Nat:=orb.mergeSort fun x y => decide (ap u x <= ap u y)
theorem so_perm (u:Pm) (orb:List Nat):(so u orb).Perm orb:=List.mergeSort_perm _ _
theorem so_mem {u:Pm} {orb:List Nat} {x:Nat}:x ∈ so u orb ↔ x ∈ orb:=(so_perm u orb).mem_iff
theorem so_asc {u:Pm} {n:Nat} (hu:PV n u) {orb:List Nat} (hn:orb.Nodup) (ho:∀ x ∈ orb,x < n):(so u orb).Pairwise fun x y => ap u x < ap u y:=by
 have h1:(so u orb).Pairwise fun x y => decide (ap u x <= ap u y) = true:=List.pairwise_mergeSort (fun a b c h k => by simp at h k ⊢; omega) (fun a b => by simp; omega) orb
 have h2:(so u orb).Nodup:=(so_perm u orb).nodup_iff.2 hn
 have h3:=List.Pairwise.and_mem.1 (h1.and h2)
 refine List.Pairwise.imp ?_ h3
 rintro x y ⟨hx,hy,e1,e2⟩
 have e3:ap u x <= ap u y:=of_decide_eq_true e1
 have:ap u x ≠ ap u y:=fun e => e2 (hu.inj (ho x (so_mem.1 hx)) (ho y (so_mem.1 hy)) e)
 omega
def wd! (l:Lv) (x:Nat):Pm:=(wat l x).getD []
theorem wd!_eq {l:Lv} {x:Nat} {w:Pm} (h:wat l x = some w):wd! l x = w:=by unfold wd!; rw [h]; rfl
def els:List Lv -> Nat -> Pm -> List Pm
 | [],_,u => [u]
 | l :: r,k,u => (so u l.orb).flatMap fun x => els r (k + 1) (mul (wd! l x) u)
def ordC:List Lv -> Nat
 | [] => 1
 | l :: r => l.orb.length * ordC r
section
variable {n:Nat} {G0:List Pm}
theorem LvOK.orb_lt {k:Nat} {l:Lv} (h:LvOK n G0 k l) (hk:k < n) {x:Nat} (hx:x ∈ l.orb):x < n:=by
 obtain ⟨w,e⟩:=(h.orb x).1 hx
 obtain ⟨w1,_,w3,_⟩:=h.word _ _ e
 rw [<- w3]; exact w1.ap_lt hk
theorem LvOK.wd! {k:Nat} {l:Lv} (h:LvOK n G0 k l) {x:Nat} (hx:x ∈ l.orb):wat l x = some (wd! l x) /\ PV n (wd! l x) /\ Fx k (wd! l x) /\ ap (wd! l x) k = x:=by
 obtain ⟨w,e⟩:=(h.orb x).1 hx
 obtain ⟨w1,w2,w3,_⟩:=h.word _ _ e
 rw [wd!_eq e]; exact ⟨e,w1,w2,w3⟩
theorem mem_els:∀ {k:Nat} {ls:List Lv},ChOK n G0 k ls -> ∀ {u q:Pm},PV n u -> (q ∈ els ls k u ↔ ∃ s,PV n s /\ Fx k s /\ InS ls k s /\ q = mul s u)
 | k, [],h,u,q,hu => by
  have e:k = n:=h
  subst e
  show q ∈ [u] ↔ _
  rw [List.mem_singleton]
  constructor
  ·rintro rfl; exact ⟨one k,PV.one k,Fx.one (Nat.le_refl _),trivial,hu.one_mul.symm⟩
  ·rintro ⟨s,h1,h2,_,rfl⟩; rw [h2.all h1,hu.one_mul]
 | k,l :: r,h,u,q,hu => by
  obtain ⟨hk,hl,hlink,hr⟩:=h
  show q ∈ (so u l.orb).flatMap _ ↔ _
  rw [List.mem_flatMap]
  constructor
  ·rintro ⟨x,hx,hq⟩
   obtain ⟨w1,w2,w3,w4⟩:=hl.wd! (so_mem.1 hx)
   obtain ⟨s,s1,s2,s3,rfl⟩:=(mem_els hr (w2.mul hu)).1 hq
   have e:ap (mul s (GT.wd! l x)) k = x:=by rw [s1.ap_mul hk,s2 k (Nat.lt_succ_self k),w4]
   refine ⟨mul s (GT.wd! l x),s1.mul w2,Fx.mul s1 (Nat.le_of_lt hk) (s2.le (Nat.le_succ k)) w3,InS_cons.2 ⟨_,by rw [e]; exact w1,?_⟩,(s1.assoc w2 hu).symm⟩
   rw [w2.mul_inv_cancel s1]; exact s3
  ·rintro ⟨s,s1,s2,s3,rfl⟩
   obtain ⟨w,k1,k2⟩:=InS_cons.1 s3
   have hx:ap s k ∈ l.orb:=(hl.orb _).2 ⟨w,k1⟩
   obtain ⟨d1,d2,d3⟩:=hl.div hk s1 s2 k1
   obtain ⟨w1,_,_,_⟩:=hl.word _ _ k1
   refine ⟨ap s k,so_mem.2 hx,?_⟩
   rw [wd!_eq k1]
   refine (mem_els hr (w1.mul hu)).2 ⟨_,d1,d2,k2,?_⟩
   rw [<- d1.assoc w1 hu,d3]
theorem length_els:∀ {k:Nat} {ls:List Lv} {u:Pm},(els ls k u).length = ordC ls
 | k, [],u => rfl
 | k,l :: r,u => by
  show ((so u l.orb).flatMap _).length = l.orb.length * ordC r
  rw [List.length_flatMap, <- (so_perm u l.orb).length_eq]
  generalize so u l.orb = s
  induction s with
  | nil => simp
  | cons x s ih =>
   rw [List.map_cons,List.sum_cons,ih,length_els,List.length_cons,Nat.add_mul]
   omega
theorem asc_els:∀ {k:Nat} {ls:List Lv},ChOK n G0 k ls -> ∀ {u:Pm},PV n u -> Asc (els ls k u)
 | k, [],_,u,_ => List.pairwise_singleton _ _
 | k,l :: r,h,u,hu => by
  obtain ⟨hk,hl,hlink,hr⟩:=h
  show List.Pairwise _ ((so u l.orb).flatMap _)
  rw [List.pairwise_flatMap]
  refine ⟨fun x hx => asc_els hr ((hl.wd! (so_mem.1 hx)).2.1.mul hu),?_⟩
  refine List.Pairwise.imp ?_ (List.Pairwise.and_mem.1 (so_asc hu hl.ond fun x hx => hl.orb_lt hk hx))
  rintro x y ⟨hx,hy,hxy⟩ a ha b hb
  have key:∀ {z:Nat} {q:Pm},z ∈ so u l.orb -> q ∈ els r (k + 1) (mul (GT.wd! l z) u) -> q.length = n /\ (∀ i,i < k -> ap q i = ap u i) /\ ap q k = ap u z:=by
   intro z q hz hq
   obtain ⟨w1,w2,w3,w4⟩:=hl.wd! (so_mem.1 hz)
   obtain ⟨s,s1,s2,s3,rfl⟩:=(mem_els hr (w2.mul hu)).1 hq
   refine ⟨(s1.mul (w2.mul hu)).len,fun i hi => ?_,?_⟩
   ·rw [s1.ap_mul (by omega),s2 i (by omega),w2.ap_mul (by omega),w3 i hi]
   ·rw [s1.ap_mul hk,s2 k (by omega),w2.ap_mul hk,w4]
  obtain ⟨a1,a2,a3⟩:=key hx ha
  obtain ⟨b1,b2,b3⟩:=key hy hb
  exact lex_at (k:=k) (by rw [a1,b1]) (by omega) (fun i hi => by rw [a2 i hi,b2 i hi]) (by rw [a3,b3]; exact hxy)
end
end Go.GT
namespace Go.GT
def setWord (l:Lv) (x:Nat) (p:Pm):Lv:=⟨l.orb ++ [x],l.wd.set x (some p),l.gs⟩
def addGen (l:Lv) (g:Pm):Lv:=⟨l.orb,l.wd,l.gs ++ [g]⟩
theorem wat_addGen {l:Lv} {g:Pm} {x:Nat}:wat (addGen l g) x = wat l x:=rfl
theorem wat_set {l:Lv} {x:Nat} {p:Pm} (hx:x < l.wd.length) (y:Nat):wat (setWord l x p) y = if y = x then some p else wat l y:=by
 unfold wat setWord
 by_cases e:y = x
 ·subst e; simp [hx]
 ·rw [if_neg e]; simp only [List.getElem?_set_ne (fun h => e h.symm)]
section
variable {n:Nat} {G0:List Pm}
theorem InS_one:∀ {k:Nat} {ls:List Lv},ChOK n G0 k ls -> InS ls k (one n)
 | k, [],_ => trivial
 | k,l :: r,h => by
  obtain ⟨hk,hl,_,hr⟩:=h
  refine InS_cons.2 ⟨one n,by rw [ap_one hk]; exact hl.base,?_⟩
  rw [(PV.one n).mul_inv]; exact InS_one hr
theorem LvOK.setWord {k:Nat} (hk:k < n) {l:Lv} (h:LvOK n G0 k l) {p:Pm} (hp:PV n p) (hf:Fx k p) (hg:Gen n l.gs p) (hx:wat l (ap p k) = none):LvOK n G0 k (setWord l (ap p k) p) /\ LvLe l (setWord l (ap p k) p):=by
 have hlt:ap p k < l.wd.length:=by rw [h.wlen]; exact hp.ap_lt hk
 have hw:=wat_set (l:=l) (p:=p) hlt
 have hne:k ≠ ap p k:=fun e => by rw [<- e,h.base] at hx; cases hx
 refine ⟨⟨?_,?_,?_,?_,?_,h.gen,h.gnd⟩,?_⟩
 ·show (l.wd.set _ _).length = n
  rw [List.length_set]; exact h.wlen
 ·rw [hw,if_neg hne]; exact h.base
 ·intro y w e
  rw [hw] at e
  by_cases ey:y = ap p k
  ·rw [if_pos ey] at e; cases e; exact ⟨hp,hf,ey.symm,hg⟩
  ·rw [if_neg ey] at e; exact h.word y w e
 ·intro y
  show y ∈ l.orb ++ [ap p k] ↔ _
  rw [hw,List.mem_append,List.mem_singleton,h.orb]
  by_cases ey:y = ap p k
  ·simp [ey]
  ·simp [ey]
 ·show (l.orb ++ [ap p k]).Nodup
  refine List.nodup_append.2 ⟨h.ond,List.pairwise_singleton _ _,fun a ha b hb e => ?_⟩
  rw [List.mem_singleton] at hb
  obtain ⟨w,hw'⟩:=(h.orb a).1 ha
  rw [e,hb,hx] at hw'; cases hw'
 ·intro y w e
  rw [hw,if_neg (fun ey => by rw [ey,hx] at e; cases e)]; exact e
theorem LvOK.addGen {k:Nat} {l:Lv} (h:LvOK n G0 k l) {g:Pm} (hp:PV n g) (hf:Fx k g) (hg:Gen n G0 g) (hn:g ∉ l.gs):LvOK n G0 k (addGen l g):=by
 have hm:∀ s ∈ l.gs ++ [g],PV n s:=fun s hs => by
  rcases List.mem_append.1 hs with hs | hs
  ·exact h.pvs s hs
  ·rw [List.mem_singleton.1 hs]; exact hp
 refine ⟨h.wlen,h.base,fun x w e => ?_,h.orb,h.ond,fun s hs => ?_,?_⟩
 ·obtain ⟨w1,w2,w3,w4⟩:=h.word x w e
  exact ⟨w1,w2,w3,w4.mono hm fun s hs => Gen.of hm (List.mem_append.2 (.inl hs))⟩
 ·rcases List.mem_append.1 hs with hs | hs
  ·exact h.gen s hs
  ·rw [List.mem_singleton.1 hs]; exact ⟨hp,hf,hg⟩
 ·refine List.nodup_append.2 ⟨h.gnd,List.pairwise_singleton _ _,fun a ha b hb e => ?_⟩
  rw [List.mem_singleton.1 hb] at e
  exact hn (e ▸ ha)
theorem LvLe.orb_le {k:Nat} {l l':Lv} (h:LvOK n G0 k l) (h':LvOK n G0 k l') (hle:LvLe l l'):l.orb.length <= l'.orb.length :=
 nodup_le h.ond fun x hx => by
  obtain ⟨w,e⟩:=(h.orb x).1 hx
  exact (h'.orb x).2 ⟨w,hle x w e⟩
theorem LvOK.orb_n {k:Nat} (hk:k < n) {l:Lv} (h:LvOK n G0 k l):l.orb.length <= n:=by
 have:=nodup_le h.ond (l':=List.range n) fun x hx => List.mem_range.2 (h.orb_lt hk hx)
 simpa using this
structure Reached (n:Nat) (G0:List Pm) (k:Nat) (l:Lv) (r:List Lv) (p:Pm) (l':Lv) (r':List Lv):Prop where
 gs:l'.gs = l.gs
 le:LvLe l l'
 les:ChLe r r'
 ok:ChOK n G0 k (l' :: r')
 cl:Cl (k + 1) r'
 mem:InS (l' :: r') k p
 new:∀ x w,wat l x = none -> wat l' x = some w -> ∀ g ∈ l.gs,InS (l' :: r') k (mul w g)
structure Inserted (n:Nat) (G0:List Pm) (k:Nat) (l:Lv) (r:List Lv) (g:Pm) (l':Lv) (r':List Lv):Prop where
 gs:l'.gs = l.gs ++ [g]
 le:LvLe l l'
 les:ChLe r r'
 ok:ChOK n G0 k (l' :: r')
 cl:Cl k (l' :: r')
structure Reaching (n:Nat) (G0:List Pm) (k:Nat) (l:Lv) (r:List Lv) (p:Pm) (i:Nat) (l':Lv) (r':List Lv):Prop where
 gs:l'.gs = l.gs
 le:LvLe (setWord l (ap p k) p) l'
 les:ChLe r r'
 ok:ChOK n G0 k (l' :: r')
 cl:Cl (k + 1) r'
 done:∀ j g,j < i -> l.gs[j]? = some g -> InS (l' :: r') k (mul p g)
 new:∀ x w,wat (setWord l (ap p k) p) x = none -> wat l' x = some w -> ∀ g ∈ l.gs,InS (l' :: r') k (mul w g)
theorem Reaching.start {k:Nat} {l:Lv} {r:List Lv} (h:ChOK n G0 k (l :: r)) (hc:Cl (k + 1) r) {p:Pm} (hp:PV n p) (hf:Fx k p) (hg:Gen n l.gs p) (hx:wat l (ap p k) = none):Reaching n G0 k l r p 0 (setWord l (ap p k) p) r:=by
 obtain ⟨hk,hl,hlink,hr⟩:=h
 refine ⟨rfl,LvLe.refl _,ChLe.refl _,⟨hk,(hl.setWord hk hp hf hg hx).1,hlink,hr⟩,hc,fun j g hj => absurd hj (Nat.not_lt_zero _),fun x w e e' => ?_⟩
 rw [e] at e'; cases e'
theorem Reaching.step {k:Nat} {l:Lv} {r:List Lv} {p g:Pm} {i:Nat} {l1 l2:Lv} {r1 r2:List Lv} (h:Reaching n G0 k l r p i l1 r1) (hi:l.gs[i]? = some g) (hr:Reached n G0 k l1 r1 (mul p g) l2 r2):Reaching n G0 k l r p (i + 1) l2 r2:=by
 have hle:ChLe (l1 :: r1) (l2 :: r2):=⟨hr.le,hr.les⟩
 refine ⟨hr.gs.trans h.gs,h.le.trans hr.le,h.les.trans hr.les,hr.ok,hr.cl,fun j q hj hq => ?_,fun x w e e' q hq => ?_⟩
 ·by_cases e:j = i
  ·subst e; rw [hi] at hq; cases hq; exact hr.mem
  ·exact (h.done j q (by omega) hq).mono hle
 ·cases e1:wat l1 x with
  | none => exact hr.new x w e1 e' q (by rw [h.gs]; exact hq)
  | some v =>
   have:=hr.le x v e1
   rw [this] at e'; cases e'
   exact (h.new x w e e1 q hq).mono hle
theorem Reaching.finish {k:Nat} {l:Lv} {r:List Lv} (h0:ChOK n G0 k (l :: r)) {p:Pm} (hp:PV n p) (hf:Fx k p) (hg:Gen n l.gs p) (hx:wat l (ap p k) = none) {l1:Lv} {r1:List Lv} (h:Reaching n G0 k l r p l.gs.length l1 r1):Reached n G0 k l r p l1 r1:=by
 obtain ⟨hk,hl,hlink,hr⟩:=h0
 obtain ⟨s1,s2⟩:=hl.setWord hk hp hf hg hx
 have hw:=wat_set (l:=l) (p:=p) (x:=ap p k) (by rw [hl.wlen]; exact hp.ap_lt hk)
 have hp1:wat l1 (ap p k) = some p:=h.le _ _ (by rw [hw,if_pos rfl])
 refine ⟨h.gs,s2.trans h.le,h.les,h.ok,h.cl,InS_cons.2 ⟨p,hp1,?_⟩,fun x w e e' g hg' => ?_⟩
 ·rw [hp.mul_inv]; exact InS_one h.ok.2.2.2
 ·by_cases ex:x = ap p k
  ·rw [ex,hp1] at e'; cases e'
   obtain ⟨j,hj,ej⟩:=List.mem_iff_getElem.1 hg'
   exact h.done j g hj (by rw [List.getElem?_eq_getElem hj,ej])
  ·exact h.new x w (by rw [hw,if_neg ex]; exact e) e' g hg'
theorem Reached.there {k:Nat} {l:Lv} {r:List Lv} (h0:ChOK n G0 k (l :: r)) (hc:Cl (k + 1) r) {p w:Pm} (hw:wat l (ap p k) = some w) (hi:InS r (k + 1) (mul p (inv w))):Reached n G0 k l r p l r :=
 ⟨rfl,LvLe.refl _,ChLe.refl _,h0,hc,InS_cons.2 ⟨w,hw,hi⟩,fun x v e e' => by rw [e] at e'; cases e'⟩
theorem Gen.monoG {k:Nat} {l:Lv} (hl:LvOK n G0 k l) {p:Pm} (h:Gen n l.gs p) (hG:∀ s ∈ G0,PV n s):Gen n G0 p:=h.mono hG fun s hs => (hl.gen s hs).2.2
structure Insertable (n:Nat) (G0:List Pm) (k:Nat) (ls:List Lv) (g:Pm):Prop where
 pv:PV n g
 fx:Fx k g
 g0:Gen n G0 g
 out:¬ InS ls k g
theorem Reached.rest {k : Nat} {l : Lv} {r : List Lv} (h0 : ChOK n G0 k (l :: r)) {p w : Pm} (hp : PV n p) (hf : Fx k p) (hg : Gen n l.gs p) (hw : wat l (ap p k) = some w) (hi : ¬ InS r (k + 1) (mul p (inv w))) (hG : ∀ s ∈ G0, PV n s) :
  Insertable n G0 (k + 1) r (mul p (inv w)) /\ Gen n l.gs (mul p (inv w)):=by
 obtain ⟨hk,hl,hlink,hr⟩:=h0
 obtain ⟨d1,d2,_⟩:=hl.div hk hp hf hw
 obtain ⟨_,_,_,w4⟩:=hl.word _ _ hw
 have hgen:=hg.mul' hl.pvs (w4.inv hl.pvs)
 exact ⟨⟨d1,d2,hgen.monoG hl hG,hi⟩,hgen⟩
theorem Reached.insert {k : Nat} {l : Lv} {r : List Lv} (h0 : ChOK n G0 k (l :: r)) {p w : Pm} (hp : PV n p) (hf : Fx k p) (hg : Gen n l.gs p) (hw : wat l (ap p k) = some w) {l2 l3 : Lv} {r2 r3 : List Lv} (e : r = l2 :: r2)
  (h:Inserted n G0 (k + 1) l2 r2 (mul p (inv w)) l3 r3):Reached n G0 k l r p l (l3 :: r3):=by
 subst e
 obtain ⟨hk,hl,hlink,hr⟩:=h0
 obtain ⟨d1,d2,d3⟩:=hl.div hk hp hf hw
 obtain ⟨_,_,_,w4⟩:=hl.word _ _ hw
 have hgen:=hg.mul' hl.pvs (w4.inv hl.pvs)
 refine ⟨rfl,LvLe.refl _,⟨h.le,h.les⟩,⟨hk,hl,fun g hg' => ?_,h.ok⟩,h.cl,InS_cons.2 ⟨w,hw,?_⟩,fun x v e e' => by rw [e] at e'; cases e'⟩
 ·have hg2:g ∈ l2.gs ++ [mul p (inv w)]:=by rw [<- h.gs]; exact hg'
  rcases List.mem_append.1 hg2 with q | q
  ·exact hlink g q
  ·rw [List.mem_singleton.1 q]; exact hgen
 ·refine (complete h.ok h.cl d1 d2).2 (Gen.of h.ok.2.1.pvs ?_)
  show mul p (inv w) ∈ l3.gs
  rw [h.gs]; exact List.mem_append.2 (.inr (.head _))
structure Inserting (n:Nat) (G0:List Pm) (k:Nat) (l:Lv) (r:List Lv) (g:Pm) (i:Nat) (l':Lv) (r':List Lv):Prop where
 gs:l'.gs = l.gs ++ [g]
 le:LvLe l l'
 les:ChLe r r'
 ok:ChOK n G0 k (l' :: r')
 cl:Cl (k + 1) r'
 done:∀ j x w,j < i -> l.orb[j]? = some x -> wat l x = some w -> InS (l' :: r') k (mul w g)
 new:∀ x w,wat l x = none -> wat l' x = some w -> ∀ q ∈ l.gs ++ [g],InS (l' :: r') k (mul w q)
theorem Insertable.not_mem {k:Nat} {ls:List Lv} (h:ChOK n G0 k ls) (hc:Cl k ls) {g:Pm} (hi:Insertable n G0 k ls g):g ∉ hg ls:=fun hm =>
 hi.out ((complete h hc hi.pv hi.fx).2 (Gen.of (fun s hs => (h.hg s hs).1) hm))
theorem Inserting.start {k:Nat} {l:Lv} {r:List Lv} (h:ChOK n G0 k (l :: r)) (hc:Cl k (l :: r)) {g:Pm} (hi:Insertable n G0 k (l :: r) g):Inserting n G0 k l r g 0 (addGen l g) r:=by
 have hn:g ∉ l.gs:=hi.not_mem h hc
 obtain ⟨hk,hl,hlink,hr⟩:=h
 have hl':=hl.addGen hi.pv hi.fx hi.g0 hn
 refine ⟨rfl,LvLe.refl _,ChLe.refl _,⟨hk,hl',fun q hq => (hlink q hq).mono hl'.pvs fun s hs => Gen.of hl'.pvs (List.mem_append.2 (.inl hs)),hr⟩,hc.2,fun j x w hj => absurd hj (Nat.not_lt_zero _),fun x w e e' => ?_⟩
 rw [wat_addGen,e] at e'; cases e'
theorem Inserting.step {k:Nat} {l:Lv} {r:List Lv} {g:Pm} {i:Nat} {l1 l2:Lv} {r1 r2:List Lv} {x:Nat} {w:Pm} (h:Inserting n G0 k l r g i l1 r1) (hx:l.orb[i]? = some x) (hw:wat l x = some w) (hr:Reached n G0 k l1 r1 (mul w g) l2 r2):Inserting n G0 k l r g (i + 1) l2 r2:=by
 have hle:ChLe (l1 :: r1) (l2 :: r2):=⟨hr.le,hr.les⟩
 refine ⟨hr.gs.trans h.gs,h.le.trans hr.le,h.les.trans hr.les,hr.ok,hr.cl,fun j y v hj hy hv => ?_,fun y v e e' q hq => ?_⟩
 ·by_cases e:j = i
  ·subst e; rw [hx] at hy; cases hy; rw [hw] at hv; cases hv; exact hr.mem
  ·exact (h.done j y v (by omega) hy hv).mono hle
 ·cases e1:wat l1 y with
  | none => exact hr.new y v e1 e' q (by rw [h.gs]; exact hq)
  | some z =>
   have:=hr.le y z e1
   rw [this] at e'; cases e'
   exact (h.new y v e e1 q hq).mono hle
theorem Inserting.finish {k:Nat} {l:Lv} {r:List Lv} (h0:ChOK n G0 k (l :: r)) (hc:Cl k (l :: r)) {g:Pm} {l1:Lv} {r1:List Lv} (h:Inserting n G0 k l r g l.orb.length l1 r1):Inserted n G0 k l r g l1 r1:=by
 refine ⟨h.gs,h.le,h.les,h.ok,fun x w e q hq => ?_,h.cl⟩
 rw [h.gs] at hq
 cases e1:wat l x with
 | none => exact h.new x w e1 e q hq
 | some v =>
  have:=h.le x v e1
  rw [this] at e; cases e
  rcases List.mem_append.1 hq with q1 | q1
  ·exact (hc.1 x w e1 q q1).mono (show ChLe (l :: r) (l1 :: r1) from ⟨h.le,h.les⟩)
  ·rw [List.mem_singleton.1 q1]
   obtain ⟨j,hj,ej⟩:=List.mem_iff_getElem.1 ((h0.2.1.orb x).2 ⟨w,e1⟩)
   exact h.done j x w hj (by rw [List.getElem?_eq_getElem hj,ej]) e1
theorem Inserting.call {k : Nat} {l : Lv} {r : List Lv} {g : Pm} {i : Nat} {l1 : Lv} {r1 : List Lv} (h0 : ChOK n G0 k (l :: r)) (hp : PV n g) (hf : Fx k g) (h : Inserting n G0 k l r g i l1 r1) {x : Nat} {w : Pm} (hw : wat l x = some w) :
  wat l1 x = some w /\ PV n w /\ PV n (mul w g) /\ Fx k (mul w g) /\ Gen n l1.gs (mul w g):=by
 obtain ⟨hk,hl,_,_⟩:=h0
 obtain ⟨w1,w2,w3,w4⟩:=hl.word _ _ hw
 obtain ⟨v1,v2,v3,v4⟩:=h.ok.2.1.word _ _ (h.le _ _ hw)
 exact ⟨h.le _ _ hw,w1,w1.mul hp,Fx.mul w1 (Nat.le_of_lt hk) w2 hf,v4.mul (by rw [h.gs]; exact List.mem_append.2 (.inr (.head _)))⟩
theorem Reaching.call {k : Nat} {l : Lv} {r : List Lv} {p g : Pm} {i : Nat} {l1 : Lv} {r1 : List Lv} (h0 : ChOK n G0 k (l :: r)) (hp : PV n p) (hf : Fx k p) (hg : Gen n l.gs p) (h : Reaching n G0 k l r p i l1 r1) (hi : l.gs[i]? = some g) :
  PV n g /\ PV n (mul p g) /\ Fx k (mul p g) /\ Gen n l1.gs (mul p g):=by
 obtain ⟨hk,hl,_,_⟩:=h0
 have hm:=List.mem_of_getElem? hi
 obtain ⟨g1,g2,_⟩:=hl.gen g hm
 refine ⟨g1,hp.mul g1,Fx.mul hp (Nat.le_of_lt hk) hf g2,?_⟩
 rw [h.gs]; exact hg.mul hm
theorem Reaching.orb_gt {k:Nat} {l:Lv} {r:List Lv} (h0:ChOK n G0 k (l :: r)) {p:Pm} (hp:PV n p) (hf:Fx k p) (hg:Gen n l.gs p) (hx:wat l (ap p k) = none) {i:Nat} {l1:Lv} {r1:List Lv} (h:Reaching n G0 k l r p i l1 r1):l.orb.length < l1.orb.length:=by
 obtain ⟨hk,hl,_,_⟩:=h0
 have:=LvLe.orb_le (hl.setWord hk hp hf hg hx).1 h.ok.2.1 h.le
 have e:(setWord l (ap p k) p).orb.length = l.orb.length + 1:=by simp [setWord]
 omega
def lv0 (n i:Nat):Lv:=⟨[i],(List.replicate n none).set i (some (one n)), []⟩
theorem wat_lv0 {n i x:Nat} (hi:i < n):wat (lv0 n i) x = if x = i then some (one n) else none:=by
 unfold wat lv0
 by_cases e:x = i
 ·subst e; simp [hi]
 ·rw [if_neg e]; simp only [List.getElem?_set_ne (fun h => e h.symm)]
  by_cases hx:x < n
  ·simp [hx]
  ·simp [hx]
theorem lv0_ok {i:Nat} (hi:i < n):LvOK n G0 i (lv0 n i):=by
 refine ⟨by simp [lv0],by rw [wat_lv0 hi,if_pos rfl],fun x w e => ?_,fun x => ?_,List.pairwise_singleton _ _,fun g hg => (by cases hg),List.Pairwise.nil⟩
 ·rw [wat_lv0 hi] at e
  by_cases ex:x = i
  ·rw [if_pos ex] at e; cases e; exact ⟨PV.one n,Fx.one (Nat.le_of_lt hi),by rw [ap_one hi,ex], .one⟩
  ·rw [if_neg ex] at e; cases e
 ·rw [wat_lv0 hi]
  show x ∈ [i] ↔ _
  rw [List.mem_singleton]
  by_cases ex:x = i
  ·simp [ex]
  ·simp [ex]
def ch0 (n:Nat):Nat -> Nat -> List Lv
 | _,0 => []
 | k,m + 1 => lv0 n k :: ch0 n (k + 1) m
theorem ch0_ok:∀ {m k:Nat},k + m = n -> ChOK n G0 k (ch0 n k m) /\ Cl k (ch0 n k m) /\ hg (ch0 n k m) = []
 | 0,k,h => ⟨h,trivial,rfl⟩
 | m + 1,k,h => by
  obtain ⟨a,b,c⟩:=ch0_ok (m:=m) (k:=k + 1) (by omega)
  refine ⟨⟨by omega,lv0_ok (by omega),fun g h2 => ?_,a⟩,⟨fun x w _ g h2 => ?_,b⟩,rfl⟩
  ·have h3:g ∈ hg (ch0 n (k + 1) m):=h2
   rw [c] at h3; cases h3
  ·cases h2
end
end Go.GT
namespace Go.GT
def place (l:List Pm) (p:Pm):Nat:=(l.takeWhile fun q => lex q p).length
theorem place_le {p:Pm}:∀ {l:List Pm},place l p <= l.length
 | [] => Nat.le_refl _
 | q :: l => by
  unfold place
  rw [List.takeWhile_cons]
  split
  ·have:=place_le (l:=l) (p:=p)
   unfold place at this
   simp only [List.length_cons]; omega
  ·simp
theorem place_of {p:Pm}:∀ {l:List Pm} {k:Nat},k <= l.length -> (∀ i q,i < k -> l[i]? = some q -> lex q p = true) -> (∀ q,l[k]? = some q -> lex q p = false) -> place l p = k
 | [],k,hk,_,_ => by simp at hk; subst hk; rfl
 | q :: l,0,_,_,h2 => by
  have:=h2 q rfl
  simp [place,this]
 | q :: l,k + 1,hk,h1,h2 => by
  have hq:=h1 0 q (by omega) rfl
  have ih:=place_of (p:=p) (l:=l) (k:=k) (by simpa using hk) (fun i r hi hr => h1 (i + 1) r (by omega) (by simpa using hr)) (fun r hr => h2 r (by simpa using hr))
  unfold place at ih ⊢
  rw [List.takeWhile_cons,if_pos hq,List.length_cons,ih]
theorem place_before {p:Pm}:∀ {l:List Pm} {i:Nat} {q:Pm},i < place l p -> l[i]? = some q -> lex q p = true
 | [],i,q,h,_ => by simp [place] at h
 | r :: l,i,q,h,hq => by
  unfold place at h
  rw [List.takeWhile_cons] at h
  split at h
  ·rename_i hr
   cases i with
   | zero => simp at hq; subst hq; exact hr
   | succ i =>
    refine place_before (l:=l) (i:=i) ?_ (by simpa using hq)
    unfold place; simpa using h
  ·simp at h
theorem place_at {p:Pm}:∀ {l:List Pm} {q:Pm},l[place l p]? = some q -> lex q p = false
 | [],q,h => by simp [place] at h
 | r :: l,q,h => by
  unfold place at h
  rw [List.takeWhile_cons] at h
  split at h
  ·rename_i hr
   refine place_at (l:=l) ?_
   unfold place; simpa using h
  ·rename_i hr
   simp at h; subst h
   simpa using hr
theorem Asc.lt {l:List Pm} (h:Asc l) {i j:Nat} {a b:Pm} (hij:i < j) (ha:l[i]? = some a) (hb:l[j]? = some b):lex a b = true:=by
 obtain ⟨h1,e1⟩:=List.getElem?_eq_some_iff.1 ha
 obtain ⟨h2,e2⟩:=List.getElem?_eq_some_iff.1 hb
 have:=List.pairwise_iff_getElem.1 h i j h1 h2 hij
 rwa [e1,e2] at this
theorem Asc.mem_iff {l:List Pm} (h:Asc l) {p:Pm}:p ∈ l ↔ l[place l p]? = some p:=by
 constructor
 ·intro hp
  obtain ⟨j,hj,ej⟩:=List.mem_iff_getElem.1 hp
  have hj':l[j]? = some p:=by rw [List.getElem?_eq_getElem hj,ej]
  have:place l p = j:=place_of (Nat.le_of_lt hj) (fun i q hi hq => h.lt hi hq hj') fun q hq => by
   rw [hj'] at hq; cases hq; exact lex_irr _
  rw [this]; exact hj'
 ·exact fun hp => List.mem_of_getElem? hp
theorem Asc.place_get {l:List Pm} (h:Asc l) {p:Pm} {j:Nat} (hj:l[j]? = some p):place l p = j:=by
 have hlt:=(List.getElem?_eq_some_iff.1 hj).1
 exact place_of (Nat.le_of_lt hlt) (fun i q hi hq => h.lt hi hq hj) fun q hq => by
  rw [hj] at hq; cases hq; exact lex_irr _
def putL (l:List Pm) (p:Pm):List Pm:=l.take (place l p) ++ p :: l.drop (place l p)
theorem mem_putL {l:List Pm} {p q:Pm}:q ∈ putL l p ↔ q = p \/ q ∈ l:=by
 unfold putL
 rw [List.mem_append,List.mem_cons]
 have:q ∈ l ↔ q ∈ l.take (place l p) \/ q ∈ l.drop (place l p):=by rw [<- List.mem_append,List.take_append_drop]
 rw [this]
 constructor
 ·rintro (h | h | h)
  ·exact .inr (.inl h)
  ·exact .inl h
  ·exact .inr (.inr h)
 ·rintro (h | h | h)
  ·exact .inr (.inl h)
  ·exact .inl h
  ·exact .inr (.inr h)
theorem length_putL {l:List Pm} {p:Pm}:(putL l p).length = l.length + 1:=by
 have:=place_le (l:=l) (p:=p)
 unfold putL; simp; omega
theorem Asc.putL {l:List Pm} (h:Asc l) {p:Pm} (hp:p ∉ l):Asc (putL l p):=by
 have hb:∀ a ∈ l.take (place l p),lex a p = true:=fun a ha => by
  obtain ⟨i,hi,ei⟩:=List.mem_iff_getElem.1 ha
  have hi':i < place l p:=by simp at hi; omega
  refine place_before (l:=l) hi' ?_
  rw [List.getElem_take] at ei
  rw [List.getElem?_eq_getElem (by simp at hi; omega),ei]
 have ha':∀ b ∈ l.drop (place l p),lex p b = true:=fun b hb => by
  obtain ⟨i,hi,ei⟩:=List.mem_iff_getElem.1 hb
  rw [List.getElem_drop] at ei
  have hlt:place l p < l.length:=by simp at hi; omega
  have h0:l[place l p]? = some l[place l p]:=List.getElem?_eq_getElem hlt
  have h1:=place_at h0
  have hle:∀ c,c ∈ l -> lex c p = false -> lex p c = true:=fun c hc e => by
   cases e2:lex p c with
   | true => rfl
   | false => exact absurd (lex_total e e2 ▸ hc) hp
  cases i with
  | zero => simp at ei; subst ei; exact hle _ (List.getElem_mem _) h1
  | succ i =>
   have h2:l[place l p + (i + 1)]? = some b:=by rw [List.getElem?_eq_getElem (by simp at hi; omega),ei]
   exact lex_trans (hle _ (List.getElem_mem _) h1) (h.lt (by omega) h0 h2)
 refine List.pairwise_append.2 ⟨List.Pairwise.sublist (List.take_sublist _ _) h,List.pairwise_cons.2 ⟨ha',List.Pairwise.sublist (List.drop_sublist _ _) h⟩,fun a ha b hb' => ?_⟩
 rcases List.mem_cons.1 hb' with e | e
 ·subst e; exact hb a ha
 ·exact lex_trans (hb a ha) (ha' b e)
structure IsEl (n:Nat) (S:List Pm) (l:List Pm):Prop where
 asc:Asc l
 mem:∀ p,p ∈ l ↔ Gen n S p
theorem IsEl.unique {n:Nat} {S l l':List Pm} (h:IsEl n S l) (k:IsEl n S l'):l = l':=h.asc.unique k.asc fun p => by rw [h.mem,k.mem]
structure BFS (n:Nat) (S all work:List Pm) (i k:Nat):Prop where
 asc:Asc all
 mem:∀ p,p ∈ all ↔ p ∈ work
 gen:∀ p ∈ work,Gen n S p
 one:one n ∈ work
 nd:work.Nodup
 done:∀ j w,j < i -> work[j]? = some w -> ∀ s ∈ S,mul w s ∈ work
 part:∀ w,work[i]? = some w -> ∀ j s,j < k -> S[j]? = some s -> mul w s ∈ work
section
variable {n:Nat} {S all work:List Pm} {i k:Nat} {w s:Pm}
theorem BFS.start:BFS n S [GT.one n] [GT.one n] 0 0 :=
 ⟨List.pairwise_singleton _ _,fun _ => Iff.rfl,fun p hp => by rw [List.mem_singleton.1 hp]; exact .one, .head _,List.pairwise_singleton _ _,fun j w hj => absurd hj (Nat.not_lt_zero _),fun w _ j s hj => absurd hj (Nat.not_lt_zero _)⟩
theorem BFS.found (h:BFS n S all work i k) (hs:S[k]? = some s) (hw:work[i]? = some w) (hm:mul w s ∈ all):BFS n S all work i (k + 1):=by
 refine ⟨h.asc,h.mem,h.gen,h.one,h.nd,h.done,fun w' hw' j s' hj hs' => ?_⟩
 by_cases e:j = k
 ·subst e; rw [hs] at hs'; cases hs'; rw [hw] at hw'; cases hw'; exact (h.mem _).1 hm
 ·exact h.part w' hw' j s' (by omega) hs'
theorem BFS.new (h:BFS n S all work i k) (hs:S[k]? = some s) (hw:work[i]? = some w) (hm:mul w s ∉ all):BFS n S (putL all (mul w s)) (work ++ [mul w s]) i (k + 1):=by
 have hi:=(List.getElem?_eq_some_iff.1 hw).1
 have get:∀ {j w'},j <= i -> (work ++ [mul w s])[j]? = some w' -> work[j]? = some w':=fun hj e => by
  rwa [List.getElem?_append_left (by omega)] at e
 refine ⟨h.asc.putL hm,fun p => ?_,fun p hp => ?_,List.mem_append.2 (.inl h.one),?_,fun j w' hj hw' s' hs' => List.mem_append.2 (.inl (h.done j w' hj (get (by omega) hw') s' hs')),fun w' hw' j s' hj hs' => ?_⟩
 ·rw [mem_putL,List.mem_append,List.mem_singleton,h.mem]
  exact ⟨fun h => h.symm,fun h => h.symm⟩
 ·rcases List.mem_append.1 hp with e | e
  ·exact h.gen p e
  ·rw [List.mem_singleton.1 e]; exact (h.gen w (List.mem_of_getElem? hw)).mul (List.mem_of_getElem? hs)
 ·refine List.nodup_append.2 ⟨h.nd,List.pairwise_singleton _ _,fun a ha b hb e => ?_⟩
  rw [List.mem_singleton.1 hb] at e
  exact hm ((h.mem _).2 (e ▸ ha))
 ·have hw2:=get (Nat.le_refl _) hw'
  by_cases e:j = k
  ·subst e; rw [hs] at hs'; cases hs'; rw [hw] at hw2; cases hw2; exact List.mem_append.2 (.inr (.head _))
  ·exact List.mem_append.2 (.inl (h.part w' hw2 j s' (by omega) hs'))
theorem BFS.next (h:BFS n S all work i S.length):BFS n S all work (i + 1) 0:=by
 refine ⟨h.asc,h.mem,h.gen,h.one,h.nd,fun j w hj hw s hs => ?_,fun w _ j s hj => absurd hj (Nat.not_lt_zero _)⟩
 by_cases e:j = i
 ·subst e
  obtain ⟨k,hk,ek⟩:=List.mem_iff_getElem.1 hs
  exact h.part w hw k s hk (by rw [List.getElem?_eq_getElem hk,ek])
 ·exact h.done j w (by omega) hw s hs
theorem BFS.finish (h:BFS n S all work work.length 0):IsEl n S all:=by
 refine ⟨h.asc,fun p => ⟨fun hp => h.gen p ((h.mem p).1 hp),fun hp => (h.mem p).2 ?_⟩⟩
 refine Gen.ind (P:=fun q => q ∈ work) h.one (fun x hx s hs => ?_) hp
 obtain ⟨j,hj,ej⟩:=List.mem_iff_getElem.1 hx
 exact h.done j x hj (by rw [List.getElem?_eq_getElem hj,ej]) s hs
end
section
variable {n:Nat} {S l:List Pm}
theorem IsEl.pos (h:IsEl n S l):0 < l.length:=List.length_pos_of_mem ((h.mem _).2 .one)
def el (l:List Pm) (i:Nat):Pm:=l.getD i []
def op (l:List Pm) (i j:Nat):Nat:=place l (mul (el l i) (el l j))
structure TG (N:Nat) (m:Nat -> Nat -> Nat):Prop where
 pos:0 < N
 cl:∀ i j,i < N -> j < N -> m i j < N
 assoc:∀ i j k,i < N -> j < N -> k < N -> m (m i j) k = m i (m j k)
 l1:∀ i,i < N -> m 0 i = i
 r1:∀ i,i < N -> m i 0 = i
 inv:∀ i,i < N -> ∃ j,j < N /\ m i j = 0 /\ m j i = 0
end
end Go.GT
namespace Go.AM
open Go Go.GT
section
variable {C:CallT} {K:List Fr} {Q:AX -> St -> Prop}
theorem WK_loopI {b:ACode} (I:Nat -> St -> Prop) (N:Nat) (step:∀ k,k <= N -> ∀ s,I k s -> (k < N -> ∀ s',I (k + 1) s' -> WK C (.loop b) K s' Q) -> WK C b (.loop b :: K) s Q):∀ (d k:Nat) (s:St),k + d = N -> I k s -> WK C (.loop b) K s Q
 | 0,k,s,hk,hI => WK_loop (step k (by omega) s hI fun h => absurd h (by omega))
 | d + 1,k,s,hk,hI => WK_loop (step k (by omega) s hI fun _ s' hI' => WK_loopI I N step d (k + 1) s' (by omega) hI')
theorem WK_loopJ {b:ACode} (I:Nat -> St -> Prop) (N:Nat) {s:St} (h0:I 0 s) (step:∀ k,k <= N -> ∀ s,I k s -> (k < N -> ∀ s',I (k + 1) s' -> WK C (.loop b) K s' Q) -> WK C b (.loop b :: K) s Q):WK C (.loop b) K s Q :=
 WK_loopI I N step N 0 s (by omega) h0
theorem WK_loopM {b:ACode} (I:Nat -> St -> Prop) (step:∀ m s,I m s -> (∀ m' s',m' < m -> I m' s' -> WK C (.loop b) K s' Q) -> WK C b (.loop b :: K) s Q):∀ (m:Nat) (s:St),I m s -> WK C (.loop b) K s Q:=fun m => by
 induction m using Nat.strongRecOn with
 | ind m ih => intro s hI; exact WK_loop (step m s hI fun m' s' hm hI' => ih m' hm s' hI')
end
section
variable {e:EqK} {k:IntKind} {a b:Int}
theorem lssT (h:a < b):bin .lss e (.int k a) (.int k b) = some (.bool true):=by rw [lss_int,decide_eq_true h]
theorem lssF (h:b <= a):bin .lss e (.int k a) (.int k b) = some (.bool false):=by rw [lss_int,decide_eq_false (by omega)]
theorem gtrT (h:b < a):bin .gtr e (.int k a) (.int k b) = some (.bool true):=by rw [gtr_int,decide_eq_true h]
theorem gtrF (h:a <= b):bin .gtr e (.int k a) (.int k b) = some (.bool false):=by rw [gtr_int,decide_eq_false (by omega)]
theorem leqT (h:a <= b):bin .leq e (.int k a) (.int k b) = some (.bool true):=by rw [leq_int,decide_eq_true h]
theorem leqF (h:b < a):bin .leq e (.int k a) (.int k b) = some (.bool false):=by rw [leq_int,decide_eq_false (by omega)]
theorem geqT (h:b <= a):bin .geq e (.int k a) (.int k b) = some (.bool true):=by rw [geq_int,decide_eq_true h]
theorem geqF (h:a < b):bin .geq e (.int k a) (.int k b) = some (.bool false):=by rw [geq_int,decide_eq_false (by omega)]
theorem eqlT (h:a = b):bin .eql e (.int k a) (.int k b) = some (.bool true):=by rw [eql_int,decide_eq_true h]
theorem eqlF (h:a ≠ b):bin .eql e (.int k a) (.int k b) = some (.bool false):=by rw [eql_int,decide_eq_false h]
theorem neqT (h:a ≠ b):bin .neq e (.int k a) (.int k b) = some (.bool true):=by rw [neq_int,decide_eq_true h]
theorem neqF (h:a = b):bin .neq e (.int k a) (.int k b) = some (.bool false):=by rw [neq_int,decide_eq_false (by omega)]
theorem add1N {n:Nat} (h:n < 4611686018427387904):bin .add e (.int .i64 (n:Int)) (.int .i64 1) = some (.int .i64 ((n + 1:Nat):Int)):=by
 rw [add_i64 (by omega) (by omega)]; rfl
theorem mulN {n m:Nat} (h:n * m < 4611686018427387904):bin .mul e (.int .i64 (n:Int)) (.int .i64 (m:Int)) = some (.int .i64 ((n * m:Nat):Int)):=by
 have:((n * m:Nat):Int) = (n:Int) * (m:Int):=by simp
 rw [mul_i64 (by omega) (by omega),this]
theorem nilsEq:bin .eql (.ref 1) .nils .nils = some (.bool true):=rfl
theorem sliceEq {i o n:Nat} {c:ACap}:bin .eql (.ref 1) (.slice i o n c) .nils = some (.bool false):=rfl
theorem sliceNe {i o n:Nat} {c:ACap}:bin .neq (.ref 1) (.slice i o n c) .nils = some (.bool true):=rfl
end
def nilckV (v:AV):Option AV:=match v with
 | .ptr i o => some (.ptr i o)
 | .fn (.func f) a b => some (.fn (.func f) a b)
 | .fn (.yield l) a b => some (.fn (.yield l) a b)
 | _ => none
def faddrV (off:Nat) (v:AV):Option AV:=match v with | .ptr i o => some (.ptr i (o + off)) | _ => none
def bslV (v:AV) (h:AHeap):Option (AObj × AV):=if v.cells.length = 1 then some (.cells v.cells true, .slice h.next 0 1 (.exact 1)) else none
noncomputable def mkslV (bytes:Nat) (z:List AV) (l c:AV) (h:AHeap):Option (AObj × AV):=match l,c with
 | .int _ l, .int _ c => if 0 <= l /\ l <= c /\ c * bytes <= 140737488355328 then some (.cells (repl c.toNat z) true, .slice h.next 0 l.toNat (.exact c.toNat)) else none
 | _,_ => none
section
variable {tm:List AV} {h:AHeap}
theorem evalQ_nilckV (x:AOpd):evalQ (.nilck x) tm h = nilckV (ev tm x):=rfl
theorem nilckV_ptr {i o:Nat}:nilckV (.ptr i o) = some (.ptr i o):=rfl
theorem evalQ_faddrV (off:Nat) (x:AOpd):evalQ (.faddr off x) tm h = faddrV off (ev tm x):=rfl
theorem faddrV_ptr {i o off:Nat}:faddrV off (.ptr i o) = some (.ptr i (o + off)):=rfl
theorem evalQ_mkfnV (f:Fn) (fs cs:List AOpd):evalQ (.mkfn f fs cs) tm h = some (.fn f (evs tm fs) (evs tm cs)):=rfl
theorem evalA_boxV (x:AOpd):evalA (.box x) tm h = some (.cells (ev tm x).cells true, .ptr h.next 0):=rfl
theorem evalA_allocV (z:List AV):evalA (.alloc z) tm h = some (.cells z true, .ptr h.next 0):=rfl
theorem evalA_mkmapV:evalA .mkmap tm h = some (.map [], .map h.next):=rfl
theorem evalA_mkslV (sz bytes:Nat) (z:List AV) (l c:AOpd):evalA (.mkslice sz bytes z l c) tm h = mkslV bytes z (ev tm l) (ev tm c) h:=rfl
theorem mkslV_nat {bytes n:Nat} {z:List AV} {k:IntKind} (hb:n * bytes <= 140737488355328):mkslV bytes z (.int k (n:Int)) (.int k (n:Int)) h = some (.cells (repl n z) true, .slice h.next 0 n (.exact n)):=by
 show (if 0 <= (n:Int) /\ (n:Int) <= (n:Int) /\ (n:Int) * (bytes:Int) <= 140737488355328 then _ else _) = _
 have:(n:Int) * (bytes:Int) = ((n * bytes:Nat):Int):=by simp
 rw [if_pos ⟨by omega,by omega,by omega⟩,Int.toNat_natCast]
theorem evalA_bslV {z:AV} (x:AOpd):evalA (.bslice 1 1 [z] [(0,x)]) tm h = bslV (ev tm x) h:=by
 unfold bslV
 simp only [evalA,fillsS,Nat.zero_mul]
 generalize (ev tm x).cells = c
 by_cases hc:c.length = 1
 ·obtain ⟨y,rfl⟩:=List.length_eq_one_iff.1 hc
  rw [if_pos hc,if_pos hc]
  simp only [lay_cons,lay_zero]
 ·rw [if_neg hc,if_neg hc]
theorem bslV_int {k:IntKind} {n:Int}:bslV (.int k n) h = some (.cells [.int k n] true, .slice h.next 0 1 (.exact 1)):=rfl
theorem bslV_ptr {i o:Nat}:bslV (.ptr i o) h = some (.cells [.ptr i o] true, .slice h.next 0 1 (.exact 1)):=rfl
theorem bslV_sc {v:AV} (hv:v.scalar = true):bslV v h = some (.cells [v] true, .slice h.next 0 1 (.exact 1)):=by
 unfold bslV; rw [scalar_cells hv]; rfl
end
theorem cells_agg {cs:List AV}:(AV.agg cs).cells = cs:=rfl
def RSe:=PLift.up (And.intro @RSd.down (And.intro @WOs_nilck (And.intro @WOs_faddr (And.intro @WOs_box (And.intro @WOs_mkfn (And.intro @WOs_lookup (And.intro @WOs_mupd (And.intro @WOs_mkmap (And.intro @WOs_iface (And.intro @WOs_copy (And.intro @WOs_index (And.intro @WDs_nilck (And.intro @WDs_faddr (And.intro @WDs_load (And.intro @WDs_iaddr (And.intro @WDs_len (And.intro @WDs_extr (And.intro @WDs_field (And.intro @WDs_un (And.intro @WDs_toInt (And.intro @WDs_pick (And.intro @WDs_mkfn (And.intro @WDs_store (And.intro @evalQ_nilckV (And.intro @nilckV_ptr (And.intro @evalQ_faddrV (And.intro @faddrV_ptr (And.intro @evalQ_mkfnV (And.intro @evalA_boxV (And.intro @evalA_allocV (And.intro @evalA_mkmapV (And.intro @evalA_mkslV (And.intro @evalA_bslV (And.intro @bslV_int (And.intro @bslV_ptr (And.intro @evalE_store (And.intro @nilsEq (And.intro @sliceEq (And.intro @sliceNe (And.intro @lssT (And.intro @lssF (And.intro @gtrT (And.intro @gtrF (And.intro @leqT (And.intro @leqF (And.intro @geqT (And.intro @geqF (And.intro @eqlT (And.intro @eqlF (And.intro @neqT (And.intro @neqF (And.intro @add1N (And.intro @cells_agg (And.intro @Nat.zero_add @Nat.add_zero))))))))))))))))))))))))))))))))))))))))))))))))))))))
def pc (p:Pm):List AV:=p.map fun x:Nat => .int .i64 (x:Int)
theorem pc_len {p:Pm}:(pc p).length = p.length:=List.length_map _
theorem pc_get {p:Pm} {i:Nat} (hi:i < p.length):(pc p)[i]? = some (.int .i64 (ap p i:Int)):=by
 unfold pc; rw [List.getElem?_map,get?_ap hi]; rfl
theorem pc_inj {p q:Pm} (h:pc p = pc q):p = q:=by
 unfold pc at h
 refine List.map_inj_right (fun a b e => ?_) |>.1 h
 injection e with _ e; omega
abbrev PmAt (h:AHeap) (v:AV) (p:Pm):Prop:=SlAt h v (pc p)
theorem PmAt.gro {h h':AHeap} {v:AV} {p:Pm} (s:PmAt h v p) (g:Gro h h'):PmAt h' v p:=SlAt.gro s g
theorem PmAt.chg {F:Nat -> Prop} {h h':AHeap} {v:AV} {p:Pm} (s:PmAt h v p) (k:Chg F h h') (hF:∀ i,oid v = some i -> ¬ F i):PmAt h' v p:=SlAt.chg s k hF
theorem PmAt.iaddr {h:AHeap} {v:AV} {p:Pm} (s:PmAt h v p) {k:Nat} {q:IntKind} (hk:k < p.length):iaddrV 1 v (.int q (k:Int)) = some (eaddr v k):=SlAt.iaddr s (by rw [pc_len]; exact hk)
theorem PmAt.load {h:AHeap} {v:AV} {p:Pm} (s:PmAt h v p) {k:Nat} (hk:k < p.length):loadV none (eaddr v k) h = some (.int .i64 (ap p k:Int)):=SlAt.load s (pc_get hk)
theorem PmAt.len {h:AHeap} {v:AV} {p:Pm} (s:PmAt h v p) {h':AHeap}:lenV 1 v h' = some (.int .i64 (p.length:Int)):=by rw [SlAt.len s,pc_len]
theorem tab_at {h:AHeap} {i:Nat} {c:List AV} {r:Bool} (hi:i < h.next) (hg:h.get i = some (.cells c r)) {n:Nat} (hn:c.length = n) {cap:ACap} (hc:capOK 1 n cap):SlAt h (.slice i 0 n cap) c :=
 .inr ⟨i,0,cap,c,by rw [hn],hi,fun _ => ⟨cellsOf_get hg,cut_all c⟩,by rw [hn]; exact hc⟩
def tbl (n:Nat) (f:Nat -> AV):List AV:=(List.range n).map f
theorem tbl_len {n:Nat} {f:Nat -> AV}:(tbl n f).length = n:=by unfold tbl; rw [List.length_map,List.length_range]
theorem tbl_get {n:Nat} {f:Nat -> AV} {i:Nat} (hi:i < n):(tbl n f)[i]? = some (f i):=by
 unfold tbl; rw [List.getElem?_map,List.getElem?_range hi]; rfl
theorem tbl_set {n:Nat} {f:Nat -> AV} {i:Nat} {v:AV}:(tbl n f).set i v = tbl n fun j => if j = i then v else f j:=by
 refine List.ext_getElem? fun j => ?_
 by_cases hj:j < n
 ·rw [tbl_get hj]
  by_cases e:j = i
  ·subst e; rw [if_pos rfl,List.getElem?_set_self (by rw [tbl_len]; exact hj)]
  ·rw [if_neg e,List.getElem?_set_ne (fun h => e h.symm),tbl_get hj]
 ·rw [List.getElem?_eq_none (by rw [List.length_set,tbl_len]; omega),List.getElem?_eq_none (by rw [tbl_len]; omega)]
theorem tbl_congr {n:Nat} {f g:Nat -> AV} (h:∀ i,i < n -> f i = g i):tbl n f = tbl n g:=by
 unfold tbl; exact List.map_congr_left fun i hi => h i (List.mem_range.1 hi)
theorem tbl_repl {v:AV}:∀ n:Nat,repl n [v] = tbl n fun _ => v
 | 0 => rfl
 | n + 1 => by
  have e:repl (n + 1) [v] = v :: repl n [v]:=rfl
  rw [e,tbl_repl n]
  unfold tbl; rw [List.range_succ_eq_map]; simp
theorem tbl_pc {n:Nat} {p:Pm} (hl:p.length = n):pc p = tbl n fun i => .int .i64 (ap p i:Int):=by
 refine List.ext_getElem? fun j => ?_
 by_cases hj:j < n
 ·rw [tbl_get hj,pc_get (by omega)]
 ·rw [List.getElem?_eq_none (by rw [pc_len]; omega),List.getElem?_eq_none (by rw [tbl_len]; omega)]
theorem stV_tbl {h:AHeap} {i k n:Nat} {f:Nat -> AV} {x:AV} (hg:h.get i = some (.cells (tbl n f) true)) (hk:k < n) (hx:x.scalar = true):stV 1 (.ptr i k) x h = some (aundef,h.set i (.cells (tbl n fun j => if j = k then x else f j) true)):=by
 rw [stV_at hg (by rw [tbl_len]; exact hk) hx,tbl_set]
theorem box_ld {h h':AHeap} {c:List AV} {r:Bool} (g:Gro (h.push (.cells c r)) h') {o:Nat} {x:AV} (hx:c[o]? = some x):loadV none (.ptr h.next o) h' = some x :=
 loadV_get (by rw [g.same _ (Nat.lt_succ_self _)]; exact AHeap.get_push_same h _) hx
theorem box_all {h h':AHeap} {c:List AV} {r:Bool} (g:Gro (h.push (.cells c r)) h') {n:Nat} (hn:c.length = n):loadV (some n) (.ptr h.next 0) h' = some (.agg c):=by
 show (match cellsOf h' h.next with | some c => fit (some n) 0 c | none => none) = _
 rw [g.cells (Nat.lt_succ_self _),cellsOf_push]
 show (match cut c 0 n with | some l => some (AV.agg l) | none => none) = _
 rw [<- hn,cut_all]
def NoI (I:Oracle):Prop:=∀ f a h,f ≠ 159 -> f ≠ 171 -> f ≠ 196 -> f ≠ 147 -> I f a h = none
theorem NoI.at {I:Oracle} (h:NoI I) {f:Nat} (a:List AV) (hp:AHeap) (h1:f ≠ 159) (h2:f ≠ 171) (h3:f ≠ 196) (h4:f ≠ 147:=by decide):I f a hp = none:=h f a hp h1 h2 h3 h4
end Go.AM
namespace Go.GT
structure Sub (N:Nat) (m:Nat -> Nat -> Nat) (H:List Nat):Prop where
 asc:H.Pairwise (· < ·)
 lt:∀ x ∈ H,x < N
 one:0 ∈ H
 cl:∀ x ∈ H, ∀ y ∈ H,m x y ∈ H
noncomputable def those (N:Nat) (p:Nat -> Prop):List Nat:=open Classical in (List.range N).filter fun x => decide (p x)
section
variable {N:Nat} {m:Nat -> Nat -> Nat} {S H K:List Nat}
noncomputable def ti (N:Nat) (m:Nat -> Nat -> Nat) (x:Nat):Nat:=open Classical in if h:∃ y,y < N /\ m x y = 0 /\ m y x = 0 then Classical.choose h else 0
theorem ti_spec (hT:TG N m) {x:Nat} (hx:x < N):ti N m x < N /\ m x (ti N m x) = 0 /\ m (ti N m x) x = 0:=by
 have h:=hT.inv x hx
 unfold ti
 rw [dif_pos h]
 exact Classical.choose_spec h
theorem nodup_eq_len {α:Type} [DecidableEq α] {l l':List α} (h:l.Nodup) (k:l'.Nodup) (e:∀ x,x ∈ l ↔ x ∈ l'):l.length = l'.length :=
 Nat.le_antisymm (nodup_le h fun x hx => (e x).1 hx) (nodup_le k fun x hx => (e x).2 hx)
theorem nodup_map {α β:Type} {f:α -> β}:∀ {l:List α},l.Nodup -> (∀ x ∈ l, ∀ y ∈ l,f x = f y -> x = y) -> (l.map f).Nodup
 | [],_,_ => List.Pairwise.nil
 | x :: l,h,hf => by
  obtain ⟨h1,h2⟩:=List.nodup_cons.1 h
  refine List.nodup_cons.2 ⟨fun hm => ?_,nodup_map h2 fun a ha b hb => hf a (.tail _ ha) b (.tail _ hb)⟩
  obtain ⟨y,hy,e⟩:=List.mem_map.1 hm
  have:=hf y (.tail _ hy) x (.head _) e
  subst this; exact h1 hy
variable {F:List (List Nat)} {i x:Nat}
end
end Go.GT
namespace Go.GT
structure Act {α:Type} (N:Nat) (m:Nat -> Nat -> Nat) (H:List Nat) (Y:List α) (f:Nat -> α -> α):Prop where
 tg:TG N m
 sub:Sub N m H
 nd:Y.Nodup
 cl:∀ h ∈ H, ∀ y ∈ Y,f h y ∈ Y
 one:∀ y ∈ Y,f 0 y = y
 mul:∀ g ∈ H, ∀ h ∈ H, ∀ y ∈ Y,f (m g h) y = f g (f h y)
end Go.GT
namespace Go.GT
def wd (H:List Nat):Nat:=H.foldr (fun i w => w ||| 2 ^ i) 0
end Go.GT
namespace Go.GT
section
variable {N:Nat} {m:Nat -> Nat -> Nat} {H S:List Nat}
noncomputable def tr (N:Nat) (m:Nat -> Nat -> Nat) (g:Nat) (S:List Nat):List Nat:=those N fun y => ∃ s,s ∈ S /\ m g s = y
noncomputable def rc (N:Nat) (m:Nat -> Nat -> Nat) (H:List Nat) (x:Nat):List Nat:=those N fun y => ∃ h,h ∈ H /\ m h x = y
end
end Go.GT
namespace Go.GT
section
variable {N:Nat} {m:Nat -> Nat -> Nat} {H S P Q:List Nat}
theorem cj_mul (hT:TG N m) {x s t:Nat} (hx:x < N) (hs:s < N) (ht:t < N):m (m (m (ti N m x) s) x) (m (m (ti N m x) t) x) = m (m (ti N m x) (m s t)) x:=by
 obtain ⟨i1,i2,i3⟩:=ti_spec hT hx
 generalize ti N m x = i at i1 i2 i3 ⊢
 have ha:=hT.cl i s i1 hs
 have hb:=hT.cl i t i1 ht
 rw [hT.assoc _ x _ ha hx (hT.cl _ _ hb hx), <- hT.assoc x _ x hx hb hx, <- hT.assoc x i t hx i1 ht,i2,hT.l1 t ht, <- hT.assoc _ t x ha ht hx,hT.assoc i s t i1 hs ht]
end
end Go.GT
namespace Go.AM
open Go
section
variable {P:Program} {B:Nat} {ρ ρ' ρ0:Rho} {h h' h0:AHeap} {w w' w0:World}
theorem Sim.notIter (hs:Sim P ρ h B w) {r:Nat} {a:Option Nat} {b d:Nat} {c:Array Nat} (hr:w.heap[r]? = some (.mapIter a b c d)):Off ρ h r:=by
 intro i o p h1 h2 _ e
 have:=hs.obj i o p h1 h2
 subst e
 cases o with
 | cells c rw => obtain ⟨cc,el,fr,k1,_⟩:=this; rw [hr] at k1; cases k1
 | map es => obtain ⟨_,_,_,ms,ck,k1,_⟩:=this; rw [hr] at k1; cases k1
 | loop fn tm ps a b st pend => obtain ⟨_,_,_,L,k1,_⟩:=this; rw [hr] at k1; cases k1
theorem Sim.iterNot (hs:Sim P ρ h B w) {r:Nat} {a:Option Nat} {b d:Nat} {c:Array Nat} (hr:w.heap[r]? = some (.mapIter a b c d)):∀ i o p,h.get i = some o -> ρ i = some p -> p.blk ≠ r:=by
 intro i o p h1 h2 e
 have:=hs.obj i o p h1 h2
 subst e
 cases o with
 | cells c rw => obtain ⟨cc,el,fr,k1,_⟩:=this; rw [hr] at k1; cases k1
 | map es => obtain ⟨_,_,_,ms,ck,k1,_⟩:=this; rw [hr] at k1; cases k1
 | loop fn tm ps a b st pend => obtain ⟨_,_,_,L,k1,_⟩:=this; rw [hr] at k1; cases k1
theorem Stp.off (s:Stp P B ρ h w ρ' h' w') {b:Nat} (hb:b < w.heap.size) (ho:Off ρ h b):Off ρ' h' b:=by
 intro i o p h1 h2 h3 e
 rcases s.orig i o p h1 h2 h3 with hge | ⟨i0,o0,p0,g1,g2,g3,g4⟩
 ·omega
 ·exact ho i0 o0 p0 g1 g2 g3 (by rw [g4,e])
theorem Stp.turnIter (s : Stp P B ρ0 h0 w0 ρ h w) {r : Nat} {a : Option Nat} {b d : Nat} {c : Array Nat} (hr : w.heap[r]? = some (.mapIter a b c d)) (hnew : w0.heap.size <= r) (o : Obj) :
  Stp P B ρ0 h0 w0 ρ h (putRowW w r o):=by
 have hnd:=s.sim.iterNot hr
 refine ⟨s.ext,⟨by have:=s.sim.low; simpa using this,s.sim.dom,fun i o p h1 h2 => (s.sim.obj i o p h1 h2).same (putRowW_other (hnd i o p h1 h2)),s.sim.sep,s.sim.tidy⟩,s.os,s.tape,s.output,by have:=s.size; simpa using this,?_,s.orig,s.next,s.fresh,?_,s.drawn⟩
 ·intro k hk hoff
  rw [putRowW_other (by omega)]; exact s.frame k hk hoff
 ·intro k L hL
  have hk:k < w0.heap.size:=(Array.getElem?_eq_some_iff.1 hL).1
  obtain ⟨L',h'⟩:=s.loops k L hL
  exact ⟨L',by rw [putRowW_other (by omega)]; exact h'⟩
theorem Stp.newIter (hs:Sim P ρ h B w) (b:Obj):Stp P B ρ h w (upd ρ h.next ⟨w.heap.size,0,1⟩) ((h.push (.cells [] false)).del h.next) (w.alloc b):=by
 have hold:∀ k,k < w.heap.size -> (w.alloc b).heap[k]? = w.heap[k]?:=fun k hk => RowKit.Below.heap_alloc w b k hk
 have hn:=noDom hs
 have hx:Ext ρ (upd ρ h.next ⟨w.heap.size,0,1⟩):=Ext.upd _ hn
 have hg:∀ i o,((h.push (.cells [] false)).del h.next).get i = some o -> i ≠ h.next /\ h.get i = some o:=fun i o e => by
  by_cases ei:i = h.next
  ·subst ei; rw [AHeap.get_del_same] at e; cases e
  ·rw [AHeap.get_del_ne _ ei,AHeap.get_push_ne _ _ ei] at e; exact ⟨ei,e⟩
 have hu:∀ i p,i ≠ h.next -> upd ρ h.next ⟨w.heap.size,0,1⟩ i = some p -> ρ i = some p:=fun i p ei e => by rwa [upd_ne _ _ ei] at e
 refine ⟨hx,⟨?_,fun i p e => ?_,fun i o p h1 h2 => ?_,fun i j oi oj pi pj hne h1 h2 h3 h4 hw => ?_,(hs.tidy.push _).del _⟩,rfl,rfl,rfl,by simp,fun k hk _ => hold k hk,fun i o p h1 h2 h3 => ?_,Nat.le_succ _,fun i p e => ?_,fun k L hL => ⟨L,by rw [hold k (Array.getElem?_eq_some_iff.1 hL).1]; exact hL⟩,Nat.le_refl _⟩
 ·have:=hs.low; simp; omega
 ·show i < h.next + 1
  by_cases ei:i = h.next
  ·omega
  ·have:=hs.dom i p (hu i p ei e); omega
 ·obtain ⟨ei,g⟩:=hg i o h1
  have ho:=hs.obj i o p g (hu i p ei h2)
  exact (ho.mono hx).same (hold _ ho.lt)
 ·obtain ⟨ei,g1⟩:=hg i oi h1
  obtain ⟨ej,g2⟩:=hg j oj h2
  exact hs.sep i j oi oj pi pj hne g1 g2 (hu i pi ei h3) (hu j pj ej h4) hw
 ·obtain ⟨ei,g⟩:=hg i o h1
  exact .inr ⟨i,o,p,g,hu i p ei h2,h3,rfl⟩
 ·by_cases ei:i = h.next
  ·exact .inr (by omega)
  ·exact .inl (hu i p ei e)
theorem Stp.forget (hs:Sim P ρ h B w) (i:Nat):Stp P B ρ h w ρ (h.del i) w:=by
 have hg:∀ j o,(h.del i).get j = some o -> j ≠ i /\ h.get j = some o:=fun j o e => by
  by_cases ej:j = i
  ·subst ej; rw [AHeap.get_del_same] at e; cases e
  ·rw [AHeap.get_del_ne _ ej] at e; exact ⟨ej,e⟩
 exact ⟨Ext.refl _,⟨hs.low,hs.dom,fun j o p h1 h2 => hs.obj j o p (hg j o h1).2 h2,fun a b oa ob pa pb hne h1 h2 h3 h4 hw => hs.sep a b oa ob pa pb hne (hg a oa h1).2 (hg b ob h2).2 h3 h4 hw,hs.tidy.del _⟩,rfl,rfl,rfl,Nat.le_refl _,fun _ _ _ => rfl,fun j o p h1 h2 h3 => .inr ⟨j,o,p,(hg j o h1).2,h2,h3,rfl⟩,Nat.le_refl _,fun _ _ e => .inl e,fun _ L hL => ⟨L,hL⟩,Nat.le_refl _⟩
theorem offMap (hs:Sim P ρ h B w) {m:Nat} {es:List (AV × AV)} {p:Place} (hg:h.get m = some (.map es)) (hp:ρ m = some p):Off ρ (h.del m) p.blk:=by
 intro i o q h1 h2 _ e
 have hi:i ≠ m /\ h.get i = some o:=by
  by_cases ej:i = m
  ·subst ej; rw [AHeap.get_del_same] at h1; cases h1
  ·rw [AHeap.get_del_ne _ ej] at h1; exact ⟨ej,h1⟩
 obtain ⟨b0,r1,_,ms,ck,k1,_⟩:=hs.obj m _ p hg hp
 have hap:=hs.sep m i _ o p q (Ne.symm hi.1) hg hi.2 hp h2 rfl
 have ho:=hs.obj i o q hi.2 h2
 cases o with
 | cells c rw => obtain ⟨cc,el,fr,j1,_⟩:=ho; rw [e,k1] at j1; cases j1
 | map es => obtain ⟨c0,d1,_⟩:=ho; rcases hap with hap | hap | hap <;> omega
 | loop fn tm ps a b st pend => obtain ⟨_,_,_,L,j1,_⟩:=ho; rw [e,k1] at j1; cases j1
end
section
variable {P:Program} {w:World}
theorem run_next_at {r bm since c0 clock : Nat} {ty : TypeId} {seen : Array Nat} {es : Array MapEntry} (hr : w.heap[r]? = some (.mapIter (some bm) since seen c0)) (hb : w.heap[bm]? = some (.map es clock)) (hold : ∀ x ∈ es.toList, x.born < since) (hsc : since <= c0) :
  ((leftOf es seen).size = 0 /\ (Instr.next (.pointer (some ⟨r,0,none⟩)) false ty).run P w = .ok (.tuple #[.bool false]) w) \/
  ∃ e ∈ (leftOf es seen).toList, ∃ d,w.drawn <= d /\ (Instr.next (.pointer (some ⟨r,0,none⟩)) false ty).run P w = .ok (.tuple #[.bool true,e.key,e.val]) (putRowW { w with drawn:=d } r (.mapIter (some bm) since (seen.push e.born) clock)):=by
 simp only [Instr.next,getObj,Sem.run_bind,Sem.run,hr,hb,Result.andThen,next_test_false seen es since c0 hold hsc,Bool.false_eq_true,if_false]
 unfold leftOf
 have hmem:∀ x ∈ (Array.filter (fun e => !seen.contains e.born) es).toList,x.born < since:=fun x hx => hold x (by simp at hx ⊢; exact hx.1)
 generalize Array.filter (fun e => !seen.contains e.born) es = L at hmem ⊢
 have e1:L.filter (fun x => decide (x.born < since)) = L:=Array.filter_eq_self.2 (fun x hx => by simpa using hmem x (by simpa using hx))
 have e2:L.filter (fun x => decide (x.born ≥ since)) = #[]:=by
  rw [Array.filter_eq_empty_iff]
  intro x hx
  have:=hmem x (by simpa using hx)
  simp
  omega
 simp only [e1,e2,Array.append_empty]
 by_cases h0:L.size = 0
 ·left
  have:L = #[]:=Array.eq_empty_of_size_eq_zero h0
  subst this
  refine ⟨rfl,?_⟩
  simp [choose,Sem.run,Question.forced]
 ·right
  have hne:L.isEmpty = false:=by simp [Array.isEmpty,h0]
  simp only [hne,Bool.false_eq_true,if_false,Array.empty_append,Array.size_map]
  have hch:∃ (j d:Nat),j < L.size /\ w.drawn <= d /\ (choose (Question.mapNext L.size)).run P w = .ok j { w with drawn:=d }:=by
   by_cases hf:L.size <= 1
   ·exact ⟨0,w.drawn,by omega,Nat.le_refl _,by simp [choose,Sem.run,Question.forced,hf]⟩
   ·exact ⟨_, w.drawn + 1, Nat.mod_lt _ (by omega), Nat.le_succ _, by
     simp only [choose,Sem.run,Question.forced,decide_eq_true_eq,hf,if_false,Question.cut]
     rfl⟩
  obtain ⟨j,d,hj,hd,hrun⟩:=hch
  refine ⟨L[j],by simp,d,hd,?_⟩
  have hset:∀ o':Obj,(setObj r o').run P { w with drawn:=d } = .ok () (putRowW { w with drawn:=d } r o'):=fun o' => by
   have hr':({ w with drawn:=d }:World).heap[r]? = some (.mapIter (some bm) since seen c0):=hr
   simp only [setObj,Sem.run,hr']
   rfl
  simp only [hrun,Array.getElem?_map,Array.getElem?_eq_getElem hj,Option.map_some,Sem.run_bind,hset,Result.andThen]
  rfl
theorem run_entry_at {r bm since clock : Nat} {seen : Array Nat} {es : Array MapEntry} {e : MapEntry} (hr : w.heap[r]? = some (.mapIter (some bm) since (seen.push e.born) clock)) (hb : w.heap[bm]? = some (.map es clock)) (he : e ∈ es.toList) (hn : (es.toList.map (·.born)).Nodup) :
  (Instr.entry (.pointer (some ⟨r,0,none⟩))).run P w = .ok (.tuple #[e.key,e.val]) w:=by
 have hf:es.find? (·.born == e.born) = some e:=by rw [<- Array.find?_toList]; exact find_born e es.toList hn he
 simp only [Instr.entry,getObj,Sem.run_bind,Sem.run,hr,hb,Result.andThen,Array.back?_push,bne_self_eq_false,Bool.false_eq_true,if_false,hf]
 rfl
end
noncomputable def mround (call:CallT) (fuel it n0 nx:Nat) (aStep:List AOper) (more:AOpd) (pr:Nat) (aAs:List AOper) (ab:ACode) (k v:AV) (s:St):Option St :=
 match runOps aStep call ⟨put s.tm nx (.tup [.bool true,k,v]),s.h⟩ with
 | some s2 => (match ev s2.tm more,nth s2.tm it with
  | .bool true, .ptr i 0 => if i = n0 then (match runOps aAs call ⟨put s2.tm pr (.tup [k,v]),s2.h⟩ with
   | some s3 => (match exec ab call fuel s3 with
    | some (.normal,s4) => (match nth s4.tm it with | .ptr i 0 => if i = n0 then some s4 else none | _ => none)
    | _ => none)
   | none => none) else none
  | _,_ => none)
 | none => none
noncomputable def mgo (f:AV -> AV -> St -> Option St):List (AV × AV) -> St -> Option St
 | [],s => some s
 | p :: r,s => match f p.1 p.2 s with | some s' => mgo f r s' | none => none
theorem mgo_append (f:AV -> AV -> St -> Option St):∀ (l r:List (AV × AV)) (s:St),mgo f (l ++ r) s = (match mgo f l s with | some s' => mgo f r s' | none => none)
 | [],r,s => rfl
 | p :: l,r,s => by
  show (match f p.1 p.2 s with | some s' => mgo f (l ++ r) s' | none => none) = (match (match f p.1 p.2 s with | some s' => mgo f l s' | none => none) with | some s' => mgo f r s' | none => none)
  cases f p.1 p.2 s with
  | none => rfl
  | some s' => exact mgo_append f l r s'
def inOrd (es:List (AV × AV)) (idx:List Nat):List (AV × AV):=idx.map fun i => es.getD i (aundef,aundef)
theorem EsR.at {ρ:Rho} {es:List (AV × AV)} {ms:List MapEntry} (h:EsR ρ es ms):∀ {i:Nat} {e:MapEntry},ms[i]? = some e -> i < es.length /\ VR ρ (es.getD i (aundef,aundef)).1 e.key /\ VR ρ (es.getD i (aundef,aundef)).2 e.val:=by
 induction h with
 | nil => intro i e hi; simp at hi
 | cons hk hv _ ih =>
  intro i e hi
  cases i with
  | zero => simp at hi; subst hi; exact ⟨by simp,hk,hv⟩
  | succ i =>
   obtain ⟨h1,h2,h3⟩:=ih (i:=i) (by simpa using hi)
   exact ⟨by simp; omega,by simpa using h2,by simpa using h3⟩
theorem EsR.length {ρ:Rho} {es:List (AV × AV)} {ms:List MapEntry} (h:EsR ρ es ms):es.length = ms.length:=by
 induction h with
 | nil => rfl
 | cons _ _ _ ih => simp [ih]
theorem perm_extend {idx:List Nat} {n i:Nat} (nd:idx.Nodup) (hl:∀ x ∈ idx,x < n) (hi:i < n) (hni:i ∉ idx):∃ rest,(idx ++ i :: rest).Perm (List.range n):=by
 refine ⟨(List.range n).filter fun x => decide (x ∉ idx /\ x ≠ i),?_⟩
 refine (List.perm_ext_iff_of_nodup ?_ List.nodup_range).2 fun x => ?_
 ·rw [List.nodup_append]
  refine ⟨nd,List.nodup_cons.2 ⟨fun hm => ?_,List.nodup_range.filter _⟩,fun a ha b hb => ?_⟩
  ·exact (of_decide_eq_true (List.mem_filter.1 hm).2).2 rfl
  ·rcases List.mem_cons.1 hb with rfl | hb
   ·exact fun e => hni (e ▸ ha)
   ·exact fun e => (of_decide_eq_true (List.mem_filter.1 hb).2).1 (e ▸ ha)
 ·rw [List.mem_append,List.mem_cons,List.mem_filter,List.mem_range,decide_eq_true_eq]
  constructor
  ·rintro (h | h | h)
   ·exact hl x h
   ·rw [h]; exact hi
   ·exact h.1
  ·intro hx
   by_cases h1:x ∈ idx
   ·exact .inl h1
   ·by_cases h2:x = i
    ·exact .inr (.inl h2)
    ·exact .inr (.inr ⟨hx,h1,h2⟩)
theorem wpOps_first {F : Fence} {n : Nat} {P : Program} {ops : Array Oper} {Q : Exit -> Act -> World -> Prop} {a : Act} {w : World} {o : Oper} {rest : List Oper} (ho : ops.toList = o :: rest) (hg : o.guard = none)
  (h:o.wpIn F n P a w (wpOpsIn F n P ops Q (List.range' 1 rest.length)) Q):wpOpsIn F n P ops Q (List.range ops.size) a w:=by
 have hsz:ops.size = rest.length + 1:=by rw [<- Array.length_toList,ho]; rfl
 have h0:ops[0]? = some o:=by rw [<- Array.getElem?_toList,ho]; rfl
 rw [hsz,List.range_eq_range',List.range'_succ]
 simp only [wpOpsIn,h0]
 have hw:Region.wanted o (yielded ops a.tmps) = true:=by unfold Region.wanted; rw [hg]
 rw [if_pos hw]
 exact h
end Go.AM
namespace Go.AM
open Go
section
variable {P:Program} {B W:Nat}
theorem skip_wp {F:Fence} {n:Nat} {c:Code} (h:tr P c = some .skip) {Q:Exit -> Act -> World -> Prop} {a:Act} {w:World} (hq:Q .normal a w):c.wpIn F n P Q a w:=by
 cases c with
 | skip => exact wpIn_skip hq
 | label l => exact wpIn_label hq
 | region id ops dr => cases dr <;> simp only [tr] at h <;> split at h <;> cases h
 | seq p q => simp only [tr] at h; split at h <;> cases h
 | cond c p q => simp only [tr] at h; split at h <;> cases h
 | block id p => simp only [tr] at h; split at h <;> cases h
 | loop p => simp only [tr] at h; split at h <;> cases h
 | rangeFunc f ps p q => simp only [tr] at h; split at h <;> cases h
 | exit id => simp only [tr] at h; cases h
 | scope p => simp only [tr] at h; split at h <;> cases h
 | goto l => simp only [tr] at h; cases h
 | ret => simp only [tr] at h; cases h
 | refuse r => simp only [tr] at h; cases h
theorem mapRange_sound (hm : P.follows .mixedOrders = true) {call : CallT} (hc : CallOK P call) {ro : Option Nat}
  {i1 i2 out nxt:Nat} {stepOps asOps:Array Oper} {oN oE:Oper} {sRest aRest:List Oper} {more:Operand} {body:Code}
  {it nx pr:Nat} {aStep aAs:List AOper} {amore:AOpd} {ab:ACode} {fuel:Nat}
  (hs1:stepOps.toList = oN :: sRest) (hN:oN.op = .next (.tmp it) false) (hNd:oN.dst = some nx) (hNg:oN.guard = none) (hsT:trOpers P stepOps sRest = some aStep)
  (ha1:asOps.toList = oE :: aRest) (hE:oE.op = .entry (.tmp it)) (hEd:oE.dst = some pr) (hEg:oE.guard = none) (haT:trOpers P asOps aRest = some aAs)
  {cS:Code} (htS:tr P cS = some .skip) (hmo:trOpd more = some amore) (hb:tr P body = some ab)
  {n0 r bm ck:Nat} {es:List (AV × AV)} {ms:Array MapEntry} {ρ ρ1:Rho} {h:AHeap} {w w1:World} {s0:St} {a1:Act}
  (hst:Stp P B ρ h w ρ1 s0.h w1) (ht:TR ρ1 s0.tm a1.tmps) (hd:DOK W w1 a1.defers) (hW:W <= w1.heap.size) (hi:InR ro w1)
  (hit:nth s0.tm it = .ptr n0 0) (hn0:ρ1 n0 = some ⟨r,0,1⟩) (hrw:w.heap.size <= r) (hri:w1.heap[r]? = some (.mapIter (some bm) ck #[] ck))
  (hbm:w1.heap[bm]? = some (.map ms ck)) (hoff:Off ρ1 s0.h bm) (hes:EsR ρ1 es ms.toList) (hbn:Born ms.toList ck)
  {R:St -> Prop} {Q:Exit -> Act -> World -> Prop}
  (hrun:∀ idx:List Nat,idx.Perm (List.range es.length) -> ∃ sE s9,mgo (mround call fuel it n0 nx aStep amore pr aAs ab) (inOrd es idx) s0 = some sE /\ runOps aStep call ⟨put sE.tm nx (.tup [.bool false]),sE.h⟩ = some s9 /\ ev s9.tm amore = .bool false /\ R s9)
  (hQ:∀ s9 ρ' a' w',R s9 -> TR ρ' s9.tm a'.tmps -> Stp P B ρ h w ρ' s9.h w' -> DOK W w' a'.defers -> Q (.exit out) a' w') :
  (Code.loop (.seq (.region i1 stepOps false) (.seq (.cond more cS (.exit out)) (.block nxt (.seq (.region i2 asOps false) body))))).wpIn (FF ro) 0 P Q a1 w1:=by
 have hlen:=hes.length
 obtain ⟨su1,su2⟩:=trOpers_get hsT
 obtain ⟨au1,au2⟩:=trOpers_get haT
 have hsz1:stepOps.size = 1 + sRest.length:=by rw [<- Array.length_toList,hs1,List.length_cons]; omega
 have hsz2:asOps.size = 1 + aRest.length:=by rw [<- Array.length_toList,ha1,List.length_cons]; omega
 have hsg:∀ (k:Nat) o,k < sRest.length -> stepOps[1 + k]? = some o -> ∃ ao,aStep[k]? = some ao /\ trOper P stepOps o = some ao:=fun k o _ ho => by
  rw [<- Array.getElem?_toList,hs1,Nat.add_comm,List.getElem?_cons_succ] at ho
  exact su2 k o ho
 have hag:∀ (k:Nat) o,k < aRest.length -> asOps[1 + k]? = some o -> ∃ ao,aAs[k]? = some ao /\ trOper P asOps o = some ao:=fun k o _ ho => by
  rw [<- Array.getElem?_toList,ha1,Nat.add_comm,List.getElem?_cons_succ] at ho
  exact au2 k o ho
 let bornAt:Nat -> Nat:=fun i => ((ms[i]?).map (·.born)).getD 0
 refine wpIn_loop_n (fun j a' w' => ∃ (idx:List Nat) (s:St) (ρ':Rho) (seen:Array Nat),idx.Nodup /\ (∀ x ∈ idx,x < es.length) /\ idx.length + j = es.length /\ mgo (mround call fuel it n0 nx aStep amore pr aAs ab) (inOrd es idx) s0 = some s /\ nth s.tm it = .ptr n0 0 /\ Stp P B ρ h w ρ' s.h w' /\ Ext ρ1 ρ' /\ TR ρ' s.tm a'.tmps /\ DOK W w' a'.defers /\ W <= w'.heap.size /\ InR ro w' /\ seen.toList = idx.map bornAt /\ w'.heap[r]? = some (.mapIter (some bm) ck seen ck) /\ w'.heap[bm]? = some (.map ms ck) /\ Off ρ' s.h bm) (j:=es.length)
  ⟨[],s0, ρ1, #[],List.nodup_nil,(fun x hx => by cases hx),by simp,rfl,hit,hst,Ext.refl _,ht,hd,hW,hi,rfl,hri,hbm,hoff⟩ ?_
 rintro j a' w' ⟨idx,s, ρ',seen,nd,hlt,hj,hgo,hit',st,hx,ht',hd',hW',hi',hseen,hr',hb',ho'⟩
 have hbr:bm ≠ r:=fun e => by rw [e,hr'] at hb'; cases hb'
 have hptr:∀ {tm:List AV} {t:Array Value} {ρ2:Rho},TR ρ2 tm t -> Ext ρ1 ρ2 -> nth tm it = .ptr n0 0 -> t.getD it undef = .pointer (some ⟨r,0,none⟩):=fun {tm t ρ2} htr hex e => by
  have hv:=htr.nth it
  rw [e] at hv
  generalize t.getD it undef = v at hv
  cases hv with
  | ptr hp =>
   rw [hex _ _ hn0] at hp; cases hp; rfl
 have hin:∀ i,seen.contains (bornAt i) = true -> i < es.length -> i ∈ idx:=fun i hc hil => by
  have hmem:bornAt i ∈ seen.toList:=by
   rw [Array.mem_toList_iff]; exact Array.contains_iff_mem.1 hc
  rw [hseen] at hmem
  obtain ⟨k,hk,e⟩:=List.mem_map.1 hmem
  have hkl:=hlt k hk
  have g1:ms.toList[k]? = some ms.toList[k]:=List.getElem?_eq_getElem (by omega)
  have g2:ms.toList[i]? = some ms.toList[i]:=List.getElem?_eq_getElem (by omega)
  have b1:bornAt k = (ms.toList[k]'(by omega)).born:=by
   show ((ms[k]?).map (·.born)).getD 0 = _
   rw [<- Array.getElem?_toList,g1]; rfl
  have b2:bornAt i = (ms.toList[i]'(by omega)).born:=by
   show ((ms[i]?).map (·.born)).getD 0 = _
   rw [<- Array.getElem?_toList,g2]; rfl
  have hnd:=hbn.2
  have m1:(ms.toList.map (·.born))[k]? = some (bornAt k):=by rw [List.getElem?_map,g1,b1]; rfl
  have m2:(ms.toList.map (·.born))[i]? = some (bornAt i):=by rw [List.getElem?_map,g2,b2]; rfl
  have hki:k = i:=(List.getElem?_inj (by rw [List.length_map]; omega) hnd).1 (by rw [m1,m2,e])
  rw [<- hki]; exact hk
 have hndf:∀ c,oN.op ≠ .defer c:=fun c e => by rw [hN] at e; cases e
 have hedf:∀ c,oE.op ≠ .defer c:=fun c e => by rw [hE] at e; cases e
 have hval:=hptr ht' hx hit'
 refine wpIn_seq (wpIn_region (wpOps_first hs1 hNg ⟨fun _ _ => trivial,?_⟩))
 rw [Oper.semAt_eq _ _ _ hndf]
 have hev:a'.eval (.tmp it) = .pointer (some ⟨r,0,none⟩):=hval
 rcases run_next_at (P:=P) (ty:=oN.type) hr' hb' hbn.1 (Nat.le_refl _) with ⟨hz,hrun1⟩ | ⟨e,he,d,hdd,hrun1⟩
 ·-- no entry is left
  have hfull:idx.Perm (List.range es.length):=by
   refine (List.perm_ext_iff_of_nodup nd List.nodup_range).2 fun i => ⟨fun hh => List.mem_range.2 (hlt i hh),fun hh => ?_⟩
   have hil:=List.mem_range.1 hh
   refine hin i ?_ hil
   have g1:ms.toList[i]? = some ms.toList[i]:=List.getElem?_eq_getElem (by omega)
   have:=all_seen ms seen hz _ (List.mem_of_getElem? g1)
   have b1:bornAt i = (ms.toList[i]'(by omega)).born:=by
    show ((ms[i]?).map (·.born)).getD 0 = _
    rw [<- Array.getElem?_toList,g1]; rfl
   rw [b1]; exact this
  obtain ⟨sE,s9,k1,k2,k3,k4⟩:=hrun idx hfull
  rw [hgo] at k1; cases k1
  have hrun2:(execOp a'.eval oN).run P w' = .ok (.value (.tuple #[.bool false])) w':=by simp [execOp,hN,hev,hrun1]
  rw [hrun2,Oper.uponIn_value,hNd]
  have ht2:TR ρ' (put s.tm nx (.tup [.bool false])) (a'.put (some nx) (.tuple #[.bool false])).tmps:=ht'.put nx (.tup (.cons (.bool false) .nil))
  refine ops_sound hc sRest.length 1 aStep (by omega) su1 hsg st.sim ht2 k2 fun ρ2 a2 w2 q1 q2 q3 => ?_
  show Code.wpIn _ _ _ _ _ _ _
  refine wpIn_seq ?_
  have hcv:=opd_sound q2 hmo
  rw [k3] at hcv
  generalize hve:a2.eval more = ve at hcv
  cases hcv
  refine wpIn_cond_false hve (wpIn_exit ?_)
  exact hQ s9 ρ2 a2 w2 k4 q2 (st.trans q3) (by rw [q1,put_defers]; exact hd'.stp st.sim q3)
 ·-- an entry comes
  obtain ⟨hem,hen⟩:=mem_left he
  obtain ⟨i,hil,hie⟩:=List.getElem_of_mem hem
  have hig:ms.toList[i]? = some e:=by rw [List.getElem?_eq_getElem hil,hie]
  obtain ⟨hies,hk,hv⟩:=hes.at hig
  have hbi:bornAt i = e.born:=by
   show ((ms[i]?).map (·.born)).getD 0 = _
   rw [<- Array.getElem?_toList,hig]; rfl
  have hni:i ∉ idx:=fun hh => by
   have:bornAt i ∈ seen.toList:=by rw [hseen]; exact List.mem_map.2 ⟨i,hh,rfl⟩
   rw [hbi] at this
   have hc':seen.contains e.born = true:=Array.contains_iff_mem.2 (Array.mem_toList_iff.1 this)
   rw [hen] at hc'; cases hc'
  obtain ⟨rest,hperm⟩:=perm_extend nd hlt hies hni
  obtain ⟨sE,s9,k1,_⟩:=hrun _ hperm
  have hsplit:inOrd es (idx ++ i :: rest) = inOrd es idx ++ (es.getD i (aundef,aundef)) :: inOrd es rest:=by unfold inOrd; rw [List.map_append,List.map_cons]
  rw [hsplit,mgo_append,hgo] at k1
  obtain ⟨s4,hs4⟩:∃ s4,mround call fuel it n0 nx aStep amore pr aAs ab (es.getD i (aundef,aundef)).1 (es.getD i (aundef,aundef)).2 s = some s4:=by
   cases hh:mround call fuel it n0 nx aStep amore pr aAs ab (es.getD i (aundef,aundef)).1 (es.getD i (aundef,aundef)).2 s with
   | none =>
    have k1':(match mround call fuel it n0 nx aStep amore pr aAs ab (es.getD i (aundef,aundef)).1 (es.getD i (aundef,aundef)).2 s with | some s' => mgo (mround call fuel it n0 nx aStep amore pr aAs ab) (inOrd es rest) s' | none => none) = some sE:=k1
    rw [hh] at k1'; cases k1'
   | some s4 => exact ⟨s4,rfl⟩
  have hgo4:mgo (mround call fuel it n0 nx aStep amore pr aAs ab) (inOrd es (idx ++ [i])) s0 = some s4:=by
   have:inOrd es (idx ++ [i]) = inOrd es idx ++ [es.getD i (aundef,aundef)]:=by unfold inOrd; rw [List.map_append]; rfl
   rw [this,mgo_append,hgo]
   show (match mround call fuel it n0 nx aStep amore pr aAs ab (es.getD i (aundef,aundef)).1 (es.getD i (aundef,aundef)).2 s with | some s' => some s' | none => none) = _
   rw [hs4]
  generalize (es.getD i (aundef,aundef)).1 = ek at hk hs4
  generalize (es.getD i (aundef,aundef)).2 = evv at hv hs4
  unfold mround at hs4
  split at hs4 <;> first | (cases hs4; done) | skip
  rename_i s2 hr2
  split at hs4 <;> first | (cases hs4; done) | skip
  rename_i n1 hmv hitv
  split at hs4 <;> first | (cases hs4; done) | skip
  rename_i hn1
  subst hn1
  split at hs4 <;> first | (cases hs4; done) | skip
  rename_i s3 hr3
  split at hs4 <;> first | (cases hs4; done) | skip
  rename_i s4' hr4
  split at hs4 <;> first | (cases hs4; done) | skip
  rename_i n2 hit4
  split at hs4 <;> first | (cases hs4; done) | skip
  rename_i hn2
  subst hn2
  cases hs4
  have hrun2:(execOp a'.eval oN).run P w' = .ok (.value (.tuple #[.bool true,e.key,e.val])) (putRowW { w' with drawn:=d } r (.mapIter (some bm) ck (seen.push e.born) ck)):=by simp [execOp,hN,hev,hrun1]
  rw [hrun2,Oper.uponIn_value,hNd]
  have st2:Stp P B ρ h w ρ' s.h (putRowW { w' with drawn:=d } r (.mapIter (some bm) ck (seen.push e.born) ck)):=(st.drew d hdd).turnIter (w:={ w' with drawn:=d }) hr' hrw _
  have hr2w:(putRowW { w' with drawn:=d } r (.mapIter (some bm) ck (seen.push e.born) ck)).heap[r]? = some (.mapIter (some bm) ck (seen.push e.born) ck):=putRowW_same (Array.getElem?_eq_some_iff.1 hr').1
  have hb2w:(putRowW { w' with drawn:=d } r (.mapIter (some bm) ck (seen.push e.born) ck)).heap[bm]? = some (.map ms ck):=by
   rw [putRowW_other hbr]; exact hb'
  have hsz2w:(putRowW { w' with drawn:=d } r (.mapIter (some bm) ck (seen.push e.born) ck)).heap.size = w'.heap.size:=by simp [putRowW]
  have hD2:DOK W (putRowW { w' with drawn:=d } r (.mapIter (some bm) ck (seen.push e.born) ck)) a'.defers:=by
   obtain ⟨rs,d1,d2,d3⟩:=hd'.ex
   refine ⟨rs,d1,d2,fun q hq => ⟨(d3 q hq).1,?_⟩⟩
   have hqr:q ≠ r:=fun eq => by have:=(d3 q hq).2; rw [eq,hr'] at this; cases this
   rw [putRowW_other hqr]; exact (d3 q hq).2
  have hI2:InR ro (putRowW { w' with drawn:=d } r (.mapIter (some bm) ck (seen.push e.born) ck)):=fun l hl => by
   obtain ⟨L,hL⟩:=hi' l hl
   have hlr:l ≠ r:=fun eq => by rw [eq,hr'] at hL; cases hL
   exact ⟨L,by rw [putRowW_other hlr]; exact hL⟩
  generalize putRowW { w' with drawn:=d } r (.mapIter (some bm) ck (seen.push e.born) ck) = w2 at st2 hr2w hb2w hsz2w hD2 hI2 ⊢
  have hk2:=hk.mono hx
  have hv2:=hv.mono hx
  have ht2:TR ρ' (put s.tm nx (.tup [.bool true,ek,evv])) (a'.put (some nx) (.tuple #[.bool true,e.key,e.val])).tmps:=ht'.put nx (.tup (.cons (.bool true) (.cons hk2 (.cons hv2 .nil))))
  refine ops_sound hc sRest.length 1 aStep (by omega) su1 hsg st2.sim ht2 hr2 fun ρ3 a3 w3 q1 q2 q3 => ?_
  show Code.wpIn _ _ _ _ _ _ _
  have hx3:=hx.trans q3.ext
  have hr3w:w3.heap[r]? = some (.mapIter (some bm) ck (seen.push e.born) ck):=by
   rw [q3.frame r (Array.getElem?_eq_some_iff.1 hr2w).1 (st2.sim.notIter hr2w)]; exact hr2w
  have hb3w:w3.heap[bm]? = some (.map ms ck):=by
   rw [q3.frame bm (Array.getElem?_eq_some_iff.1 hb2w).1 ho']; exact hb2w
  have ho3:=q3.off (Array.getElem?_eq_some_iff.1 hb2w).1 ho'
  have hd3:DOK W w3 a3.defers:=by rw [q1,put_defers]; exact hD2.stp st2.sim q3
  refine wpIn_seq ?_
  have hcv:=opd_sound q2 hmo
  rw [hmv] at hcv
  generalize hve:a3.eval more = ve at hcv
  cases hcv
  refine wpIn_cond_true hve (skip_wp htS ?_)
  show Code.wpIn _ _ _ _ _ _ _
  refine wpIn_block (wpIn_seq (wpIn_region (wpOps_first ha1 hEg ⟨fun _ _ => trivial,?_⟩)))
  rw [Oper.semAt_eq _ _ _ hedf]
  have hev3:a3.eval (.tmp it) = .pointer (some ⟨r,0,none⟩):=hptr q2 hx3 hitv
  have hrun3:(execOp a3.eval oE).run P w3 = .ok (.value (.tuple #[e.key,e.val])) w3:=by simp [execOp,hE,hev3,run_entry_at (P:=P) hr3w hb3w hem hbn.2]
  rw [hrun3,Oper.uponIn_value,hEd]
  have ht3:TR ρ3 (put s2.tm pr (.tup [ek,evv])) (a3.put (some pr) (.tuple #[e.key,e.val])).tmps:=q2.put pr (.tup (.cons (hk.mono hx3) (.cons (hv.mono hx3) .nil)))
  refine ops_sound hc aRest.length 1 aAs (by omega) au1 hag q3.sim ht3 hr3 fun ρ4 a4 w4 p1 p2 p3 => ?_
  show Code.wpIn _ _ _ _ _ _ _
  have hd4:DOK W w4 a4.defers:=by rw [p1,put_defers]; exact hd3.stp q3.sim p3
  have hb3s:=(Array.getElem?_eq_some_iff.1 hb3w).1
  have hr3s:=(Array.getElem?_eq_some_iff.1 hr3w).1
  have hr4w:w4.heap[r]? = some (.mapIter (some bm) ck (seen.push e.born) ck):=by
   rw [p3.frame r hr3s (q3.sim.notIter hr3w)]; exact hr3w
  have hb4w:w4.heap[bm]? = some (.map ms ck):=by rw [p3.frame bm hb3s ho3]; exact hb3w
  have ho4:=p3.off hb3s ho3
  refine exec_sound hm hc body ab hb fuel s3 .normal s4 hr4 p3.sim p2 (by have:=q3.size; have:=p3.size; omega) hd4 ((hI2.stp q3).stp p3) fun ρ5 a5 w5 t5 st5 d5 => ?_
  have hb4s:=(Array.getElem?_eq_some_iff.1 hb4w).1
  have hr4s:=(Array.getElem?_eq_some_iff.1 hr4w).1
  refine ⟨j - 1,?_,idx ++ [i],s4, ρ5,seen.push e.born,?_,?_,?_,hgo4,hit4,st2.trans (q3.trans (p3.trans st5)),(hx3.trans p3.ext).trans st5.ext,t5,d5,by have:=q3.size; have:=p3.size; have:=st5.size; omega,((hI2.stp q3).stp p3).stp st5,?_,?_,?_,st5.off hb4s ho4⟩
  ·have hjl : idx.length < es.length := by
    have h1:(idx ++ [i]).length <= (List.range es.length).length:=by
     have:=hperm.length_eq
     rw [List.length_append,List.length_cons] at this
     rw [List.length_append,List.length_singleton]; omega
    rw [List.length_append,List.length_singleton,List.length_range] at h1; omega
   omega
  ·rw [List.nodup_append]
   exact ⟨nd,List.nodup_cons.2 ⟨List.not_mem_nil,List.nodup_nil⟩,fun x hx' y hy => by rw [List.mem_singleton.1 hy]; exact fun e => hni (e ▸ hx')⟩
  ·intro x hx'
   rcases List.mem_append.1 hx' with hx' | hx'
   ·exact hlt x hx'
   ·rw [List.mem_singleton.1 hx']; exact hies
  ·have hjl : idx.length < es.length := by
    have h1:(idx ++ [i]).length <= (List.range es.length).length:=by
     have:=hperm.length_eq
     rw [List.length_append,List.length_cons] at this
     rw [List.length_append,List.length_singleton]; omega
    rw [List.length_append,List.length_singleton,List.length_range] at h1; omega
   rw [List.length_append,List.length_singleton]; omega
  ·rw [Array.toList_push,hseen,List.map_append,List.map_cons,List.map_nil,hbi]
  ·rw [st5.frame r hr4s (p3.sim.notIter hr4w)]; exact hr4w
  ·rw [st5.frame bm hb4s ho4]; exact hb4w
end
end Go.AM
namespace Go.AM
open Go
section
variable {P:Program}
theorem tr_seq_inv {c:Code} {a b:ACode} (h:tr P c = some (.seq a b)):∃ c1 c2,c = .seq c1 c2 /\ tr P c1 = some a /\ tr P c2 = some b:=by
 cases c with
 | seq p q => simp only [tr] at h; split at h <;> cases h; rename_i h1 h2; exact ⟨p,q,rfl,h1,h2⟩
 | region id ops dr => cases dr <;> simp only [tr] at h <;> split at h <;> cases h
 | cond c p q => simp only [tr] at h; split at h <;> cases h
 | block id p => simp only [tr] at h; split at h <;> cases h
 | loop p => simp only [tr] at h; split at h <;> cases h
 | rangeFunc f ps p q => simp only [tr] at h; split at h <;> cases h
 | scope p => simp only [tr] at h; split at h <;> cases h
 | _ => simp only [tr] at h; cases h
theorem tr_ops_inv {c:Code} {l:List AOper} (h:tr P c = some (.ops l)):∃ id ops,c = .region id ops false /\ trOpers P ops ops.toList = some l:=by
 cases c with
 | region id ops dr =>
  cases dr <;> simp only [tr] at h <;> split at h <;> cases h
  rename_i h1; exact ⟨id,ops,rfl,h1⟩
 | seq p q => simp only [tr] at h; split at h <;> cases h
 | cond c p q => simp only [tr] at h; split at h <;> cases h
 | block id p => simp only [tr] at h; split at h <;> cases h
 | loop p => simp only [tr] at h; split at h <;> cases h
 | rangeFunc f ps p q => simp only [tr] at h; split at h <;> cases h
 | scope p => simp only [tr] at h; split at h <;> cases h
 | _ => simp only [tr] at h; cases h
theorem tr_cond_inv {c:Code} {x:AOpd} {a b:ACode} (h:tr P c = some (.cond x a b)):∃ o c1 c2,c = .cond o c1 c2 /\ trOpd o = some x /\ tr P c1 = some a /\ tr P c2 = some b:=by
 cases c with
 | cond o p q => simp only [tr] at h; split at h <;> cases h; rename_i h0 h1 h2; exact ⟨o,p,q,rfl,h0,h1,h2⟩
 | region id ops dr => cases dr <;> simp only [tr] at h <;> split at h <;> cases h
 | seq p q => simp only [tr] at h; split at h <;> cases h
 | block id p => simp only [tr] at h; split at h <;> cases h
 | loop p => simp only [tr] at h; split at h <;> cases h
 | rangeFunc f ps p q => simp only [tr] at h; split at h <;> cases h
 | scope p => simp only [tr] at h; split at h <;> cases h
 | _ => simp only [tr] at h; cases h
theorem tr_block_inv {c:Code} {id:Nat} {a:ACode} (h:tr P c = some (.block id a)):∃ c1,c = .block id c1 /\ tr P c1 = some a:=by
 cases c with
 | block id p => simp only [tr] at h; split at h <;> cases h; rename_i h1; exact ⟨p,rfl,h1⟩
 | cond o p q => simp only [tr] at h; split at h <;> cases h
 | region id ops dr => cases dr <;> simp only [tr] at h <;> split at h <;> cases h
 | seq p q => simp only [tr] at h; split at h <;> cases h
 | loop p => simp only [tr] at h; split at h <;> cases h
 | rangeFunc f ps p q => simp only [tr] at h; split at h <;> cases h
 | scope p => simp only [tr] at h; split at h <;> cases h
 | _ => simp only [tr] at h; cases h
theorem tr_loop_inv {c:Code} {a:ACode} (h:tr P c = some (.loop a)):∃ c1,c = .loop c1 /\ tr P c1 = some a:=by
 cases c with
 | loop p => simp only [tr] at h; split at h <;> cases h; rename_i h1; exact ⟨p,rfl,h1⟩
 | cond o p q => simp only [tr] at h; split at h <;> cases h
 | region id ops dr => cases dr <;> simp only [tr] at h <;> split at h <;> cases h
 | seq p q => simp only [tr] at h; split at h <;> cases h
 | block id p => simp only [tr] at h; split at h <;> cases h
 | rangeFunc f ps p q => simp only [tr] at h; split at h <;> cases h
 | scope p => simp only [tr] at h; split at h <;> cases h
 | _ => simp only [tr] at h; cases h
theorem tr_exit_inv {c:Code} {id:Nat} (h:tr P c = some (.exit id)):c = .exit id:=by
 cases c with
 | exit id => simp only [tr] at h; cases h; rfl
 | loop p => simp only [tr] at h; split at h <;> cases h
 | cond o p q => simp only [tr] at h; split at h <;> cases h
 | region id ops dr => cases dr <;> simp only [tr] at h <;> split at h <;> cases h
 | seq p q => simp only [tr] at h; split at h <;> cases h
 | block id p => simp only [tr] at h; split at h <;> cases h
 | rangeFunc f ps p q => simp only [tr] at h; split at h <;> cases h
 | scope p => simp only [tr] at h; split at h <;> cases h
 | _ => simp only [tr] at h; cases h
theorem trOpers_cons_inv {ops:Array Oper} {l:List Oper} {a:AOper} {al:List AOper} (h:trOpers P ops l = some (a :: al)):∃ o r,l = o :: r /\ trOper P ops o = some a /\ trOpers P ops r = some al:=by
 cases l with
 | nil => cases h
 | cons o r =>
  simp only [trOpers] at h
  split at h <;> cases h
  rename_i h1 h2
  exact ⟨o,r,rfl,h1,h2⟩
theorem trOper_plain {ops:Array Oper} {o:Oper} {d:Option Nat} {x:AOp} (h:trOper P ops o = some ⟨d,x,none⟩):o.dst = d /\ o.guard = none:=by
 unfold trOper at h
 split at h
 ·rename_i hg; cases h; exact ⟨rfl,hg⟩
 ·split at h <;> cases h
theorem seq_normal {a b:ACode} {call:CallT} {k:Nat} {s s':St} (h:exec (.seq a b) call k s = some (.normal,s')):∃ s1,exec a call k s = some (.normal,s1) /\ exec b call k s1 = some (.normal,s'):=by
 rw [exec_seq] at h
 split at h
 ·rename_i s1 e; exact ⟨s1,e,h⟩
 ·rename_i hne; exact absurd h (hne s')
structure SubH (h h':AHeap):Prop where
 next:h.next = h'.next
 get:∀ i o,h.get i = some o -> h'.get i = some o
theorem Stp.sub {B:Nat} {ρ ρ':Rho} {h h1 h2:AHeap} {w w':World} (s:Stp P B ρ h w ρ' h1 w') (k:SubH h2 h1):Stp P B ρ h w ρ' h2 w':=by
 refine ⟨s.ext,⟨s.sim.low,fun i p e => by rw [k.next]; exact s.sim.dom i p e,fun i o p h1 h2 => s.sim.obj i o p (k.get i o h1) h2,fun a b oa ob pa pb hne h1 h2 h3 h4 hw => s.sim.sep a b oa ob pa pb hne (k.get a oa h1) (k.get b ob h2) h3 h4 hw,fun i hi => ?_⟩,s.os,s.tape,s.output,s.size,s.frame,fun i o p h1 h2 h3 => s.orig i o p (k.get i o h1) h2 h3,by rw [k.next]; exact s.next,s.fresh,s.loops,s.drawn⟩
 cases e:h2.get i with
 | none => rfl
 | some o =>
  have:=k.get i o e
  rw [s.sim.tidy i (by rw [<- k.next]; exact hi)] at this; cases this
theorem fnMap_sound (hm : P.follows .mixedOrders = true) {call : CallT} (hc : CallOK P call) {f : FuncId} {F : Func} (hf : P.funcs[f]? = some F) (hname : (F.name == "runtime.NumGoroutine") = false)
  {c0 c1 c2 c3 c4 cS body:Code} {iM i1 i2 out nxt:Nat} {rmOps stepOps asOps:Array Oper} {oM oR oN oE:Oper} {sRest aRest:List Oper} {more:Operand} {x it nx pr:Nat} {ty kt et:TypeId}
  (hbody:F.body = some (.seq c0 (.seq c1 (.seq c2 (.seq c3 (.seq (.seq (.region iM rmOps false) (.block out (.loop (.seq (.region i1 stepOps false) (.seq (.cond more cS (.exit out)) (.block nxt (.seq (.region i2 asOps false) body))))))) c4))))))
  {a0 a1 a2 a3 a4 ab:ACode} {aM:AOper} {aStep aAs:List AOper} {amore:AOpd} {rs:List ARes}
  (t0:tr P c0 = some a0) (t1:tr P c1 = some a1) (t2:tr P c2 = some a2) (t3:tr P c3 = some a3) (t4:tr P c4 = some a4) (hrs:trRes P F.results.toList = some rs)
  (hr1:rmOps.toList = [oM,oR]) (htM:trOper P rmOps oM = some aM) (hMg:aM.guard = none) (hR:oR.op = .range ty (.tmp x)) (hRd:oR.dst = some it) (hRg:oR.guard = none) (hty:P.underlying ty = some (.map kt et))
  (hs1:stepOps.toList = oN :: sRest) (hN:oN.op = .next (.tmp it) false) (hNd:oN.dst = some nx) (hNg:oN.guard = none) (hsT:trOpers P stepOps sRest = some aStep)
  (ha1:asOps.toList = oE :: aRest) (hE:oE.op = .entry (.tmp it)) (hEd:oE.dst = some pr) (hEg:oE.guard = none) (haT:trOpers P asOps aRest = some aAs)
  (htS:tr P cS = some .skip) (hmo:trOpd more = some amore) (hb:tr P body = some ab)
  {B:Nat} {ρ:Rho} {h:AHeap} {w:World} {args:List AV} {k:Nat} {sA sB:St} {m:Nat} {es:List (AV × AV)} {fuel:Nat} {av:AV} {h':AHeap}
  (hA:exec (.seq a0 (.seq a1 (.seq a2 a3))) call k ⟨args ++ List.replicate (F.ntmps - args.length) aundef,h⟩ = some (.normal,sA)) (hB:step1 aM call sA = some sB)
  (hx:nth sB.tm x = .map m) (hg:sB.h.get m = some (.map es))
  (hrun:∀ idx:List Nat,idx.Perm (List.range es.length) -> ∃ sE s9 kC,mgo (mround call fuel it sB.h.next nx aStep amore pr aAs ab) (inOrd es idx) ⟨put sB.tm it (.ptr sB.h.next 0),((sB.h.push (.cells [] false)).del sB.h.next).del m⟩ = some sE /\ runOps aStep call ⟨put sE.tm nx (.tup [.bool false]),sE.h⟩ = some s9 /\ ev s9.tm amore = .bool false /\ ∃ h2,finish rs (exec a4 call kC s9) = some (av,h2) /\ (Tidy sB.h -> SubH h' h2))
  (hlen:it < sB.tm.length)
  (hs:Sim P ρ h B w) {args':Array Value} (ha:VRs ρ args args'.toList):Upon P ((callFunc f args').run P w) (Ans P B ρ h w av h'):=by
 rw [callFunc_enter hf hname hbody]
 show CallsIn Fence.wide 0 P f args' w _
 refine callsIn_of_wp_marks hf hbody trivial ?_
 have hpost : ∀ (s' : St), result rs s'.tm s'.h = some av -> SubH h' s'.h -> ∀ ρ' (a' : Act) w', TR ρ' s'.tm a'.tmps -> Stp P B ρ h w ρ' s'.h w' -> DOK w.heap.size w' a'.defers ->
   LeavesInM Fence.wide 0 P F a'.tmps (fun e w'' => ∃ v,e = .returned v /\ Ans P B ρ h w av h' v w'') a'.defers .returning w':=by
  intro s' hr hh ρ' a' w' ht' st' hd'
  obtain ⟨qs,e1,e2,e3⟩:=hd'.ex
  rw [e1]
  refine leaves_marks qs w' st' e2 e3 fun w2 st2 => ?_
  obtain ⟨v,k1,k2⟩:=results_run st2.sim ht' hrs hr
  exact ⟨v,k1,v,rfl, ρ',k2,st2.sub hh⟩
 obtain ⟨s1,e0,hA⟩:=seq_normal hA
 obtain ⟨s2,e1,hA⟩:=seq_normal hA
 obtain ⟨s3,e2,hA⟩:=seq_normal hA
 have hi:∀ w',InR none w':=fun w' l hl => by cases hl
 refine wpIn_seq ?_
 refine exec_sound hm hc c0 a0 t0 k _ .normal s1 e0 (ro:=none) hs (TR.enter ha _) (Nat.le_refl _) (DOK.nil _ _) (hi _) fun ρ1 b1 w1 ht1 st1 hd1 => ?_
 refine wpIn_seq ?_
 refine exec_sound hm hc c1 a1 t1 k s1 .normal s2 e1 (ro:=none) st1.sim ht1 st1.size hd1 (hi _) fun ρ2 b2 w2 ht2 st2 hd2 => ?_
 refine wpIn_seq ?_
 refine exec_sound hm hc c2 a2 t2 k s2 .normal s3 e2 (ro:=none) st2.sim ht2 (Nat.le_trans st1.size st2.size) hd2 (hi _) fun ρ3 b3 w3 ht3 st3 hd3 => ?_
 refine wpIn_seq ?_
 refine exec_sound hm hc c3 a3 t3 k s3 .normal sA hA (ro:=none) st3.sim ht3 (Nat.le_trans st1.size (Nat.le_trans st2.size st3.size)) hd3 (hi _) fun ρ4 b4 w4 ht4 st4 hd4 => ?_
 have stA:=st1.trans (st2.trans (st3.trans st4))
 clear hA e0 e1 e2 st1 st2 st3 st4 ht1 ht2 ht3 hd1 hd2 hd3
 refine wpIn_seq (wpIn_seq (wpIn_region ?_))
 have hsz:rmOps.size = 2:=by rw [<- Array.length_toList,hr1]; rfl
 have g0:rmOps[0]? = some oM:=by rw [<- Array.getElem?_toList,hr1]; rfl
 have g1:rmOps[1]? = some oR:=by rw [<- Array.getElem?_toList,hr1]; rfl
 rw [hsz,show List.range 2 = [0,1] from rfl]
 simp only [wpOpsIn,g0]
 rw [wanted_sound ht4 htM,hMg]
 rw [if_pos (show wanted sA.tm none = true from rfl)]
 obtain ⟨tmA,hpA⟩:=sA
 refine opStep stA.sim ht4 htM hc hB fun v ρ5 w5 ht5 st5 => ?_
 simp only [g1]
 have hw:Region.wanted oR (yielded rmOps (b4.put oM.dst v).tmps) = true:=by unfold Region.wanted; rw [hRg]
 rw [if_pos hw]
 have hd5:DOK w.heap.size w5 (b4.put oM.dst v).defers:=by rw [put_defers]; exact hd4.stp stA.sim st5
 have stB:=stA.trans st5
 generalize b4.put oM.dst v = b5 at ht5 hd5 ⊢
 clear st5 stA ht4 hd4
 have hxv:=ht5.nth x
 rw [hx] at hxv
 generalize hxe:b5.tmps.getD x undef = xv at hxv
 cases hxv with
 | map hp =>
  rename_i p
  obtain ⟨p0,p1,_,ms,ck,hbm,hes,hbn⟩:=stB.sim.obj m _ p hg hp
  have hbl:=(Array.getElem?_eq_some_iff.1 hbm).1
  have hmn:m ≠ sB.h.next:=fun e => by have:=stB.sim.dom m p hp; omega
  have hev:b5.eval (.tmp x) = .map (some p.blk):=hxe
  refine ⟨fun _ _ => trivial,?_⟩
  rw [Oper.semAt_eq _ _ _ (fun c e => by rw [hR] at e; cases e)]
  have hrun1:=run_range_map (P:=P) w5 ty kt et p.blk ms ck hty hbm
  have hrun2:(execOp b5.eval oR).run P w5 = .ok (.value (.pointer (some ⟨w5.heap.size,0,none⟩))) (w5.alloc (.mapIter (some p.blk) ck #[] ck)):=by simp [execOp,hR,hev,hrun1]
  rw [hrun2,Oper.uponIn_value,hRd]
  have n1:=Stp.newIter stB.sim (.mapIter (some p.blk) ck #[] ck)
  have hself:=upd_self ρ5 sB.h.next ⟨w5.heap.size,0,1⟩
  have hgm:((sB.h.push (.cells [] false)).del sB.h.next).get m = some (.map es):=by
   rw [AHeap.get_del_ne _ hmn,AHeap.get_push_ne _ _ hmn]; exact hg
  have hpm:=n1.ext _ _ hp
  have n2:=Stp.forget n1.sim m
  have hoff:=offMap n1.sim hgm hpm
  have ht6:TR (upd ρ5 sB.h.next ⟨w5.heap.size,0,1⟩) (put sB.tm it (.ptr sB.h.next 0)) (b5.put (some it) (.pointer (some ⟨w5.heap.size,0,none⟩))).tmps :=
   (ht5.mono n1.ext).put it (.ptr (p:=⟨w5.heap.size,0,1⟩) hself)
  show Code.wpIn _ _ _ _ _ _ _
  refine wpIn_block ?_
  have hd6:DOK w.heap.size (w5.alloc (.mapIter (some p.blk) ck #[] ck)) (b5.put (some it) (.pointer (some ⟨w5.heap.size,0,none⟩))).defers:=by rw [put_defers]; exact hd5.stp stB.sim n1
  have hnth:nth (put sB.tm it (.ptr sB.h.next 0)) it = .ptr sB.h.next 0:=by
   rw [nth_eq,put_eq,List.getD,List.getElem?_set_self hlen]; rfl
  have hb6:(w5.alloc (.mapIter (some p.blk) ck #[] ck)).heap[p.blk]? = some (.map ms ck):=by rw [RowKit.Below.heap_alloc w5 _ p.blk hbl]; exact hbm
  refine mapRange_sound hm hc (ro:=none) (R:=fun s9 => ∃ kC h2,finish rs (exec a4 call kC s9) = some (av,h2) /\ SubH h' h2) hs1 hN hNd hNg hsT ha1 hE hEd hEg haT htS hmo hb (fuel:=fuel) (s0:=⟨put sB.tm it (.ptr sB.h.next 0),((sB.h.push (.cells [] false)).del sB.h.next).del m⟩) (n1.trans n2) ht6 hd6 (by have:=stB.size; have:=n1.size; omega) (hi _) hnth hself (Nat.le_refl _)
   (by show (w5.heap.push _)[w5.heap.size]? = _; simp) hb6 hoff (hes.mono n1.ext) hbn
   (fun idx hidx => ?_) (fun s9 ρ9 b9 w9 hR9 ht9 st9 hd9 => ?_)
  ·obtain ⟨sE,s9,kC,q1,q2,q3,h2,q4,q5⟩:=hrun idx hidx
   exact ⟨sE,s9,q1,q2,q3,kC,h2,q4,q5 stB.sim.tidy⟩
  ·obtain ⟨kC,h2,hfin,hsub⟩:=hR9
   show (if out = out then _ else _)
   rw [if_pos rfl]
   show Code.wpIn _ _ _ _ _ _ _
   have stC:=stB.trans st9
   unfold finish at hfin
   split at hfin
   ·rename_i s' hxc
    split at hfin <;> cases hfin
    rename_i hres
    exact exec_sound hm hc c4 a4 t4 kC s9 .normal s' hxc (ro:=none) stC.sim ht9 stC.size hd9 (hi _) fun ρ' a' w' ht' st' hd' => hpost s' hres hsub ρ' a' w' ht' (stC.trans st') hd'
   ·rename_i s' hxc
    split at hfin <;> cases hfin
    rename_i hres
    exact exec_sound hm hc c4 a4 t4 kC s9 .ret s' hxc (ro:=none) stC.sim ht9 stC.size hd9 (hi _) fun ρ' a' w' ht' st' hd' => hpost s' hres hsub ρ' a' w' ht' (stC.trans st') hd'
   ·cases hfin
end
end Go.AM
namespace Go.AM
open Go
section
variable {T:FnTab} {I:Oracle}
theorem lim_yield {l : Nat} {h : AHeap} {fn : Nat} {tm : List AV} {ps : List Nat} {a b : ACode} {pd : Option AJump} (hg : h.get l = some (.loop fn tm ps a b 0 pd)) {args : List AV} (hl : args.length = ps.length) {k : Nat} {s1 : St}
  (e1:exec a (lim T I) k ⟨putsT ps args tm,h⟩ = some (.normal,s1)) {fn1:Nat} {tm1:List AV} {ps1:List Nat} {a1 b1:ACode} {pd1:Option AJump} (hg1:s1.h.get l = some (.loop fn1 tm1 ps1 a1 b1 0 pd1)) {p:AX × St}
  (e2:exec b (lim T I) k ⟨s1.tm,s1.h.set l (.loop fn1 tm1 ps1 a1 b1 1 pd1)⟩ = some p) {r:AV × AHeap} (e3:endRound l (some p) = some r):lim T I (.yield l) args h = some r:=by
 obtain ⟨n1,h1⟩:=exec_lim _ e1
 obtain ⟨n2,h2⟩:=exec_lim _ e2
 refine lim_iff.2 ⟨max (max n1 n2) k + 1,?_⟩
 rw [callF_yield,hg]
 show (if args.length = ps.length then _ else _) = _
 rw [if_pos hl,exec_le (callF_le (Nat.le_trans (Nat.le_max_left n1 n2) (Nat.le_max_left _ k))) (Nat.le_max_right _ k) _ h1]
 dsimp only
 rw [hg1]
 show endRound l (exec b _ _ _) = _
 rw [exec_le (callF_le (Nat.le_trans (Nat.le_max_right n1 n2) (Nat.le_max_left _ k))) (Nat.le_max_right _ k) _ h2]
 exact e3
theorem lim_yield_walk {l : Nat} {h : AHeap} {fn : Nat} {tm : List AV} {ps : List Nat} {a b : ACode} {pd : Option AJump} (hg : h.get l = some (.loop fn tm ps a b 0 pd)) {args : List AV} (hl : args.length = ps.length) {Pst : AV -> AHeap -> Prop}
  (hw:WK (lim T I) a [] ⟨putsT ps args tm,h⟩ fun x s1 => x = .normal /\ ∃ fn1 tm1 ps1 a1 b1 pd1,s1.h.get l = some (.loop fn1 tm1 ps1 a1 b1 0 pd1) /\ WK (lim T I) b [] ⟨s1.tm,s1.h.set l (.loop fn1 tm1 ps1 a1 b1 1 pd1)⟩ fun y s2 => ∃ v h',endRound l (some (y,s2)) = some (v,h') /\ Pst v h') :
  ∃ v h',lim T I (.yield l) args h = some (v,h') /\ Pst v h':=by
 obtain ⟨k1,x,s1,e1,rfl,fn1,tm1,ps1,a1,b1,pd1,hg1,k2,y,s2,e2,v,h',e3,hp⟩:=hw
 have e1':exec a (lim T I) k1 ⟨putsT ps args tm,h⟩ = some (.normal,s1):=e1
 have e2':exec b (lim T I) k2 ⟨s1.tm,s1.h.set l (.loop fn1 tm1 ps1 a1 b1 1 pd1)⟩ = some (y,s2):=e2
 exact ⟨v,h',lim_yield hg hl (exec_le Le.rfl (Nat.le_max_left k1 k2) _ e1') hg1 (exec_le Le.rfl (Nat.le_max_right k1 k2) _ e2') e3,hp⟩
end
section
variable {C:CallT} {K:List Fr} {Q:AX -> St -> Prop}
theorem WK_range {f : AOpd} {ps : List Nat} {a b : ACode} {tm : List AV} {h : AHeap} {g : Nat} {first cap : List AV} (hf : ev tm f = .fn (.func g) first cap) {v : AV} {h2 : AHeap} {x : AX} {s' : St}
  (hc:C (.fn g) (first ++ [.fn (.yield h.next) [] []] ++ cap) (h.push (.loop 0 tm ps a b 0 none)) = some (v,h2)) (he:endRange tm h.next h2 = some (x,s')) (hk:WX C x K s' Q):WK C (.rangeFunc f ps a b) K ⟨tm,h⟩ Q:=by
 obtain ⟨k,y,s2,e,hq⟩:=hk
 refine ⟨k,y,s2,?_,hq⟩
 rw [exec_range,hf]
 dsimp only
 rw [hc]
 dsimp only
 rw [he]
 exact e
theorem endRange_all {tm:List AV} {l:Nat} {h2:AHeap} {fn:Nat} {tm':List AV} {ps:List Nat} {a b:ACode} (hg:h2.get l = some (.loop fn tm' ps a b 0 none)):endRange tm l h2 = some (.normal,⟨tm,h2.set l (.loop fn tm' ps a b 3 none)⟩):=by
 unfold endRange; rw [hg]; rfl
theorem endRange_ret {tm:List AV} {l:Nat} {h2:AHeap} {fn:Nat} {tm':List AV} {ps:List Nat} {a b:ACode} (hg:h2.get l = some (.loop fn tm' ps a b 2 (some .ret))):endRange tm l h2 = some (.ret,⟨tm,h2.set l (.loop fn tm' ps a b 3 (some .ret))⟩):=by
 unfold endRange; rw [hg]; rfl
theorem endRound_on {l:Nat} {s2:St} {fn:Nat} {tm':List AV} {ps:List Nat} {a b:ACode} {st:Nat} {pd:Option AJump} (hg:s2.h.get l = some (.loop fn tm' ps a b st pd)):endRound l (some (.normal,s2)) = some (.bool true,s2.h.set l (.loop fn tm' ps a b 0 none)):=by
 unfold endRound; dsimp only; rw [hg]
theorem endRound_ret {l:Nat} {s2:St} {fn:Nat} {tm':List AV} {ps:List Nat} {a b:ACode} {st:Nat} {pd:Option AJump} (hg:s2.h.get l = some (.loop fn tm' ps a b st pd)):endRound l (some (.ret,s2)) = some (.bool false,s2.h.set l (.loop fn tm' ps a b 2 (some .ret))):=by
 unfold endRound; dsimp only; rw [hg]
end
end Go.AM
namespace Go.GT
def itr (a:Pm) (i:Nat):Nat -> Nat
 | 0 => i
 | k + 1 => ap a (itr a i k)
section
variable {n:Nat} {a:Pm}
theorem itr_add (i j:Nat):∀ k,itr a i (j + k) = itr a (itr a i j) k
 | 0 => rfl
 | k + 1 => by show ap a (itr a i (j + k)) = ap a (itr a (itr a i j) k); rw [itr_add i j k]
theorem pw_itr (ha:PV n a) {i:Nat} (hi:i < n):∀ k,ap (pw n a k) i = itr a i k
 | 0 => ap_one hi
 | k + 1 => by
  show ap (mul (pw n a k) a) i = ap a (itr a i k)
  rw [(ha.pw k).ap_mul hi,pw_itr ha hi k]
theorem itr_lt (ha:PV n a) {i:Nat} (hi:i < n):∀ k,itr a i k < n
 | 0 => hi
 | k + 1 => ha.ap_lt (itr_lt ha hi k)
theorem itr_inj (ha:PV n a) {i j:Nat} (hi:i < n) (hj:j < n):∀ k,itr a i k = itr a j k -> i = j
 | 0,e => e
 | k + 1,e => itr_inj ha hi hj k (ha.inj (itr_lt ha hi k) (itr_lt ha hj k) e)
theorem itr_back (ha:PV n a) {i:Nat} (hi:i < n):∃ k,k < n /\ itr a i (k + 1) = i:=by
 refine Classical.byContradiction fun hc => ?_
 have hn:((List.range (n + 1)).map (itr a i)).Nodup:=by
  refine List.pairwise_iff_getElem.2 fun x y hx hy hxy e => ?_
  rw [List.getElem_map,List.getElem_map,List.getElem_range,List.getElem_range] at e
  rw [List.length_map,List.length_range] at hx hy
  have e2:itr a i (y - x) = i:=by
   have h1:itr a i y = itr a (itr a i (y - x)) x:=by rw [<- itr_add]; congr 1; omega
   rw [h1] at e
   exact (itr_inj ha hi (itr_lt ha hi _) x e).symm
  exact hc ⟨y - x - 1,by omega,by rw [show y - x - 1 + 1 = y - x by omega]; exact e2⟩
 have:=nodup_le hn (l':=List.range n) fun x hx => by
  obtain ⟨k,_,rfl⟩:=List.mem_map.1 hx
  exact List.mem_range.2 (itr_lt ha hi k)
 rw [List.length_map,List.length_range,List.length_range] at this
 omega
def clen (n:Nat) (a:Pm) (i:Nat):Nat:=((List.range n).find? fun k => itr a i (k + 1) == i).getD 0 + 1
theorem clen_pos {i:Nat}:0 < clen n a i:=Nat.succ_pos _
theorem clen_spec (ha:PV n a) {i:Nat} (hi:i < n):itr a i (clen n a i) = i /\ clen n a i <= n /\ ∀ k,0 < k -> k < clen n a i -> itr a i k ≠ i:=by
 unfold clen
 cases e:(List.range n).find? fun k => itr a i (k + 1) == i with
 | none =>
  obtain ⟨k,hk,h1⟩:=itr_back ha hi
  have:=List.find?_eq_none.1 e k (List.mem_range.2 hk)
  rw [h1] at this
  exact absurd (beq_self_eq_true i) this
 | some m =>
  obtain ⟨h1,p,q,h2,h3⟩:=List.find?_eq_some_iff_append.1 e
  have hm:m < n:=List.mem_range.1 (List.mem_of_find?_eq_some e)
  refine ⟨eq_of_beq h1,hm,fun k hk hkm hc => ?_⟩
  have hkm':k - 1 < m:=by
   have:k < m + 1:=hkm
   omega
  have hp:p = List.range m:=by
   have h4:List.range n = List.range m ++ m :: (List.range' (m + 1) (n - m - 1)):=by
    rw [List.range_eq_range',List.range_eq_range',show n = m + (1 + (n - m - 1)) by omega, <- List.range'_append_1, <- List.range'_append_1]
    simp [Nat.add_sub_cancel_left]
   have hpl:p.length = m:=by
    have h5:(List.range n)[p.length]? = some m:=by rw [h2,List.getElem?_append_right (Nat.le_refl _),Nat.sub_self]; rfl
    have h6:=(List.getElem?_eq_some_iff.1 h5).1
    rw [List.getElem?_range (by rwa [List.length_range] at h6)] at h5
    exact Option.some.inj h5
   have h7:p = (List.range n).take p.length:=by rw [h2,List.take_left']; rfl
   have h8:List.range m = (List.range n).take m:=by rw [h4,List.take_left']; exact List.length_range
   rw [h7,h8,hpl]
  have h4:=h3 (k - 1) (by rw [hp]; exact List.mem_range.2 hkm')
  rw [show k - 1 + 1 = k by omega,hc] at h4
  simp at h4
theorem clen_dvd (ha:PV n a) {i:Nat} (hi:i < n) {m:Nat} (hd:clen n a i ∣ m):itr a i m = i:=by
 obtain ⟨c,rfl⟩:=hd
 induction c with
 | zero => rfl
 | succ c ih => rw [Nat.mul_succ,itr_add,ih,(clen_spec ha hi).1]
theorem itr_diff (ha:PV n a) {i x y:Nat} (hi:i < n) (hx:x < clen n a i) (hy:y < clen n a i) (e:itr a i x = itr a i y):x = y:=by
 have key:∀ x y,x < clen n a i -> y < clen n a i -> itr a i x = itr a i y -> x <= y -> x = y:=fun x y hx hy e hle => by
  rcases Nat.lt_or_ge x y with hlt | hge
  ·have h1:itr a i y = itr a (itr a i (y - x)) x:=by rw [<- itr_add]; congr 1; omega
   rw [h1] at e
   have h2:=(itr_inj ha hi (itr_lt ha hi _) x e).symm
   exact absurd h2 ((clen_spec ha hi).2.2 (y - x) (by omega) (by omega))
  ·omega
 rcases Nat.le_total x y with h | h
 ·exact key x y hx hy e h
 ·exact (key y x hy hx e.symm h).symm
theorem itr_mod (ha:PV n a) {i:Nat} (hi:i < n) (k:Nat):itr a i k = itr a i (k % clen n a i):=by
 conv => lhs; rw [<- Nat.div_add_mod k (clen n a i),itr_add,clen_dvd ha hi (Nat.dvd_mul_right _ _)]
def Cyd (a:Pm) (i j:Nat):Prop:=∃ k,itr a i k = j
theorem Cyd.refl {i:Nat}:Cyd a i i:=⟨0,rfl⟩
theorem Cyd.trans {i j l:Nat} (h:Cyd a i j) (k:Cyd a j l):Cyd a i l:=by
 obtain ⟨x,rfl⟩:=h
 obtain ⟨y,rfl⟩:=k
 exact ⟨x + y,itr_add _ _ _⟩
theorem Cyd.symm (ha:PV n a) {i j:Nat} (hi:i < n) (h:Cyd a i j):Cyd a j i:=by
 obtain ⟨x,rfl⟩:=h
 have hp:=clen_pos (n:=n) (a:=a) (i:=i)
 have hm:=Nat.mod_lt x hp
 rw [itr_mod ha hi x]
 refine ⟨clen n a i - x % clen n a i,?_⟩
 rw [<- itr_add,show x % clen n a i + (clen n a i - x % clen n a i) = clen n a i by omega,(clen_spec ha hi).1]
theorem Cyd.clen (ha:PV n a) {i j:Nat} (hi:i < n) (h:Cyd a i j):GT.clen n a j = GT.clen n a i:=by
 have key:∀ {i j:Nat},i < n -> Cyd a i j -> ¬ GT.clen n a i < GT.clen n a j:=fun {i j} hi h hlt => by
  obtain ⟨x,rfl⟩:=h
  have hj:=itr_lt ha hi x
  refine (clen_spec ha hj).2.2 (GT.clen n a i) clen_pos hlt ?_
  rw [<- itr_add,Nat.add_comm,itr_add,(clen_spec ha hi).1]
 have hj:j < n:=by obtain ⟨x,rfl⟩:=h; exact itr_lt ha hi x
 have h1:=key hi h
 have h2:=key hj (h.symm ha hi)
 omega
def Ldr (a:Pm) (j:Nat):Prop:=∀ i,i < j -> ¬ Cyd a i j
theorem exists_ldr:∀ i, ∃ j,j <= i /\ Ldr a j /\ Cyd a j i:=fun i => by
 induction i using Nat.strongRecOn with
 | ind i ih =>
  by_cases h:Ldr a i
  ·exact ⟨i,Nat.le_refl _,h,Cyd.refl⟩
  ·obtain ⟨i', h1, h2⟩ : ∃ i', i' < i /\ Cyd a i' i := by
    refine Classical.byContradiction fun hc => h fun x hx hh => hc ⟨x,hx,hh⟩
   obtain ⟨j,k1,k2,k3⟩:=ih i' h1
   exact ⟨j,by omega,k2,k3.trans h2⟩
theorem ldr_unique (ha:PV n a) {i j:Nat} (hi:i < n) (h1:Ldr a i) (h2:Ldr a j) (h:Cyd a i j):i = j:=by
 rcases Nat.lt_trichotomy i j with hlt | e | hgt
 ·exact absurd h (h2 i hlt)
 ·exact e
 ·exact absurd (h.symm ha hi) (h1 j hgt)
noncomputable def isBig (n:Nat) (a:Pm) (j:Nat):Bool:=open Classical in decide (Ldr a j /\ 2 <= clen n a j)
theorem isBig_iff {j:Nat}:isBig n a j = true ↔ Ldr a j /\ 2 <= clen n a j:=by unfold isBig; simp
noncomputable def bigL (n:Nat) (a:Pm) (i:Nat):List Nat:=(List.range i).filter (isBig n a)
noncomputable def cycL (n:Nat) (a:Pm) (i:Nat):List Pm:=(bigL n a i).map fun j => (List.range (clen n a j)).map (itr a j)
theorem mem_bigL {i j:Nat}:j ∈ bigL n a i ↔ j < i /\ Ldr a j /\ 2 <= clen n a j:=by
 unfold bigL; rw [List.mem_filter,List.mem_range,isBig_iff]
theorem bigL_succ {i:Nat}:bigL n a (i + 1) = bigL n a i ++ if isBig n a i = true then [i] else []:=by
 unfold bigL
 rw [List.range_succ,List.filter_append,List.filter_cons,List.filter_nil]
theorem pw_one_of (ha:PV n a) {m:Nat} (h:∀ j ∈ bigL n a n,clen n a j ∣ m):pw n a m = one n :=
 (ha.pw m).ext (PV.one n) fun i hi => by
  rw [pw_itr ha hi,ap_one hi]
  obtain ⟨j,h1,h2,k,rfl⟩:=exists_ldr (a:=a) i
  have hj:j < n:=by omega
  have hd:clen n a j ∣ m:=by
   by_cases h3:2 <= clen n a j
   ·exact h j (mem_bigL.2 ⟨hj,h2,h3⟩)
   ·have:=clen_pos (n:=n) (a:=a) (i:=j)
    rw [show clen n a j = 1 by omega]; exact Nat.one_dvd m
  rw [<- itr_add,Nat.add_comm,itr_add,clen_dvd ha hj hd]
theorem sum_bigL (ha:PV n a):((bigL n a n).map (clen n a)).sum <= n:=by
 have h1:((bigL n a n).flatMap fun j => (List.range (clen n a j)).map (itr a j)).Nodup:=by
  refine List.pairwise_flatMap.2 ⟨fun j hj => ?_,?_⟩
  ·have hjn:=(mem_bigL.1 hj).1
   refine List.pairwise_iff_getElem.2 fun x y hx hy hxy e => ?_
   rw [List.getElem_map,List.getElem_map,List.getElem_range,List.getElem_range] at e
   rw [List.length_map,List.length_range] at hx hy
   have:=itr_diff ha hjn hx hy e
   omega
  ·have hb:(bigL n a n).Nodup:=List.nodup_range.filter _
   refine (List.Pairwise.and_mem.1 hb).imp ?_
   rintro i j ⟨hi,hj,hne⟩ x hx y hy exy
   subst exy
   obtain ⟨k,_,e1⟩:=List.mem_map.1 hx
   obtain ⟨m,_,e2⟩:=List.mem_map.1 hy
   obtain ⟨i1,i2,_⟩:=mem_bigL.1 hi
   obtain ⟨j1,j2,_⟩:=mem_bigL.1 hj
   have c1:Cyd a i x:=⟨k,e1⟩
   have c2:Cyd a j x:=⟨m,e2⟩
   exact hne (ldr_unique ha i1 i2 j2 (c1.trans (c2.symm ha j1)))
 have h2:=nodup_le h1 (l':=List.range n) fun x hx => by
  obtain ⟨j,hj,hx⟩:=List.mem_flatMap.1 hx
  obtain ⟨k,_,rfl⟩:=List.mem_map.1 hx
  exact List.mem_range.2 (itr_lt ha (mem_bigL.1 hj).1 k)
 rw [List.length_range,List.length_flatMap] at h2
 have h3:(bigL n a n).map (fun j => ((List.range (clen n a j)).map (itr a j)).length) = (bigL n a n).map (clen n a) :=
  List.map_congr_left fun j _ => by rw [List.length_map,List.length_range]
 rw [h3] at h2; exact h2
end
end Go.GT
namespace Go.GT
def s3g:List Pm:=[[1,0,2], [1,2,0]]
def s3e:List Pm:=[[0,1,2], [0,2,1], [1,0,2], [1,2,0], [2,0,1], [2,1,0]]
theorem s3_el:IsEl 3 s3g s3e:=by
 refine ⟨by unfold Asc; decide,fun p => ⟨fun hp => ?_,fun hp => ?_⟩⟩
 ·have g0:Gen 3 s3g [0,1,2] := .one
  have g2:Gen 3 s3g [1,0,2] := .mul (a:=[0,1,2]) (s:=[1,0,2]) g0 (by decide)
  have g3:Gen 3 s3g [1,2,0] := .mul (a:=[0,1,2]) (s:=[1,2,0]) g0 (by decide)
  have g4:Gen 3 s3g [2,0,1] := .mul (a:=[1,2,0]) (s:=[1,2,0]) g3 (by decide)
  have g5:Gen 3 s3g [2,1,0] := .mul (a:=[1,0,2]) (s:=[1,2,0]) g2 (by decide)
  have g1:Gen 3 s3g [0,2,1] := .mul (a:=[1,2,0]) (s:=[1,0,2]) g3 (by decide)
  simp only [s3e,List.mem_cons,List.not_mem_nil,or_false] at hp
  rcases hp with rfl | rfl | rfl | rfl | rfl | rfl <;> assumption
 ·induction hp with
  | one => decide
  | @mul a s h hs ih => exact (by decide:∀ a ∈ s3e, ∀ s ∈ s3g,mul a s ∈ s3e) a ih s hs
end Go.GT
