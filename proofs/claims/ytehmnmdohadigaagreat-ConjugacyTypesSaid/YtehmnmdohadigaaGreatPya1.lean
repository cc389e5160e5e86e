/- The abstract machine, sound; plain mathematics. No condition. -/
import Derived.Carry
import Derived.ChangeSlices
import Derived.OpenShut
import Derived.OrdersIn
import Derived.OwnWalkIn
import Derived.ProofKit
import Derived.RangeFuncCalls
import Derived.RangeFuncIn
import Derived.RangeFuncLeaves
import Derived.RangeFuncNested
import Derived.RangeFuncRecord
import Derived.Scope
import Derived.Shelf.SlSortCmp.Whole1
import Derived.Test.YtehmnmdohadigaaGreatPya0
namespace Go.AM
open Go
section
variable {P:Program} {B:Nat} {ρ:Rho} {h:AHeap} {w:World} {tm:List AV} {a:Act} {o:Oper}
abbrev ES (P:Program) (B:Nat) (ρ:Rho) (h:AHeap) (w:World) (a:Act) (o:Oper) (av:AV) (h':AHeap):Prop :=
 ∃ nx ρ' w',(execOp a.eval o).run P w = .ok nx w' /\ ((∃ v,nx = .value v /\ VR ρ' av v) \/ (nx = .skip /\ av = aundef)) /\ Stp P B ρ h w ρ' h' w'
theorem zeroCells_size (z:Array Value) (n:Nat):(Builtin.zeroCells z n).size = n * z.size:=by simp [Builtin.zeroCells]
theorem grow_obj {old new : List AV} {olds news rest : Array Value} (h1 : VRs ρ old olds.toList) (h2 : VRs ρ new news.toList) (k : Nat) (a : AV) (hk : (old ++ new)[k]? = some a) :
  ∃ v,(olds ++ news ++ rest)[k]? = some v /\ VR ρ a v:=by
 have:=(VRs.append h1 h2).get hk
 obtain ⟨v,e1,e2⟩:=this
 refine ⟨v,?_,e2⟩
 have e1':(olds ++ news)[k]? = some v:=by
  rw [<- Array.getElem?_toList,Array.toList_append]; exact e1
 have hlt:k < (olds ++ news).size:=(Array.getElem?_eq_some_iff.1 e1').1
 rw [Array.getElem?_append_left hlt]; exact e1'
theorem e_append (hs : Sim P ρ h B w) {ats : Array TypeId} {ty t u e : TypeId} {du : TypeDesc} (h0 : ats[0]? = some t) (h1 : ats[1]? = some u) (ht : P.underlying t = some (.slice e)) (hu : P.underlying u = some du) (hdu : ∀ k, du ≠ .int k)
  {sz by':Nat} {z:List AV} (hsz:sizeT P e = some sz) (hby:bytesT P e = some by') (hz:zeroOf P e = some z) (c1:1 <= sz) (c2:1 <= by') (c3:z.length = sz)
  {as0 ax:AOpd} {vs vx:Value} (hvs:VR ρ (ev tm as0) vs) (hvx:VR ρ (ev tm ax) vx) {call:CallT} {av:AV} {h':AHeap} (he:evalE (.append sz by' z as0 ax) call tm h = some (av,h')) :
  ∃ v ρ' w',(Builtin.append_ ats ty #[vs,vx]).run P w = .ok v w' /\ VR ρ' av v /\ Stp P B ρ h w ρ' h' w':=by
 obtain ⟨i,zv,hinf,hzv,hzr⟩:=zeroOf_info hz
 have hisz:=sizeT_info hsz hinf
 have hiby:=bytesT_info hby hinf
 have hzsz:zv.cells.size = sz:=by rw [<- Array.length_toList, <- VRs.length (hzr ρ),c3]
 simp only [evalE] at he
 split at he <;> first | (cases he; done) | skip
 rename_i n new hsrc
 obtain ⟨hn,hnl,hnall,us,hus,hfirst⟩:=src_run hs hvx hsrc
 have hone:=hus.one hnall
 have hul:=VRs.length hus
 have hall:us.take (n * sz) = us:=List.take_of_length_le (by omega)
 have hfw:∀ w':World,w'.heap = w.heap -> (Builtin.firstCells i.size n vx).run P w' = .ok us.toArray w':=fun w' hw => by
  have:=hfirst n (Nat.le_refl _) w' hw
  rw [hall] at this; rw [hisz]; exact this
 have grow : ∀ (h2 : AHeap), Stp P B ρ h w ρ h2 w -> h2.next = h.next -> ∀ (base : Option Addr) (sLen sCap : Nat) (old : List AV) (olds : List Value), VRs ρ old olds -> olds.length = sLen * sz -> sCap < sLen + n -> (sLen + n) * by' <= 140737488355328 ->
   (Builtin.firstCells sz sLen (.slice base sLen sCap)).run P w.drew = .ok olds.toArray w.drew ->
   ∃ v ρ' w',(Builtin.append_ ats ty #[.slice base sLen sCap,vx]).run P w = .ok v w' /\ VR ρ' (.slice h.next 0 (sLen + n) (.opn sz)) v /\ Stp P B ρ h w ρ' (h2.push (.cells (old ++ new) true)) w':=by
  intro h2 s2 hnx base sLen sCap old olds ho hol hlt hb hfo
  have hr:=append_grow (P:=P) (w:=w) (ty:=ty) h0 h1 ht hu hdu hinf hzv (base:=base) (sLen:=sLen) (sCap:=sCap) hn hlt (by omega) (by rw [hiby]; exact hb) (by rw [hisz]; exact hfo) (hfw w.drew rfl)
  have hcap:=le_grownCap (w:=w) (sLen + n) sCap e
  have s3:Stp P B ρ h w ρ h2 w.drew:=s2.drew _ (Nat.le_succ _)
  have hsize:(olds.toArray ++ us.toArray ++ Builtin.zeroCells zv.cells (grownCap w (sLen + n) sCap e - (sLen + n))).size = grownCap w (sLen + n) sCap e * sz:=by
   simp only [Array.size_append,List.size_toArray,zeroCells_size,hzsz,hol]
   rw [<- hul,hnl, <- Nat.add_mul, <- Nat.add_mul]
   congr 1
   omega
  have s4:=s3.sim.newRow (c:=old ++ new) (cc:=olds.toArray ++ us.toArray ++ Builtin.zeroCells zv.cells (grownCap w (sLen + n) sCap e - (sLen + n))) (el:=e) (room:=grownCap w (sLen + n) sCap e * sz)
   (by rw [hsize]; exact Nat.le_refl _) (by
    rw [List.length_append,VRs.length ho,hol,hnl, <- Nat.add_mul]; exact Nat.mul_le_mul_right _ hcap) (fun k a hk => grow_obj (by simpa using ho) (by simpa using hus) k a hk)
  refine ⟨_,_,_,hr,?_,s3.trans s4⟩
  rw [hnx]
  refine .slo (p:=⟨w.drew.heap.size,0,grownCap w (sLen + n) sCap e * sz⟩) (upd_self _ _ _) hcap ?_
  show 0 + grownCap w (sLen + n) sCap e * sz = grownCap w (sLen + n) sCap e * sz
  omega
 have inpl : ∀ (a : Addr) (sLen sCap : Nat) (w' : World), sLen + n <= sCap -> (storeCells (a.add (sLen * sz)) us).run P w = .ok () w' ->
   (Builtin.append_ ats ty #[.slice (some a) sLen sCap,vx]).run P w = .ok (.slice (some a) (sLen + n) sCap) w':=by
  intro a sLen sCap w' hle hst
  exact append_in h0 h1 ht hu hdu hinf hn hle (hfw w rfl) (by simpa [hisz] using hst)
 have readOld : ∀ {j oo len : Nat} {cs old : List AV} {r : Bool} {p : Place} {c : Nat}, h.get j = some (.cells cs r) -> ρ j = some p -> cut cs oo (len * sz) = some old ->
   ∃ olds:List Value,VRs ρ old olds /\ olds.length = len * sz /\ (Builtin.firstCells sz len (.slice (some ⟨p.blk,p.base + oo,none⟩) len c)).run P w.drew = .ok olds.toArray w.drew:=by
  intro j oo len cs old r p c hg hp hcut
  obtain ⟨olds,k1,k2,k3⟩:=read_cut hs hg hp hcut
  refine ⟨olds,k2,k1,?_⟩
  have:=run_loadCells_of (P:=P) (w:=w.drew) (b:=p.blk) (o:=p.base + oo) (vs:=olds) (fun j v hj => k3 j v hj)
  rw [k1] at this
  exact this
 generalize hsv:ev tm as0 = sv at hvs he
 cases sv with
 | nils =>
  cases hvs
  simp only at he
  split at he
  ·rename_i hn0; subst hn0
   cases he
   exact ⟨_, ρ,w,append_in h0 h1 ht hu hdu hinf (base:=none) hn (by omega) (hfw w rfl) (by simp), .nils,Stp.refl hs⟩
  ·rename_i hn0
   split at he <;> cases he
   rename_i hb
   have:=grow h (Stp.refl hs) rfl none 0 0 [] [] .nil (by simp) (by omega) (by simpa using hb) (by simp [Builtin.firstCells])
   simpa using this
 | slice i' oo len cp =>
  cases cp with
  | exact c =>
   cases hvs with
   | slx hp hc =>
    rename_i p
    simp only at he
    split at he
    ·rename_i hle
     split at he
     ·rename_i hn0; subst hn0
      cases he
      have hus0:us = []:=List.eq_nil_of_length_eq_zero (by omega)
      refine ⟨_, ρ,w,inpl _ len c w hle (by rw [hus0]; simp [storeCells]), .slx hp hc,Stp.refl hs⟩
     ·split at he <;> first | (cases he; done) | skip
      rename_i cs hown
      split at he <;> cases he
      rename_i cs' hlay
      obtain ⟨w',q1,q2⟩:=putLay hs (ownOf_some hown) hp hlay hus hone
      refine ⟨_, ρ,w',inpl _ len c w' hle (by rw [Addr.add_plain,Nat.add_assoc]; exact q1), .slx hp (by omega),q2⟩
    ·rename_i hle
     split at he <;> first | (cases he; done) | skip
     rename_i hb
     split at he <;> first | (cases he; done) | skip
     rename_i cs hcs
     split at he <;> cases he
     rename_i old hcut
     obtain ⟨r,hg⟩:=cellsOf_some hcs
     obtain ⟨olds,k1,k2,k3⟩:=readOld (c:=c) hg hp hcut
     exact grow h (Stp.refl hs) rfl _ len c old olds k1 k2 (by omega) hb k3
  | opn zz =>
   simp only at he
   split at he <;> first | (cases he; done) | skip
   rename_i hzb
   obtain ⟨rfl,hb⟩:=hzb
   split at he <;> first | (cases he; done) | skip
   rename_i cs hown
   have hg:=ownOf_some hown
   split at he
   ·rename_i hin
    split at he <;> cases he
    rename_i cs' hlay
    cases hvs with
    | slo hp hc hr =>
     rename_i c p
     obtain ⟨w',q1,q2⟩:=putLay hs hg hp hlay hus hone
     have hroom:cs.length <= p.room:=by obtain ⟨_,_,_,_,_,h3,_⟩:=hs.obj _ _ p hg hp; exact h3
     have hle:len + n <= c:=by
      have:(len + n) * zz <= c * zz:=by omega
      exact Nat.le_of_mul_le_mul_right this c1
     exact ⟨_, ρ,w',inpl _ len c w' hle (by rw [Addr.add_plain,Nat.add_assoc]; exact q1), .slo hp hle hr,q2⟩
    | sle ad hp hr =>
     rename_i p
     have hroom:cs.length <= p.room:=by obtain ⟨_,_,_,_,_,h3,_⟩:=hs.obj _ _ p hg hp; exact h3
     have hn0:n = 0:=by
      have:n * zz = 0:=by rw [Nat.zero_add] at hin; omega
      rcases Nat.mul_eq_zero.1 this with h | h <;> omega
     subst hn0
     have hus0:us = []:=List.eq_nil_of_length_eq_zero (by omega)
     have hnew0:new = []:=List.eq_nil_of_length_eq_zero (by omega)
     obtain ⟨w',q1,q2⟩:=putLay hs hg hp hlay hus hone
     have hw':w' = w:=by rw [hus0] at q1; simp [storeCells] at q1; exact q1.symm
     subst hw'
     exact ⟨_, ρ,w',inpl ad 0 0 w' (by omega) (by rw [hus0]; simp [storeCells]), .sle ad hp hr,q2⟩
   ·rename_i hin
    split at he <;> cases he
    rename_i hend
    have hdrop:VR ρ (.slice i' oo len (.opn zz)) vs -> cut cs oo (len * zz) = some (drops cs oo):=by
     intro _
     rw [cut_some (by omega),drops_eq,List.take_of_length_le (by simp; omega)]
    cases hvs with
    | slo hp hc hr =>
     rename_i c p
     by_cases hle:len + n <= c
     ·have hroom : cs.length + new.length <= p.room := by
       have:(len + n) * zz <= c * zz:=Nat.mul_le_mul_right _ hle
       rw [Nat.add_mul] at this
       omega
      obtain ⟨w',q1,q2⟩:=extendLay hs hg hp (o:=oo) (by omega) hroom hus hone
      refine ⟨_,_,w',inpl _ len c w' hle (by rw [Addr.add_plain,Nat.add_assoc,hend]; exact q1),?_,q2⟩
      have:=VR.slo (ρ:=upd ρ h.next ⟨p.blk,p.base + oo,p.room - oo⟩) (i:=h.next) (off:=0) (n:=len + n) (sz:=zz) (c:=c) (upd_self _ _ _) hle (by show 0 + c * zz = p.room - oo; omega)
      simpa using this
     ·obtain ⟨olds,k1,k2,k3⟩:=readOld (c:=c) hg hp (hdrop (.slo hp hc hr))
      exact grow (h.del i') (Stp.del hs i') rfl _ len c _ olds k1 k2 (by omega) hb k3
    | sle ad hp hr =>
     rename_i p
     have hn0:0 < n:=by
      rcases Nat.eq_zero_or_pos n with h | h
      ·subst h; simp at hin hend; omega
      ·exact h
     have hd0:drops cs oo = []:=by rw [drops_eq]; exact List.drop_eq_nil_of_le (by omega)
     rw [hd0]
     exact grow (h.del i') (Stp.del hs i') rfl (some ad) 0 0 [] [] .nil (by simp) (by omega) hb (by simp [Builtin.firstCells,loadCells,loadCellsFrom,Sem.run_pure])
 | _ => simp at he
theorem e_copy (hs : Sim P ρ h B w) {ats : Array TypeId} {ty t e : TypeId} (h0 : ats[0]? = some t) (ht : P.underlying t = some (.slice e)) {sz : Nat} (hsz : sizeT P e = some sz) (_c1 : 1 <= sz)
  {ad ax:AOpd} {vd vx:Value} (hvd:VR ρ (ev tm ad) vd) (hvx:VR ρ (ev tm ax) vx) {call:CallT} {av:AV} {h':AHeap} (he:evalE (.copy sz ad ax) call tm h = some (av,h')) :
  ∃ v ρ' w',(Builtin.copy_ ats ty #[vd,vx]).run P w = .ok v w' /\ VR ρ' av v /\ Stp P B ρ h w ρ' h' w':=by
 have hsrun:=sizeT_run (P:=P) (w:=w) hsz
 simp only [evalE] at he
 cases hsrc:srcOf sz (ev tm ax) h with
 | none => rw [hsrc] at he; split at he <;> simp_all
 | some p =>
  obtain ⟨n,new⟩:=p
  rw [hsrc] at he
  obtain ⟨hn,hnl,hnall,us,hus,hfirst⟩:=src_run hs hvx hsrc
  have hul:=VRs.length hus
  have run0:∀ (base:Option Addr) (len cap:Nat),min n len = 0 -> (Builtin.copy_ ats ty #[.slice base len cap,vx]).run P w = .ok (goInt 0) w:=by
   intro base len cap hm
   have hf:=hfirst 0 (Nat.zero_le _) w rfl
   have hm':Nat.min n len = 0:=hm
   cases base <;> simp [Builtin.copy_,h0,run_underlying ht,hn,hm',hsrun,hf,storeCells]
  generalize hdv:ev tm ad = dv at hvd he
  cases dv with
  | nils =>
   cases hvd
   simp at he
   obtain ⟨rfl,rfl⟩:=he
   exact ⟨_, ρ,w,run0 none 0 0 (Nat.min_zero _), .int _ _,Stp.refl hs⟩
  | slice i oo len cp =>
   simp only at he
   split at he
   ·rename_i hm
    cases he
    cases hvd <;> exact ⟨_, ρ,w,run0 _ _ _ hm, .int _ _,Stp.refl hs⟩
   ·rename_i hm
    split at he <;> first | (cases he; done) | skip
    rename_i cs new' hown hcut
    split at he <;> cases he
    rename_i cs' hlay
    have main:∀ (p:Place) (cap:Nat), ρ i = some p -> ∃ v ρ' w',(Builtin.copy_ ats ty #[.slice (some ⟨p.blk,p.base + oo,none⟩) len cap,vx]).run P w = .ok v w' /\ VR ρ' (.int .i64 (min n len:Nat)) v /\ Stp P B ρ h w ρ' (h.set i (.cells cs' true)) w':=by
     intro p cap hp
     obtain ⟨q1,q2⟩:=cut_eq hcut
     simp only [List.drop_zero] at q2
     have hnv:VRs ρ new' (us.take (min n len * sz)):=by rw [q2]; exact hus.take _
     have hone:∀ v ∈ us.take (min n len * sz),v.oneCell' = true:=fun v hv => hus.one hnall v (List.mem_of_mem_take hv)
     obtain ⟨w',k1,k2⟩:=putLay hs (ownOf_some hown) hp hlay hnv hone
     refine ⟨goInt ((min n len:Nat):Int), ρ,w',?_, .int _ _,k2⟩
     have hf:=hfirst (min n len) (Nat.min_le_left _ _) w rfl
     have e1:Nat.min n len = min n len:=rfl
     simp [Builtin.copy_,h0,run_underlying ht,hn,e1,hsrun,hf,k1]
    cases hvd with
    | slx hp _ => exact main _ _ hp
    | slo hp _ _ => exact main _ _ hp
    | sle a hp _ => exact absurd (Nat.min_zero _) hm
  | _ => simp at he
theorem e_store (hs : Sim P ρ h B w) {t : TypeId} {n : Nat} (hn : sizeT P t = some n) {aa ax : AOpd} {va vx : Value} (hva : VR ρ (ev tm aa) va) (hvx : VR ρ (ev tm ax) vx) {call : CallT} {av : AV} {h' : AHeap}
  (he:evalE (.store n aa ax) call tm h = some (av,h')):∃ w',(Instr.storeAt t va vx).run P w = .ok () w' /\ av = aundef /\ Stp P B ρ h w ρ h' w':=by
 simp only [evalE] at he
 split at he <;> first | (cases he; done) | skip
 rename_i i oo heq
 rw [heq] at hva
 split at he <;> first | (cases he; done) | skip
 rename_i c hown
 split at he <;> first | (cases he; done) | skip
 rename_i hc
 split at he <;> cases he
 rename_i c' hlay
 cases hva with
 | ptr hp =>
  have hcells:=hvx.cells
  obtain ⟨w',k1,k2⟩:=putLay hs (ownOf_some hown) hp hlay hcells (hcells.one hc.2)
  refine ⟨w',?_,rfl,k2⟩
  have hl:=VRs.length hcells
  rw [hc.1,Array.length_toList] at hl
  simp [Instr.storeAt,Instr.sureAddr,storeVar,sizeT_run hn, <- hl,k1]
theorem setAt_run:∀ {es:List (AV × AV)} {ms:List MapEntry} {j:Nat} {k v:AV} {f:MapEntry -> MapEntry},EsR ρ es ms -> j < es.length -> (∀ e,VR ρ k (f e).key /\ VR ρ v (f e).val) -> EsR ρ (setAt es j k v) (ms.modify j f)
 | [],_,j,k,v,f,_,hj,_ => by simp at hj
 | e :: es,ms,j,k,v,f,he,hj,hf => by
  cases he with
  | cons hk hv hs =>
   cases j with
   | zero => simp only [setAt,List.modify_zero_cons]; exact .cons (hf _).1 (hf _).2 hs
   | succ j => simp only [setAt,List.modify_succ_cons]; exact .cons hk hv (setAt_run hs (by simpa using hj) hf)
theorem findKey_at {ks:KeyK} {k:AV}:∀ {es:List (AV × AV)} {n j:Nat} {v:AV},findKey ks k es n = some (some (j,v)) -> n <= j /\ ∃ k',es[j - n]? = some (k',v) /\ keyEq ks k k' = some true
 | [],n,j,v,hf => by simp [findKey] at hf
 | (k',v') :: es,n,j,v,hf => by
  simp only [findKey] at hf
  split at hf
  ·rename_i h; cases hf; exact ⟨Nat.le_refl _,k',by simp,h⟩
  ·obtain ⟨h1,k2,h2,h3⟩:=findKey_at hf
   exact ⟨by omega,k2,by rw [show j - n = (j - (n + 1)) + 1 by omega]; simpa using h2,h3⟩
  ·cases hf
theorem EsR.get {es:List (AV × AV)} {ms:List MapEntry} (he:EsR ρ es ms):∀ {j:Nat} {k v:AV},es[j]? = some (k,v) -> ∃ e,ms[j]? = some e /\ VR ρ k e.key /\ VR ρ v e.val:=by
 induction he with
 | nil => intro j k v h; simp at h
 | cons hk hv hs ih =>
  intro j k v h
  cases j with
  | zero => simp at h; obtain ⟨rfl,rfl⟩:=h; exact ⟨_,rfl,hk,hv⟩
  | succ j => simpa using ih (by simpa using h)
theorem EsR.push {es:List (AV × AV)} {ms:List MapEntry} (he:EsR ρ es ms) {k v:AV} {e:MapEntry} (hk:VR ρ k e.key) (hv:VR ρ v e.val):EsR ρ (es ++ [(k,v)]) (ms ++ [e]):=by
 induction he with
 | nil => exact .cons hk hv .nil
 | cons hk' hv' _ ih => exact .cons hk' hv' ih
theorem cell_bits {q D : Nat} {k k' : AV} {vk vk' : Value} (hv : VR ρ k vk) (hv' : VR ρ k' vk') (he : eqCell q k k' = some true) : Instr.sameBits D vk' vk = true := by
  unfold eqCell at he
  split at he
  ·cases hv; cases hv'
   rename_i k1 n1 k2 n2
   rw [keq_eq,ieq_beq] at he
   cases hb:(Nat.beq q 1 && decide (k1 = k2)) with
   | false => rw [hb] at he; cases he
   | true =>
    rw [hb] at he
    simp at hb he
    obtain ⟨_,rfl⟩:=hb
    subst he
    simp [Instr.sameBits]
  ·cases hv; cases hv'
   rename_i b1 b2
   cases hb:Nat.beq q 0 with
   | false => rw [hb] at he; cases he
   | true =>
    rw [hb] at he
    simp at he
    subst he
    simp [Instr.sameBits]
  ·cases hv with | str h1 => cases hv' with | str h2 =>
   cases hb:Nat.beq q 2 with
   | false => rw [hb] at he; cases he
   | true =>
    rw [hb] at he
    simp at he
    rename_i s1 s2
    subst h1; subst h2
    have h3:decide (s2.data.toList.map (·.toNat) = s1.data.toList.map (·.toNat)) = true:=by simp [he]
    rw [strs_eq, <- beq_toListBytes] at h3
    simpa [Instr.sameBits] using h3
  ·cases he
theorem cells_bits {D:Nat}:∀ {ks:List Nat} {a b:List AV} {va vb:List Value},VRs ρ a va -> VRs ρ b vb -> a.length = ks.length -> b.length = ks.length -> eqCells ks a b = some true -> ((vb.zip va).all fun (x,y) => Instr.sameBits D x y) = true
 | [],a,b,va,vb,ha,hb,la,lb,he => by
  obtain rfl:=List.eq_nil_of_length_eq_zero la
  obtain rfl:=List.eq_nil_of_length_eq_zero lb
  cases ha; cases hb; rfl
 | k :: ks,a,b,va,vb,ha,hb,la,lb,he => by
  cases ha with
  | nil => simp at la
  | cons h1 h2 =>
   cases hb with
   | nil => simp at lb
   | cons h3 h4 =>
    simp only [eqCells] at he
    split at he
    ·rename_i hc
     simp only [List.zip_cons_cons,List.all_cons,Bool.and_eq_true]
     exact ⟨cell_bits h1 h3 hc,cells_bits h2 h4 (by simpa using la) (by simpa using lb) he⟩
    ·rename_i hno
     exact (hno he).elim
theorem key_stays {ks:KeyK} {k k':AV} {vk vk':Value} (hv:VR ρ k vk) (hv':VR ρ k' vk') (he:keyEq ks k k' = some true):(Instr.keyThatStays vk' vk).run P w = .ok vk w:=by
 have:Instr.sameBits 10000 vk' vk = true:=by
  cases ks with
  | one q => exact cell_bits hv hv' he
  | flat ks =>
   unfold keyEq at he
   cases k with
   | agg a =>
    cases k' with
    | agg b =>
     simp only at he
     split at he <;> first | (cases he; done) | skip
     rename_i hl
     cases hv with
     | agg hva =>
      cases hv' with
      | agg hvb =>
       rw [show (10000:Nat) = 9999 + 1 from rfl]
       simp only [Instr.sameBits,Bool.and_eq_true,beq_iff_eq]
       refine ⟨?_,cells_bits hva hvb hl.1 hl.2 he⟩
       rw [<- Array.length_toList, <- Array.length_toList, <- VRs.length hva, <- VRs.length hvb,hl.1,hl.2]
    | _ => cases he
   | _ => cases he
 simp [Instr.keyThatStays,this]
theorem e_mupd (hs : Sim P ρ h B w) {t kt e : TypeId} (hu : P.underlying t = some (.map kt e)) {ks : KeyK} (hk : keyT P kt = some ks) {am ak ax : AOpd} {vm vk vx : Value}
  (hm:VR ρ (ev tm am) vm) (hkv:VR ρ (ev tm ak) vk) (hxv:VR ρ (ev tm ax) vx) {call:CallT} {av:AV} {h':AHeap} (he:evalE (.mupd ks am ak ax) call tm h = some (av,h')) :
  ∃ w',(Instr.mapUpdate t vm vk vx).run P w = .ok () w' /\ av = aundef /\ Stp P B ρ h w ρ h' w':=by
 simp only [evalE] at he
 split at he <;> first | (cases he; done) | skip
 rename_i i heq
 rw [heq] at hm
 split at he <;> first | (cases he; done) | skip
 rename_i es hg
 cases hm with
 | map hp =>
  rename_i p
  obtain ⟨hb0,hr1,hB,ms,ck,hb,hes,hbn⟩:=hs.obj i _ _ hg hp
  have hlt:=(Array.getElem?_eq_some_iff.1 hb).1
  have hget:(getObj p.blk).run P w = .ok (.map ms ck) w:=by
   show (Sem.getObj p.blk Sem.pure).run P w = _
   simp only [Sem.run,hb]
  have hset:∀ o,(setObj p.blk o).run P w = .ok () (putRowW w p.blk o):=by
   intro o
   show (Sem.setObj p.blk o (Sem.pure ())).run P w = _
   simp only [Sem.run,hb]; rfl
  have hkind:∀ q,(∃ c r,h.get q = some (.cells c r)) -> ∀ pq, ρ q = some pq -> pq.blk ≠ p.blk:=by
   intro q hq pq hpq e
   obtain ⟨c,r,hc⟩:=hq
   obtain ⟨cc,el,fr,h1,_⟩:=hs.obj q _ pq hc hpq
   rw [e,hb] at h1; cases h1
  have fin:∀ (ms':Array MapEntry) (ck':Nat) (es':List (AV × AV)),EsR ρ es' ms'.toList -> Born ms'.toList ck' -> Stp P B ρ h w ρ (h.set i (.map es')) (putRowW w p.blk (.map ms' ck')):=by
   intro ms' ck' es' hes' hbn'
   exact hs.putObj hg hp rfl hr1 hb0 rfl hkind (fun ⟨L,hL⟩ => by rw [hb] at hL; cases hL) ⟨hb0,hr1,hB,ms',ck',putRowW_same hlt,hes',hbn'⟩
  cases hf:lookK ks (ev tm ak) es with
  | none => rw [hf] at he; cases he
  | some r =>
   rw [hf] at he
   obtain ⟨hok,hf,r',hfn,hr⟩:=findKey_ok (w:=w) hk hkv hes hf
   rcases hr with ⟨rfl,rfl⟩ | ⟨j,av',v',rfl,rfl,hvv⟩
   ·cases he
    refine ⟨putRowW w p.blk (.map (ms.push { key:=vk,val:=vx,born:=ck }) (ck + 1)),?_,rfl,fin _ _ _ ?_ (by rw [Array.toList_push]; exact hbn.push rfl)⟩
    ·simp [Instr.mapUpdate,run_underlying hu,hget,checkKey_ok hk hok hkv,hfn,hset]
    ·rw [Array.toList_push]; exact hes.push hkv hxv
   ·cases he
    obtain ⟨_,k',hat,hkeq⟩:=findKey_at hf
    simp only [Nat.sub_zero] at hat
    obtain ⟨en,hen,hk1,hv1⟩:=hes.get hat
    have hen':ms[j]? = some en:=by simpa using hen
    have hst:=key_stays (P:=P) (w:=w) hkv hk1 hkeq
    refine ⟨putRowW w p.blk (.map (ms.modify j fun e => { e with key:=vk,val:=vx }) ck),?_,rfl,fin _ _ _ ?_ (by rw [Array.toList_modify]; exact hbn.modify fun _ => rfl)⟩
    ·simp [Instr.mapUpdate,run_underlying hu,hget,checkKey_ok hk hok hkv,hfn,hen',hst,hset]
    ·rw [Array.toList_modify]
     exact setAt_run hes ((List.getElem?_eq_some_iff.1 hat).1) fun e => ⟨hkv,hxv⟩
def isCall:AOp -> Bool | .call .. => true | _ => false
theorem e_sound (hs : Sim P ρ h B w) (ht : TR ρ tm a.tmps) {ao : AOp} (htr : trOp P o.op = some ao) (hnc : isCall ao = false) {call : CallT} {av : AV} {h' : AHeap} (he : evalE ao call tm h = some (av, h')) :
  ES P B ρ h w a o av h':=by
 cases hop:o.op with
 | store t x y =>
  rw [hop] at htr; simp only [trOp] at htr
  split at htr <;> cases htr
  rename_i n ax ay hn hx hy
  obtain ⟨w',k1,k2,k3⟩:=e_store hs hn (opd_sound ht hx) (opd_sound ht hy) he
  exact ⟨.skip, ρ,w',by simp [execOp,hop,k1], .inr ⟨rfl,k2⟩,k3⟩
 | mapUpdate t m k v =>
  rw [hop] at htr; simp only [trOp] at htr
  split at htr <;> first | (cases htr; done) | skip
  rename_i hu hm hk hv
  split at htr <;> cases htr
  rename_i hkt
  obtain ⟨w',k1,k2,k3⟩:=e_mupd hs hu hkt (opd_sound ht hm) (opd_sound ht hk) (opd_sound ht hv) he
  exact ⟨.skip, ρ,w',by simp [execOp,hop,k1], .inr ⟨rfl,k2⟩,k3⟩
 | insert t m k v =>
  rw [hop] at htr; simp only [trOp] at htr
  split at htr <;> first | (cases htr; done) | skip
  rename_i hu hm hk hv
  split at htr <;> cases htr
  rename_i hkt
  obtain ⟨w',k1,k2,k3⟩:=e_mupd hs hu hkt (opd_sound ht hm) (opd_sound ht hk) (opd_sound ht hv) he
  exact ⟨.skip, ρ,w',by simp [execOp,hop,k1], .inr ⟨rfl,k2⟩,k3⟩
 | call c =>
  rw [hop] at htr; simp only [trOp] at htr
  obtain ⟨callee,cargs,cts⟩:=c
  unfold trCall at htr
  cases hargs:trOpds cargs.toList with
  | none => simp only [hargs] at htr; cases htr
  | some args =>
   simp only [hargs] at htr
   have hvs:=opds_sound ht hargs
   have hlist:(cargs.map a.eval).toList = cargs.toList.map a.eval:=Array.toList_map ..
   split at htr
   ·split at htr <;> cases htr
    simp [isCall] at hnc
   ·cases htr
   ·have two : ∀ x y ts tx, args = [x, y] -> cts.toList = [ts, tx] -> ∃ vx vy, cargs.map a.eval = #[vx, vy] /\ VR ρ (ev tm x) vx /\ VR ρ (ev tm y) vy /\ cts[0]? = some ts /\ cts[1]? = some tx := by
     intro x y ts tx e1 e2
     subst e1
     have hts:cts = #[ts,tx]:=Array.ext' e2
     cases hl:cargs.toList.map a.eval with
     | nil => rw [hl] at hvs; cases hvs
     | cons v1 r1 =>
      rw [hl] at hvs
      cases hvs with
      | cons h1 hr =>
       cases hr with
       | cons h2 hr2 =>
        cases hr2
        exact ⟨_,_,by apply Array.ext'; rw [hlist,hl],h1,h2,by rw [hts]; rfl,by rw [hts]; rfl⟩
    split at htr <;> first | (cases htr; done) | skip
    rename_i sx xx ts tx hcts
    obtain ⟨vx,vy,hca,hv1,hv2,ht1,ht2⟩:=two _ _ _ _ rfl hcts
    have key : ∀ {e : TypeId} {du : TypeDesc}, P.underlying ts = some (.slice e) -> P.underlying tx = some du -> (∀ k, du ≠ .int k) -> ∀ {sz by' : Nat} {z : List AV}, sizeT P e = some sz -> bytesT P e = some by' -> zeroOf P e = some z ->
      1 <= sz -> 1 <= by' -> z.length = sz -> ao = .append sz by' z sx xx -> ES P B ρ h w a o av h':=by
     intro e du hu1 hu2 hdu sz by' z hsz hby hz c1 c2 c3 e0
     subst e0
     obtain ⟨v, ρ',w',k1,k2,k3⟩:=e_append (ty:=o.type) hs ht1 ht2 hu1 hu2 hdu hsz hby hz c1 c2 c3 hv1 hv2 he
     refine ⟨.value v, ρ',w',?_, .inl ⟨v,rfl,k2⟩,k3⟩
     rw [exec_builtin hop]
     simp [builtin,hca,k1]
    split at htr <;> first | (cases htr; done) | skip
    ·rename_i e e' hu1 hu2
     split at htr <;> first | (cases htr; done) | skip
     rename_i sz by' z hsz hby hz
     split at htr <;> cases htr
     rename_i hc
     exact key hu1 hu2 (fun k e => by cases e) hsz hby hz hc.1 hc.2.1 hc.2.2 rfl
    ·rename_i e hu1 hu2
     split at htr <;> first | (cases htr; done) | skip
     rename_i sz by' z hsz hby hz
     split at htr <;> cases htr
     rename_i hc
     exact key hu1 hu2 (fun k e => by cases e) hsz hby hz hc.1 hc.2.1 hc.2.2 rfl
   ·split at htr <;> first | (cases htr; done) | skip
    rename_i dx xx t ts hcts
    split at htr <;> first | (cases htr; done) | skip
    rename_i e hu
    split at htr <;> first | (cases htr; done) | skip
    rename_i sz hsz
    split at htr <;> cases htr
    rename_i hc1
    have ht0:cts[0]? = some t:=by
     have:cts.toList[0]? = some t:=by rw [hcts]; rfl
     simpa using this
    cases hl:cargs.toList.map a.eval with
    | nil => rw [hl] at hvs; cases hvs
    | cons v1 r1 =>
     rw [hl] at hvs
     cases hvs with
     | cons h1 hr =>
      cases hr with
      | cons h2 hr2 =>
       cases hr2
       rename_i v2
       have hca:cargs.map a.eval = #[v1,v2]:=by apply Array.ext'; rw [hlist,hl]
       obtain ⟨v, ρ',w',k1,k2,k3⟩:=e_copy (ty:=o.type) hs ht0 hu hsz hc1 h1 h2 he
       refine ⟨.value v, ρ',w',?_, .inl ⟨v,rfl,k2⟩,k3⟩
       rw [exec_builtin hop]
       simp [builtin,hca,k1]
   ·split at htr <;> first | (cases htr; done) | skip
    split at htr <;> first | (cases htr; cases he; done) | (cases htr; done) | skip
    split at htr <;> cases htr; cases he
   ·cases htr; cases he
   ·cases htr; cases he
   ·cases htr
 | makeFunc fn f c =>
  rw [hop] at htr
  cases fn <;> simp only [trOp] at htr <;> first | (cases htr; done) | skip
  split at htr <;> cases htr
  cases he
 | makeMap t r =>
  rw [hop] at htr
  cases r <;> simp only [trOp] at htr <;> first | (cases htr; done) | (cases htr; cases he; done)
 | _ =>
  rw [hop] at htr
  simp only [trOp] at htr
  first
   | (cases htr; done)
   | ((repeat' (split at htr)) <;> first | (cases htr; done) | (cases htr; cases he; done))
end
end Go.AM
namespace Go.AM
open Go
section
variable {tm tm':List AV} {h h':AHeap}
theorem ev_congr {x:AOpd} (hx:∀ t ∈ x.temps,nth tm t = nth tm' t):ev tm x = ev tm' x:=by
 cases x with
 | tmp t => exact hx t (by simp [AOpd.temps])
 | lit v => rfl
theorem evs_congr:∀ {l:List AOpd},(∀ t ∈ tempsL l,nth tm t = nth tm' t) -> evs tm l = evs tm' l
 | [],_ => rfl
 | x :: r,hx => by
  have h1:=ev_congr (x:=x) fun t ht => hx t (List.mem_append_left _ ht)
  have h2:=evs_congr (l:=r) fun t ht => hx t (List.mem_append_right _ ht)
  simp only [evs,h1,h2]
theorem optInt_congr {x:Option AOpd} (hx:∀ t ∈ tempsO x,nth tm t = nth tm' t):optInt tm x = optInt tm' x:=by
 cases x with
 | none => rfl
 | some x => simp only [optInt]; rw [ev_congr hx]
theorem fills_congr:∀ {ps:List (Nat × Nat × AOpd)} {z:List AV},(∀ t ∈ tempsF ps,nth tm t = nth tm' t) -> fills z ps tm = fills z ps tm'
 | [],_,_ => rfl
 | (o,n,x) :: r,z,hx => by
  have h1:=ev_congr (x:=x) fun t ht => hx t (List.mem_append_left _ ht)
  have h2:∀ z,fills z r tm = fills z r tm':=fun z => fills_congr fun t ht => hx t (List.mem_append_right _ ht)
  simp only [fills,h1,h2]
theorem fillsS_congr {sz:Nat}:∀ {ps:List (Nat × AOpd)} {z:List AV},(∀ t ∈ tempsP ps,nth tm t = nth tm' t) -> fillsS sz z ps tm = fillsS sz z ps tm'
 | [],_,_ => rfl
 | (i,x) :: r,z,hx => by
  have h1:=ev_congr (x:=x) fun t ht => hx t (List.mem_append_left _ ht)
  have h2:∀ z,fillsS sz z r tm = fillsS sz z r tm':=fun z => fillsS_congr fun t ht => hx t (List.mem_append_right _ ht)
  simp only [fillsS,h1,h2]
theorem evalQ_congr {op:AOp} (hx:∀ t ∈ op.temps,nth tm t = nth tm' t):evalQ op tm h = evalQ op tm' h:=by
 cases op with
 | mov x => simp only [evalQ,ev_congr hx]
 | pick c x y =>
  simp only [AOp.temps,List.mem_append] at hx
  simp only [evalQ,ev_congr (x:=c) fun t ht => hx t (.inl ht),ev_congr (x:=x) fun t ht => hx t (.inr (.inl ht)),ev_congr (x:=y) fun t ht => hx t (.inr (.inr ht))]
 | build z ps => simp only [evalQ,fills_congr hx]
 | load n x => simp only [evalQ,ev_congr hx]
 | nilck x => simp only [evalQ,ev_congr hx]
 | bin op e x y =>
  simp only [AOp.temps,List.mem_append] at hx
  simp only [evalQ,ev_congr (x:=x) fun t ht => hx t (.inl ht),ev_congr (x:=y) fun t ht => hx t (.inr ht)]
 | un op x => simp only [evalQ,ev_congr hx]
 | toInt k x => simp only [evalQ,ev_congr hx]
 | toStr x => simp only [evalQ,ev_congr hx]
 | iface t x => simp only [evalQ,ev_congr hx]
 | mkfn f fs cs =>
  simp only [AOp.temps,List.mem_append] at hx
  simp only [evalQ,evs_congr (l:=fs) fun t ht => hx t (.inl ht),evs_congr (l:=cs) fun t ht => hx t (.inr ht)]
 | slice sz x lo hi up =>
  simp only [AOp.temps,List.mem_append] at hx
  simp only [evalQ,ev_congr (x:=x) fun t ht => hx t (.inl ht),optInt_congr (x:=lo) fun t ht => hx t (.inr (.inl ht)),optInt_congr (x:=hi) fun t ht => hx t (.inr (.inr (.inl ht))),optInt_congr (x:=up) fun t ht => hx t (.inr (.inr (.inr ht)))]
 | sliceA n sz x lo hi up =>
  simp only [AOp.temps,List.mem_append] at hx
  simp only [evalQ,ev_congr (x:=x) fun t ht => hx t (.inl ht),optInt_congr (x:=lo) fun t ht => hx t (.inr (.inl ht)),optInt_congr (x:=hi) fun t ht => hx t (.inr (.inr (.inl ht))),optInt_congr (x:=up) fun t ht => hx t (.inr (.inr (.inr ht)))]
 | substr x lo hi =>
  simp only [AOp.temps,List.mem_append] at hx
  simp only [evalQ,ev_congr (x:=x) fun t ht => hx t (.inl ht),optInt_congr (x:=lo) fun t ht => hx t (.inr (.inl ht)),optInt_congr (x:=hi) fun t ht => hx t (.inr (.inr ht))]
 | faddr off x => simp only [evalQ,ev_congr hx]
 | field off n x => simp only [evalQ,ev_congr hx]
 | iaddr arr sz x i =>
  simp only [AOp.temps,List.mem_append] at hx
  cases arr <;> simp only [evalQ,ev_congr (x:=x) fun t ht => hx t (.inl ht),ev_congr (x:=i) fun t ht => hx t (.inr ht)]
 | index len sz n x i =>
  simp only [AOp.temps,List.mem_append] at hx
  simp only [evalQ,ev_congr (x:=x) fun t ht => hx t (.inl ht),ev_congr (x:=i) fun t ht => hx t (.inr ht)]
 | indexS x i =>
  simp only [AOp.temps,List.mem_append] at hx
  simp only [evalQ,ev_congr (x:=x) fun t ht => hx t (.inl ht),ev_congr (x:=i) fun t ht => hx t (.inr ht)]
 | lookup ks z ok m k =>
  simp only [AOp.temps,List.mem_append] at hx
  simp only [evalQ,ev_congr (x:=m) fun t ht => hx t (.inl ht),ev_congr (x:=k) fun t ht => hx t (.inr ht)]
 | extr i x => simp only [evalQ,ev_congr hx]
 | len k x => simp only [evalQ,ev_congr hx]
 | lenA n => rfl
 | mx xs => simp only [evalQ,evs_congr hx]
 | mn xs => simp only [evalQ,evs_congr hx]
 | _ => rfl
theorem evalA_congr {op:AOp} (hx:∀ t ∈ op.temps,nth tm t = nth tm' t):evalA op tm h = evalA op tm' h:=by
 cases op with
 | box x => simp only [evalA,ev_congr hx]
 | bslice len sz z ps => simp only [evalA,fillsS_congr hx]
 | mkslice sz b z l c =>
  simp only [AOp.temps,List.mem_append] at hx
  simp only [evalA,ev_congr (x:=l) fun t ht => hx t (.inl ht),ev_congr (x:=c) fun t ht => hx t (.inr ht)]
 | toBytes x => simp only [evalA,ev_congr hx]
 | _ => rfl
theorem evalE_congr {op:AOp} {call:CallT} (hx:∀ t ∈ op.temps,nth tm t = nth tm' t):evalE op call tm h = evalE op call tm' h:=by
 cases op with
 | store n x y =>
  simp only [AOp.temps,List.mem_append] at hx
  simp only [evalE,ev_congr (x:=x) fun t ht => hx t (.inl ht),ev_congr (x:=y) fun t ht => hx t (.inr ht)]
 | mupd ks m k v =>
  simp only [AOp.temps,List.mem_append] at hx
  simp only [evalE,ev_congr (x:=m) fun t ht => hx t (.inl ht),ev_congr (x:=k) fun t ht => hx t (.inr (.inl ht)),ev_congr (x:=v) fun t ht => hx t (.inr (.inr ht))]
 | call f args =>
  simp only [AOp.temps,List.mem_append] at hx
  simp only [evalE,ev_congr (x:=f) fun t ht => hx t (.inl ht),evs_congr (l:=args) fun t ht => hx t (.inr ht)]
 | append sz b z x y =>
  simp only [AOp.temps,List.mem_append] at hx
  simp only [evalE,ev_congr (x:=x) fun t ht => hx t (.inl ht),ev_congr (x:=y) fun t ht => hx t (.inr ht)]
 | copy sz x y =>
  simp only [AOp.temps,List.mem_append] at hx
  simp only [evalE,ev_congr (x:=x) fun t ht => hx t (.inl ht),ev_congr (x:=y) fun t ht => hx t (.inr ht)]
 | _ => rfl
def Grown (h h':AHeap):Prop:=∀ i o,h.get i = some o -> h'.get i = some o
theorem Grown.cellsOf (hg:Grown h h') {i:Nat} {c:List AV} (hc:cellsOf h i = some c):cellsOf h' i = some c:=by
 obtain ⟨r,h1⟩:=cellsOf_some hc
 simp only [AM.cellsOf,hg _ _ h1]
theorem evalQ_grown (hg:Grown h h') {op:AOp} {v:AV} (he:evalQ op tm h = some v):evalQ op tm h' = some v:=by
 cases op with
 | load n x =>
  simp only [evalQ] at he ⊢
  split at he <;> first | (cases he; done) | skip
  rename_i i o hx
  split at he <;> first | (cases he; done) | skip
  rename_i c hc
  simp only [hg.cellsOf hc]; exact he
 | toStr x =>
  simp only [evalQ] at he ⊢
  split at he <;> first | (cases he; done) | skip
  ·exact he
  ·rename_i i o n cp hx
   split at he <;> first | (cases he; done) | skip
   rename_i c hc
   simp only [hg.cellsOf hc]; exact he
 | lookup ks z ok m k =>
  simp only [evalQ] at he ⊢
  split at he <;> first | (cases he; done) | skip
  ·exact he
  ·rename_i i hx
   split at he <;> first | (cases he; done) | skip
   rename_i es hget
   simp only [hg _ _ hget]; exact he
 | len k x =>
  simp only [evalQ] at he ⊢
  split at he <;> first | (cases he; done) | skip
  ·exact he
  ·exact he
  ·exact he
  ·exact he
  ·split at he <;> first | (cases he; done) | skip
   rename_i es hget
   simp only [hg _ _ hget]; exact he
 | iaddr arr sz x i => cases arr <;> exact he
 | _ => exact he
theorem evalQ_noreads {op:AOp} (hr:op.reads = false):evalQ op tm h = evalQ op tm h':=by
 cases op <;> first | rfl | (cases hr; done) | skip
 rename_i arr _ _ _; cases arr <;> rfl
theorem Tidy.grown (ht:Tidy h) (o:AObj):Grown h (h.push o):=fun i o' hi => by
 rw [AHeap.get_push_ne _ _ (fun e => by have:=ht i (by omega); rw [hi] at this; cases this)]; exact hi
end
end Go.AM
namespace Go.AM
open Go
def FF (ro:Option Nat):Fence:={ Fence.wide with round:=ro }
def Upon (P:Program) (r:Result Next) (K:Value -> World -> Prop):Prop :=
 match r with
 | .ok (.value v) w' => K v w'
 | .ok .skip w' => K undef w'
 | .ok (.enter f args) w' => CallsIn Fence.wide 0 P f args w' fun e w'' => ∃ v,e = .returned v /\ K v w''
 | .ok (.round l f tmps assign body) w' => RoundIn Fence.wide 0 P l f tmps assign body w' fun e w'' => ∃ v,e = .returned v /\ K v w''
 | _ => False
theorem Upon.uponIn {P : Program} {r : Result Next} {K : Value -> World -> Prop} (h : Upon P r K) {ro : Option Nat} {o : Oper} {a : Act} {next : Act -> World -> Prop} {Q : Exit -> Act -> World -> Prop}
  (hk:∀ v w,K v w -> next (a.put o.dst v) w):o.uponIn (FF ro) 0 P a next Q r:=by
 unfold Upon at h
 split at h
 ·exact hk _ _ h
 ·exact hk _ _ h
 ·rw [Oper.uponIn_enter]
  refine ⟨fun h => by simp [FF,Fence.wide] at h,?_⟩
  have h':CallsIn (FF ro) 0 P _ _ _ _:=h
  refine CallsIn.mono h' fun e w'' he => ?_
  obtain ⟨v,rfl,h2⟩:=he
  exact hk _ _ h2
 ·rw [Oper.uponIn_round]
  refine ⟨fun h => by simp [FF,Fence.wide] at h,?_⟩
  have h':RoundIn (FF ro) 0 P _ _ _ _ _ _ _:=h
  refine RoundIn.mono h' fun e w'' he => ?_
  obtain ⟨v,rfl,h2⟩:=he
  exact hk _ _ h2
 ·exact h.elim
theorem trOp_defer {P:Program} {op:Op} {ao:AOp} (h:trOp P op = some ao):∀ c,op ≠ .defer c:=by
 intro c e; subst e; cases h
abbrev Ans (P:Program) (B:Nat) (ρ:Rho) (h:AHeap) (w:World) (av:AV) (h':AHeap):Value -> World -> Prop :=
 fun v w' => ∃ ρ',VR ρ' av v /\ Stp P B ρ h w ρ' h' w'
structure CallOK (P:Program) (call:CallT):Prop where
 enter:∀ g args av h h',call (.fn g) args h = some (av,h') -> (∃ l,AV.fn (.yield l) [] [] ∈ args) -> ∀ (args':Array Value) (w:World),(callFunc g args').run P w = .ok (.enter g args') w
 fn:∀ g args av h h',call (.fn g) args h = some (av,h') -> ∀ ρ B w (args':Array Value),Sim P ρ h B w -> VRs ρ args args'.toList -> Upon P ((callFunc g args').run P w) (Ans P B ρ h w av h')
 yield:∀ l args av h h',call (.yield l) args h = some (av,h') -> ∀ ρ B w (args':Array Value) p,Sim P ρ h B w -> ρ l = some p -> VRs ρ args args'.toList -> Upon P ((Instr.yield p.blk args').run P w) (Ans P B ρ h w av h')
section
variable {P:Program} {B:Nat} {ρ:Rho} {h:AHeap} {w:World} {tm:List AV} {a:Act} {o:Oper}
theorem call_sound (hs : Sim P ρ h B w) (ht : TR ρ tm a.tmps) {f : AOpd} {args : List AOpd} (htr : trOp P o.op = some (.call f args)) {call : CallT} (hc : CallOK P call) {av : AV} {h' : AHeap}
  (he:evalE (.call f args) call tm h = some (av,h')):Upon P ((execOp a.eval o).run P w) (Ans P B ρ h w av h'):=by
 cases hop:o.op with
 | call c =>
  rw [hop] at htr; simp only [trOp] at htr
  obtain ⟨callee,cargs,cts⟩:=c
  unfold trCall at htr
  cases hargs:trOpds cargs.toList with
  | none => simp only [hargs] at htr; cases htr
  | some args0 =>
   simp only [hargs] at htr
   have hvs:=opds_sound ht hargs
   have hlist:(cargs.map a.eval).toList = cargs.toList.map a.eval:=Array.toList_map ..
   split at htr
   ·rename_i fo
    split at htr <;> cases htr
    rename_i hf
    have hvf:=opd_sound ht hf
    simp only [evalE] at he
    generalize hvv:a.eval fo = vf at hvf
    split at he <;> first | (cases he; done) | skip
    ·rename_i g first captured heq
     rw [heq] at hvf
     cases hvf with
     | fn hfl h1 h2 =>
      rename_i a1 b1
      have hrun:(execOp a.eval o).run P w = (callFunc g (a1 ++ cargs.map a.eval ++ b1)).run P w:=by
       simp [execOp,hop,resolve,hvv,Deferred.ofValue,invoke]
      rw [hrun]
      refine hc.fn g _ av h h' he ρ B w _ hs ?_
      rw [Array.toList_append,Array.toList_append]
      exact (h1.append (by rw [hlist]; exact hvs)).append h2
    ·rename_i l first captured heq
     rw [heq] at hvf
     split at he <;> first | (cases he; done) | skip
     cases hvf with
     | fn hfl h1 h2 => exact absurd rfl (hfl _)
     | yld hp =>
      rename_i p
      have hrun:(execOp a.eval o).run P w = (Instr.yield p.blk (cargs.map a.eval)).run P w:=by
       simp [execOp,hop,resolve,hvv,Deferred.ofValue,invoke]
      rw [hrun]
      exact hc.yield l _ av h h' he ρ B w _ p hs hp (by rw [hlist]; exact hvs)
   ·cases htr
   all_goals exfalso
   all_goals ((repeat' (split at htr)) <;> cases htr)
 | makeFunc fn f c =>
  rw [hop] at htr
  cases fn <;> simp only [trOp] at htr <;> first | (cases htr; done) | skip
  split at htr <;> cases htr
 | makeMap t r =>
  rw [hop] at htr
  cases r <;> simp only [trOp] at htr <;> cases htr
 | _ =>
  rw [hop] at htr
  simp only [trOp] at htr
  first
   | (cases htr; done)
   | ((repeat' (split at htr)) <;> cases htr)
theorem opE (hs : Sim P ρ h B w) (ht : TR ρ tm a.tmps) {ao : AOp} (htr : trOp P o.op = some ao) {call : CallT} (hc : CallOK P call) {av : AV} {h' : AHeap} (he : evalE ao call tm h = some (av, h'))
  {ro:Option Nat} {K:Act -> World -> Prop} {Q:Exit -> Act -> World -> Prop} (hk:∀ v ρ' w',VR ρ' av v -> Stp P B ρ h w ρ' h' w' -> K (a.put o.dst v) w'):o.wpIn (FF ro) 0 P a w K Q:=by
 refine ⟨fun _ _ => trivial,?_⟩
 rw [Oper.semAt_eq _ _ _ (trOp_defer htr)]
 cases hcl:isCall ao with
 | true =>
  cases ao <;> first | (cases hcl; done) | skip
  exact (call_sound hs ht htr hc he).uponIn fun v w' ⟨ρ',h1,h2⟩ => hk v ρ' w' h1 h2
 | false =>
  obtain ⟨nx, ρ',w',h1,h2,h3⟩:=e_sound hs ht htr hcl he
  rw [h1]
  rcases h2 with ⟨v,rfl,hv⟩ | ⟨rfl,rfl⟩
  ·exact hk v ρ' w' hv h3
  ·exact hk undef ρ' w' VR.undef h3
theorem opQ (hs : Sim P ρ h B w) (ht : TR ρ tm a.tmps) {ao : AOp} (htr : trOp P o.op = some ao) (hcl : ao.cls = .q) {av : AV} (he : evalQ ao tm h = some av)
  {ro:Option Nat} {K:Act -> World -> Prop} {Q:Exit -> Act -> World -> Prop} (hk:∀ v,VR ρ av v -> K (a.put o.dst v) w):o.wpIn (FF ro) 0 P a w K Q:=by
 refine ⟨fun _ _ => trivial,?_⟩
 rw [Oper.semAt_eq _ _ _ (trOp_defer htr)]
 obtain ⟨v,h1,h2⟩:=q_sound hs ht htr hcl he
 rw [h1]
 exact hk v h2
theorem opA {ρ0 : Rho} {h0 : AHeap} {w0 : World} (s : Stp P B ρ0 h0 w0 ρ h w) (ht : TR ρ tm a.tmps) {ao : AOp} (htr : trOp P o.op = some ao) {hh : AHeap} {b : AObj} {av : AV} (he : evalA ao tm hh = some (b, av))
  (hi:ρ hh.next = none) (h0i:h0.next <= hh.next) (hlt:hh.next < h.next) (hg:h.get hh.next = some b)
  {ro:Option Nat} {K:Act -> World -> Prop} {Q:Exit -> Act -> World -> Prop} (hk:∀ v p w',VR (upd ρ hh.next p) av v -> Stp P B ρ0 h0 w0 (upd ρ hh.next p) h w' -> K (a.put o.dst v) w'):o.wpIn (FF ro) 0 P a w K Q:=by
 refine ⟨fun _ _ => trivial,?_⟩
 rw [Oper.semAt_eq _ _ _ (trOp_defer htr)]
 obtain ⟨v,p,w',h1,h2,h3⟩:=a_sound s ht htr he hi h0i hlt hg
 rw [h1]
 exact hk v p w' h3 h2
theorem TR.putD (ht:TR ρ tm a.tmps) (d:Option Nat) {av:AV} {v:Value} (hv:VR ρ av v):TR ρ (putD tm d av) (a.put d v).tmps:=by
 cases d with
 | none => exact ht
 | some t => exact ht.put t hv
theorem put_defers (a:Act) (d:Option Nat) (v:Value):(a.put d v).defers = a.defers:=by cases d <;> rfl
theorem wanted_sound (ht:TR ρ tm a.tmps) {ops:Array Oper} {o:Oper} {ao:AOper} (htr:trOper P ops o = some ao):Region.wanted o (yielded ops a.tmps) = wanted tm ao.guard:=by
 unfold trOper at htr
 unfold Region.wanted
 cases hg:o.guard with
 | none => rw [hg] at htr; cases htr; rfl
 | some p =>
  obtain ⟨j,want⟩:=p
  rw [hg] at htr
  simp only at htr
  split at htr <;> cases htr
  rename_i t hd
  have hv:=ht.nth t
  have hl:=VRs.length ht
  show (yielded ops a.tmps j == some want) = (match nth tm t with | .bool b => b == want | _ => false)
  unfold yielded
  rw [hd]
  simp only [Option.bind_some]
  cases hx:a.tmps[t]? with
  | none =>
   have e:a.tmps.getD t undef = undef:=by simp [Array.getD_eq_getD_getElem?,hx]
   rw [e] at hv
   cases hn:nth tm t <;> rw [hn] at hv <;> cases hv <;> rfl
  | some x =>
   have e:a.tmps.getD t undef = x:=by simp [Array.getD_eq_getD_getElem?,hx]
   rw [e] at hv
   cases hn:nth tm t with
   | bool b => rw [hn] at hv; cases hv; cases b <;> cases want <;> rfl
   | _ => rw [hn] at hv; cases hv <;> rfl
theorem trOper_op {ops:Array Oper} {ao:AOper} (htr:trOper P ops o = some ao):ao.dst = o.dst /\ (trOp P o.op = some ao.op \/ ao.op = bad):=by
 unfold trOper at htr
 split at htr
 ·cases htr
  refine ⟨rfl,?_⟩
  cases h:trOp P o.op with
  | none => exact .inr rfl
  | some x => exact .inl rfl
 ·split at htr <;> cases htr
  refine ⟨rfl,?_⟩
  cases h:trOp P o.op with
  | none => exact .inr rfl
  | some x => exact .inl rfl
theorem opStep (hs : Sim P ρ h B w) (ht : TR ρ tm a.tmps) {ops : Array Oper} {ao : AOper} (htr : trOper P ops o = some ao) {call : CallT} (hc : CallOK P call) {s' : St} (he : step1 ao call ⟨tm, h⟩ = some s')
  {ro:Option Nat} {K:Act -> World -> Prop} {Q:Exit -> Act -> World -> Prop} (hk:∀ v ρ' w',TR ρ' s'.tm (a.put o.dst v).tmps -> Stp P B ρ h w ρ' s'.h w' -> K (a.put o.dst v) w'):o.wpIn (FF ro) 0 P a w K Q:=by
 obtain ⟨hd,hop⟩:=trOper_op htr
 rcases hop with hop | hop
 ·cases hcl:ao.op.cls with
  | q =>
   rw [step1_q hcl] at he
   split at he <;> cases he
   rename_i av hev
   refine opQ hs ht hop hcl hev fun v hv => ?_
   rw [hd] at hk
   exact hk v ρ w (ht.putD _ hv) (Stp.refl hs)
  | a =>
   rw [step1_a hcl] at he
   split at he <;> cases he
   rename_i b av hev
   have hnone:ρ h.next = none:=by
    cases e:ρ h.next with
    | none => rfl
    | some q => exact absurd (hs.dom _ _ e) (Nat.lt_irrefl _)
   refine opA ((Stp.refl hs).ghost b) ht hop hev hnone (Nat.le_refl _) (by simp) (AHeap.get_push_same _ _) fun v p w' hv hst => ?_
   rw [hd] at hk
   exact hk v _ w' ((ht.mono hst.ext).putD _ hv) hst
  | e =>
   rw [step1_e hcl] at he
   split at he <;> cases he
   rename_i av h' hev
   refine opE hs ht hop hc hev fun v ρ' w' hv hst => ?_
   rw [hd] at hk
   exact hk v ρ' w' ((ht.mono hst.ext).putD _ hv) hst
 ·have hcl:ao.op.cls = .q:=by rw [hop]; rfl
  rw [step1_q hcl,hop,bad_eval] at he
  cases he
theorem trOpers_get {ops:Array Oper}:∀ {l:List Oper} {al:List AOper},trOpers P ops l = some al -> al.length = l.length /\ ∀ (k:Nat) o,l[k]? = some o -> ∃ ao,al[k]? = some ao /\ trOper P ops o = some ao
 | [],al,h => by cases h; exact ⟨rfl,fun k o hk => by simp at hk⟩
 | o :: r,al,h => by
  simp only [trOpers] at h
  split at h <;> cases h
  rename_i ao l h1 h2
  obtain ⟨e1,e2⟩:=trOpers_get h2
  refine ⟨by simp [e1],fun k o' hk => ?_⟩
  cases k with
  | zero => simp at hk; subst hk; exact ⟨ao,rfl,h1⟩
  | succ k => simpa using e2 k o' (by simpa using hk)
theorem ops_sound {ops : Array Oper} {call : CallT} (hc : CallOK P call) {ro : Option Nat} {Q : Exit -> Act -> World -> Prop} : ∀ (n j : Nat) (al : List AOper) {ρ : Rho} {tm : List AV} {h : AHeap} {w : World} {a : Act} {s' : St},
  j + n = ops.size -> al.length = n -> (∀ (k:Nat) o,k < n -> ops[j + k]? = some o -> ∃ ao,al[k]? = some ao /\ trOper P ops o = some ao) -> Sim P ρ h B w -> TR ρ tm a.tmps -> runOps al call ⟨tm,h⟩ = some s' ->
  (∀ ρ' a' w',a'.defers = a.defers -> TR ρ' s'.tm a'.tmps -> Stp P B ρ h w ρ' s'.h w' -> Q .normal a' w') -> wpOpsIn (FF ro) 0 P ops Q (List.range' j n) a w
 | 0,j,al, ρ,tm,h,w,a,s',_,hl,_,hs,ht,hr,hq => by
  obtain rfl:=List.eq_nil_of_length_eq_zero hl
  rw [runOps_nil] at hr; cases hr
  exact hq ρ a w rfl ht (Stp.refl hs)
 | n + 1,j,al, ρ,tm,h,w,a,s',hj,hl,hget,hs,ht,hr,hq => by
  cases al with
  | nil => simp at hl
  | cons ao al =>
   have hjlt:j < ops.size:=by omega
   obtain ⟨ao',e1,e2⟩:=hget 0 ops[j] (by omega) (by simp [hjlt])
   simp at e1; subst e1
   rw [List.range'_succ]
   simp only [wpOpsIn,Array.getElem?_eq_getElem hjlt]
   rw [runOps_cons] at hr
   rw [wanted_sound ht e2]
   have hrest:∀ (k:Nat) o,k < n -> ops[j + 1 + k]? = some o -> ∃ ao,al[k]? = some ao /\ trOper P ops o = some ao:=fun k o hk ho => by
    have:=hget (k + 1) o (by omega) (by rw [show j + (k + 1) = j + 1 + k by omega]; exact ho)
    simpa using this
   by_cases hw:wanted tm ao.guard = true
   ·simp only [hw,if_true] at hr ⊢
    cases hst:step1 ao call ⟨tm,h⟩ with
    | none => rw [hst] at hr; cases hr
    | some s1 =>
     rw [hst] at hr
     obtain ⟨tm1,h1⟩:=s1
     refine opStep hs ht e2 hc hst fun v ρ' w' ht' hst' => ?_
     refine ops_sound hc n (j + 1) al (by omega) (by simpa using hl) hrest hst'.sim ht' hr fun ρ2 a2 w2 hd2 ht2 hst2 => ?_
     exact hq ρ2 a2 w2 (by rw [hd2,put_defers]) ht2 (hst'.trans hst2)
   ·simp only [hw] at hr ⊢
    refine ⟨fun _ _ => trivial,?_⟩
    refine ops_sound hc n (j + 1) al (by omega) (by simpa using hl) hrest hs (by rw [<- (trOper_op e2).1]; exact ht.putD ao.dst VR.undef) hr fun ρ2 a2 w2 hd2 ht2 hst2 => ?_
    exact hq ρ2 a2 w2 (by rw [hd2,put_defers]) ht2 hst2
end
end Go.AM
namespace Go.AM
open Go
def isEo (o:AOper):Bool:=match o.op.cls with | .e => true | _ => false
theorem isEo_true {o:AOper} (h:isEo o = true):o.op.cls = .e:=by unfold isEo at h; split at h <;> first | assumption | cases h
theorem isEo_false {o:AOper} (h:isEo o = false):o.op.cls ≠ .e:=by intro e; simp [isEo,e] at h
noncomputable def outOf (o:AOper) (s:St):AV:=match o.dst with | some d => nth s.tm d | none => aundef
def StepR (o:AOper) (call:CallT) (s s':St):Prop:=if wanted s.tm o.guard = true then step1 o call s = some s' else s' = ⟨putD s.tm o.dst aundef,s.h⟩
theorem putD_length (tm:List AV) (d:Option Nat) (v:AV):(putD tm d v).length = tm.length:=by
 cases d with
 | none => rfl
 | some d => simp [putD,put_eq]
theorem putD_nth_ne {tm:List AV} {d:Option Nat} {v:AV} {t:Nat} (h:d ≠ some t):nth (putD tm d v) t = nth tm t:=by
 cases d with
 | none => rfl
 | some d =>
  have hne:d ≠ t:=fun e => h (by rw [e])
  simp only [putD,put_eq,nth_eq,List.getD_eq_getElem?_getD,List.getElem?_set_ne hne]
theorem putD_nth_self {tm tm':List AV} {t:Nat} {v:AV} (hl:tm.length = tm'.length):nth (putD tm (some t) v) t = nth (putD tm' (some t) v) t:=by
 simp only [putD,put_eq,nth_eq,List.getD_eq_getElem?_getD]
 by_cases h:t < tm.length
 ·rw [List.getElem?_set_self h,List.getElem?_set_self (by omega)]
 ·rw [List.getElem?_eq_none (by simp; omega),List.getElem?_eq_none (by simp; omega)]
theorem putD_outOf {tm:List AV} {o:AOper} {v:AV} {h:AHeap}:putD tm o.dst (outOf o ⟨putD tm o.dst v,h⟩) = putD tm o.dst v:=by
 cases hd:o.dst with
 | none => rfl
 | some d =>
  simp only [outOf,hd,putD,put_eq,nth_eq,List.getD_eq_getElem?_getD]
  by_cases hlt:d < tm.length
  ·rw [List.getElem?_set_self hlt]; rfl
  ·rw [List.set_eq_of_length_le (by omega),List.set_eq_of_length_le (by omega)]
theorem StepR.spec {o : AOper} {call : CallT} {s s' : St} (h : StepR o call s s') :
  (wanted s.tm o.guard = true /\ o.op.cls = .q /\ ∃ v,evalQ o.op s.tm s.h = some v /\ s' = ⟨putD s.tm o.dst v,s.h⟩) \/
  (wanted s.tm o.guard = true /\ o.op.cls = .a /\ ∃ b v,evalA o.op s.tm s.h = some (b,v) /\ s' = ⟨putD s.tm o.dst v,s.h.push b⟩) \/
  (wanted s.tm o.guard = true /\ o.op.cls = .e /\ ∃ v h',evalE o.op call s.tm s.h = some (v,h') /\ s' = ⟨putD s.tm o.dst v,h'⟩) \/
  (wanted s.tm o.guard = false /\ s' = ⟨putD s.tm o.dst aundef,s.h⟩):=by
 unfold StepR at h
 by_cases hw:wanted s.tm o.guard = true
 ·rw [if_pos hw] at h
  cases hc:o.op.cls with
  | q =>
   rw [step1_q hc] at h
   split at h <;> cases h
   rename_i v hv
   exact .inl ⟨hw,rfl,v,hv,rfl⟩
  | a =>
   rw [step1_a hc] at h
   split at h <;> cases h
   rename_i b v hv
   exact .inr (.inl ⟨hw,rfl,b,v,hv,rfl⟩)
  | e =>
   rw [step1_e hc] at h
   split at h <;> cases h
   rename_i v h' hv
   exact .inr (.inr (.inl ⟨hw,rfl,v,h',hv,rfl⟩))
 ·rw [if_neg hw] at h
  exact .inr (.inr (.inr ⟨by simpa using hw,h⟩))
theorem StepR.tm {o:AOper} {call:CallT} {s s':St} (h:StepR o call s s'):∃ v,s'.tm = putD s.tm o.dst v:=by
 rcases h.spec with ⟨_,_,v,_,e⟩ | ⟨_,_,_,v,_,e⟩ | ⟨_,_,v,_,_,e⟩ | ⟨_,e⟩ <;> exact ⟨_,by rw [e]⟩
structure Draw (P:Program) (ops:Array Oper) (call:CallT) where
 N:Nat
 idx:Nat -> Nat
 ao:Nat -> AOper
 cnt:Nat -> Nat
 nE:Nat -> Nat -> Nat
 bit:Nat -> Nat -> Prop
 S:Nat -> St
 get:∀ k,k < N -> ∃ o,ops[idx k]? = some o /\ trOper P ops o = some (ao k)
 inj:∀ k k',k < N -> k' < N -> idx k = idx k' -> k = k'
 surj:∀ i,i < ops.size -> ∃ k,k < N /\ idx k = i
 closed:∀ i o,ops[i]? = some o -> ∀ j,bit j i -> ∃ e ∈ o.after,Region.binds .any e = true /\ (j = e.on \/ bit j e.on)
 seq:∀ k,k < N -> ∀ o,ops[idx k]? = some o -> ∀ e ∈ o.after,Region.binds .any e = true -> ∃ k',k' < k /\ idx k' = e.on
 pair:∀ k k',k < k' -> k' < N -> isEo (ao k) = true \/ confl (ao k) (ao k') = true -> bit (idx k) (idx k')
 stay:∀ k m,k < m -> m < N -> isEo (ao m) = true -> isEo (ao k) = false -> (ao k).op.reads = true -> (∀ m',k < m' -> m' <= m -> isEo (ao m') = true -> ¬ bit (idx k) (idx m')) -> nE (k + 1) m < cnt k
 step:∀ k,k < N -> StepR (ao k) call (S k) (S (k + 1))
 chk:∀ k m,k < m -> m < N -> isEo (ao k) = false -> wanted (S k).tm (ao k).guard = true -> isEo (ao m) = true -> wanted (S m).tm (ao m).guard = true -> nE (k + 1) m < cnt k ->
  recheck (ao k) (S k).tm (S k).h (outOf (ao k) (S (k + 1))) (S (m + 1)).h = true
section
variable {P:Program} {ops:Array Oper} {call:CallT} (d:Draw P ops call)
theorem Draw.len (k:Nat) (hk:k <= d.N):(d.S k).tm.length = (d.S 0).tm.length:=by
 induction k with
 | zero => rfl
 | succ k ih =>
  obtain ⟨v,e⟩:=(d.step k hk).tm
  rw [e,putD_length,ih (by omega)]
theorem Draw.same (t i k:Nat) (hik:i ≤ k) (hk:k ≤ d.N) (h:∀ j,i ≤ j → j < k → (d.ao j).dst ≠ some t):nth (d.S k).tm t = nth (d.S i).tm t:=by
  induction k with
  | zero => have : i = 0 := by omega
            rw [this]
  | succ k ih =>
    by_cases e:i = k + 1
    · rw [e]
    · obtain ⟨v,ev⟩:=(d.step k (by omega)).tm
      rw [ev,putD_nth_ne (h k (by omega) (by omega))]
      exact ih (by omega) (by omega) fun j h1 h2 => h j h1 (by omega)
structure Draw.At (B:Nat) (ρ0:Rho) (h0:AHeap) (w0:World) (D:Nat -> Prop) (j:Nat) (ρ:Rho) (w:World):Prop where
 le:j <= d.N
 ahead:∀ k,k < j -> isEo (d.ao k) = true -> D (d.idx k)
 behind:∀ k,j <= k -> k < d.N -> ¬ D (d.idx k)
 stp:Stp P B ρ0 h0 w0 ρ (d.S j).h w
 ghost:∀ k,k < j -> ¬ D (d.idx k) -> (d.ao k).op.cls = .a -> wanted (d.S k).tm (d.ao k).guard = true -> ρ (d.S k).h.next = none
 mono:∀ i k,i <= k -> k <= j -> (d.S i).h.next <= (d.S k).h.next
 pendQ:∀ k,k < j -> ¬ D (d.idx k) -> (d.ao k).op.cls = .q -> wanted (d.S k).tm (d.ao k).guard = true -> ∃ v,evalQ (d.ao k).op (d.S k).tm (d.S j).h = some v /\ putD (d.S k).tm (d.ao k).dst v = (d.S (k + 1)).tm
 pendA:∀ k,k < j -> ¬ D (d.idx k) -> (d.ao k).op.cls = .a -> wanted (d.S k).tm (d.ao k).guard = true -> ∃ b v,evalA (d.ao k).op (d.S k).tm (d.S k).h = some (b,v) /\ putD (d.S k).tm (d.ao k).dst v = (d.S (k + 1)).tm /\ (d.S j).h.get (d.S k).h.next = some b
theorem noDom {P:Program} {B:Nat} {ρ:Rho} {h:AHeap} {w:World} (hs:Sim P ρ h B w):ρ h.next = none:=by
 cases e:ρ h.next with
 | none => rfl
 | some q => exact absurd (hs.dom _ _ e) (Nat.lt_irrefl _)
theorem Draw.At.adv {B:Nat} {ρ0:Rho} {h0:AHeap} {w0:World} {D:Nat -> Prop} {j:Nat} {ρ:Rho} {w:World} (A:d.At B ρ0 h0 w0 D j ρ w) (hj:j < d.N) (hE:isEo (d.ao j) = false):d.At B ρ0 h0 w0 D (j + 1) ρ w:=by
 have hne:=isEo_false hE
 have ahead':∀ k,k < j + 1 -> isEo (d.ao k) = true -> D (d.idx k):=fun k hk he => by
  by_cases e:k = j
  ·subst e; rw [hE] at he; cases he
  ·exact A.ahead k (by omega) he
 have behind':∀ k,j + 1 <= k -> k < d.N -> ¬ D (d.idx k):=fun k h1 h2 => A.behind k (by omega) h2
 rcases (d.step j hj).spec with ⟨hw,hcl,v,hv,e⟩ | ⟨hw,hcl,b,v,hv,e⟩ | ⟨hw,hcl,v,h',hv,e⟩ | ⟨hw,e⟩
 ·have eh:(d.S (j + 1)).h = (d.S j).h:=by rw [e]
  refine ⟨hj,ahead',behind',by rw [eh]; exact A.stp,?_,?_,?_,?_⟩
  ·intro k hk hD hc hwk
   by_cases ek:k = j
   ·subst ek; rw [hcl] at hc; cases hc
   ·exact A.ghost k (by omega) hD hc hwk
  ·intro i k h1 h2
   by_cases ek:k = j + 1
   ·subst ek
    rw [eh]
    by_cases ei:i = j + 1
    ·subst ei; rw [eh]; exact Nat.le_refl _
    ·exact A.mono i j (by omega) (Nat.le_refl _)
   ·exact A.mono i k h1 (by omega)
  ·intro k hk hD hc hwk
   rw [eh]
   by_cases ek:k = j
   ·subst ek; exact ⟨v,hv,by rw [e]⟩
   ·exact A.pendQ k (by omega) hD hc hwk
  ·intro k hk hD hc hwk
   rw [eh]
   by_cases ek:k = j
   ·subst ek; rw [hcl] at hc; cases hc
   ·exact A.pendA k (by omega) hD hc hwk
 ·have eh:(d.S (j + 1)).h = (d.S j).h.push b:=by rw [e]
  have hgr:=A.stp.sim.tidy.grown b
  refine ⟨hj,ahead',behind',by rw [eh]; exact A.stp.ghost b,?_,?_,?_,?_⟩
  ·intro k hk hD hc hwk
   by_cases ek:k = j
   ·subst ek; exact noDom A.stp.sim
   ·exact A.ghost k (by omega) hD hc hwk
  ·intro i k h1 h2
   by_cases ek:k = j + 1
   ·subst ek
    by_cases ei:i = j + 1
    ·subst ei; exact Nat.le_refl _
    ·rw [eh]; exact Nat.le_trans (A.mono i j (by omega) (Nat.le_refl _)) (by simp)
   ·exact A.mono i k h1 (by omega)
  ·intro k hk hD hc hwk
   rw [eh]
   by_cases ek:k = j
   ·subst ek; rw [hcl] at hc; cases hc
   ·obtain ⟨v',h1,h2⟩:=A.pendQ k (by omega) hD hc hwk
    exact ⟨v',evalQ_grown hgr h1,h2⟩
  ·intro k hk hD hc hwk
   rw [eh]
   by_cases ek:k = j
   ·subst ek; exact ⟨b,v,hv,by rw [e],AHeap.get_push_same _ _⟩
   ·obtain ⟨b',v',h1,h2,h3⟩:=A.pendA k (by omega) hD hc hwk
    exact ⟨b',v',h1,h2,hgr _ _ h3⟩
 ·exact absurd hcl hne
 ·have eh:(d.S (j + 1)).h = (d.S j).h:=by rw [e]
  refine ⟨hj,ahead',behind',by rw [eh]; exact A.stp,?_,?_,?_,?_⟩
  ·intro k hk hD hc hwk
   by_cases ek:k = j
   ·subst ek; rw [hw] at hwk; cases hwk
   ·exact A.ghost k (by omega) hD hc hwk
  ·intro i k h1 h2
   by_cases ek:k = j + 1
   ·subst ek
    rw [eh]
    by_cases ei:i = j + 1
    ·subst ei; rw [eh]; exact Nat.le_refl _
    ·exact A.mono i j (by omega) (Nat.le_refl _)
   ·exact A.mono i k h1 (by omega)
  ·intro k hk hD hc hwk
   rw [eh]
   by_cases ek:k = j
   ·subst ek; rw [hw] at hwk; cases hwk
   ·exact A.pendQ k (by omega) hD hc hwk
  ·intro k hk hD hc hwk
   rw [eh]
   by_cases ek:k = j
   ·subst ek; rw [hw] at hwk; cases hwk
   ·exact A.pendA k (by omega) hD hc hwk
theorem Draw.At.run {B:Nat} {ρ0:Rho} {h0:AHeap} {w0:World} {D:Nat -> Prop} {ρ:Rho} {w:World}:∀ (n j:Nat),j + n = d.N -> d.At B ρ0 h0 w0 D j ρ w -> ∃ m,d.At B ρ0 h0 w0 D m ρ w /\ (m = d.N \/ (m < d.N /\ isEo (d.ao m) = true))
 | 0,j,hj,A => ⟨j,A, .inl (by omega)⟩
 | n + 1,j,hj,A => by
  cases hE:isEo (d.ao j) with
  | true => exact ⟨j,A, .inr ⟨by omega,hE⟩⟩
  | false => exact Draw.At.run n (j + 1) (by omega) (A.adv d (by omega) hE)
structure Draw.Tm (D:Nat -> Prop) (tmA:List AV):Prop where
 len:tmA.length = (d.S 0).tm.length
 val:∀ t,(∃ k,k < d.N /\ D (d.idx k) /\ (d.ao k).dst = some t /\ nth tmA t = nth (d.S (k + 1)).tm t /\ ∀ k',k < k' -> k' < d.N -> D (d.idx k') -> (d.ao k').dst ≠ some t) \/
  ((∀ k,k < d.N -> D (d.idx k) -> (d.ao k).dst ≠ some t) /\ nth tmA t = nth (d.S 0).tm t)
def Draw.Cl (D:Nat -> Prop):Prop:=∀ i,D i -> ∀ j,d.bit j i -> D j
theorem looks_true {dd:Option Nat} {ts:List Nat} {t:Nat} (hd:dd = some t) (ht:t ∈ ts):looks dd ts = true:=by
 subst hd
 simp only [looks,List.any_eq_true]
 exact ⟨t,ht,Nat.beq_refl t⟩
theorem confl_w {x y:AOper} {t:Nat} (hd:x.dst = some t) (ht:t ∈ y.temps):confl x y = true:=by
 simp [confl,looks_true hd ht]
theorem confl_r {x y:AOper} {t:Nat} (hd:y.dst = some t) (ht:t ∈ x.temps):confl x y = true:=by
 simp [confl,looks_true hd ht]
theorem confl_d {x y:AOper} {t:Nat} (hd:x.dst = some t) (hd':y.dst = some t):confl x y = true:=by
 simp [confl,optEq,hd,hd',Nat.beq_refl]
theorem Draw.Tm.reads {D:Nat -> Prop} {tmA:List AV} (T:d.Tm D tmA) (hcl:d.Cl D) {k:Nat} (hk:k < d.N) (hnD:¬ D (d.idx k)) (hr:∀ j,d.bit j (d.idx k) -> D j):∀ t ∈ (d.ao k).temps,nth (d.S k).tm t = nth tmA t:=by
 intro t ht
 have before:∀ k',k' < k -> (d.ao k').dst = some t -> D (d.idx k'):=fun k' h1 h2 => hr _ (d.pair k' k h1 hk (.inr (confl_w h2 ht)))
 have after:∀ k',k < k' -> k' < d.N -> (d.ao k').dst = some t -> ¬ D (d.idx k'):=fun k' h1 h2 h3 h4 => hnD (hcl _ h4 _ (d.pair k k' h1 h2 (.inr (confl_r h3 ht))))
 rcases T.val t with ⟨k',h1,h2,h3,h4,h5⟩ | ⟨h1,h2⟩
 ·have hlt : k' < k := by
   rcases Nat.lt_trichotomy k' k with h | h | h
   ·exact h
   ·subst h; exact absurd h2 hnD
   ·exact absurd h2 (after k' h h1 h3)
  rw [h4]
  refine d.same t (k' + 1) k (by omega) (by omega) fun j g1 g2 g3 => ?_
  exact h5 j (by omega) (by omega) (before j g2 g3) g3
 ·rw [h2]
  refine d.same t 0 k (Nat.zero_le _) (by omega) fun j g1 g2 g3 => ?_
  exact h1 j (by omega) (before j g2 g3) g3
theorem Draw.Tm.put {D : Nat -> Prop} {tmA : List AV} (T : d.Tm D tmA) (hcl : d.Cl D) {k : Nat} (hk : k < d.N) (hnD : ¬ D (d.idx k)) {v : AV} (hv : (d.S (k + 1)).tm = putD (d.S k).tm (d.ao k).dst v) :
  d.Tm (fun i => i = d.idx k \/ D i) (putD tmA (d.ao k).dst v):=by
 have hinj:∀ k',k' < d.N -> (d.idx k' = d.idx k \/ D (d.idx k')) -> k' ≠ k -> D (d.idx k'):=fun k' h1 h2 h3 => by
  rcases h2 with h2 | h2
  ·exact absurd (d.inj _ _ h1 hk h2) h3
  ·exact h2
 refine ⟨by rw [putD_length]; exact T.len,fun t => ?_⟩
 by_cases e:(d.ao k).dst = some t
 ·refine .inl ⟨k,hk, .inl rfl,e,?_,fun k' h1 h2 h3 h4 => ?_⟩
  ·rw [hv,e]; exact putD_nth_self (by rw [T.len,d.len k (by omega)])
  ·have:=hinj k' h2 h3 (by omega)
   exact hnD (hcl _ this _ (d.pair k k' h1 h2 (.inr (confl_d e h4))))
 ·rw [putD_nth_ne e]
  rcases T.val t with ⟨k',h1,h2,h3,h4,h5⟩ | ⟨h1,h2⟩
  ·refine .inl ⟨k',h1, .inr h2,h3,h4,fun k2 g1 g2 g3 g4 => ?_⟩
   by_cases ek:k2 = k
   ·subst ek; exact e g4
   ·exact h5 k2 g1 g2 (hinj k2 g2 g3 ek) g4
  ·refine .inr ⟨fun k2 g1 g2 g3 => ?_,h2⟩
   by_cases ek:k2 = k
   ·subst ek; exact e g3
   ·exact h1 k2 g1 (hinj k2 g1 g2 ek) g3
theorem Draw.Tm.all {D:Nat -> Prop} {tmA:List AV} (T:d.Tm D tmA) (hall:∀ k,k < d.N -> D (d.idx k)):tmA = (d.S d.N).tm:=by
 have hlen:tmA.length = (d.S d.N).tm.length:=by rw [T.len,d.len d.N (Nat.le_refl _)]
 apply List.ext_getElem hlen
 intro t h1 h2
 have key:nth tmA t = nth (d.S d.N).tm t:=by
  rcases T.val t with ⟨k,g1,_,_,g4,g5⟩ | ⟨g1,g2⟩
  ·rw [g4]
   exact (d.same t (k + 1) d.N (by omega) (Nat.le_refl _) fun j q1 q2 q3 => g5 j (by omega) q2 (hall j q2) q3).symm
  ·rw [g2]
   exact (d.same t 0 d.N (Nat.zero_le _) (Nat.le_refl _) fun j q1 q2 q3 => g1 j q2 (hall j q2) q3).symm
 simpa [nth_eq,List.getD_eq_getElem?_getD,h1,h2] using key
end
end Go.AM
namespace Go.AM
open Go
theorem wanted_congr {tm tm':List AV} {o:AOper} (h:∀ t ∈ o.temps,nth tm t = nth tm' t):wanted tm o.guard = wanted tm' o.guard:=by
 cases hg:o.guard with
 | none => rfl
 | some p =>
  obtain ⟨t,want⟩:=p
  have:=h t (by simp [AOper.temps,hg])
  show (match nth tm t with | .bool b => b == want | _ => false) = (match nth tm' t with | .bool b => b == want | _ => false)
  rw [this]
theorem temps_op {o:AOper} {t:Nat} (h:t ∈ o.op.temps):t ∈ o.temps:=by
 unfold AOper.temps; split
 ·exact List.mem_cons_of_mem _ h
 ·exact h
theorem AObj.beqC_eq {x:Option AObj} {y:AObj} (h:AObj.beqC x y = true):x = some y:=by
 unfold AObj.beqC at h
 split at h
 ·simp only [Bool.and_eq_true] at h
  obtain ⟨h1,h2⟩:=h
  rw [AV.eqs_of_beqs h1,eq_of_beq h2]
 ·rfl
 ·cases h
theorem count_set:∀ {l:List Bool} {i:Nat},l[i]? = some false -> (l.set i true).countP (fun b => !b) + 1 = l.countP (fun b => !b)
 | [],i,h => by simp at h
 | b :: l,0,h => by simp at h; subst h; simp
 | b :: l,i + 1,h => by
  have:=count_set (l:=l) (i:=i) (by simpa using h)
  simp only [List.set_cons_succ,List.countP_cons]
  omega
abbrev Dn (listed:Array Bool):Nat -> Prop:=fun i => listed.getD i false = true
theorem Dn_set {listed:Array Bool} {i:Nat} (hi:i < listed.size):Dn (listed.setIfInBounds i true) = fun j => j = i \/ Dn listed j:=by
 funext j
 apply propext
 simp only [Dn,Array.getD_eq_getD_getElem?]
 by_cases e:j = i
 ·subst e; simp [hi]
 ·rw [Array.getElem?_setIfInBounds_ne (Ne.symm e)]; simp [e]
section
variable {P:Program} {ops:Array Oper} {call:CallT} (d:Draw P ops call) {B:Nat} {ρ0:Rho} {h0:AHeap} {w0:World}
theorem Draw.At.more {D : Nat -> Prop} {m : Nat} {ρ : Rho} {w : World} (A : d.At B ρ0 h0 w0 D m ρ w) {k : Nat} (hk : k < m) {ρ' : Rho} {w' : World} (hst : Stp P B ρ0 h0 w0 ρ' (d.S m).h w')
  (hgh:∀ k',k' < m -> k' ≠ k -> (d.ao k').op.cls = .a -> wanted (d.S k').tm (d.ao k').guard = true -> ρ (d.S k').h.next = none -> ρ' (d.S k').h.next = none):d.At B ρ0 h0 w0 (fun i => i = d.idx k \/ D i) m ρ' w' where
 le:=A.le
 ahead:=fun k' h1 h2 => .inr (A.ahead k' h1 h2)
 behind:=fun k' h1 h2 h3 => by
  rcases h3 with h3 | h3
  ·have:=d.inj k' k h2 (by have:=A.le; omega) h3; omega
  ·exact A.behind k' h1 h2 h3
 stp:=hst
 ghost:=fun k' h1 h2 h3 h4 => hgh k' h1 (fun e => h2 (.inl (by rw [e]))) h3 h4 (A.ghost k' h1 (fun e => h2 (.inr e)) h3 h4)
 mono:=A.mono
 pendQ:=fun k' h1 h2 h3 h4 => A.pendQ k' h1 (fun e => h2 (.inr e)) h3 h4
 pendA:=fun k' h1 h2 h3 h4 => A.pendA k' h1 (fun e => h2 (.inr e)) h3 h4
theorem Draw.next_a {k:Nat} (hk:k < d.N) (hc:(d.ao k).op.cls = .a) (hw:wanted (d.S k).tm (d.ao k).guard = true):(d.S (k + 1)).h.next = (d.S k).h.next + 1:=by
 rcases (d.step k hk).spec with ⟨_,hcl,_⟩ | ⟨_,_,b,v,_,e⟩ | ⟨_,hcl,_⟩ | ⟨hw',_⟩
 ·rw [hc] at hcl; cases hcl
 ·rw [e]; rfl
 ·rw [hc] at hcl; cases hcl
 ·rw [hw] at hw'; cases hw'
theorem Draw.At.turn {D : Nat -> Prop} {m : Nat} {ρ : Rho} {w : World} (A : d.At B ρ0 h0 w0 D m ρ w) (hm : m < d.N) (hE : isEo (d.ao m) = true) (hcl : d.Cl D) (hrd : ∀ j, d.bit j (d.idx m) -> D j) {ρ' : Rho} {w' : World}
  (hst:Stp P B ρ (d.S m).h w ρ' (d.S (m + 1)).h w') (hsame:wanted (d.S m).tm (d.ao m).guard = false -> (d.S (m + 1)).h = (d.S m).h):d.At B ρ0 h0 w0 (fun i => i = d.idx m \/ D i) (m + 1) ρ' w' where
 le:=hm
 ahead:=fun k h1 h2 => by
  by_cases e:k = m
  ·exact .inl (by rw [e])
  ·exact .inr (A.ahead k (by omega) h2)
 behind:=fun k h1 h2 h3 => by
  rcases h3 with h3 | h3
  ·have:=d.inj k m h2 hm h3; omega
  ·exact A.behind k (by omega) h2 h3
 stp:=A.stp.trans hst
 ghost:=fun k h1 h2 h3 h4 => by
  have hkm:k < m:=by
   have:k ≠ m:=fun e => h2 (.inl (by rw [e]))
   omega
  have h5:=A.ghost k hkm (fun e => h2 (.inr e)) h3 h4
  have h6:=d.next_a (by omega) h3 h4
  have h7:=A.mono (k + 1) m hkm (Nat.le_refl _)
  cases e:ρ' (d.S k).h.next with
  | none => rfl
  | some p =>
   rcases hst.fresh _ _ e with h8 | h8
   ·rw [h5] at h8; cases h8
   ·omega
 mono:=fun i k h1 h2 => by
  by_cases e:k = m + 1
  ·subst e
   by_cases ei:i = m + 1
   ·subst ei; exact Nat.le_refl _
   ·exact Nat.le_trans (A.mono i m (by omega) (Nat.le_refl _)) hst.next
  ·exact A.mono i k h1 (by omega)
 pendQ:=fun k h1 h2 h3 h4 => by
  have hkm:k < m:=by
   have:k ≠ m:=fun e => h2 (.inl (by rw [e]))
   omega
  have hnD:¬ D (d.idx k):=fun e => h2 (.inr e)
  obtain ⟨v,q1,q2⟩:=A.pendQ k hkm hnD h3 h4
  cases hr:(d.ao k).op.reads with
  | false => exact ⟨v,by rw [<- q1]; exact evalQ_noreads hr,q2⟩
  | true =>
   cases hwm:wanted (d.S m).tm (d.ao m).guard with
   | false => exact ⟨v,by rw [hsame hwm]; exact q1,q2⟩
   | true =>
    have hEk:isEo (d.ao k) = false:=by unfold isEo; rw [h3]
    have hcnt:=d.stay k m hkm hm hE hEk hr fun m' g1 g2 g3 g4 => by
     by_cases e:m' = m
     ·subst e; exact hnD (hrd _ g4)
     ·exact hnD (hcl _ (A.ahead m' (by omega) g3) _ g4)
    have hck:=d.chk k m hkm hm hEk h4 hE hwm hcnt
    simp only [recheck,h3] at hck
    split at hck
    ·rename_i v' hv'
     have hv2:=AV.eq_of_beq hck
     refine ⟨v',hv',?_⟩
     rw [hv2]
     obtain ⟨u,hu⟩:=(d.step k (by omega)).tm
     have:outOf (d.ao k) (d.S (k + 1)) = outOf (d.ao k) ⟨putD (d.S k).tm (d.ao k).dst u,(d.S k).h⟩:=by simp only [outOf,hu]
     rw [this,putD_outOf,hu]
    ·cases hck
 pendA:=fun k h1 h2 h3 h4 => by
  have hkm:k < m:=by
   have:k ≠ m:=fun e => h2 (.inl (by rw [e]))
   omega
  have hnD:¬ D (d.idx k):=fun e => h2 (.inr e)
  obtain ⟨b,v,q1,q2,q3⟩:=A.pendA k hkm hnD h3 h4
  cases hwm:wanted (d.S m).tm (d.ao m).guard with
  | false => exact ⟨b,v,q1,q2,by rw [hsame hwm]; exact q3⟩
  | true =>
   have hEk:isEo (d.ao k) = false:=by unfold isEo; rw [h3]
   have hr:(d.ao k).op.reads = true:=by
    revert h3
    cases (d.ao k).op <;> intro h3 <;> first | (cases h3; done) | rfl
   have hcnt:=d.stay k m hkm hm hE hEk hr fun m' g1 g2 g3 g4 => by
    by_cases e:m' = m
    ·subst e; exact hnD (hrd _ g4)
    ·exact hnD (hcl _ (A.ahead m' (by omega) g3) _ g4)
   have hck:=d.chk k m hkm hm hEk h4 hE hwm hcnt
   simp only [recheck,h3,q1] at hck
   exact ⟨b,v,q1,q2,AObj.beqC_eq hck⟩
theorem Draw.sound (hc : CallOK P call) {ro : Option Nat} {Q : Exit -> Act -> World -> Prop} (ds : List Deferred) (h0n : (d.S 0).h.next = h0.next)
  (hq:∀ ρ' a' w',a'.defers = ds -> TR ρ' (d.S d.N).tm a'.tmps -> Stp P B ρ0 h0 w0 ρ' (d.S d.N).h w' -> Q .normal a' w') :
  ∀ (fuel:Nat) (listed:Array Bool) (a:Act) (w:World) (m:Nat) (ρ:Rho) (tmA:List AV),listed.size = ops.size -> listed.toList.countP (fun b => !b) <= fuel -> d.At B ρ0 h0 w0 (Dn listed) m ρ w ->
   (m = d.N \/ (m < d.N /\ isEo (d.ao m) = true)) -> d.Tm (Dn listed) tmA -> d.Cl (Dn listed) -> TR ρ tmA a.tmps -> a.defers = ds -> wpAnyIn (FF ro) 0 P .any ops Q fuel listed a w:=by
 have fin : ∀ (listed : Array Bool) (a : Act) (w : World) (m : Nat) (ρ : Rho) (tmA : List AV), d.At B ρ0 h0 w0 (Dn listed) m ρ w -> (m = d.N \/ (m < d.N /\ isEo (d.ao m) = true)) -> d.Tm (Dn listed) tmA -> TR ρ tmA a.tmps -> a.defers = ds ->
   (∀ k,k < d.N -> Dn listed (d.idx k)) -> Q .normal a w:=by
  intro listed a w m ρ tmA A hm T ht hd hall
  have:m = d.N:=by
   rcases hm with h | ⟨h,_⟩
   ·exact h
   ·exact absurd (hall m h) (A.behind m (Nat.le_refl _) h)
  subst this
  refine hq ρ a w hd ?_ A.stp
  rw [<- T.all d hall]; exact ht
 intro fuel
 induction fuel with
 | zero =>
  intro listed a w m ρ tmA hsz hcount A hm T hcl ht hd
  have hall:∀ i,i < ops.size -> Dn listed i:=by
   intro i hi
   have hc0:listed.toList.countP (fun b => !b) = 0:=by omega
   rw [List.countP_eq_zero] at hc0
   have hi':i < listed.size:=by omega
   have:=hc0 listed[i] (by simp)
   simpa [Dn,hi'] using this
  refine ⟨?_,fin listed a w m ρ tmA A hm T ht hd fun k hk => ?_⟩
  ·simp only [Region.ready,List.filter_eq_nil_iff]
   intro i hi h
   have hi':i < ops.size:=by simpa using hi
   have:=hall i hi'
   have hi2:i < listed.size:=by omega
   simp [Dn,hi2] at this
   simp [hi2,this] at h
  ·obtain ⟨o,ho,_⟩:=d.get k hk
   exact hall _ (Array.getElem?_eq_some_iff.1 ho).1
 | succ fuel ih =>
  intro listed a w m ρ tmA hsz hcount A hm T hcl ht hd
  refine ⟨fun hnil => fin listed a w m ρ tmA A hm T ht hd ?_,fun i hi => ?_⟩
  ·intro k
   induction k using Nat.strongRecOn with
   | ind k ihk =>
    intro hk
    obtain ⟨o,ho,_⟩:=d.get k hk
    have hlt:=(Array.getElem?_eq_some_iff.1 ho).1
    have hlt':d.idx k < listed.size:=by omega
    apply Classical.byContradiction
    intro hnD
    have hmem:d.idx k ∈ Region.ready .any ops listed:=by
     simp only [Region.ready,List.mem_filter,List.mem_range]
     refine ⟨hlt,?_⟩
     have hf:listed[d.idx k] = false:=by simpa [Dn,hlt'] using hnD
     simp only [Bool.and_eq_true,Bool.not_eq_true']
     refine ⟨by simp [hlt',hf],?_⟩
     rw [ho]
     simp only [Option.map_some,Option.getD_some,Array.all_eq_true_iff_forall_mem,Bool.or_eq_true,Bool.not_eq_true']
     intro e he
     cases hb:Region.binds .any e with
     | false => exact .inl rfl
     | true =>
      obtain ⟨k',h1,h2⟩:=d.seq k hk o ho e he hb
      have:=ihk k' h1 (by omega)
      rw [h2] at this
      exact .inr this
    rw [hnil] at hmem
    cases hmem
  ·simp only [Region.ready,List.mem_filter,List.mem_range,Bool.and_eq_true,Bool.not_eq_true'] at hi
   obtain ⟨hlt,hnl,hready⟩:=hi
   have hlt':i < listed.size:=by omega
   have hf:listed[i] = false:=by simpa [hlt'] using hnl
   obtain ⟨k,hk,rfl⟩:=d.surj i hlt
   obtain ⟨o,ho,hao⟩:=d.get k hk
   have hnD:¬ Dn listed (d.idx k):=by simp [Dn,hlt',hf]
   rw [ho] at hready
   simp only [Option.map_some,Option.getD_some,Array.all_eq_true_iff_forall_mem,Bool.or_eq_true,Bool.not_eq_true'] at hready
   have hrd:∀ j,d.bit j (d.idx k) -> Dn listed j:=by
    intro j hj
    obtain ⟨e,he,hb,hor⟩:=d.closed _ o ho j hj
    have hDe:Dn listed e.on:=by
     rcases hready e he with h | h
     ·rw [hb] at h; cases h
     ·exact h
    rcases hor with rfl | h
    ·exact hDe
    ·exact hcl _ hDe _ h
   have hreads:=T.reads d hcl hk hnD hrd
   have hkm:k <= m:=by
    apply Classical.byContradiction
    intro hgt
    rcases hm with h | ⟨h1,h2⟩
    ·omega
    ·exact A.behind m (Nat.le_refl _) h1 (hrd _ (d.pair m k (by omega) hk (.inl h2)))
   have hcl':d.Cl (fun j => j = d.idx k \/ Dn listed j):=by
    intro i' hi' j hj
    rcases hi' with rfl | hi'
    ·exact .inr (hrd j hj)
    ·exact .inr (hcl _ hi' j hj)
   have hset:=Dn_set hlt'
   have hsz':(listed.setIfInBounds (d.idx k) true).size = ops.size:=by simpa using hsz
   have hcnt':(listed.setIfInBounds (d.idx k) true).toList.countP (fun b => !b) <= fuel:=by
    rw [Array.toList_setIfInBounds]
    have:=count_set (l:=listed.toList) (i:=d.idx k) (by simp [hlt',hf])
    omega
   obtain ⟨hdst,hop⟩:=trOper_op hao
   have hwant:Region.wanted o (yielded ops a.tmps) = wanted (d.S k).tm (d.ao k).guard:=by rw [wanted_sound ht hao]; exact (wanted_congr hreads).symm
   have go : ∀ (av : AV) (v : Value) (m' : Nat) (ρ' : Rho) (w' : World), d.At B ρ0 h0 w0 (fun j => j = d.idx k \/ Dn listed j) m' ρ' w' -> (m' = d.N \/ (m' < d.N /\ isEo (d.ao m') = true)) -> (d.S (k + 1)).tm = putD (d.S k).tm (d.ao k).dst av -> VR ρ' av v -> Ext ρ ρ' ->
     wpAnyIn (FF ro) 0 P .any ops Q fuel (listed.setIfInBounds (d.idx k) true) (a.put o.dst v) w':=by
    intro av v m' ρ' w' A' hm' hS hv hx
    refine ih _ _ _ m' ρ' (putD tmA (d.ao k).dst av) hsz' hcnt' (by rw [hset]; exact A') hm' (by rw [hset]; exact T.put d hcl hk hnD hS) (by rw [hset]; exact hcl') ?_ (by rw [put_defers,hd])
    rw [<- hdst]; exact (ht.mono hx).putD _ hv
   have hreads':∀ t ∈ (d.ao k).op.temps,nth (d.S k).tm t = nth tmA t:=fun t ht => hreads t (temps_op ht)
   unfold wpOpIn
   simp only [ho]
   rw [hwant]
   rcases Nat.lt_or_eq_of_le hkm with hlt2 | rfl
   ·-- one that waits
    have hEk:isEo (d.ao k) = false:=by
     cases h:isEo (d.ao k) with
     | false => rfl
     | true => exact absurd (A.ahead k hlt2 h) hnD
    rcases (d.step k hk).spec with ⟨hw,hcls,u,hu,e⟩ | ⟨hw,hcls,b0,u,hu,e⟩ | ⟨hw,hcls,u,h',hu,e⟩ | ⟨hw,e⟩
    ·rw [if_pos hw]
     obtain ⟨v,q1,q2⟩:=A.pendQ k hlt2 hnD hcls hw
     rcases hop with hop | hop
     ·rw [evalQ_congr hreads'] at q1
      exact opQ A.stp.sim ht hop hcls q1 fun vv hvv => go v vv m ρ w (A.more d hlt2 A.stp fun _ _ _ _ _ h => h) hm q2.symm hvv (Ext.refl _)
     ·rw [hop,bad_eval] at q1; cases q1
    ·rw [if_pos hw]
     obtain ⟨b,v,q1,q2,q3⟩:=A.pendA k hlt2 hnD hcls hw
     have hgn:=A.ghost k hlt2 hnD hcls hw
     have hn1:=d.next_a hk hcls hw
     have hn2:=A.mono (k + 1) m hlt2 (Nat.le_refl _)
     have hn3:=A.mono 0 k (Nat.zero_le _) (by omega)
     rcases hop with hop | hop
     ·rw [evalA_congr hreads'] at q1
      refine opA A.stp ht hop q1 hgn (by omega) (by omega) q3 fun vv p w' hvv hst => ?_
      refine go v vv m _ w' (A.more d hlt2 hst fun k' g1 g2 g3 g4 g5 => ?_) hm q2.symm hvv (Ext.upd _ hgn)
      have hne:(d.S k').h.next ≠ (d.S k).h.next:=by
       have hn4:=d.next_a (by omega) g3 g4
       rcases Nat.lt_or_gt_of_ne g2 with h | h
       ·have:=A.mono (k' + 1) k h (by omega); omega
       ·have:=A.mono (k + 1) k' h (by omega); omega
      rw [upd_ne _ _ hne]; exact g5
     ·rw [hop] at hcls; cases hcls
    ·simp [isEo,hcls] at hEk
    ·rw [if_neg (by rw [hw]; exact Bool.false_ne_true)]
     exact ⟨fun _ _ => trivial,go aundef undef m ρ w (A.more d hlt2 A.stp fun _ _ _ _ _ h => h) hm (by rw [e]) VR.undef (Ext.refl _)⟩
   ·-- the next that turns the heap
    have hE:isEo (d.ao k) = true:=by
     rcases hm with h | ⟨_,h⟩
     ·omega
     ·exact h
    have turned : ∀ (ρ' : Rho) (w' : World), Stp P B ρ (d.S k).h w ρ' (d.S (k + 1)).h w' -> (wanted (d.S k).tm (d.ao k).guard = false -> (d.S (k + 1)).h = (d.S k).h) ->
      ∃ m',d.At B ρ0 h0 w0 (fun j => j = d.idx k \/ Dn listed j) m' ρ' w' /\ (m' = d.N \/ (m' < d.N /\ isEo (d.ao m') = true)):=fun ρ' w' hst hsm =>
     Draw.At.run d (d.N - (k + 1)) (k + 1) (by omega) (A.turn d hk hE hcl hrd hst hsm)
    rcases (d.step k hk).spec with ⟨hw,hcls,u,hu,e⟩ | ⟨hw,hcls,b0,u,hu,e⟩ | ⟨hw,hcls,u,h',hu,e⟩ | ⟨hw,e⟩
    ·simp [isEo,hcls] at hE
    ·simp [isEo,hcls] at hE
    ·rw [if_pos hw]
     rcases hop with hop | hop
     ·rw [evalE_congr hreads'] at hu
      refine opE A.stp.sim ht hop hc hu fun vv ρ' w' hvv hst => ?_
      obtain ⟨m',A',hm'⟩:=turned ρ' w' (by rw [e]; exact hst) (fun hf => by rw [hw] at hf; cases hf)
      exact go u vv m' ρ' w' A' hm' (by rw [e]) hvv hst.ext
     ·rw [hop] at hcls; cases hcls
    ·rw [if_neg (by rw [hw]; exact Bool.false_ne_true)]
     have eh:(d.S (k + 1)).h = (d.S k).h:=by rw [e]
     obtain ⟨m',A',hm'⟩:=turned ρ w (by rw [eh]; exact Stp.refl A.stp.sim) (fun _ => eh)
     exact ⟨fun _ _ => trivial,go aundef undef m' ρ w A' hm' (by rw [e]) VR.undef (Ext.refl _)⟩
end
end Go.AM
namespace Go.AM
open Go
abbrev Chks:=List ((AHeap -> Bool) × Nat)
theorem checks_spec:∀ {ps:Chks} {h:AHeap},checks ps h = true -> ∀ f c,(f,c) ∈ ps -> 0 < c -> f h = true
 | [],h,_,f,c,hm,_ => by cases hm
 | (g,0) :: r,h,hc,f,c,hm,h0 => by
  rcases List.mem_cons.1 hm with e | e
  ·cases e; omega
  ·exact checks_spec (ps:=r) (by simpa [checks] using hc) f c e h0
 | (g,n + 1) :: r,h,hc,f,c,hm,h0 => by
  simp only [checks] at hc
  cases hg:g h with
  | false => rw [hg] at hc; cases hc
  | true =>
   rw [hg] at hc
   rcases List.mem_cons.1 hm with e | e
   ·cases e; exact hg
   ·exact checks_spec (ps:=r) hc f c e h0
theorem lower_spec:∀ {ps:Chks} {f:AHeap -> Bool} {c:Nat},(f,c + 2) ∈ ps -> (f,c + 1) ∈ lower ps
 | [],f,c,hm => by cases hm
 | (g,0) :: r,f,c,hm => by
  rcases List.mem_cons.1 hm with e | e
  ·cases e
  ·exact lower_spec (ps:=r) e
 | (g,1) :: r,f,c,hm => by
  rcases List.mem_cons.1 hm with e | e
  ·cases e
  ·exact lower_spec (ps:=r) e
 | (g,n + 2) :: r,f,c,hm => by
  rcases List.mem_cons.1 hm with e | e
  ·cases e; exact List.mem_cons_self ..
  ·exact List.mem_cons_of_mem _ (lower_spec (ps:=r) e)
abbrev eCount (l:List (AOper × Nat)):Nat:=l.countP fun p => isEo p.1
structure Tra (L:List (AOper × Nat)) (call:CallT) (s:St) (ps:Chks) (s':St) (S:Nat -> St):Prop where
 z:S 0 = s
 l:S L.length = s'
 step:∀ k p,L[k]? = some p -> StepR p.1 call (S k) (S (k + 1))
 old:∀ m p,L[m]? = some p -> isEo p.1 = true -> wanted (S m).tm p.1.guard = true -> ∀ f c,(f,c) ∈ ps -> eCount (L.take m) < c -> f (S (m + 1)).h = true
 new:∀ k p,L[k]? = some p -> isEo p.1 = false -> wanted (S k).tm p.1.guard = true -> ∀ m q,k < m -> L[m]? = some q -> isEo q.1 = true -> wanted (S m).tm q.1.guard = true -> eCount ((L.take m).drop (k + 1)) < p.2 ->
  recheck p.1 (S k).tm (S k).h (outOf p.1 (S (k + 1))) (S (m + 1)).h = true
theorem Tra.cons {r : List (AOper × Nat)} {call : CallT} {p : AOper × Nat} {s s1 s' : St} {ps ps1 : Chks} {S : Nat -> St} (T : Tra r call s1 ps1 s' S) (hstep : StepR p.1 call s s1)
  (h0:isEo p.1 = true -> wanted s.tm p.1.guard = true -> ∀ f c,(f,c) ∈ ps -> 0 < c -> f s1.h = true)
  (hmore:∀ f c x,(f,c) ∈ ps -> (if isEo p.1 = true then 1 else 0) + x < c -> ∃ c',(f,c') ∈ ps1 /\ x < c')
  (hnew:isEo p.1 = false -> wanted s.tm p.1.guard = true -> ∀ x,x < p.2 -> ∃ c',(recheck p.1 s.tm s.h (outOf p.1 s1),c') ∈ ps1 /\ x < c'):∃ S',Tra (p :: r) call s ps s' S':=by
 refine ⟨fun n => match n with | 0 => s | n + 1 => S n,rfl,T.l,?_,?_,?_⟩
 ·intro k q hk
  cases k with
  | zero => simp at hk; subst hk; show StepR p.1 call s (S 0); rw [T.z]; exact hstep
  | succ k => exact T.step k q (by simpa using hk)
 ·intro m q hm hE hw f c hf hc
  cases m with
  | zero =>
   simp at hm; subst hm
   show f (S 0).h = true
   rw [T.z]
   exact h0 hE hw f c hf (by simpa using hc)
  | succ m =>
   have hc':(if isEo p.1 = true then 1 else 0) + eCount (r.take m) < c:=by
    simp only [List.take_succ_cons,eCount,List.countP_cons] at hc
    simp only [eCount]; omega
   obtain ⟨c',h1,h2⟩:=hmore f c _ hf hc'
   exact T.old m q (by simpa using hm) hE hw f c' h1 h2
 ·intro k q hk hE hw m q' hkm hm hE' hw' hc
  cases m with
  | zero => omega
  | succ m =>
   cases k with
   | zero =>
    simp at hk; subst hk
    simp only [List.take_succ_cons,List.drop_succ_cons,List.drop_zero] at hc
    obtain ⟨c',h1,h2⟩:=hnew hE hw _ hc
    have:=T.old m q' (by simpa using hm) hE' hw' _ c' h1 h2
    show recheck p.1 s.tm s.h (outOf p.1 (S 0)) (S (m + 1)).h = true
    rw [T.z]; exact this
   | succ k =>
    simp only [List.take_succ_cons,List.drop_succ_cons] at hc
    exact T.new k q (by simpa using hk) hE hw m q' (by omega) (by simpa using hm) hE' hw' hc
theorem isEo_iff {o:AOper}:isEo o = true ↔ o.op.cls = .e:=⟨isEo_true,fun h => by simp [isEo,h]⟩
theorem runDraw_trace {call:CallT}:∀ (L:List (AOper × Nat)) (s:St) (ps:Chks) (s':St),runDraw L call s ps = some s' -> ∃ S,Tra L call s ps s' S
 | [],s,ps,s',h => by
  rw [runDraw_nil] at h; cases h
  exact ⟨fun _ => s,rfl,rfl,fun k p hk => by simp at hk,fun m p hm => by simp at hm,fun k p hk => by simp at hk⟩
 | (o,n) :: r,s,ps,s',h => by
  rw [runDraw_cons] at h
  by_cases hw:wanted s.tm o.guard = true
  ·rw [if_pos hw] at h
   cases hst:step1 o call s with
   | none => rw [hst] at h; cases h
   | some s1 =>
    rw [hst] at h
    have hstep:StepR o call s s1:=by unfold StepR; rw [if_pos hw]; exact hst
    have hqa : o.op.cls ≠ .e -> (match (generalizing := false) n with
      | 0 => runDraw r call s1 ps
      | n + 1 => runDraw r call s1 ((recheck o s.tm s.h (outOf o s1),n + 1) :: ps)) = some s' -> ∃ S,Tra ((o,n) :: r) call s ps s' S:=by
     intro hne h
     have hE:isEo o = false:=by
      cases hh:isEo o with
      | false => rfl
      | true => exact absurd (isEo_true hh) hne
     cases n with
     | zero =>
      obtain ⟨S,T⟩:=runDraw_trace r s1 ps s' h
      exact T.cons hstep (fun hE' => by rw [hE] at hE'; cases hE') (fun f c x hf hx => ⟨c,hf,by omega⟩) (fun _ _ x hx => by simp at hx)
     | succ n =>
      obtain ⟨S,T⟩:=runDraw_trace r s1 _ s' h
      exact T.cons hstep (fun hE' => by rw [hE] at hE'; cases hE') (fun f c x hf hx => ⟨c,List.mem_cons_of_mem _ hf,by omega⟩) (fun _ _ x hx => ⟨n + 1,List.mem_cons_self ..,hx⟩)
    cases hc:o.op.cls with
    | e =>
     simp only [hc] at h
     cases hck:checks ps s1.h with
     | false => rw [hck] at h; cases h
     | true =>
      rw [hck] at h
      obtain ⟨S,T⟩:=runDraw_trace r s1 _ s' h
      have hE:isEo o = true:=isEo_iff.2 hc
      refine T.cons hstep (fun _ _ f c hf h0 => checks_spec hck f c hf h0) (fun f c x hf hx => ?_) (fun hE' => by rw [hE] at hE'; cases hE')
      simp only [hE,if_true] at hx
      obtain ⟨c2,rfl⟩:∃ c2,c = c2 + 2:=⟨c - 2,by omega⟩
      exact ⟨c2 + 1,lower_spec hf,by omega⟩
    | q => simp only [hc] at h; exact hqa (by rw [hc]; intro e; cases e) h
    | a => simp only [hc] at h; exact hqa (by rw [hc]; intro e; cases e) h
  ·rw [if_neg hw] at h
   have hstep:StepR o call s ⟨putD s.tm o.dst aundef,s.h⟩:=by unfold StepR; rw [if_neg hw]
   obtain ⟨S,T⟩:=runDraw_trace r _ _ s' h
   refine T.cons hstep (fun _ hw' => absurd hw' hw) (fun f c x hf hx => ?_) (fun _ hw' => absurd hw' hw)
   cases hE:isEo o with
   | true =>
    have hc:=isEo_true hE
    simp only [hE,if_true] at hx
    simp only [hc]
    obtain ⟨c2,rfl⟩:∃ c2,c = c2 + 2:=⟨c - 2,by omega⟩
    exact ⟨c2 + 1,lower_spec hf,by omega⟩
   | false =>
    have hne:=isEo_false hE
    refine ⟨c,?_,by omega⟩
    cases hc:o.op.cls with
    | e => exact absurd hc hne
    | q => exact hf
    | a => exact hf
theorem or_eq_testBit {x u:Nat} (h:Nat.beq (x ||| u) u = true) {j:Nat} (hj:x.testBit j = true):u.testBit j = true:=by
 have:=Nat.eq_of_beq_eq_true h
 rw [<- this,Nat.testBit_or,hj]; rfl
theorem closedOk_spec {ops : Array Oper} {b : Array Nat} (h : closedOk ops b = true) {i : Nat} {o : Oper} (ho : ops[i]? = some o) {j : Nat} (hj : bitB b j i = true) :
  ∃ e ∈ o.after,Region.binds .any e = true /\ (j = e.on \/ bitB b j e.on = true):=by
 have hi:=(Array.getElem?_eq_some_iff.1 ho).1
 unfold closedOk at h
 rw [List.all_eq_true] at h
 have h1:=h i (by simpa using hi)
 simp only [ho] at h1
 have h2:=or_eq_testBit h1 hj
 rw [<- Array.foldl_toList] at h2
 have key : ∀ (l : List Edge) (u : Nat), (l.foldl (fun u e => bif Region.binds .any e then u ||| (2 ^ e.on ||| b.getD e.on 0) else u) u).testBit j = true ->
   u.testBit j = true \/ ∃ e ∈ l,Region.binds .any e = true /\ (j = e.on \/ bitB b j e.on = true):=by
  intro l
  induction l with
  | nil => intro u hu; exact .inl hu
  | cons e r ih =>
   intro u hu
   rw [List.foldl_cons] at hu
   rcases ih _ hu with h3 | ⟨e',he',h4⟩
   ·cases hb:Region.binds .any e with
    | false => rw [hb] at h3; exact .inl h3
    | true =>
     rw [hb] at h3
     simp only [cond_true,Nat.testBit_or,Bool.or_eq_true,Nat.testBit_two_pow,decide_eq_true_eq] at h3
     rcases h3 with h3 | h3 | h3
     ·exact .inl h3
     ·exact .inr ⟨e,List.mem_cons_self ..,hb, .inl h3.symm⟩
     ·exact .inr ⟨e,List.mem_cons_self ..,hb, .inr h3⟩
   ·exact .inr ⟨e',List.mem_cons_of_mem _ he',h4⟩
 rcases key _ _ h2 with h3 | ⟨e,he,h4⟩
 ·simp at h3
 ·exact ⟨e,by simpa using he,h4⟩
theorem seqOk_spec {ops : Array Oper} : ∀ {c : List Nat} {s : Nat}, seqOk ops s c = true -> (∀ j ∈ c, s.testBit j = false) /\ c.Nodup /\
  ∀ (k j:Nat),c[k]? = some j -> ∃ o:Oper,ops[j]? = some o /\ ∀ e ∈ o.after,Region.binds .any e = true -> s.testBit e.on = true \/ ∃ k',k' < k /\ c[k']? = some e.on
 | [],s,_ => ⟨(fun j hj => by cases hj),List.nodup_nil,(fun k j hk => by simp at hk)⟩
 | i :: r,s,h => by
  simp only [seqOk,Bool.and_eq_true,Bool.not_eq_true'] at h
  obtain ⟨⟨h1,h2⟩,h3⟩:=h
  obtain ⟨g1,g2,g3⟩:=seqOk_spec h3
  have g1':∀ j ∈ r,s.testBit j = false /\ j ≠ i:=fun j hj => by
   have:=g1 j hj
   rw [Nat.testBit_or,Bool.or_eq_false_iff,Nat.testBit_two_pow] at this
   refine ⟨this.1,fun e => ?_⟩
   have h4:=this.2
   simp [e] at h4
  refine ⟨fun j hj => ?_,?_,fun k j hk => ?_⟩
  ·rcases List.mem_cons.1 hj with rfl | hj
   ·exact h1
   ·exact (g1' j hj).1
  ·rw [List.nodup_cons]
   exact ⟨fun hm => (g1' i hm).2 rfl,g2⟩
  ·cases k with
   | zero =>
    simp at hk; subst hk
    unfold readyB at h2
    split at h2
    ·rename_i o ho
     refine ⟨o,ho,fun e he hb => .inl ?_⟩
     rw [Array.all_eq_true_iff_forall_mem] at h2
     have:=h2 e he
     rw [hb] at this
     simpa using this
    ·cases h2
   | succ k =>
    obtain ⟨o,ho,hq⟩:=g3 k j (by simpa using hk)
    refine ⟨o,ho,fun e he hb => ?_⟩
    rcases hq e he hb with h4 | ⟨k',h4,h5⟩
    ·rw [Nat.testBit_or,Bool.or_eq_true,Nat.testBit_two_pow] at h4
     rcases h4 with h4 | h4
     ·exact .inl h4
     ·simp at h4; subst h4; exact .inr ⟨0,by omega,by simp⟩
    ·exact .inr ⟨k' + 1,by omega,by simpa using h5⟩
theorem pairOk_spec {al:List AOper} {b:Array Nat}:∀ {c:List Nat},pairOk al b c = true -> ∀ (k k' i j:Nat),k < k' -> c[k]? = some i -> c[k']? = some j -> isE al i = true \/ conflAt al i j = true -> bitB b i j = true
 | [],_,k,k',i,j,_,h1,_,_ => by simp at h1
 | x :: r,h,k,k',i,j,hlt,h1,h2,h3 => by
  simp only [pairOk,Bool.and_eq_true,List.all_eq_true] at h
  cases k' with
  | zero => omega
  | succ k' =>
   cases k with
   | zero =>
    simp at h1; subst h1
    have hm:j ∈ r:=List.mem_of_getElem? (i:=k') (by simpa using h2)
    have:=h.1 j hm
    have hor:(isE al x || conflAt al x j) = true:=by
     rcases h3 with h3 | h3 <;> simp [h3]
    rw [hor] at this
    exact this
   | succ k => exact pairOk_spec h.2 k k' i j (by omega) (by simpa using h1) (by simpa using h2) h3
theorem trSeq_spec {al : List AOper} {b : Array Nat} : ∀ {c : List Nat} {L : List (AOper × Nat)}, trSeq al b c = some L -> L.length = c.length /\
  ∀ (k j:Nat),c[k]? = some j -> ∃ o:AOper,al[j]? = some o /\ L[k]? = some (o,bif isE al j || !o.op.reads then 0 else stays al b j (c.drop (k + 1)))
 | [],L,h => by cases h; exact ⟨rfl,fun k j hk => by simp at hk⟩
 | j :: r,L,h => by
  simp only [trSeq] at h
  split at h <;> cases h
  rename_i o t ho ht
  obtain ⟨g1,g2⟩:=trSeq_spec ht
  refine ⟨by simp [g1],fun k i hk => ?_⟩
  cases k with
  | zero => simp at hk; subst hk; exact ⟨o,ho,rfl⟩
  | succ k => simpa using g2 k i (by simpa using hk)
theorem stays_spec {al : List AOper} {b : Array Nat} {j : Nat} : ∀ {r : List Nat} {t i : Nat}, r[t]? = some i -> isE al i = true -> (∀ (k i' : Nat), k <= t -> r[k]? = some i' -> isE al i' = true -> bitB b j i' = false) ->
  (r.take t).countP (isE al) < stays al b j r
 | [],t,i,h,_,_ => by simp at h
 | x :: r,t,i,h,hE,hb => by
  cases t with
  | zero =>
   simp at h; subst h
   simp only [stays,hE,cond_true,hb 0 x (Nat.le_refl _) rfl hE,cond_false,List.take_zero,List.countP_nil]
   omega
  | succ t =>
   have ih:=stays_spec (r:=r) (t:=t) (i:=i) (b:=b) (j:=j) (by simpa using h) hE (fun k i' hk hi' hEi => hb (k + 1) i' (by omega) (by simpa using hi') hEi)
   simp only [stays,List.take_succ_cons,List.countP_cons]
   cases hx:isE al x with
   | false => simp only [cond_false]; simpa using ih
   | true =>
    simp only [cond_true,hb 0 x (by omega) rfl hx,cond_false]
    simp only [if_true]; omega
theorem isE_eq {al:List AOper} {j:Nat} {o:AOper} (h:al[j]? = some o):isE al j = isEo o:=by
 simp only [isE,h]; rfl
theorem conflAt_eq {al:List AOper} {i j:Nat} {x y:AOper} (hx:al[i]? = some x) (hy:al[j]? = some y):conflAt al i j = confl x y:=by
 simp only [conflAt,hx,hy]
theorem nodup_inj:∀ {c:List Nat},c.Nodup -> ∀ {k k' i:Nat},c[k]? = some i -> c[k']? = some i -> k = k'
 | [],_,k,k',i,h1,_ => by simp at h1
 | x :: r,h,k,k',i,h1,h2 => by
  rw [List.nodup_cons] at h
  cases k with
  | zero =>
   cases k' with
   | zero => rfl
   | succ k' =>
    simp at h1; subst h1
    exact absurd (List.mem_of_getElem? (i:=k') (by simpa using h2)) h.1
  | succ k =>
   cases k' with
   | zero =>
    simp at h2; subst h2
    exact absurd (List.mem_of_getElem? (i:=k) (by simpa using h1)) h.1
   | succ k' => rw [nodup_inj h.2 (k:=k) (k':=k') (by simpa using h1) (by simpa using h2)]
theorem draw_of {P : Program} {ops : Array Oper} {call : CallT} {L : List (AOper × Nat)} (htr : trDraw P ops = some L) {s s' : St} (hr : runDraw L call s [] = some s') :
  ∃ d:Draw P ops call,d.S 0 = s /\ d.S d.N = s':=by
 unfold trDraw at htr
 split at htr <;> first | (cases htr; done) | skip
 rename_i al hal
 split at htr <;> first | (cases htr; done) | skip
 rename_i c hord
 split at htr <;> first | (cases htr; done) | skip
 rename_i hok
 simp only [orderOk,Bool.and_eq_true] at hok
 obtain ⟨⟨⟨ok1,ok2⟩,ok3⟩,ok4⟩:=hok
 obtain ⟨S,T⟩:=runDraw_trace L s [] s' hr
 obtain ⟨s1,s2,s3⟩:=seqOk_spec ok2
 obtain ⟨t1,t2⟩:=trSeq_spec htr
 obtain ⟨u1,u2⟩:=trOpers_get hal
 have cget:∀ k,k < L.length -> c[k]? = some (c.getD k 0):=fun k hk => by
  rw [List.getD_eq_getElem?_getD,List.getElem?_eq_getElem (by omega)]; rfl
 have Lget:∀ k,k < L.length -> L[k]? = some (L.getD k default):=fun k hk => by
  rw [List.getD_eq_getElem?_getD,List.getElem?_eq_getElem hk]; rfl
 have aoget:∀ k,k < L.length -> al[c.getD k 0]? = some (L.getD k default).1 /\ (L.getD k default).2 = (bif isE al (c.getD k 0) || !(L.getD k default).1.op.reads then 0 else stays al (Region.before ops) (c.getD k 0) (c.drop (k + 1))):=fun k hk => by
  obtain ⟨o,h1,h2⟩:=t2 k _ (cget k hk)
  rw [Lget k hk] at h2
  have h3:=Option.some.inj h2
  rw [h3]; exact ⟨h1,rfl⟩
 have hidx:∀ k,k < L.length -> ∃ o,ops[c.getD k 0]? = some o:=fun k hk => by
  obtain ⟨o,ho,_⟩:=s3 k _ (cget k hk)
  exact ⟨o,ho⟩
 have cnt_map:∀ (l:List Nat) (l':List (AOper × Nat)),l.length = l'.length -> (∀ (k i:Nat) (p:AOper × Nat),l[k]? = some i -> l'[k]? = some p -> al[i]? = some p.1) -> l.countP (isE al) = eCount l':=by
  intro l
  induction l with
  | nil => intro l' h _; cases l' with | nil => rfl | cons _ _ => simp at h
  | cons i r ih =>
   intro l' h hk
   cases l' with
   | nil => simp at h
   | cons p r' =>
    have h0:=hk 0 i p rfl rfl
    have:=ih r' (by simpa using h) (fun k i p h1 h2 => hk (k + 1) i p (by simpa using h1) (by simpa using h2))
    simp only [eCount,List.countP_cons,isE_eq h0] at this ⊢
    rw [this]
 refine ⟨Draw.mk L.length (fun k => c.getD k 0) (fun k => (L.getD k default).1) (fun k => (L.getD k default).2) (fun i m => eCount ((L.take m).drop i)) (fun j i => bitB (Region.before ops) j i = true) S
  ?_ ?_ ?_ ?_ ?_ ?_ ?_ ?_ ?_,T.z,T.l⟩
 ·intro k hk
  obtain ⟨o,ho⟩:=hidx k hk
  refine ⟨o,ho,?_⟩
  obtain ⟨ao,h1,h2⟩:=u2 (c.getD k 0) o (by rw [Array.getElem?_toList]; exact ho)
  rw [(aoget k hk).1] at h1; cases h1; exact h2
 ·intro k k' hk hk' he
  have h1:=cget k hk
  have h2:=cget k' hk'
  have he:c.getD k 0 = c.getD k' 0:=he
  rw [he] at h1
  exact nodup_inj s2 h1 h2
 ·intro i hi
  rw [List.all_eq_true] at ok3
  have:=ok3 i (by simpa using hi)
  rw [List.any_eq_true] at this
  obtain ⟨j,hj,e⟩:=this
  have e':=Nat.eq_of_beq_eq_true e
  subst e'
  obtain ⟨k,hk,hg⟩:=List.getElem_of_mem hj
  refine ⟨k,by omega,?_⟩
  rw [List.getD_eq_getElem?_getD,List.getElem?_eq_getElem hk]; exact hg
 ·intro i o ho j hj
  exact closedOk_spec ok1 ho hj
 ·intro k hk o ho e he hb
  obtain ⟨o',ho',hq⟩:=s3 k _ (cget k hk)
  rw [ho] at ho'; cases ho'
  rcases hq e he hb with h | ⟨k',h1,h2⟩
  ·simp at h
  ·exact ⟨k',h1,by rw [List.getD_eq_getElem?_getD,h2]; rfl⟩
 ·intro k k' hlt hk' hor
  have hk:k < L.length:=by omega
  refine pairOk_spec ok4 k k' _ _ hlt (cget k hk) (cget k' hk') ?_
  rw [isE_eq (aoget k hk).1,conflAt_eq (aoget k hk).1 (aoget k' hk').1]; exact hor
 ·intro k m hkm hm hEm hEk hrd hnb
  have hk:k < L.length:=by omega
  show eCount ((L.take m).drop (k + 1)) < (L.getD k default).2
  have hEk:isEo (L.getD k default).1 = false:=hEk
  have hrd:(L.getD k default).1.op.reads = true:=hrd
  rw [(aoget k hk).2,isE_eq (aoget k hk).1,hEk,hrd]
  simp only [Bool.not_true,Bool.or_self,cond_false]
  have hr:(c.drop (k + 1))[m - (k + 1)]? = some (c.getD m 0):=by
   rw [List.getElem?_drop,show k + 1 + (m - (k + 1)) = m by omega]; exact cget m hm
  have:=stays_spec (al:=al) (b:=Region.before ops) (j:=c.getD k 0) hr (by rw [isE_eq (aoget m hm).1]; exact hEm) (fun q i' hq hi' hE' => by
   rw [List.getElem?_drop] at hi'
   have hlt:k + 1 + q < L.length:=by omega
   rw [cget _ hlt] at hi'
   cases hi'
   rw [isE_eq (aoget _ hlt).1] at hE'
   have:=hnb (k + 1 + q) (by omega) (by omega) hE'
   simpa using this)
  have hcm:=cnt_map ((c.drop (k + 1)).take (m - (k + 1))) ((L.take m).drop (k + 1)) (by simp; omega) (fun q i p h1 h2 => by
   rw [List.getElem?_take] at h1
   split at h1
   ·rename_i hq
    rw [List.getElem?_drop] at h1 h2
    rw [List.getElem?_take] at h2
    split at h2
    ·have hlt:k + 1 + q < L.length:=by omega
     rw [cget _ hlt] at h1; cases h1
     rw [Lget _ hlt] at h2; cases h2
     exact (aoget _ hlt).1
    ·cases h2
   ·cases h1)
  rw [<- hcm]; exact this
 ·intro k hk
  exact T.step k _ (Lget k hk)
 ·intro k m hkm hm hEk hwk hEm hwm hcnt
  exact T.new k _ (Lget k (by omega)) hEk hwk m _ hkm (Lget m hm) hEm hwm hcnt
theorem draw_sound {P : Program} {ops : Array Oper} {call : CallT} {L : List (AOper × Nat)} (htr : trDraw P ops = some L) (hc : CallOK P call) {B : Nat} {ρ : Rho} {tm : List AV} {h : AHeap} {w : World} {a : Act} {s' : St}
    (hs:Sim P ρ h B w) (ht:TR ρ tm a.tmps) (hr:runDraw L call ⟨tm,h⟩ [] = some s') {ro:Option Nat} {Q:Exit → Act → World → Prop}
    (hq:∀ ρ' a' w',a'.defers = a.defers → TR ρ' s'.tm a'.tmps → Stp P B ρ h w ρ' s'.h w' → Q .normal a' w'):wpAnyIn (FF ro) 0 P .any ops Q ops.size (Array.replicate ops.size false) a w:=by
  obtain ⟨d,hd0,hdN⟩:=draw_of htr hr
  have hno:∀ i, ¬ Dn (Array.replicate ops.size false) i:=fun i h => by
    simp [Dn,Array.getD_eq_getD_getElem?,Array.getElem?_replicate] at h
    split at h <;> simp at h
  have h0:d.At B ρ h w (Dn (Array.replicate ops.size false)) 0 ρ w :=
    ⟨Nat.zero_le _,fun k hk => by omega,fun k _ _ => hno _,by rw [hd0]; exact Stp.refl hs,fun k hk => by omega,fun i k h1 h2 => by
      have:i = 0:=by omega
      have:k = 0:=by omega
      subst_vars; exact Nat.le_refl _,fun k hk => by omega,fun k hk => by omega⟩
  obtain ⟨m,hA,hm⟩:=Draw.At.run d d.N 0 (by omega) h0
  exact d.sound hc a.defers (by rw [hd0]) (fun ρ' a' w' h1 h2 h3 => hq ρ' a' w' h1 (by rw [hdN] at h2; exact h2) (by rw [hdN] at h3; exact h3)) ops.size _ a w m ρ tm (by simp)
    (by have : ∀ l : List Bool, l.countP (fun b => !b) ≤ l.length := fun l => List.countP_le_length
        have:=this (Array.replicate ops.size false).toList
        simpa using this) hA hm
    ⟨by rw [hd0],fun t => .inr ⟨fun k _ h => absurd h (hno _),by rw [hd0]⟩⟩ (fun i hi => absurd hi (hno _)) ht rfl
end Go.AM
namespace Go.AM
open Go
section
variable {F:Fence} {n:Nat} {P:Program} {Q:Exit -> Act -> World -> Prop} {a:Act} {w:World}
theorem stepR_scope' {b:Frame} {k:List Item} {cs:List Frame} {c:Code}:step P (lone (b.atR a (.code (.scope c) :: k)) cs w) = .next (lone (b.atR a (.code c :: .inScope c :: k)) cs w) :=
 step_lone_go (by simp [stepG,stepG.exec,Frame.atR])
theorem stepR_inScope' {b:Frame} {k:List Item} {cs:List Frame} {c:Code}:step P (lone (b.atR a (.inScope c :: k)) cs w) = .next (lone (b.atR a k) cs w) :=
 step_lone_go (by simp [stepG,stepG.exec,Frame.atR])
theorem wpIn_scope {c:Code} (h:c.wpIn F n P (Exit.noGoto Q) a w):(Code.scope c).wpIn F n P Q a w:=by
 intro b k cs hro hb hr
 have h0:(lone (b.atR a (.code (.scope c) :: k)) cs w).fenced P F:=fenced_calm hb hr rfl
 obtain ⟨e,a₁,w₁,hq,harr⟩:=h b (.inScope c :: k) cs hro hb hr
 cases e with
 | normal => exact ⟨.normal,a₁,w₁,hq, .head h0 stepR_scope' (StepsIn.trans harr (.one (fenced_calm hb hr rfl) stepR_inScope'))⟩
 | exit id =>
  have hx:exitTo id (.inScope c :: k) = exitTo id k:=by simp [exitTo]
  exact ⟨.exit id,a₁,w₁,hq,fun k' hk => .head h0 stepR_scope' (harr.1 k' (by rw [hx]; exact hk)),
   fun hr' hk => let ⟨k₁,h1,h2⟩:=harr.2 hr' (by rw [hx]; exact hk); ⟨k₁,h1, .head h0 stepR_scope' h2⟩⟩
 | goto l => exact hq.elim
 | ret => exact ⟨_,a₁,w₁,hq, .of_steps (.one h0 stepR_scope') harr⟩
 | panic ch => exact ⟨_,a₁,w₁,hq, .of_steps (.one h0 stepR_scope') harr⟩
 | outgrown => exact ⟨_,a₁,w₁,hq, .of_steps (.one h0 stepR_scope') harr⟩
theorem wpIn_loop_n {c : Code} (R : Nat -> Act -> World -> Prop) {j : Nat} (h₀ : R j a w)
  (round:∀ j a w,R j a w -> c.wpIn F n P (Exit.then (fun a' w' => ∃ i,i < j /\ R i a' w') Q) a w):(Code.loop c).wpIn F n P Q a w:=by
 intro b k cs hro hb hr
 have key:∀ j a w,R j a w -> ∃ e a' w',Q e a' w' /\ ArrivesIn (Machine.fenced P F) P (lone (b.atR a (.code c :: .inLoop c :: k)) cs w) b k cs e a' w':=by
  intro j
  induction j using Nat.strongRecOn with
  | _ j ih =>
   intro a w hI
   obtain ⟨e,a₁,w₁,hq,harr⟩:=round j a w hI b (.inLoop c :: k) cs hro hb hr
   cases e with
   | normal =>
    obtain ⟨i,hlt,hI₁⟩:=hq
    obtain ⟨e₂,a₂,w₂,hq₂,harr₂⟩:=ih i hlt a₁ w₁ hI₁
    exact ⟨e₂,a₂,w₂,hq₂, .of_steps (StepsIn.trans harr (.one (fenced_calm hb hr rfl) stepR_inLoop)) harr₂⟩
   | exit id => exact ⟨_,a₁,w₁,hq, .pass (x := .inLoop c) rfl (fun _ _ => .inl (by simp)) harr⟩
   | goto l => exact ⟨_,a₁,w₁,hq, .pass (x := .inLoop c) rfl (fun _ _ => .inl (by simp)) harr⟩
   | ret => exact ⟨_,a₁,w₁,hq, .pass (x := .inLoop c) rfl (fun _ _ => .inl (by simp)) harr⟩
   | panic ch => exact ⟨_,a₁,w₁,hq, .pass (x := .inLoop c) rfl (fun _ _ => .inl (by simp)) harr⟩
   | outgrown => exact ⟨_,a₁,w₁,hq, .pass (x := .inLoop c) rfl (fun _ _ => .inl (by simp)) harr⟩
 obtain ⟨e,a',w',hq,harr⟩:=key _ a w h₀
 exact ⟨e,a',w',hq, .of_steps (.one (fenced_calm hb hr rfl) stepR_loop) harr⟩
end
section
variable {P:Program} {B:Nat} {ρ:Rho} {h:AHeap} {w:World}
theorem Stp.junk (hs:Sim P ρ h B w) (b:Obj):Stp P B ρ h w ρ h (w.alloc b):=by
 have hold:∀ k,k < w.heap.size -> (w.alloc b).heap[k]? = w.heap[k]?:=fun k hk => RowKit.Below.heap_alloc w b k hk
 refine ⟨Ext.refl _,⟨?_,hs.dom,fun i o p h1 h2 => (hs.obj i o p h1 h2).same (hold _ (hs.obj i o p h1 h2).lt),hs.sep,hs.tidy⟩,rfl,rfl,rfl,by simp,fun k hk _ => hold k hk,
  fun i o p h1 h2 h3 => .inr ⟨i,o,p,h1,h2,h3,rfl⟩,Nat.le_refl _,fun _ _ h => .inl h,fun k L h => ⟨L,by rw [hold k (Array.getElem?_eq_some_iff.1 h).1]; exact h⟩,Nat.le_refl _⟩
 have:=hs.low; simp; omega
theorem Sim.notDeferred (hs:Sim P ρ h B w) {r:Nat} {x:Option (List Deferred)} (hr:w.heap[r]? = some (.deferred x)):∀ i o p,h.get i = some o -> ρ i = some p -> p.blk ≠ r:=by
 intro i o p h1 h2 e
 have:=hs.obj i o p h1 h2
 subst e
 cases o with
 | cells c rw => obtain ⟨cc,el,fr,k1,_⟩:=this; rw [hr] at k1; cases k1
 | map es => obtain ⟨_,_,_,ms,ck,k1,_⟩:=this; rw [hr] at k1; cases k1
 | loop fn tm ps a b st pend => obtain ⟨_,_,_,L,k1,_⟩:=this; rw [hr] at k1; cases k1
theorem Stp.deferred {ρ':Rho} {h':AHeap} {w':World} (s:Stp P B ρ h w ρ' h' w') (hs:Sim P ρ h B w) {r:Nat} {x:Option (List Deferred)} (hr:w.heap[r]? = some (.deferred x)):w'.heap[r]? = some (.deferred x):=by
 rw [s.frame r (Array.getElem?_eq_some_iff.1 hr).1 fun i o p h1 h2 _ => hs.notDeferred hr i o p h1 h2]; exact hr
theorem Stp.shut {ρ0 : Rho} {h0 : AHeap} {w0 : World} (s : Stp P B ρ0 h0 w0 ρ h w) {r : Nat} {x : Option (List Deferred)} (hr : w.heap[r]? = some (.deferred x)) (hnew : w0.heap.size <= r) (b : Obj) :
  Stp P B ρ0 h0 w0 ρ h (putRowW w r b):=by
 have hnd:=s.sim.notDeferred hr
 refine ⟨s.ext,⟨by have:=s.sim.low; simpa using this,s.sim.dom,fun i o p h1 h2 => (s.sim.obj i o p h1 h2).same (putRowW_other (hnd i o p h1 h2)),s.sim.sep,s.sim.tidy⟩,s.os,s.tape,s.output,by have:=s.size; simpa using this,?_,s.orig,s.next,s.fresh,?_,s.drawn⟩
 ·intro k hk hoff
  rw [putRowW_other (by omega)]; exact s.frame k hk hoff
 ·intro k L hL
  have hk:k < w0.heap.size:=(Array.getElem?_eq_some_iff.1 hL).1
  obtain ⟨L',h'⟩:=s.loops k L hL
  exact ⟨L',by rw [putRowW_other (by omega)]; exact h'⟩
structure DOK (W:Nat) (w:World) (ds:List Deferred):Prop where
 ex:∃ rs:List Nat,ds = rs.map (fun r => { target := .collected r,args := #[] }) /\ rs.Nodup /\ ∀ r ∈ rs,W <= r /\ w.heap[r]? = some (.deferred (some []))
theorem DOK.nil (W:Nat) (w:World):DOK W w []:=⟨[],rfl,List.nodup_nil,fun r hr => by cases hr⟩
theorem DOK.stp {ρ':Rho} {h':AHeap} {w':World} {W:Nat} {ds:List Deferred} (d:DOK W w ds) (hs:Sim P ρ h B w) (s:Stp P B ρ h w ρ' h' w'):DOK W w' ds:=by
 obtain ⟨rs,h1,h2,h3⟩:=d.ex
 exact ⟨rs,h1,h2,fun r hr => ⟨(h3 r hr).1,s.deferred hs (h3 r hr).2⟩⟩
theorem DOK.push {W:Nat} {ds:List Deferred} (d:DOK W w ds) (hW:W <= w.heap.size):DOK W (w.alloc (.deferred (some []))) ([{ target := .collected w.heap.size,args := #[] }] ++ ds):=by
 obtain ⟨rs,h1,h2,h3⟩:=d.ex
 have hlt:∀ r ∈ rs,r < w.heap.size:=fun r hr => (Array.getElem?_eq_some_iff.1 (h3 r hr).2).1
 refine ⟨w.heap.size :: rs,by rw [h1]; rfl,?_,fun r hr => ?_⟩
 ·rw [List.nodup_cons]; exact ⟨fun hm => by have:=hlt _ hm; omega,h2⟩
 ·rcases List.mem_cons.1 hr with rfl | hr
  ·exact ⟨hW,by show (w.heap.push _)[w.heap.size]? = _; simp⟩
  ·exact ⟨(h3 r hr).1,by rw [RowKit.Below.heap_alloc w _ r (hlt r hr)]; exact (h3 r hr).2⟩
theorem leaves_marks {ρ0 : Rho} {h0 : AHeap} {w0 : World} {fn : Func} {tmps : Array Value} {R : Ending -> World -> Prop} : ∀ (rs : List Nat) (w : World), Stp P B ρ0 h0 w0 ρ h w -> rs.Nodup -> (∀ r ∈ rs, w0.heap.size <= r /\ w.heap[r]? = some (.deferred (some []))) ->
  (∀ w',Stp P B ρ0 h0 w0 ρ h w' -> ∃ v,(results fn tmps).run P w' = .ok v w' /\ R (.returned v) w') -> LeavesInM Fence.wide 0 P fn tmps R (rs.map fun r => { target := .collected r,args := #[] }) .returning w
 | [],w,s,_,_,hR => by
  obtain ⟨v,h1,h2⟩:=hR w s
  exact ⟨v,h1,h2⟩
 | r :: rs,w,s,hnd,hr,hR => by
  rw [List.nodup_cons] at hnd
  obtain ⟨h1,h2⟩:=hr r (List.mem_cons_self ..)
  refine ⟨(by intro e; cases e),Or.inl ⟨r,_,rfl,run_takeDeferred h2,?_⟩⟩
  refine leaves_marks rs _ (s.shut h2 h1 _) hnd.2 (fun q hq => ?_) hR
  have hne:q ≠ r:=fun e => hnd.1 (e ▸ hq)
  obtain ⟨h3,h4⟩:=hr q (List.mem_cons_of_mem _ hq)
  exact ⟨h3,by show (putRowW w r _).heap[q]? = _; rw [putRowW_other hne]; exact h4⟩
end
end Go.AM
namespace Go.AM
open Go
def exitOf:AX -> Exit
 | .normal => .normal
 | .exit id => .exit id
 | .ret => .ret
abbrev Post (P:Program) (B W:Nat) (ρ:Rho) (h:AHeap) (w:World) (x:AX) (s':St) (Q:Exit -> Act -> World -> Prop):Prop :=
 ∀ ρ' a' w',TR ρ' s'.tm a'.tmps -> Stp P B ρ h w ρ' s'.h w' -> DOK W w' a'.defers -> Q (exitOf x) a' w'
abbrev InR (ro:Option Nat) (w:World):Prop:=∀ l,ro = some l -> ∃ r,w.heap[l]? = some (.loop r)
section
variable {P:Program} {B W:Nat} {ρ:Rho} {h:AHeap} {w:World} {a:Act} {call:CallT}
theorem InR.stp {ro:Option Nat} (hi:InR ro w) {ρ':Rho} {h':AHeap} {w':World} (s:Stp P B ρ h w ρ' h' w'):InR ro w':=fun l hl => let ⟨r,hr⟩:=hi l hl; s.loops l r hr
theorem putObj_eq (w:World) (r:Nat) (o:Obj):w.putObj r o = putRowW w r o:=rfl
theorem Sim.setLoop (hs : Sim P ρ h B w) {i : Nat} {fn : Nat} {tm tm' : List AV} {ps ps' : List Nat} {a b a' b' : ACode} {st st' : Nat} {pd pd' : Option AJump} {p : Place} {L L' : Loop} (hg : h.get i = some (.loop fn tm ps a b st pd)) (hp : ρ i = some p)
  (hL:w.heap[p.blk]? = some (.loop L)) (h1:VRs ρ tm' L'.tmps.toList) (h2:L'.params.toList = ps') (h3:tr P L'.assign = some a') (h4:tr P L'.body = some b') (h5:stateR st' L'.state) (h6:pendR pd' L'.pending) (fn':Nat) :
  Stp P B ρ h w ρ (h.set i (.loop fn' tm' ps' a' b' st' pd')) (putRowW w p.blk (.loop L')):=by
 obtain ⟨o1,o2,o3,_⟩:=hs.obj i _ p hg hp
 have hlt:=(Array.getElem?_eq_some_iff.1 hL).1
 refine hs.putObj hg hp rfl o2 o1 rfl ?_ (fun _ => ⟨_,rfl⟩) ⟨o1,o2,o3,L',putRowW_same hlt,h1,h2,h3,h4,h5,h6⟩
 intro q ⟨c,r,hc⟩ pq hpq e
 obtain ⟨cc,el,fr,k1,_⟩:=hs.obj q _ pq hc hpq
 rw [e,hL] at k1; cases k1
theorem loopOf (hs : Sim P ρ h B w) {i : Nat} {fn : Nat} {tm : List AV} {ps : List Nat} {a b : ACode} {st : Nat} {pd : Option AJump} {p : Place} (hg : h.get i = some (.loop fn tm ps a b st pd)) (hp : ρ i = some p) :
  ∃ L:Loop,w.heap[p.blk]? = some (.loop L) /\ VRs ρ tm L.tmps.toList /\ L.params.toList = ps /\ tr P L.assign = some a /\ tr P L.body = some b /\ stateR st L.state /\ pendR pd L.pending:=by
 obtain ⟨_,_,_,L,k⟩:=hs.obj i _ p hg hp
 exact ⟨L,k⟩
theorem range_core (hc : CallOK P call) {f : Operand} {af : AOpd} {ps : Array Tmp} {assign body : Code} {aa ab : ACode} (hf : trOpd f = some af) (ha : tr P assign = some aa) (hb : tr P body = some ab) {s s' : St} {x : AX} {fuel : Nat}
  (he:exec (.rangeFunc af ps.toList aa ab) call fuel s = some (x,s')) (_hs:Sim P ρ s.h B w) (ht:TR ρ s.tm a.tmps) {ro:Option Nat} {Q:Exit -> Act -> World -> Prop} (hq:Post P B W ρ s.h w x s' Q)
  {wj:World} (hj:Stp P B ρ s.h w ρ s.h wj) {mark:List Deferred} (hd:DOK W wj (mark ++ a.defers)) {L:Loop} (hLt:L.tmps = a.tmps) (hLp:L.params = ps) (hLa:L.assign = assign) (hLb:L.body = body) (hLs:L.state = .ready) (hLn:L.pending = none) :
  ∃ (d:Deferred) (w₁':World) (g:FuncId) (args:Array Value) (w₂:World),(resolve a.eval (rangeCall f wj.heap.size) 0).run P (wj.alloc (.loop L)) = .ok d w₁' /\ (invoke d.target d.args).run P w₁' = .ok (.enter g args) w₂ /\
   CallsIn (FF ro) 0 P g args w₂ (rangePost (FF ro) 0 P wj.heap.size Q { a with defers:=mark ++ a.defers }):=by
 rw [exec_range] at he
 have hv:=opd_sound ht hf
 generalize hvf:a.eval f = vf at hv
 split at he <;> first | (cases he; done) | skip
 rename_i g first captured heq
 rw [heq] at hv
 split at he <;> first | (cases he; done) | skip
 rename_i rv h2 hcall
 cases hv with
 | fn hfl h1 h2' =>
  rename_i a1 b1
  have hsj:=hj.sim
  have hnone:ρ s.h.next = none:=noDom hsj
  have hx:Ext ρ (upd ρ s.h.next ⟨wj.heap.size,0,1⟩):=Ext.upd _ hnone
  have st1:=hsj.push (.loop 0 s.tm ps.toList aa ab 0 none) (.loop L) ⟨wj.heap.size,0,1⟩ rfl
   ⟨rfl,rfl,hsj.low,L,by show (wj.heap.push _)[wj.heap.size]? = _; simp,by rw [hLt]; exact VRs.mono hx ht,by rw [hLp],by rw [hLa]; exact ha,by rw [hLb]; exact hb,by rw [hLs]; trivial,by rw [hLn]; trivial⟩
  have hself:(upd ρ s.h.next ⟨wj.heap.size,0,1⟩) s.h.next = some ⟨wj.heap.size,0,1⟩:=upd_self _ _ _
  have hargs:VRs (upd ρ s.h.next ⟨wj.heap.size,0,1⟩) (first ++ [.fn (.yield s.h.next) [] []] ++ captured) (a1 ++ #[Value.func (.yield wj.heap.size) #[] #[]] ++ b1).toList:=by
   simp only [Array.toList_append]
   exact ((h1.mono hx).append (.cons (.yld (p:=⟨wj.heap.size,0,1⟩) hself) .nil)).append (h2'.mono hx)
  have hent:=hc.enter g _ rv _ h2 hcall ⟨s.h.next,by simp⟩ (a1 ++ #[Value.func (.yield wj.heap.size) #[] #[]] ++ b1) (wj.alloc (.loop L))
  have hup:=hc.fn g _ rv _ h2 hcall _ B (wj.alloc (.loop L)) _ st1.sim hargs
  rw [hent] at hup
  refine ⟨{ target := .fn (.func g) b1,args:=a1 ++ #[Value.func (.yield wj.heap.size) #[] #[]] },_,g,_,_,by
   have hcst:∀ v,a.eval (.const v) = v:=fun _ => rfl
   simp [resolve,hvf,Deferred.ofValue,hcst]; rfl,by show (callFunc g _).run P _ = _; exact hent,?_⟩
  have hup':CallsIn (FF ro) 0 P g _ _ _:=hup
  refine CallsIn.mono hup' fun e w₃ he' => ?_
  obtain ⟨v,rfl, ρ2,hvr,st2⟩:=he'
  have hp2:=st2.ext _ _ hself
  unfold endRange at he
  split at he <;> first | (cases he; done) | skip
  rename_i fn tm' ps' a' b' st pend hget
  split at he <;> first | (cases he; done) | skip
  rename_i hst
  obtain ⟨L2,k1,k2,k3,k4,k5,k6,k7⟩:=loopOf st2.sim hget hp2
  have hbusy:L2.state ≠ .busy:=by
   intro e
   rw [e] at k6
   rcases st with _ | _ | _ | _ | st <;> first | exact hst rfl | cases k6
  have hend:=run_endLoop (P:=P) (w:=w₃) (l:=wj.heap.size) k1 hbusy
  have st3:∀ pd,pendR pd L2.pending -> Stp P B ρ s.h w ρ2 (h2.set s.h.next (.loop fn tm' ps' a' b' 3 pd)) (putRowW w₃ wj.heap.size (.loop { L2 with state := .exhausted })):=fun pd hpd =>
   hj.trans (st1.trans (st2.trans (Sim.setLoop (L':={ L2 with state := .exhausted }) (st':=3) st2.sim hget hp2 k1 k2 k3 k4 k5 trivial hpd fn)))
  have hD:∀ pd,pendR pd L2.pending -> DOK W (putRowW w₃ wj.heap.size (.loop { L2 with state := .exhausted })) (mark ++ a.defers):=fun pd hpd =>
   hd.stp hsj (st1.trans (st2.trans (Sim.setLoop (L':={ L2 with state := .exhausted }) (st':=3) st2.sim hget hp2 k1 k2 k3 k4 k5 trivial hpd fn)))
  refine ⟨L2.pending,_,hend,?_⟩
  rw [putObj_eq]
  generalize putRowW w₃ wj.heap.size (.loop { L2 with state := .exhausted }) = w4 at st3 hD ⊢
  split at he
  ·cases he
   have hpn:L2.pending = none:=by
    revert k7; cases L2.pending <;> intro k7 <;> first | rfl | cases k7
   rw [hpn]
   exact hq ρ2 _ _ (ht.mono ((st3 none k7).ext)) (st3 none k7) (hD none k7)
  ·cases he
   have hpn:L2.pending = some .ret:=by
    revert k7; cases L2.pending with
    | none => intro k7; cases k7
    | some c => cases c <;> intro k7 <;> first | rfl | cases k7
   rw [hpn]
   exact wpIn_ret (hq ρ2 { a with defers:=mark ++ a.defers } _ (ht.mono ((st3 _ k7).ext)) (st3 _ k7) (hD _ k7))
  ·rename_i id
   cases he
   have hpn:L2.pending = some (.exit id):=by
    revert k7; cases L2.pending with
    | none => intro k7; cases k7
    | some c => cases c <;> intro k7 <;> first | (have:id = _:=k7; rw [this]; done) | cases k7
   rw [hpn]
   exact wpIn_exit (hq ρ2 { a with defers:=mark ++ a.defers } _ (ht.mono ((st3 _ k7).ext)) (st3 _ k7) (hD _ k7))
theorem range_sound (hc : CallOK P call) {f : Operand} {af : AOpd} {ps : Array Tmp} {assign body : Code} {aa ab : ACode} (hf : trOpd f = some af) (ha : tr P assign = some aa) (hb : tr P body = some ab) {s s' : St} {x : AX} {fuel : Nat}
  (he:exec (.rangeFunc af ps.toList aa ab) call fuel s = some (x,s')) (hs:Sim P ρ s.h B w) (ht:TR ρ s.tm a.tmps) (hW:W <= w.heap.size) (hd:DOK W w a.defers) {ro:Option Nat} (hi:InR ro w) {Q:Exit -> Act -> World -> Prop} (hq:Post P B W ρ s.h w x s' Q) :
  (Code.rangeFunc f ps assign body).wpIn (FF ro) 0 P Q a w:=by
 refine wpIn_rangeFunc fun fn _ => ?_
 cases ro with
 | none =>
  obtain ⟨d,w₁',g,args,w₂,q1,q2,q3⟩:=range_core (ro:=none) hc hf ha hb he hs ht hq (Stp.junk hs (.deferred (some []))) (hd.push hW)
   (L:={ state := .ready,pending:=none,fn,tmps:=a.tmps,params:=ps,assign,body,defers:=w.heap.size }) rfl rfl rfl rfl rfl rfl
  refine ⟨w.heap.size + 1, [{ target := .collected w.heap.size,args := #[] }],_,d,w₁',g,args,w₂,run_enterLoop_outer fn a.tmps ps assign body,?_,fun _ _ => trivial,q2,fun h => by simp [FF,Fence.wide] at h,?_⟩
  ·simpa using q1
  ·simpa using q3
 | some l0 =>
  obtain ⟨r0,hr0⟩:=hi l0 rfl
  obtain ⟨d,w₁',g,args,w₂,q1,q2,q3⟩:=range_core (ro:=some l0) hc hf ha hb he hs ht hq (Stp.refl hs) (mark:=[]) (by simpa using hd)
   (L:={ state := .ready,pending:=none,fn,tmps:=a.tmps,params:=ps,assign,body,defers:=r0.defers }) rfl rfl rfl rfl rfl rfl
  exact ⟨w.heap.size, [],_,d,w₁',g,args,w₂,run_enterLoop_inner hr0 fn a.tmps ps assign body,q1,fun _ _ => trivial,q2,fun h => by simp [FF,Fence.wide] at h,q3⟩
theorem exec_sound (hm : P.follows .mixedOrders = true) (hc : CallOK P call) : ∀ (c : Code) (ac : ACode), tr P c = some ac -> ∀ (fuel : Nat) (s : St) (x : AX) (s' : St), exec ac call fuel s = some (x, s') ->
  ∀ {ρ:Rho} {B W:Nat} {w:World} {a:Act} {ro:Option Nat} {Q:Exit -> Act -> World -> Prop},Sim P ρ s.h B w -> TR ρ s.tm a.tmps -> W <= w.heap.size -> DOK W w a.defers -> InR ro w -> Post P B W ρ s.h w x s' Q -> c.wpIn (FF ro) 0 P Q a w:=by
 intro c
 induction c with
 | skip =>
  intro ac htr fuel s x s' he ρ B W w a ro Q hs ht hW hd hi hq
  simp only [tr,Option.some.injEq] at htr; subst htr
  rw [exec_skip] at he; cases he
  exact wpIn_skip (hq ρ a w ht (Stp.refl hs) hd)
 | label l =>
  intro ac htr fuel s x s' he ρ B W w a ro Q hs ht hW hd hi hq
  simp only [tr,Option.some.injEq] at htr; subst htr
  rw [exec_skip] at he; cases he
  exact wpIn_label (hq ρ a w ht (Stp.refl hs) hd)
 | goto l => intro ac htr; simp only [tr] at htr; cases htr
 | refuse r => intro ac htr; simp only [tr] at htr; cases htr
 | ret =>
  intro ac htr fuel s x s' he ρ B W w a ro Q hs ht hW hd hi hq
  simp only [tr,Option.some.injEq] at htr; subst htr
  rw [exec_ret] at he; cases he
  exact wpIn_ret (hq ρ a w ht (Stp.refl hs) hd)
 | exit id =>
  intro ac htr fuel s x s' he ρ B W w a ro Q hs ht hW hd hi hq
  simp only [tr,Option.some.injEq] at htr; subst htr
  rw [exec_exit] at he; cases he
  exact wpIn_exit (hq ρ a w ht (Stp.refl hs) hd)
 | region id ops dr =>
  intro ac htr fuel s x s' he ρ B W w a ro Q hs ht hW hd hi hq
  cases dr with
  | false =>
   simp only [tr] at htr
   split at htr <;> cases htr
   rename_i l hl
   rw [exec_ops] at he
   split at he <;> cases he
   rename_i hr
   obtain ⟨u1,u2⟩:=trOpers_get hl
   refine wpIn_region ?_
   rw [List.range_eq_range']
   exact ops_sound hc ops.size 0 l (by omega) (by simpa using u1) (fun k o _ ho => u2 k o (by simpa using ho)) hs ht hr fun ρ' a' w' h1 h2 h3 => hq ρ' a' w' h2 h3 (by rw [h1]; exact hd.stp hs h3)
  | true =>
   simp only [tr] at htr
   split at htr <;> cases htr
   rename_i L hL
   rw [exec_draw] at he
   split at he <;> cases he
   rename_i hr
   refine wpIn_region_any hm ?_
   exact draw_sound hL hc (hs.drew _) ht hr fun ρ' a' w' h1 h2 h3 => hq ρ' a' w' h2 (h3.ofDrew (Nat.le_succ _)) (by rw [h1]; exact hd.stp hs (h3.ofDrew (Nat.le_succ _)))
 | seq p q ihp ihq =>
  intro ac htr fuel s x s' he ρ B W w a ro Q hs ht hW hd hi hq
  simp only [tr] at htr
  split at htr <;> cases htr
  rename_i ap aq h1 h2
  rw [exec_seq] at he
  refine wpIn_seq ?_
  split at he
  ·rename_i s1 hp
   refine ihp ap h1 fuel s _ s1 hp hs ht hW hd hi fun ρ1 a1 w1 ht1 st1 hd1 => ?_
   refine ihq aq h2 fuel s1 x s' he st1.sim ht1 (Nat.le_trans hW st1.size) hd1 (hi.stp st1) fun ρ2 a2 w2 ht2 st2 hd2 => ?_
   exact hq ρ2 a2 w2 ht2 (st1.trans st2) hd2
  ·rename_i hne
   refine ihp ap h1 fuel s x s' he hs ht hW hd hi fun ρ1 a1 w1 ht1 st1 hd1 => ?_
   have:=hq ρ1 a1 w1 ht1 st1 hd1
   cases x with
   | normal => exact absurd he (hne s')
   | exit id => exact this
   | ret => exact this
 | cond co p q ihp ihq =>
  intro ac htr fuel s x s' he ρ B W w a ro Q hs ht hW hd hi hq
  simp only [tr] at htr
  split at htr <;> cases htr
  rename_i aco ap aq h0 h1 h2
  rw [exec_cond] at he
  have hv:=opd_sound ht h0
  split at he <;> first | (cases he; done) | skip
  rename_i t heq
  rw [heq] at hv
  generalize hvv:a.eval co = v at hv
  cases hv
  refine wpIn_cond hvv ?_
  cases t with
  | true => exact ihp ap h1 fuel s x s' he hs ht hW hd hi hq
  | false => exact ihq aq h2 fuel s x s' he hs ht hW hd hi hq
 | block id p ih =>
  intro ac htr fuel s x s' he ρ B W w a ro Q hs ht hW hd hi hq
  simp only [tr] at htr
  split at htr <;> cases htr
  rename_i ap h1
  rw [exec_block] at he
  refine wpIn_block ?_
  cases hp:exec ap call fuel s with
  | none => rw [hp] at he; cases he
  | some r =>
   obtain ⟨x1,s1⟩:=r
   rw [hp] at he
   refine ih ap h1 fuel s x1 s1 hp hs ht hW hd hi fun ρ1 a1 w1 ht1 st1 hd1 => ?_
   cases x1 with
   | normal => cases he; exact hq ρ1 a1 w1 ht1 st1 hd1
   | ret => cases he; exact hq ρ1 a1 w1 ht1 st1 hd1
   | exit id' =>
    simp only [blockX] at he
    show (if id' = id then Q .normal a1 w1 else Q (.exit id') a1 w1)
    split at he
    ·rename_i e
     cases he
     rw [if_pos e]; exact hq ρ1 a1 w1 ht1 st1 hd1
    ·rename_i e
     cases he
     rw [if_neg e]; exact hq ρ1 a1 w1 ht1 st1 hd1
 | loop p ih =>
  intro ac htr fuel s x s' he ρ B W w a ro Q hs ht hW hd hi hq
  simp only [tr] at htr
  split at htr <;> cases htr
  rename_i ap h1
  rw [exec_loop] at he
  refine wpIn_loop_n (fun j a1 w1 => ∃ ρ1 s1,Stp P B ρ s.h w ρ1 s1.h w1 /\ TR ρ1 s1.tm a1.tmps /\ DOK W w1 a1.defers /\ iter j (exec ap call fuel) s1 = some (x,s')) (j:=fuel) ⟨ρ,s,Stp.refl hs,ht,hd,he⟩ ?_
  intro j a1 w1 hR
  obtain ⟨ρ1,s1,st1,ht1,hd1,he1⟩:=hR
  cases j with
  | zero => rw [iter_zero] at he1; cases he1
  | succ j =>
   rw [iter_succ] at he1
   split at he1
   ·rename_i s2 hp
    refine ih ap h1 fuel s1 _ s2 hp st1.sim ht1 (Nat.le_trans hW st1.size) hd1 (hi.stp st1) fun ρ2 a2 w2 ht2 st2 hd2 => ?_
    exact ⟨j,Nat.lt_succ_self j, ρ2,s2,st1.trans st2,ht2,hd2,he1⟩
   ·rename_i hne
    refine ih ap h1 fuel s1 x s' he1 st1.sim ht1 (Nat.le_trans hW st1.size) hd1 (hi.stp st1) fun ρ2 a2 w2 ht2 st2 hd2 => ?_
    have:=hq ρ2 a2 w2 ht2 (st1.trans st2) hd2
    cases x with
    | normal => exact absurd he1 (hne s')
    | exit id => exact this
    | ret => exact this
 | rangeFunc f ps p q ihp ihq =>
  intro ac htr fuel s x s' he ρ B W w a ro Q hs ht hW hd hi hq
  simp only [tr] at htr
  split at htr <;> cases htr
  rename_i af ap aq h0 h1 h2
  exact range_sound hc h0 h1 h2 he hs ht hW hd hi hq
 | scope p ih =>
  intro ac htr fuel s x s' he ρ B W w a ro Q hs ht hW hd hi hq
  simp only [tr] at htr
  split at htr <;> cases htr
  rename_i ap h1
  rw [exec_scope] at he
  refine wpIn_scope ?_
  refine ih ap h1 fuel s x s' he hs ht hW hd hi fun ρ1 a1 w1 ht1 st1 hd1 => ?_
  have:=hq ρ1 a1 w1 ht1 st1 hd1
  cases x <;> exact this
end
end Go.AM
namespace Go.AM
open Go
def TabOK (P : Program) (T : FnTab) : Prop := ∀ f fn, T f = some fn -> ∃ F, P.funcs[f]? = some F /\ trFn P F = some fn /\ (F.name == "runtime.NumGoroutine") = false
structure IOK (P:Program) (I:Oracle):Prop where
 sound:∀ g args av h h',I g args h = some (av,h') -> ∀ ρ B w (args':Array Value),Sim P ρ h B w -> VRs ρ args args'.toList -> Upon P ((callFunc g args').run P w) (Ans P B ρ h w av h')
 plain:∀ g args r h,I g args h = some r -> ∀ l,AV.fn (.yield l) [] [] ∉ args
section
variable {P:Program} {B:Nat} {ρ:Rho} {h:AHeap} {w:World} {a:Act}
theorem resOf_run (hs : Sim P ρ h B w) {tm : List AV} {tmps : Array Value} (ht : TR ρ tm tmps) : ∀ {rs : List ResultVar} {ars : List ARes} {avs : List AV}, trRes P rs = some ars -> resOfs tm h ars = some avs ->
  ∃ vs,(rs.mapM (fun | .tmp t => pure (tmps.getD t undef) | .cell a t => do loadVar t (<- asAddr (tmps.getD a undef)):ResultVar -> Sem Value)).run P w = .ok vs w /\ VRs ρ avs vs
 | [],ars,avs,h1,h2 => by
  simp only [trRes,Option.some.injEq] at h1; subst h1
  simp only [resOfs,Option.some.injEq] at h2; subst h2
  exact ⟨[],by simp, .nil⟩
 | .tmp t :: r,ars,avs,h1,h2 => by
  simp only [trRes] at h1
  split at h1 <;> cases h1
  rename_i l hl
  simp only [resOfs,resOf] at h2
  split at h2 <;> cases h2
  rename_i v vs e1 e2
  cases e1
  obtain ⟨us,k1,k2⟩:=resOf_run hs ht hl e2
  refine ⟨tmps.getD t undef :: us,?_, .cons (ht.nth t) k2⟩
  rw [List.mapM_cons]
  simp only [Sem.run_bind,Sem.run_pure,Result.andThen_ok,k1]
 | .cell c t :: r,ars,avs,h1,h2 => by
  simp only [trRes] at h1
  split at h1 <;> cases h1
  rename_i n l hn hl
  simp only [resOfs,resOf] at h2
  split at h2 <;> cases h2
  rename_i v vs e1 e2
  obtain ⟨us,k1,k2⟩:=resOf_run hs ht hl e2
  have hv:=ht.nth c
  generalize htc:tmps.getD c undef = vc at hv
  split at e1 <;> first | (cases e1; done) | skip
  rename_i i off heq
  rw [heq] at hv
  split at e1 <;> first | (cases e1; done) | skip
  rename_i cs hcs
  obtain ⟨rw',hg⟩:=cellsOf_some hcs
  cases hv with
  | ptr hp =>
   obtain ⟨u,q1,q2⟩:=fit_run hs hg hp hn e1
   refine ⟨u :: us,?_, .cons q2 k2⟩
   rw [List.mapM_cons]
   have hasa:∀ x:Addr,(asAddr (.pointer (some x))).run P w = .ok x w:=fun _ => rfl
   simp only [Sem.run_bind,htc,hasa,Sem.run_pure,Result.andThen_ok,q1,k1]
theorem results_run (hs : Sim P ρ h B w) {tm : List AV} {tmps : Array Value} (ht : TR ρ tm tmps) {F : Func} {ars : List ARes} (hr : trRes P F.results.toList = some ars) {av : AV} (he : result ars tm h = some av) :
  ∃ v,(results F tmps).run P w = .ok v w /\ VR ρ av v:=by
 unfold result at he
 cases hx:resOfs tm h ars with
 | none => rw [hx] at he; cases he
 | some avs =>
  rw [hx] at he
  obtain ⟨vs,h1,h2⟩:=resOf_run hs ht hr hx
  have hm:(F.results.mapM (fun | .tmp t => pure (tmps.getD t undef) | .cell a t => do loadVar t (<- asAddr (tmps.getD a undef)):ResultVar -> Sem Value)).run P w = .ok vs.toArray w:=by
   rw [Array.mapM_eq_mapM_toList]
   simp only [Sem.run_map,h1,Result.andThen_ok]
  have hl:=VRs.length h2
  refine ⟨if h:vs.toArray.size = 1 then vs.toArray[0] else .tuple vs.toArray,?_,?_⟩
  ·unfold results
   rw [Sem.run_bind]
   show Result.andThen ((F.results.mapM (fun | .tmp t => pure (tmps.getD t undef) | .cell a t => do loadVar t (<- asAddr (tmps.getD a undef)):ResultVar -> Sem Value)).run P w) _ = _
   rw [hm]
   rfl
  ·split at he
   ·rename_i v e
    cases e; cases he
    cases h2 with
    | cons hv hr' => cases hr'; exact hv
   ·rename_i vs' hne e
    cases e; cases he
    have hsz:¬ vs.toArray.size = 1:=by
     intro e1
     simp at e1
     rw [<- hl] at e1
     match avs,e1 with
     | [x],_ => exact hne x rfl
    rw [dif_neg hsz]
    exact .tup h2
   ·rename_i e; cases e
theorem callFunc_enter {f : FuncId} {F : Func} {c : Code} (hf : P.funcs[f]? = some F) (hname : (F.name == "runtime.NumGoroutine") = false) (hb : F.body = some c) (args : Array Value) (w : World) : (callFunc f args).run P w = .ok (.enter f args) w := by
 simp [callFunc,hf,hb]
 intro e
 simp [e] at hname
theorem TR.enter {args:List AV} {args':Array Value} (h:VRs ρ args args'.toList) (n:Nat):TR ρ (args ++ List.replicate (n - args.length) aundef) (args' ++ Array.replicate (n - args'.size) undef):=by
 unfold TR
 rw [Array.toList_append,VRs.length h,Array.length_toList,Array.toList_replicate]
 exact VRs.append h (VRs.replicate _ VR.undef)
theorem fn_sound (hm : P.follows .mixedOrders = true) {call : CallT} (hc : CallOK P call) {f : FuncId} {F : Func} {fn : AFn} (hf : P.funcs[f]? = some F) (htr : trFn P F = some fn) (hname : (F.name == "runtime.NumGoroutine") = false)
  {args:List AV} {n:Nat} {av:AV} {h':AHeap} (he:finish fn.res (exec fn.body call n ⟨args ++ List.replicate (fn.nt - args.length) aundef,h⟩) = some (av,h')) (hs:Sim P ρ h B w) {args':Array Value} (ha:VRs ρ args args'.toList) :
  Upon P ((callFunc f args').run P w) (Ans P B ρ h w av h'):=by
 unfold trFn at htr
 split at htr <;> first | (cases htr; done) | skip
 rename_i c hb
 split at htr <;> cases htr
 rename_i ab rs hab hrs
 rw [callFunc_enter hf hname hb]
 show CallsIn Fence.wide 0 P f args' w _
 refine callsIn_of_wp_marks hf hb trivial ?_
 have hpost : ∀ (x : AX) (s' : St), (x = .normal \/ x = .ret) -> result rs s'.tm s'.h = some av -> s'.h = h' -> ∀ ρ' (a' : Act) w', TR ρ' s'.tm a'.tmps -> Stp P B ρ h w ρ' s'.h w' -> DOK w.heap.size w' a'.defers ->
   LeavesInM Fence.wide 0 P F a'.tmps (fun e w'' => ∃ v,e = .returned v /\ Ans P B ρ h w av h' v w'') a'.defers .returning w':=by
  intro x s' _ hr hh ρ' a' w' ht' st' hd'
  obtain ⟨qs,e1,e2,e3⟩:=hd'.ex
  rw [e1]
  refine leaves_marks qs w' st' e2 e3 fun w2 st2 => ?_
  obtain ⟨v,k1,k2⟩:=results_run st2.sim ht' hrs hr
  exact ⟨v,k1,v,rfl, ρ',k2,by rw [<- hh]; exact st2⟩
 unfold finish at he
 split at he
 ·rename_i s' hx
  split at he <;> cases he
  rename_i hr
  exact exec_sound hm hc c ab hab n _ _ s' hx (ro:=none) hs (TR.enter ha _) (Nat.le_refl _) (DOK.nil _ _) (fun l hl => by cases hl) fun ρ' a' w' ht' st' hd' => hpost .normal s' (.inl rfl) hr rfl ρ' a' w' ht' st' hd'
 ·rename_i s' hx
  split at he <;> cases he
  rename_i hr
  exact exec_sound hm hc c ab hab n _ _ s' hx (ro:=none) hs (TR.enter ha _) (Nat.le_refl _) (DOK.nil _ _) (fun l hl => by cases hl) fun ρ' a' w' ht' st' hd' => hpost .ret s' (.inr rfl) hr rfl ρ' a' w' ht' st' hd'
 ·cases he
theorem puts_sound:∀ (ps:List Nat) (args:List AV) (vs:List Value) (tm:List AV) (tmps:Array Value),VRs ρ args vs -> TR ρ tm tmps -> TR ρ (putsT ps args tm) ((ps.zip vs).foldl (fun tmps (p:Nat × Value) => tmps.setIfInBounds p.1 p.2) tmps)
 | [],args,vs,tm,tmps,_,ht => by
  cases args <;> simpa [putsT] using ht
 | p :: ps, [],vs,tm,tmps,ha,ht => by cases ha; simpa [putsT] using ht
 | p :: ps,x :: args,vs,tm,tmps,ha,ht => by
  cases ha with
  | cons h1 h2 => exact puts_sound ps args _ _ _ h2 (ht.put p h1)
theorem yield_sound (hm : P.follows .mixedOrders = true) {call : CallT} (hc : CallOK P call) {l : Nat} {fn : Nat} {tm : List AV} {ps : List Nat} {aa ab : ACode} {pd : Option AJump} (hg : h.get l = some (.loop fn tm ps aa ab 0 pd)) {args : List AV} (hlen : args.length = ps.length)
  {n:Nat} {s1:St} (h1:exec aa call n ⟨putsT ps args tm,h⟩ = some (.normal,s1)) {fn1:Nat} {tm1:List AV} {ps1:List Nat} {a1 b1:ACode} {pd1:Option AJump} (hg1:s1.h.get l = some (.loop fn1 tm1 ps1 a1 b1 0 pd1))
  {av:AV} {h':AHeap} (he:endRound l (exec ab call n ⟨s1.tm,s1.h.set l (.loop fn1 tm1 ps1 a1 b1 1 pd1)⟩) = some (av,h')) (hs:Sim P ρ h B w) {args':Array Value} (ha:VRs ρ args args'.toList) {p:Place} (hp:ρ l = some p) :
  Upon P ((Instr.yield p.blk args').run P w) (Ans P B ρ h w av h'):=by
 obtain ⟨L,q1,q2,q3,q4,q5,q6,q7⟩:=loopOf hs hg hp
 have hsz:args'.size = L.params.size:=by
  have:=VRs.length ha
  rw [<- Array.length_toList, <- this,hlen, <- q3,Array.length_toList]
 rw [run_yield q1 hsz]
 show RoundIn Fence.wide 0 P p.blk L.fn _ L.assign L.body w _
 refine roundIn_of_wpIn trivial ?_
 have hF:Fence.wide.inRound p.blk = FF (some p.blk):=rfl
 rw [hF]
 have htm:TR ρ (putsT ps args tm) ((L.params.zip args').foldl (fun tmps (p:Nat × Value) => tmps.setIfInBounds p.1 p.2) L.tmps):=by
  rw [<- Array.foldl_toList,Array.toList_zip,q3]
  exact puts_sound ps args _ tm L.tmps ha q2
 refine exec_sound hm hc L.assign aa q4 n _ _ s1 h1 (ρ:=ρ) (B:=B) (W:=w.heap.size) hs htm (Nat.le_refl _) (DOK.nil _ _) (fun l' hl' => by cases hl'; exact ⟨L,q1⟩) fun ρ1 a1' w1 ht1 st1 hd1 => ?_
 have hp1:=st1.ext _ _ hp
 obtain ⟨L1,k1,k2,k3,k4,k5,k6,k7⟩:=loopOf st1.sim hg1 hp1
 have hready:L1.state = .ready:=by
  revert k6; cases L1.state <;> intro k6 <;> first | rfl | cases k6
 have st2:=Sim.setLoop (L':={ L1 with state := .busy }) (st':=1) st1.sim hg1 hp1 k1 k2 k3 k4 k5 trivial k7 fn1
 refine ⟨_,run_beginRound k1 hready,?_⟩
 rw [putObj_eq]
 cases hx:exec ab call n ⟨s1.tm,s1.h.set l (.loop fn1 tm1 ps1 a1 b1 1 pd1)⟩ with
 | none => rw [hx] at he; cases he
 | some r =>
  obtain ⟨x,s2⟩:=r
  rw [hx] at he
  simp only [endRound] at he
  split at he <;> first | (cases he; done) | skip
  rename_i fn2 tm2 ps2 a2 b2 st pd2 hg2
  refine exec_sound hm hc L.body ab q5 n _ x s2 hx (ρ:=ρ1) (B:=B) (W:=w.heap.size) st2.sim (ht1.mono st2.ext) (Nat.le_trans st1.size st2.size) (hd1.stp st1.sim st2) (fun l' hl' => by cases hl'; exact ⟨_,putRowW_same (Array.getElem?_eq_some_iff.1 k1).1⟩) fun ρ3 a3 w3 ht3 st3 hd3 => ?_
  have hp3:=st3.ext _ _ (st2.ext _ _ hp1)
  obtain ⟨L3,j1,j2,j3,j4,j5,j6,j7⟩:=loopOf st3.sim hg2 hp3
  have st:Stp P B ρ h w ρ3 s2.h w3:=st1.trans (st2.trans st3)
  cases x with
  | normal =>
   cases he
   have st4:=Sim.setLoop (L':={ L3 with state := .ready,pending:=none }) (st':=0) (pd':=none) st3.sim hg2 hp3 j1 j2 j3 j4 j5 trivial trivial fn2
   exact ⟨_,_,run_endRound none j1,_,rfl, ρ3, .bool _,st.trans st4⟩
  | ret =>
   cases he
   have st4:=Sim.setLoop (L':={ L3 with state := .done,pending:=some .ret }) (st':=2) (pd':=some .ret) st3.sim hg2 hp3 j1 j2 j3 j4 j5 trivial trivial fn2
   exact ⟨_,_,run_endRound (some .ret) j1,_,rfl, ρ3, .bool _,st.trans st4⟩
  | exit id =>
   cases he
   have st4:=Sim.setLoop (L':={ L3 with state := .done,pending:=some (.exit id) }) (st':=2) (pd':=some (.exit id)) st3.sim hg2 hp3 j1 j2 j3 j4 j5 trivial rfl fn2
   exact ⟨_,_,run_endRound (some (.exit id)) j1,_,rfl, ρ3, .bool _,st.trans st4⟩
theorem callF_sound (hm:P.follows .mixedOrders = true) {T:FnTab} {I:Oracle} (hT:TabOK P T) (hI:IOK P I):∀ n,CallOK P (callF T I n)
 | 0 => ⟨(fun g args av h h' he => by rw [callF_zero] at he; cases he),(fun g args av h h' he => by rw [callF_zero] at he; cases he),(fun l args av h h' he => by rw [callF_zero] at he; cases he)⟩
 | n + 1 => by
  have ih:=callF_sound hm hT hI n
  refine ⟨?_,?_,?_⟩
  ·intro g args av h h' he hy args' w
   obtain ⟨l,hl⟩:=hy
   rw [callF_fn] at he
   split at he
   ·rename_i r hr
    exact absurd hl (hI.plain _ _ _ _ hr l)
   ·split at he <;> first | (cases he; done) | skip
    rename_i fn hfn
    obtain ⟨F,h1,h2,h3⟩:=hT g fn hfn
    unfold trFn at h2
    split at h2 <;> first | (cases h2; done) | skip
    rename_i c hb
    exact callFunc_enter h1 h3 hb args' w
  ·intro g args av h h' he ρ B w args' hs ha
   rw [callF_fn] at he
   split at he
   ·rename_i r hr
    cases he
    exact hI.sound g args av h h' hr ρ B w args' hs ha
   ·split at he <;> first | (cases he; done) | skip
    rename_i fn hfn
    obtain ⟨F,h1,h2,h3⟩:=hT g fn hfn
    exact fn_sound hm ih h1 h2 h3 he hs ha
  ·intro l args av h h' he ρ B w args' p hs hp ha
   rw [callF_yield] at he
   split at he <;> first | (cases he; done) | skip
   rename_i fn tm ps a b pd hg
   split at he <;> first | (cases he; done) | skip
   rename_i hlen
   split at he <;> first | (cases he; done) | skip
   rename_i s1 h1
   split at he <;> first | (cases he; done) | skip
   rename_i fn1 tm1 ps1 a1 b1 pd1 hg1
   exact yield_sound hm ih hg hlen h1 hg1 he hs ha hp
end
end Go.AM
namespace Go.AM
open Go
theorem IOK.none {P:Program}:IOK P fun _ _ _ => none:=⟨(fun g args av h h' he => by cases he),(fun g args r h he => by cases he)⟩
def ext (I:Oracle) (g:Nat) (spec:List AV -> Option AV):Oracle:=fun f args h => bif Nat.beq f g then (match spec args with | some av => some (av,h) | none => I f args h) else I f args h
end Go.AM
namespace Go.AM
open Go
inductive Tb where
 | no
 | one (k:Nat) (f:AFn)
 | br (k:Nat) (l r:Tb)
noncomputable def Tb.get (t:Tb):FnTab :=
 Tb.rec (motive:=fun _ => Nat -> Option AFn) (fun _ => none) (fun k f i => Bool.rec (motive:=fun _ => Option AFn) none (some f) (Nat.beq i k)) (fun k _ _ l r i => Bool.rec (motive:=fun _ => Option AFn) (r i) (l i) (Nat.blt i k)) t
def FnOK (P : Program) (f : Nat) (fn : AFn) : Prop := ∃ F, P.funcs[f]? = some F /\ trFn P F = some fn /\ (F.name == "runtime.NumGoroutine") = false
def Tb.OK (P:Program):Tb -> Prop
 | .no => True
 | .one k f => FnOK P k f
 | .br _ l r => Tb.OK P l /\ Tb.OK P r
theorem Tb.ok {P:Program}:∀ {t:Tb},t.OK P -> TabOK P t.get
 | .no,_,f,fn,h => by cases h
 | .one k g,hk,f,fn,h => by
  have h':Bool.rec (motive:=fun _ => Option AFn) none (some g) (Nat.beq f k) = some fn:=h
  cases hb:Nat.beq f k with
  | false => rw [hb] at h'; cases h'
  | true =>
   rw [hb] at h'
   cases h'
   rw [Nat.eq_of_beq_eq_true hb]; exact hk
 | .br k l r,hk,f,fn,h => by
  have h':Bool.rec (motive:=fun _ => Option AFn) (r.get f) (l.get f) (Nat.blt f k) = some fn:=h
  cases hb:Nat.blt f k with
  | false => rw [hb] at h'; exact Tb.ok hk.2 f fn h'
  | true => rw [hb] at h'; exact Tb.ok hk.1 f fn h'
end Go.AM
namespace Go.AM
open Go Go.ChangeShapes Go.WideShapes Go.RowKit
section
variable {H:Type} {enc:TypeId × Value -> H} {P:Program}
theorem post_of_below {f : Func} {s : ChangeSpec} {apart fresh handsOn again : Bool} {W W' : World} {args : Array Value} {v : Value} {ds gs : List (DataW H)} {before pa pv : List MemPlace}
  (hW:DataW.Whole enc P f.params.toList s.vars apart W args.toList ds gs before)
  (hres:∀ (b:Nat) (sp:Nat -> Bool) (hd:Bool),DataW.TrodAll enc P W' b sp hd f.resultTypes.toList (v.resultList f.resultTypes.size) (s.fn H (ds ++ gs)).results [])
  (hargs:∀ sp:Nat -> Bool,(∀ p ∈ before,sp p.block = true) -> DataW.TrodAll enc P W' 0 sp true f.params.toList args.toList (s.fn H (ds ++ gs)).args pa)
  (hvars:∀ sp:Nat -> Bool,(∀ p ∈ before,sp p.block = true) -> DataW.TrodVars enc P W' sp s.vars (s.fn H (ds ++ gs)).vars pv)
  (hps:before = pa ++ pv) (hb:Below W.heap.size W W')
  (hok:∀ (j:Nat) (t:TypeId) (r:Value),f.resultTypes[j]? = some t -> (v.resultList f.resultTypes.size)[j]? = some r -> Value.okWide P W' .any 0 t r) :
  s.post enc P f apart fresh handsOn again W args v W':=by
 have hold:∀ p ∈ before,(fun b => decide (b < W.heap.size)) p.block = true:=fun p hp => by simpa using hW.lt p hp
 have hlt:=hW.lt
 refine ⟨ds,gs,before, [],pa,pv,hW,hres _ _ _,hargs _ hold,hvars _ hold,World.keptBut_mono (fun p hp => ⟨hp,?_⟩) (hb.frame _),fun _ => ?_⟩
 ·rw [hps,List.mem_append] at hp
  exact Or.inr hp
 ·obtain ⟨_,_,_,_,_,hz,hn⟩:=hW
  refine ⟨hok,_,_,([] ++ pa) ++ pv,⟨[] ++ pa,pv,trodAll_append (hargs _ (fun _ _ => rfl)) (hres _ _ _),hvars _ (fun _ _ => rfl),rfl,?_,?_⟩,?_⟩
  ·intro b off hp
   have hp':MemPlace.cell b off ∈ before:=by rw [hps]; simpa using hp
   rw [hb.frozen (show (⟨b,off,none⟩:Addr).block < W.heap.size from hlt _ hp')]
   exact hz b off hp'
  ·intro ha
   have:=hn ha
   rw [hps] at this
   simpa using this
  ·intro p hp _
   rw [hps]
   simpa using hp
end
end Go.AM
namespace Go.AM
open Go
def Le (c1 c2:CallT):Prop:=∀ f a h r,c1 f a h = some r -> c2 f a h = some r
theorem evalE_le {c1 c2:CallT} (hl:Le c1 c2) {op:AOp} {tm:List AV} {h:AHeap} {r:AV × AHeap} (e:evalE op c1 tm h = some r):evalE op c2 tm h = some r:=by
 cases op <;> first | exact e | skip
 simp only [evalE] at e ⊢
 split at e
 ·exact hl _ _ _ _ e
 ·split at e
  ·exact hl _ _ _ _ e
  ·cases e
 ·cases e
theorem step1_le {c1 c2:CallT} (hl:Le c1 c2) {o:AOper} {s s':St} (e:step1 o c1 s = some s'):step1 o c2 s = some s':=by
 cases hc:o.op.cls with
 | q => rw [step1_q hc] at e ⊢; exact e
 | a => rw [step1_a hc] at e ⊢; exact e
 | e =>
  rw [step1_e hc] at e ⊢
  cases hv:evalE o.op c1 s.tm s.h with
  | none => rw [hv] at e; cases e
  | some p => rw [hv] at e; rw [evalE_le hl hv]; exact e
theorem runOps_le {c1 c2:CallT} (hl:Le c1 c2):∀ (l:List AOper) {s s':St},runOps l c1 s = some s' -> runOps l c2 s = some s'
 | [],_,_,e => e
 | o :: r,s,s',e => by
  rw [runOps_cons] at e ⊢
  split at e
  ·rename_i hw
   rw [if_pos hw]
   cases hv:step1 o c1 s with
   | none => rw [hv] at e; cases e
   | some s1 => rw [hv] at e; rw [step1_le hl hv]; exact runOps_le hl r e
  ·rename_i hw
   rw [if_neg hw]; exact runOps_le hl r e
theorem runDraw_le {c1 c2:CallT} (hl:Le c1 c2):∀ (l:List (AOper × Nat)) {s s':St} {ps:List ((AHeap -> Bool) × Nat)},runDraw l c1 s ps = some s' -> runDraw l c2 s ps = some s'
 | [],_,_,_,e => e
 | (o,n) :: r,s,s',ps,e => by
  rw [runDraw_cons] at e ⊢
  split at e
  ·rename_i hw
   rw [if_pos hw]
   cases hv:step1 o c1 s with
   | none => rw [hv] at e; cases e
   | some s1 =>
    rw [hv] at e; rw [step1_le hl hv]
    dsimp only at e ⊢
    cases hc:o.op.cls with
    | e =>
     simp only [hc] at e ⊢
     cases hb:checks ps s1.h with
     | false => rw [hb] at e; cases e
     | true => rw [hb] at e; exact runDraw_le hl r e
    | q => simp only [hc] at e ⊢; cases n <;> exact runDraw_le hl r e
    | a => simp only [hc] at e ⊢; cases n <;> exact runDraw_le hl r e
  ·rename_i hw
   rw [if_neg hw]; exact runDraw_le hl r e
theorem iter_le {f g:St -> XR} (hf:∀ s r,f s = some r -> g s = some r):∀ {k m:Nat} {s:St} {r:AX × St},k <= m -> iter k f s = some r -> iter m g s = some r
 | 0,_,_,_,_,e => by cases e
 | k + 1,0,_,_,h,_ => by omega
 | k + 1,m + 1,s,r,h,e => by
  rw [iter_succ] at e ⊢
  cases hv:f s with
  | none => rw [hv] at e; cases e
  | some p =>
   rw [hv] at e; rw [hf _ _ hv]
   obtain ⟨x,s1⟩:=p
   cases x with
   | normal => exact iter_le hf (by omega) e
   | _ => exact e
theorem exec_le {c1 c2:CallT} (hl:Le c1 c2) {k m:Nat} (hk:k <= m):∀ (c:ACode) {s:St} {r:AX × St},exec c c1 k s = some r -> exec c c2 m s = some r
 | .skip,_,_,e => e
 | .ops l,s,r,e => by
  rw [exec_ops] at e ⊢
  cases hv:runOps l c1 s with
  | none => rw [hv] at e; cases e
  | some p => rw [hv] at e; rw [runOps_le hl l hv]; exact e
 | .draw l,s,r,e => by
  rw [exec_draw] at e ⊢
  cases hv:runDraw l c1 s [] with
  | none => rw [hv] at e; cases e
  | some p => rw [hv] at e; rw [runDraw_le hl l hv]; exact e
 | .seq a b,s,r,e => by
  rw [exec_seq] at e ⊢
  cases hv:exec a c1 k s with
  | none => rw [hv] at e; cases e
  | some p =>
   rw [hv] at e; rw [exec_le hl hk a hv]
   obtain ⟨x,s1⟩:=p
   cases x with
   | normal => exact exec_le hl hk b e
   | _ => exact e
 | .cond c a b,s,r,e => by
  rw [exec_cond] at e ⊢
  split at e
  ·rename_i t hc
   split at e
   ·rename_i ht; rw [if_pos ht]; exact exec_le hl hk a e
   ·rename_i ht; rw [if_neg ht]; exact exec_le hl hk b e
  ·cases e
 | .block id b,s,r,e => by
  rw [exec_block] at e ⊢
  cases hv:exec b c1 k s with
  | none => rw [hv] at e; cases e
  | some p => rw [hv] at e; rw [exec_le hl hk b hv]; exact e
 | .loop b,s,r,e => by
  rw [exec_loop] at e ⊢
  exact iter_le (fun s r he => exec_le hl hk b he) hk e
 | .rangeFunc f ps a b,s,r,e => by
  rw [exec_range] at e ⊢
  split at e
  ·rename_i g first captured hf
   split at e
   ·rename_i v h2 hv
    rw [hl _ _ _ _ hv]; exact e
   ·cases e
  ·cases e
 | .exit id,_,_,e => e
 | .scope b,s,r,e => by
  rw [exec_scope] at e ⊢; exact exec_le hl hk b e
 | .ret,_,_,e => e
theorem finish_le {rs:List ARes} {x y:XR} {r:AV × AHeap} (h:∀ p,x = some p -> y = some p) (e:finish rs x = some r):finish rs y = some r:=by
 cases x with
 | none => cases e
 | some p => rw [h p rfl]; exact e
theorem endRound_le {l:Nat} {x y:XR} {r:AV × AHeap} (h:∀ p,x = some p -> y = some p) (e:endRound l x = some r):endRound l y = some r:=by
 cases x with
 | none => cases e
 | some p => rw [h p rfl]; exact e
theorem callF_le {T:FnTab} {I:Oracle}:∀ {n m:Nat},n <= m -> Le (callF T I n) (callF T I m)
 | 0,_,_ => fun _ _ _ _ e => by cases e
 | n + 1,0,h => by omega
 | n + 1,m + 1,h => fun c a hp r e => by
  have ih:Le (callF T I n) (callF T I m):=callF_le (by omega)
  cases c with
  | fn f =>
   rw [callF_fn] at e ⊢
   cases hi:I f a hp with
   | some r' => rw [hi] at e; exact e
   | none =>
    rw [hi] at e
    dsimp only at e ⊢
    cases hT:T f with
    | none => rw [hT] at e; cases e
    | some fn =>
     rw [hT] at e
     exact finish_le (fun p hp => exec_le ih (by omega) _ hp) e
  | yield l =>
   rw [callF_yield] at e ⊢
   split at e
   ·rename_i tm ps ca cb pend hg
    split at e
    ·rename_i hlen
     rw [if_pos hlen]
     split at e
     ·rename_i s1 hv
      rw [exec_le ih (by omega) _ hv]
      dsimp only at e ⊢
      split at e
      ·exact endRound_le (fun p hp => exec_le ih (by omega) _ hp) e
      ·cases e
     ·cases e
    ·cases e
   ·cases e
noncomputable def lim (T:FnTab) (I:Oracle):CallT:=fun c a h => open Classical in if e:∃ r, ∃ n,callF T I n c a h = some r then some (Classical.choose e) else none
theorem lim_iff {T:FnTab} {I:Oracle} {c:Callee} {a:List AV} {h:AHeap} {r:AV × AHeap}:lim T I c a h = some r ↔ ∃ n,callF T I n c a h = some r:=by
 unfold lim
 constructor
 ·intro e
  split at e
  ·rename_i hx
   obtain ⟨n,hn⟩:=Classical.choose_spec hx
   cases e
   exact ⟨n,hn⟩
  ·cases e
 ·rintro ⟨n,hn⟩
  have hx:∃ r, ∃ n,callF T I n c a h = some r:=⟨r,n,hn⟩
  rw [dif_pos hx]
  obtain ⟨m,hm⟩:=Classical.choose_spec hx
  have h1:=callF_le (Nat.le_max_left n m) _ _ _ _ hn
  have h2:=callF_le (Nat.le_max_right n m) _ _ _ _ hm
  rw [h1] at h2
  exact h2.symm
section
variable {T:FnTab} {I:Oracle}
theorem evalE_lim {op:AOp} {tm:List AV} {h:AHeap} {r:AV × AHeap} (e:evalE op (lim T I) tm h = some r):∃ n,evalE op (callF T I n) tm h = some r:=by
 cases op <;> first | exact ⟨0,e⟩ | skip
 simp only [evalE] at e ⊢
 split at e
 ·exact lim_iff.1 e
 ·split at e
  ·exact lim_iff.1 e
  ·cases e
 ·cases e
theorem step1_lim {o:AOper} {s s':St} (e:step1 o (lim T I) s = some s'):∃ n,step1 o (callF T I n) s = some s':=by
 cases hc:o.op.cls with
 | q => rw [step1_q hc] at e; refine ⟨0,?_⟩; rw [step1_q hc]; exact e
 | a => rw [step1_a hc] at e; refine ⟨0,?_⟩; rw [step1_a hc]; exact e
 | e =>
  rw [step1_e hc] at e
  cases hv:evalE o.op (lim T I) s.tm s.h with
  | none => rw [hv] at e; cases e
  | some p => rw [hv] at e; obtain ⟨n,hn⟩:=evalE_lim hv; refine ⟨n,?_⟩; rw [step1_e hc,hn]; exact e
theorem runOps_lim:∀ (l:List AOper) {s s':St},runOps l (lim T I) s = some s' -> ∃ n,runOps l (callF T I n) s = some s'
 | [],_,_,e => ⟨0,e⟩
 | o :: r,s,s',e => by
  rw [runOps_cons] at e
  split at e
  ·rename_i hw
   cases hv:step1 o (lim T I) s with
   | none => rw [hv] at e; cases e
   | some s1 =>
    rw [hv] at e
    obtain ⟨n1,h1⟩:=step1_lim hv
    obtain ⟨n2,h2⟩:=runOps_lim r e
    refine ⟨max n1 n2,?_⟩
    rw [runOps_cons,if_pos hw,step1_le (callF_le (Nat.le_max_left n1 n2)) h1]
    exact runOps_le (callF_le (Nat.le_max_right n1 n2)) r h2
  ·rename_i hw
   obtain ⟨n,hn⟩:=runOps_lim r e
   refine ⟨n,?_⟩
   rw [runOps_cons,if_neg hw]; exact hn
theorem runDraw_lim:∀ (l:List (AOper × Nat)) {s s':St} {ps:List ((AHeap -> Bool) × Nat)},runDraw l (lim T I) s ps = some s' -> ∃ n,runDraw l (callF T I n) s ps = some s'
 | [],_,_,_,e => ⟨0,e⟩
 | (o,m) :: r,s,s',ps,e => by
  rw [runDraw_cons] at e
  split at e
  ·rename_i hw
   cases hv:step1 o (lim T I) s with
   | none => rw [hv] at e; cases e
   | some s1 =>
    rw [hv] at e
    obtain ⟨n1,h1⟩:=step1_lim hv
    have key:∀ ps',runDraw r (lim T I) s1 ps' = some s' -> ∃ n,step1 o (callF T I n) s = some s1 /\ runDraw r (callF T I n) s1 ps' = some s':=by
     intro ps' e'
     obtain ⟨n2,h2⟩:=runDraw_lim r e'
     exact ⟨max n1 n2,step1_le (callF_le (Nat.le_max_left n1 n2)) h1,runDraw_le (callF_le (Nat.le_max_right n1 n2)) r h2⟩
    dsimp only at e
    cases hc:o.op.cls with
    | e =>
     simp only [hc] at e
     cases hb:checks ps s1.h with
     | false => rw [hb] at e; cases e
     | true =>
      rw [hb] at e
      obtain ⟨n,k1,k2⟩:=key _ e
      refine ⟨n,?_⟩
      rw [runDraw_cons,if_pos hw,k1]; simp only [hc,hb]; exact k2
    | q =>
     simp only [hc] at e
     cases m <;> (obtain ⟨n,k1,k2⟩:=key _ e; refine ⟨n,?_⟩; rw [runDraw_cons,if_pos hw,k1]; simp only [hc]; exact k2)
    | a =>
     simp only [hc] at e
     cases m <;> (obtain ⟨n,k1,k2⟩:=key _ e; refine ⟨n,?_⟩; rw [runDraw_cons,if_pos hw,k1]; simp only [hc]; exact k2)
  ·rename_i hw
   obtain ⟨n,hn⟩:=runDraw_lim r e
   refine ⟨n,?_⟩
   rw [runDraw_cons,if_neg hw]; exact hn
theorem iter_lim {c:ACode} {j:Nat} (hf:∀ s r,exec c (lim T I) j s = some r -> ∃ n,exec c (callF T I n) j s = some r):∀ {k:Nat} {s:St} {r:AX × St},iter k (exec c (lim T I) j) s = some r -> ∃ n,iter k (exec c (callF T I n) j) s = some r
 | 0,_,_,e => by cases e
 | k + 1,s,r,e => by
  rw [iter_succ] at e
  cases hv:exec c (lim T I) j s with
  | none => rw [hv] at e; cases e
  | some p =>
   rw [hv] at e
   obtain ⟨n1,h1⟩:=hf _ _ hv
   obtain ⟨x,s1⟩:=p
   cases x with
   | normal =>
    obtain ⟨n2,h2⟩:=iter_lim hf e
    refine ⟨max n1 n2,?_⟩
    rw [iter_succ,exec_le (callF_le (Nat.le_max_left n1 n2)) (Nat.le_refl j) c h1]
    exact iter_le (fun s r he => exec_le (callF_le (Nat.le_max_right n1 n2)) (Nat.le_refl j) c he) (Nat.le_refl _) h2
   | _ => refine ⟨n1,?_⟩; rw [iter_succ,h1]; exact e
theorem exec_lim {k:Nat}:∀ (c:ACode) {s:St} {r:AX × St},exec c (lim T I) k s = some r -> ∃ n,exec c (callF T I n) k s = some r
 | .skip,_,_,e => ⟨0,e⟩
 | .ops l,s,r,e => by
  rw [exec_ops] at e
  cases hv:runOps l (lim T I) s with
  | none => rw [hv] at e; cases e
  | some p => rw [hv] at e; obtain ⟨n,hn⟩:=runOps_lim l hv; refine ⟨n,?_⟩; rw [exec_ops,hn]; exact e
 | .draw l,s,r,e => by
  rw [exec_draw] at e
  cases hv:runDraw l (lim T I) s [] with
  | none => rw [hv] at e; cases e
  | some p => rw [hv] at e; obtain ⟨n,hn⟩:=runDraw_lim l hv; refine ⟨n,?_⟩; rw [exec_draw,hn]; exact e
 | .seq a b,s,r,e => by
  rw [exec_seq] at e
  cases hv:exec a (lim T I) k s with
  | none => rw [hv] at e; cases e
  | some p =>
   rw [hv] at e
   obtain ⟨n1,h1⟩:=exec_lim a hv
   obtain ⟨x,s1⟩:=p
   cases x with
   | normal =>
    obtain ⟨n2,h2⟩:=exec_lim b e
    refine ⟨max n1 n2,?_⟩
    rw [exec_seq,exec_le (callF_le (Nat.le_max_left n1 n2)) (Nat.le_refl k) a h1]
    exact exec_le (callF_le (Nat.le_max_right n1 n2)) (Nat.le_refl k) b h2
   | _ => refine ⟨n1,?_⟩; rw [exec_seq,h1]; exact e
 | .cond c a b,s,r,e => by
  rw [exec_cond] at e
  split at e
  ·rename_i t hc
   split at e
   ·rename_i ht
    obtain ⟨n,hn⟩:=exec_lim a e
    refine ⟨n,?_⟩; rw [exec_cond,hc]; dsimp only; rw [if_pos ht]; exact hn
   ·rename_i ht
    obtain ⟨n,hn⟩:=exec_lim b e
    refine ⟨n,?_⟩; rw [exec_cond,hc]; dsimp only; rw [if_neg ht]; exact hn
  ·cases e
 | .block id b,s,r,e => by
  rw [exec_block] at e
  cases hv:exec b (lim T I) k s with
  | none => rw [hv] at e; cases e
  | some p => rw [hv] at e; obtain ⟨n,hn⟩:=exec_lim b hv; refine ⟨n,?_⟩; rw [exec_block,hn]; exact e
 | .loop b,s,r,e => by
  rw [exec_loop] at e
  obtain ⟨n,hn⟩:=iter_lim (fun s r he => exec_lim b he) e
  exact ⟨n,by rw [exec_loop]; exact hn⟩
 | .rangeFunc f ps a b,s,r,e => by
  rw [exec_range] at e
  split at e
  ·rename_i g first captured hf
   split at e
   ·rename_i v h2 hv
    obtain ⟨n,hn⟩:=lim_iff.1 hv
    refine ⟨n,?_⟩
    rw [exec_range,hf]
    dsimp only
    rw [hn]; exact e
   ·cases e
  ·cases e
 | .exit id,_,_,e => ⟨0,e⟩
 | .scope b,s,r,e => by
  rw [exec_scope] at e
  obtain ⟨n,hn⟩:=exec_lim b e
  exact ⟨n,by rw [exec_scope]; exact hn⟩
 | .ret,_,_,e => ⟨0,e⟩
theorem lim_oracle {f:Nat} {a:List AV} {h:AHeap} {r:AV × AHeap} (e:I f a h = some r):lim T I (.fn f) a h = some r:=lim_iff.2 ⟨1,by rw [callF_fn,e]⟩
theorem lim_fn {f : Nat} {fn : AFn} (hT : T f = some fn) {a : List AV} {h : AHeap} {r : AV × AHeap} (hI : I f a h = none) {k : Nat}
  (e:finish fn.res (exec fn.body (lim T I) k ⟨a ++ List.replicate (fn.nt - a.length) aundef,h⟩) = some r):lim T I (.fn f) a h = some r:=by
 cases hx:exec fn.body (lim T I) k ⟨a ++ List.replicate (fn.nt - a.length) aundef,h⟩ with
 | none => rw [hx] at e; cases e
 | some p =>
  rw [hx] at e
  obtain ⟨n,hn⟩:=exec_lim _ hx
  refine lim_iff.2 ⟨max n k + 1,?_⟩
  rw [callF_fn,hI,hT]
  dsimp only
  rw [exec_le (callF_le (Nat.le_max_left n k)) (Nat.le_max_right n k) _ hn]
  exact e
end
end Go.AM
namespace Go.AM
open Go
inductive Fr where
 | seq (b:ACode)
 | block (id:Nat)
 | loop (b:ACode)
section
variable {C:CallT} {K:List Fr} {Q:AX -> St -> Prop}
theorem Le.rfl {c:CallT}:Le c c:=fun _ _ _ _ h => h
noncomputable def runK (C:CallT):List Fr -> Nat -> XR -> XR
 | [],_,r => r
 | .seq b :: K,k,r => runK C K k (match r with | some (.normal,s) => exec b C k s | r => r)
 | .block id :: K,k,r => runK C K k (blockX id r)
 | .loop b :: K,k,r => runK C K k (match r with | some (.normal,s) => iter k (exec b C k) s | r => r)
theorem runK_none:∀ (K:List Fr) (k:Nat),runK C K k none = none
 | [],_ => by rfl
 | .seq _ :: K,k => runK_none K k
 | .block _ :: K,k => runK_none K k
 | .loop _ :: K,k => runK_none K k
theorem runK_le {k m:Nat} (hk:k <= m):∀ (K:List Fr) {x y:XR} {p:AX × St},(∀ q,x = some q -> y = some q) -> runK C K k x = some p -> runK C K m y = some p
 | [],x,y,p,h,e => h _ e
 | .seq b :: K,x,y,p,h,e => by
  cases x with
  | none => exact absurd ((runK_none (C:=C) (.seq b :: K) k).symm.trans e) (by simp)
  | some q =>
   rw [h q rfl]
   obtain ⟨a,s⟩:=q
   cases a with
   | normal => exact runK_le hk K (fun q hq => exec_le Le.rfl hk b hq) e
   | _ => exact runK_le hk K (fun q hq => hq) e
 | .block id :: K,x,y,p,h,e => by
  cases x with
  | none => exact absurd ((runK_none (C:=C) (.block id :: K) k).symm.trans e) (by simp)
  | some q => rw [h q rfl]; exact runK_le hk K (fun q hq => hq) e
 | .loop b :: K,x,y,p,h,e => by
  cases x with
  | none => exact absurd ((runK_none (C:=C) (.loop b :: K) k).symm.trans e) (by simp)
  | some q =>
   rw [h q rfl]
   obtain ⟨a,s⟩:=q
   cases a with
   | normal => exact runK_le hk K (fun q hq => iter_le (fun s r he => exec_le Le.rfl hk b he) hk hq) e
   | _ => exact runK_le hk K (fun q hq => hq) e
def WX (C:CallT) (x:AX) (K:List Fr) (s:St) (Q:AX -> St -> Prop):Prop:=∃ k y s',runK C K k (some (x,s)) = some (y,s') /\ Q y s'
def WK (C:CallT) (c:ACode) (K:List Fr) (s:St) (Q:AX -> St -> Prop):Prop:=∃ k y s',runK C K k (exec c C k s) = some (y,s') /\ Q y s'
def WOs (C:CallT) (l:List AOper) (K:List Fr) (s:St) (Q:AX -> St -> Prop):Prop:=∃ s',runOps l C s = some s' /\ WX C .normal K s' Q
def WDs (C:CallT) (l:List (AOper × Nat)) (ps:List ((AHeap -> Bool) × Nat)) (K:List Fr) (s:St) (Q:AX -> St -> Prop):Prop:=∃ s',runDraw l C s ps = some s' /\ WX C .normal K s' Q
def WB (C:CallT) (v:AV) (a b:ACode) (K:List Fr) (s:St) (Q:AX -> St -> Prop):Prop:=match v with
 | .bool true => WK C a K s Q
 | .bool false => WK C b K s Q
 | _ => False
theorem WB_true {a b:ACode} {s:St}:WB C (.bool true) a b K s Q ↔ WK C a K s Q:=Iff.rfl
theorem WB_false {a b:ACode} {s:St}:WB C (.bool false) a b K s Q ↔ WK C b K s Q:=Iff.rfl
theorem WK_skip {s:St}:WK C .skip K s Q ↔ WX C .normal K s Q:=Iff.rfl
theorem WK_seq {a b:ACode} {s:St}:WK C (.seq a b) K s Q ↔ WK C a (.seq b :: K) s Q:=by
 unfold WK; simp only [exec_seq]; exact Iff.rfl
theorem WX_seq {b:ACode} {s:St}:WX C .normal (.seq b :: K) s Q ↔ WK C b K s Q:=Iff.rfl
theorem WX_seq_exit {b:ACode} {s:St} {i:Nat}:WX C (.exit i) (.seq b :: K) s Q ↔ WX C (.exit i) K s Q:=Iff.rfl
theorem WX_seq_ret {b:ACode} {s:St}:WX C .ret (.seq b :: K) s Q ↔ WX C .ret K s Q:=Iff.rfl
theorem WK_block {id:Nat} {b:ACode} {s:St}:WK C (.block id b) K s Q ↔ WK C b (.block id :: K) s Q:=by
 unfold WK; simp only [exec_block]; exact Iff.rfl
theorem WX_block {id:Nat} {s:St}:WX C .normal (.block id :: K) s Q ↔ WX C .normal K s Q:=Iff.rfl
theorem WX_block_ret {id:Nat} {s:St}:WX C .ret (.block id :: K) s Q ↔ WX C .ret K s Q:=Iff.rfl
theorem WX_block_exit {i id:Nat} {s:St}:WX C (.exit i) (.block id :: K) s Q ↔ if i = id then WX C .normal K s Q else WX C (.exit i) K s Q:=by
 unfold WX
 show (∃ k y s',runK C K k (if i = id then some (.normal,s) else some (.exit i,s)) = some (y,s') /\ Q y s') ↔ _
 by_cases h:i = id <;> simp [h]
theorem WX_block_eq {i:Nat} {s:St}:WX C (.exit i) (.block i :: K) s Q ↔ WX C .normal K s Q:=by rw [WX_block_exit,if_pos rfl]
theorem WX_block_ne {i id:Nat} {s:St} (h:i ≠ id):WX C (.exit i) (.block id :: K) s Q ↔ WX C (.exit i) K s Q:=by rw [WX_block_exit,if_neg h]
theorem WK_exit {i:Nat} {s:St}:WK C (.exit i) K s Q ↔ WX C (.exit i) K s Q:=Iff.rfl
theorem WK_ret {s:St}:WK C .ret K s Q ↔ WX C .ret K s Q:=Iff.rfl
theorem WK_scope {b:ACode} {s:St}:WK C (.scope b) K s Q ↔ WK C b K s Q:=Iff.rfl
theorem WX_nil {x:AX} {s:St}:WX C x [] s Q ↔ Q x s:=by
 unfold WX
 constructor
 ·rintro ⟨k,y,s',h,hq⟩
  cases h; exact hq
 ·intro h; exact ⟨0,x,s,rfl,h⟩
theorem WK_cond {c:AOpd} {a b:ACode} {tm:List AV} {h:AHeap}:WK C (.cond c a b) K ⟨tm,h⟩ Q ↔ WB C (ev tm c) a b K ⟨tm,h⟩ Q:=by
 unfold WK; simp only [exec_cond]
 unfold WB
 cases hv:ev tm c with
 | bool t => cases t <;> exact Iff.rfl
 | _ => simp only [runK_none]; simp
theorem WK_ops {l:List AOper} {s:St}:WK C (.ops l) K s Q ↔ WOs C l K s Q:=by
 unfold WK WOs WX; simp only [exec_ops]
 cases hv:runOps l C s with
 | none => simp [runK_none]
 | some s' => simp
theorem WK_draw {l:List (AOper × Nat)} {s:St}:WK C (.draw l) K s Q ↔ WDs C l [] K s Q:=by
 unfold WK WDs WX; simp only [exec_draw]
 cases hv:runDraw l C s [] with
 | none => simp [runK_none]
 | some s' => simp
theorem WX_loop {b:ACode} {s:St}:WX C .normal (.loop b :: K) s Q ↔ WK C (.loop b) K s Q:=Iff.rfl
theorem WX_loop_exit {b:ACode} {s:St} {i:Nat}:WX C (.exit i) (.loop b :: K) s Q ↔ WX C (.exit i) K s Q:=Iff.rfl
theorem WX_loop_ret {b:ACode} {s:St}:WX C .ret (.loop b :: K) s Q ↔ WX C .ret K s Q:=Iff.rfl
theorem WK_loop {b:ACode} {s:St} (h:WK C b (.loop b :: K) s Q):WK C (.loop b) K s Q:=by
 obtain ⟨k,y,s',h,hq⟩:=h
 refine ⟨k + 1,y,s',?_,hq⟩
 rw [exec_loop,iter_succ]
 refine runK_le (Nat.le_succ k) K ?_ h
 intro q hq
 cases hv:exec b C k s with
 | none => rw [hv] at hq; cases hq
 | some p =>
  rw [exec_le Le.rfl (Nat.le_succ k) b hv]
  rw [hv] at hq
  obtain ⟨x,s1⟩:=p
  cases x with
  | normal => exact iter_le (fun s r he => exec_le Le.rfl (Nat.le_succ k) b he) (Nat.le_refl k) hq
  | _ => exact hq
theorem WK.mono {c:ACode} {s:St} {Q':AX -> St -> Prop} (h:WK C c K s Q) (hq:∀ x s,Q x s -> Q' x s):WK C c K s Q':=by
 obtain ⟨k,y,s',h,h1⟩:=h
 exact ⟨k,y,s',h,hq _ _ h1⟩
def WV (C:CallT) (v:Option AV) (d:Option Nat) (r:List AOper) (K:List Fr) (tm:List AV) (h:AHeap) (Q:AX -> St -> Prop):Prop:=match v with
 | some v => WOs C r K ⟨putD tm d v,h⟩ Q
 | none => False
theorem WV_some {v:AV} {d:Option Nat} {r:List AOper} {tm:List AV} {h:AHeap}:WV C (some v) d r K tm h Q ↔ WOs C r K ⟨putD tm d v,h⟩ Q:=Iff.rfl
def WA (C:CallT) (v:Option (AObj × AV)) (d:Option Nat) (r:List AOper) (K:List Fr) (tm:List AV) (h:AHeap) (Q:AX -> St -> Prop):Prop:=match v with
 | some (b,v) => WOs C r K ⟨putD tm d v,h.push b⟩ Q
 | none => False
theorem WA_some {b:AObj} {v:AV} {d:Option Nat} {r:List AOper} {tm:List AV} {h:AHeap}:WA C (some (b,v)) d r K tm h Q ↔ WOs C r K ⟨putD tm d v,h.push b⟩ Q:=Iff.rfl
def WE (C:CallT) (v:Option (AV × AHeap)) (d:Option Nat) (r:List AOper) (K:List Fr) (tm:List AV) (Q:AX -> St -> Prop):Prop:=match v with
 | some (v,h) => WOs C r K ⟨putD tm d v,h⟩ Q
 | none => False
theorem WE_some {v:AV} {h:AHeap} {d:Option Nat} {r:List AOper} {tm:List AV}:WE C (some (v,h)) d r K tm Q ↔ WOs C r K ⟨putD tm d v,h⟩ Q:=Iff.rfl
def WDV (C:CallT) (v:Option AV) (op:AOp) (m:Nat) (d:Option Nat) (r:List (AOper × Nat)) (ps:List ((AHeap -> Bool) × Nat)) (K:List Fr) (tm:List AV) (h:AHeap) (Q:AX -> St -> Prop):Prop:=match v,m with
 | some v,0 => WDs C r ps K ⟨putD tm d v,h⟩ Q
 | some v,m + 1 => WDs C r ((recheck ⟨d,op,none⟩ tm h (match d with | some d => nth (putD tm d v) d | none => aundef),m + 1) :: ps) K ⟨putD tm d v,h⟩ Q
 | none,_ => False
theorem WDV_zero {v:AV} {op:AOp} {d:Option Nat} {r:List (AOper × Nat)} {ps:List ((AHeap -> Bool) × Nat)} {tm:List AV} {h:AHeap}:WDV C (some v) op 0 d r ps K tm h Q ↔ WDs C r ps K ⟨putD tm d v,h⟩ Q:=Iff.rfl
theorem WDV_succ {v:AV} {op:AOp} {m d:Nat} {r:List (AOper × Nat)} {ps:List ((AHeap -> Bool) × Nat)} {tm:List AV} {h:AHeap}:WDV C (some v) op (m + 1) (some d) r ps K tm h Q ↔ WDs C r ((recheck ⟨some d,op,none⟩ tm h (nth (put tm d v) d),m + 1) :: ps) K ⟨put tm d v,h⟩ Q:=Iff.rfl
def WDE (C:CallT) (v:Option (AV × AHeap)) (d:Option Nat) (r:List (AOper × Nat)) (ps:List ((AHeap -> Bool) × Nat)) (K:List Fr) (tm:List AV) (Q:AX -> St -> Prop):Prop:=match v with
 | some (v,h) => checks ps h = true /\ WDs C r (lower ps) K ⟨putD tm d v,h⟩ Q
 | none => False
theorem WDE_some {v:AV} {h:AHeap} {d:Option Nat} {r:List (AOper × Nat)} {ps:List ((AHeap -> Bool) × Nat)} {tm:List AV}:WDE C (some (v,h)) d r ps K tm Q ↔ checks ps h = true /\ WDs C r (lower ps) K ⟨putD tm d v,h⟩ Q:=Iff.rfl
theorem WDE_none {v:AV} {h:AHeap} {d:Option Nat} {r:List (AOper × Nat)} {tm:List AV}:WDE C (some (v,h)) d r [] K tm Q ↔ WDs C r [] K ⟨putD tm d v,h⟩ Q:=⟨fun h => h.2,fun h => ⟨rfl,h⟩⟩
theorem putD_some {tm:List AV} {d:Nat} {v:AV}:putD tm (some d) v = put tm d v:=rfl
theorem putD_none {tm:List AV} {v:AV}:putD tm none v = tm:=rfl
theorem WOs_nil {s:St}:WOs C [] K s Q ↔ WX C .normal K s Q:=by
 unfold WOs; simp only [runOps_nil]; simp
theorem WDs_nil {s:St} {ps:List ((AHeap -> Bool) × Nat)}:WDs C [] ps K s Q ↔ WX C .normal K s Q:=by
 unfold WDs; simp only [runDraw_nil]; simp
section
variable {op:AOp} {d:Option Nat} {r:List AOper} {tm:List AV} {h:AHeap}
theorem WOs_q (hc:op.cls = .q):WOs C (⟨d,op,none⟩ :: r) K ⟨tm,h⟩ Q ↔ WV C (evalQ op tm h) d r K tm h Q:=by
 have e:runOps (⟨d,op,none⟩ :: r) C ⟨tm,h⟩ = (match step1 ⟨d,op,none⟩ C ⟨tm,h⟩ with | some s' => runOps r C s' | none => none):=by rw [runOps_cons]; rfl
 unfold WOs WV
 rw [e,step1_q hc]
 dsimp only
 cases evalQ op tm h with
 | none => simp
 | some v => exact Iff.rfl
theorem WOs_a (hc:op.cls = .a):WOs C (⟨d,op,none⟩ :: r) K ⟨tm,h⟩ Q ↔ WA C (evalA op tm h) d r K tm h Q:=by
 have e:runOps (⟨d,op,none⟩ :: r) C ⟨tm,h⟩ = (match step1 ⟨d,op,none⟩ C ⟨tm,h⟩ with | some s' => runOps r C s' | none => none):=by rw [runOps_cons]; rfl
 unfold WOs WA
 rw [e,step1_a hc]
 dsimp only
 cases evalA op tm h with
 | none => simp
 | some v => exact Iff.rfl
theorem WOs_e (hc:op.cls = .e):WOs C (⟨d,op,none⟩ :: r) K ⟨tm,h⟩ Q ↔ WE C (evalE op C tm h) d r K tm Q:=by
 have e:runOps (⟨d,op,none⟩ :: r) C ⟨tm,h⟩ = (match step1 ⟨d,op,none⟩ C ⟨tm,h⟩ with | some s' => runOps r C s' | none => none):=by rw [runOps_cons]; rfl
 unfold WOs WE
 rw [e,step1_e hc]
 dsimp only
 cases evalE op C tm h with
 | none => simp
 | some v => exact Iff.rfl
def WG (C:CallT) (v:AV) (b:Bool) (d:Option Nat) (op:AOp) (r:List AOper) (K:List Fr) (tm:List AV) (h:AHeap) (Q:AX -> St -> Prop):Prop:=match v with
 | .bool c => if (c == b) = true then WOs C (⟨d,op,none⟩ :: r) K ⟨tm,h⟩ Q else WOs C r K ⟨putD tm d aundef,h⟩ Q
 | _ => WOs C r K ⟨putD tm d aundef,h⟩ Q
theorem WG_tt:WG C (.bool true) true d op r K tm h Q ↔ WOs C (⟨d,op,none⟩ :: r) K ⟨tm,h⟩ Q:=by simp [WG]
theorem WG_ff:WG C (.bool false) false d op r K tm h Q ↔ WOs C (⟨d,op,none⟩ :: r) K ⟨tm,h⟩ Q:=by simp [WG]
theorem WG_tf:WG C (.bool true) false d op r K tm h Q ↔ WOs C r K ⟨putD tm d aundef,h⟩ Q:=by simp [WG]
theorem WG_ft:WG C (.bool false) true d op r K tm h Q ↔ WOs C r K ⟨putD tm d aundef,h⟩ Q:=by simp [WG]
theorem WG_un {b:Bool}:WG C aundef b d op r K tm h Q ↔ WOs C r K ⟨putD tm d aundef,h⟩ Q:=Iff.rfl
theorem WOs_g {t:Nat} {b:Bool}:WOs C (⟨d,op,some (t,b)⟩ :: r) K ⟨tm,h⟩ Q ↔ WG C (nth tm t) b d op r K tm h Q:=by
 have e:runOps (⟨d,op,some (t,b)⟩ :: r) C ⟨tm,h⟩ = if wanted tm (some (t,b)) = true then runOps (⟨d,op,none⟩ :: r) C ⟨tm,h⟩ else runOps r C ⟨putD tm d aundef,h⟩:=by
  rw [runOps_cons,runOps_cons]
  by_cases hw:wanted tm (some (t,b)) = true
  ·rw [if_pos hw,if_pos hw,if_pos (show wanted tm none = true from rfl)]
   cases hc:op.cls with
   | q => rw [step1_q hc,step1_q hc]
   | a => rw [step1_a hc,step1_a hc]
   | e => rw [step1_e hc,step1_e hc]
  ·rw [if_neg hw,if_neg hw]
 have e2:wanted tm (some (t,b)) = (match nth tm t with | .bool c => c == b | _ => false):=rfl
 unfold WOs
 rw [e,e2]
 generalize nth tm t = v
 cases v with
 | bool c =>
  show (∃ s',(if (c == b) = true then _ else _) = some s' /\ _) ↔ (if (c == b) = true then _ else _)
  by_cases hc:(c == b) = true
  ·rw [if_pos hc,if_pos hc]; exact Iff.rfl
  ·rw [if_neg hc,if_neg hc]; exact Iff.rfl
 | _ => exact Iff.rfl
end
section
variable {op:AOp} {m:Nat} {d:Option Nat} {r:List (AOper × Nat)} {ps:List ((AHeap -> Bool) × Nat)} {tm:List AV} {h:AHeap}
theorem WDs_q (hc:op.cls = .q):WDs C ((⟨d,op,none⟩,m) :: r) ps K ⟨tm,h⟩ Q ↔ WDV C (evalQ op tm h) op m d r ps K tm h Q:=by
 unfold WDs
 rw [runDraw_cons,if_pos (show wanted tm none = true from rfl),step1_q hc]
 unfold WDV
 dsimp only
 cases evalQ op tm h with
 | none => simp
 | some v =>
  simp only [hc]
  cases m with
  | zero => exact Iff.rfl
  | succ m => cases d <;> exact Iff.rfl
theorem WDs_e (hc:op.cls = .e):WDs C ((⟨d,op,none⟩,m) :: r) ps K ⟨tm,h⟩ Q ↔ WDE C (evalE op C tm h) d r ps K tm Q:=by
 unfold WDs
 rw [runDraw_cons,if_pos (show wanted tm none = true from rfl),step1_e hc]
 unfold WDE
 dsimp only
 cases evalE op C tm h with
 | none => simp
 | some v =>
  simp only [hc]
  cases hb:checks ps v.2 with
  | true => simp [WDs]
  | false => simp
end
theorem WOs_mov {d:Option Nat} {r:List AOper} {tm:List AV} {h:AHeap} (x:AOpd):WOs C (⟨d,(.mov x),none⟩ :: r) K ⟨tm,h⟩ Q ↔ WV C (evalQ (.mov x) tm h) d r K tm h Q:=WOs_q rfl
theorem WDs_mov {m:Nat} {d:Option Nat} {r:List (AOper × Nat)} {ps:List ((AHeap -> Bool) × Nat)} {tm:List AV} {h:AHeap} (x:AOpd):WDs C ((⟨d,(.mov x),none⟩,m) :: r) ps K ⟨tm,h⟩ Q ↔ WDV C (evalQ (.mov x) tm h) (.mov x) m d r ps K tm h Q:=WDs_q rfl
theorem WOs_pick {d:Option Nat} {r:List AOper} {tm:List AV} {h:AHeap} (c a b:AOpd):WOs C (⟨d,(.pick c a b),none⟩ :: r) K ⟨tm,h⟩ Q ↔ WV C (evalQ (.pick c a b) tm h) d r K tm h Q:=WOs_q rfl
theorem WDs_pick {m:Nat} {d:Option Nat} {r:List (AOper × Nat)} {ps:List ((AHeap -> Bool) × Nat)} {tm:List AV} {h:AHeap} (c a b:AOpd):WDs C ((⟨d,(.pick c a b),none⟩,m) :: r) ps K ⟨tm,h⟩ Q ↔ WDV C (evalQ (.pick c a b) tm h) (.pick c a b) m d r ps K tm h Q:=WDs_q rfl
theorem WOs_build {d:Option Nat} {r:List AOper} {tm:List AV} {h:AHeap} (z:List AV) (qs:List (Nat × Nat × AOpd)):WOs C (⟨d,(.build z qs),none⟩ :: r) K ⟨tm,h⟩ Q ↔ WV C (evalQ (.build z qs) tm h) d r K tm h Q:=WOs_q rfl
theorem WDs_build {m:Nat} {d:Option Nat} {r:List (AOper × Nat)} {ps:List ((AHeap -> Bool) × Nat)} {tm:List AV} {h:AHeap} (z:List AV) (qs:List (Nat × Nat × AOpd)):WDs C ((⟨d,(.build z qs),none⟩,m) :: r) ps K ⟨tm,h⟩ Q ↔ WDV C (evalQ (.build z qs) tm h) (.build z qs) m d r ps K tm h Q:=WDs_q rfl
theorem WOs_load {d:Option Nat} {r:List AOper} {tm:List AV} {h:AHeap} (n:Option Nat) (a:AOpd):WOs C (⟨d,(.load n a),none⟩ :: r) K ⟨tm,h⟩ Q ↔ WV C (evalQ (.load n a) tm h) d r K tm h Q:=WOs_q rfl
theorem WDs_load {m:Nat} {d:Option Nat} {r:List (AOper × Nat)} {ps:List ((AHeap -> Bool) × Nat)} {tm:List AV} {h:AHeap} (n:Option Nat) (a:AOpd):WDs C ((⟨d,(.load n a),none⟩,m) :: r) ps K ⟨tm,h⟩ Q ↔ WDV C (evalQ (.load n a) tm h) (.load n a) m d r ps K tm h Q:=WDs_q rfl
theorem WOs_nilck {d:Option Nat} {r:List AOper} {tm:List AV} {h:AHeap} (x:AOpd):WOs C (⟨d,(.nilck x),none⟩ :: r) K ⟨tm,h⟩ Q ↔ WV C (evalQ (.nilck x) tm h) d r K tm h Q:=WOs_q rfl
theorem WDs_nilck {m:Nat} {d:Option Nat} {r:List (AOper × Nat)} {ps:List ((AHeap -> Bool) × Nat)} {tm:List AV} {h:AHeap} (x:AOpd):WDs C ((⟨d,(.nilck x),none⟩,m) :: r) ps K ⟨tm,h⟩ Q ↔ WDV C (evalQ (.nilck x) tm h) (.nilck x) m d r ps K tm h Q:=WDs_q rfl
theorem WOs_bin {d:Option Nat} {r:List AOper} {tm:List AV} {h:AHeap} (op:BinOp) (e:EqK) (x y:AOpd):WOs C (⟨d,(.bin op e x y),none⟩ :: r) K ⟨tm,h⟩ Q ↔ WV C (evalQ (.bin op e x y) tm h) d r K tm h Q:=WOs_q rfl
theorem WDs_bin {m:Nat} {d:Option Nat} {r:List (AOper × Nat)} {ps:List ((AHeap -> Bool) × Nat)} {tm:List AV} {h:AHeap} (op:BinOp) (e:EqK) (x y:AOpd):WDs C ((⟨d,(.bin op e x y),none⟩,m) :: r) ps K ⟨tm,h⟩ Q ↔ WDV C (evalQ (.bin op e x y) tm h) (.bin op e x y) m d r ps K tm h Q:=WDs_q rfl
theorem WOs_un {d:Option Nat} {r:List AOper} {tm:List AV} {h:AHeap} (op:UnOp) (x:AOpd):WOs C (⟨d,(.un op x),none⟩ :: r) K ⟨tm,h⟩ Q ↔ WV C (evalQ (.un op x) tm h) d r K tm h Q:=WOs_q rfl
theorem WDs_un {m:Nat} {d:Option Nat} {r:List (AOper × Nat)} {ps:List ((AHeap -> Bool) × Nat)} {tm:List AV} {h:AHeap} (op:UnOp) (x:AOpd):WDs C ((⟨d,(.un op x),none⟩,m) :: r) ps K ⟨tm,h⟩ Q ↔ WDV C (evalQ (.un op x) tm h) (.un op x) m d r ps K tm h Q:=WDs_q rfl
theorem WOs_toInt {d:Option Nat} {r:List AOper} {tm:List AV} {h:AHeap} (k:IntKind) (x:AOpd):WOs C (⟨d,(.toInt k x),none⟩ :: r) K ⟨tm,h⟩ Q ↔ WV C (evalQ (.toInt k x) tm h) d r K tm h Q:=WOs_q rfl
theorem WDs_toInt {m:Nat} {d:Option Nat} {r:List (AOper × Nat)} {ps:List ((AHeap -> Bool) × Nat)} {tm:List AV} {h:AHeap} (k:IntKind) (x:AOpd):WDs C ((⟨d,(.toInt k x),none⟩,m) :: r) ps K ⟨tm,h⟩ Q ↔ WDV C (evalQ (.toInt k x) tm h) (.toInt k x) m d r ps K tm h Q:=WDs_q rfl
theorem WOs_toStr {d:Option Nat} {r:List AOper} {tm:List AV} {h:AHeap} (x:AOpd):WOs C (⟨d,(.toStr x),none⟩ :: r) K ⟨tm,h⟩ Q ↔ WV C (evalQ (.toStr x) tm h) d r K tm h Q:=WOs_q rfl
theorem WOs_iface {d:Option Nat} {r:List AOper} {tm:List AV} {h:AHeap} (t:Nat) (x:AOpd):WOs C (⟨d,(.iface t x),none⟩ :: r) K ⟨tm,h⟩ Q ↔ WV C (evalQ (.iface t x) tm h) d r K tm h Q:=WOs_q rfl
theorem WOs_mkfn {d:Option Nat} {r:List AOper} {tm:List AV} {h:AHeap} (f:Fn) (fs cs:List AOpd):WOs C (⟨d,(.mkfn f fs cs),none⟩ :: r) K ⟨tm,h⟩ Q ↔ WV C (evalQ (.mkfn f fs cs) tm h) d r K tm h Q:=WOs_q rfl
theorem WDs_mkfn {m:Nat} {d:Option Nat} {r:List (AOper × Nat)} {ps:List ((AHeap -> Bool) × Nat)} {tm:List AV} {h:AHeap} (f:Fn) (fs cs:List AOpd):WDs C ((⟨d,(.mkfn f fs cs),none⟩,m) :: r) ps K ⟨tm,h⟩ Q ↔ WDV C (evalQ (.mkfn f fs cs) tm h) (.mkfn f fs cs) m d r ps K tm h Q:=WDs_q rfl
theorem WOs_slice {d:Option Nat} {r:List AOper} {tm:List AV} {h:AHeap} (sz:Nat) (x:AOpd) (lo hi mx:Option AOpd):WOs C (⟨d,(.slice sz x lo hi mx),none⟩ :: r) K ⟨tm,h⟩ Q ↔ WV C (evalQ (.slice sz x lo hi mx) tm h) d r K tm h Q:=WOs_q rfl
theorem WOs_faddr {d:Option Nat} {r:List AOper} {tm:List AV} {h:AHeap} (off:Nat) (x:AOpd):WOs C (⟨d,(.faddr off x),none⟩ :: r) K ⟨tm,h⟩ Q ↔ WV C (evalQ (.faddr off x) tm h) d r K tm h Q:=WOs_q rfl
theorem WDs_faddr {m:Nat} {d:Option Nat} {r:List (AOper × Nat)} {ps:List ((AHeap -> Bool) × Nat)} {tm:List AV} {h:AHeap} (off:Nat) (x:AOpd):WDs C ((⟨d,(.faddr off x),none⟩,m) :: r) ps K ⟨tm,h⟩ Q ↔ WDV C (evalQ (.faddr off x) tm h) (.faddr off x) m d r ps K tm h Q:=WDs_q rfl
theorem WOs_field {d:Option Nat} {r:List AOper} {tm:List AV} {h:AHeap} (off:Nat) (n:Option Nat) (x:AOpd):WOs C (⟨d,(.field off n x),none⟩ :: r) K ⟨tm,h⟩ Q ↔ WV C (evalQ (.field off n x) tm h) d r K tm h Q:=WOs_q rfl
theorem WDs_field {m:Nat} {d:Option Nat} {r:List (AOper × Nat)} {ps:List ((AHeap -> Bool) × Nat)} {tm:List AV} {h:AHeap} (off:Nat) (n:Option Nat) (x:AOpd):WDs C ((⟨d,(.field off n x),none⟩,m) :: r) ps K ⟨tm,h⟩ Q ↔ WDV C (evalQ (.field off n x) tm h) (.field off n x) m d r ps K tm h Q:=WDs_q rfl
theorem WOs_iaddr {d:Option Nat} {r:List AOper} {tm:List AV} {h:AHeap} (arr:Option Nat) (sz:Nat) (x i:AOpd):WOs C (⟨d,(.iaddr arr sz x i),none⟩ :: r) K ⟨tm,h⟩ Q ↔ WV C (evalQ (.iaddr arr sz x i) tm h) d r K tm h Q:=WOs_q rfl
theorem WDs_iaddr {m:Nat} {d:Option Nat} {r:List (AOper × Nat)} {ps:List ((AHeap -> Bool) × Nat)} {tm:List AV} {h:AHeap} (arr:Option Nat) (sz:Nat) (x i:AOpd):WDs C ((⟨d,(.iaddr arr sz x i),none⟩,m) :: r) ps K ⟨tm,h⟩ Q ↔ WDV C (evalQ (.iaddr arr sz x i) tm h) (.iaddr arr sz x i) m d r ps K tm h Q:=WDs_q rfl
theorem WOs_index {d:Option Nat} {r:List AOper} {tm:List AV} {h:AHeap} (len sz:Nat) (n:Option Nat) (x i:AOpd):WOs C (⟨d,(.index len sz n x i),none⟩ :: r) K ⟨tm,h⟩ Q ↔ WV C (evalQ (.index len sz n x i) tm h) d r K tm h Q:=WOs_q rfl
theorem WOs_indexS {d:Option Nat} {r:List AOper} {tm:List AV} {h:AHeap} (x i:AOpd):WOs C (⟨d,(.indexS x i),none⟩ :: r) K ⟨tm,h⟩ Q ↔ WV C (evalQ (.indexS x i) tm h) d r K tm h Q:=WOs_q rfl
theorem WOs_lookup {d:Option Nat} {r:List AOper} {tm:List AV} {h:AHeap} (ks:KeyK) (zero:AV) (ok:Bool) (a k:AOpd):WOs C (⟨d,(.lookup ks zero ok a k),none⟩ :: r) K ⟨tm,h⟩ Q ↔ WV C (evalQ (.lookup ks zero ok a k) tm h) d r K tm h Q:=WOs_q rfl
theorem WOs_extr {d:Option Nat} {r:List AOper} {tm:List AV} {h:AHeap} (i:Nat) (x:AOpd):WOs C (⟨d,(.extr i x),none⟩ :: r) K ⟨tm,h⟩ Q ↔ WV C (evalQ (.extr i x) tm h) d r K tm h Q:=WOs_q rfl
theorem WDs_extr {m:Nat} {d:Option Nat} {r:List (AOper × Nat)} {ps:List ((AHeap -> Bool) × Nat)} {tm:List AV} {h:AHeap} (i:Nat) (x:AOpd):WDs C ((⟨d,(.extr i x),none⟩,m) :: r) ps K ⟨tm,h⟩ Q ↔ WDV C (evalQ (.extr i x) tm h) (.extr i x) m d r ps K tm h Q:=WDs_q rfl
theorem WOs_len {d:Option Nat} {r:List AOper} {tm:List AV} {h:AHeap} (k:Nat) (x:AOpd):WOs C (⟨d,(.len k x),none⟩ :: r) K ⟨tm,h⟩ Q ↔ WV C (evalQ (.len k x) tm h) d r K tm h Q:=WOs_q rfl
theorem WDs_len {m:Nat} {d:Option Nat} {r:List (AOper × Nat)} {ps:List ((AHeap -> Bool) × Nat)} {tm:List AV} {h:AHeap} (k:Nat) (x:AOpd):WDs C ((⟨d,(.len k x),none⟩,m) :: r) ps K ⟨tm,h⟩ Q ↔ WDV C (evalQ (.len k x) tm h) (.len k x) m d r ps K tm h Q:=WDs_q rfl
theorem WOs_lenA {d:Option Nat} {r:List AOper} {tm:List AV} {h:AHeap} (n:Nat):WOs C (⟨d,(.lenA n),none⟩ :: r) K ⟨tm,h⟩ Q ↔ WV C (evalQ (.lenA n) tm h) d r K tm h Q:=WOs_q rfl
theorem WOs_mx {d:Option Nat} {r:List AOper} {tm:List AV} {h:AHeap} (xs:List AOpd):WOs C (⟨d,(.mx xs),none⟩ :: r) K ⟨tm,h⟩ Q ↔ WV C (evalQ (.mx xs) tm h) d r K tm h Q:=WOs_q rfl
theorem WOs_mn {d:Option Nat} {r:List AOper} {tm:List AV} {h:AHeap} (xs:List AOpd):WOs C (⟨d,(.mn xs),none⟩ :: r) K ⟨tm,h⟩ Q ↔ WV C (evalQ (.mn xs) tm h) d r K tm h Q:=WOs_q rfl
theorem WOs_alloc {d:Option Nat} {r:List AOper} {tm:List AV} {h:AHeap} (z:List AV):WOs C (⟨d,(.alloc z),none⟩ :: r) K ⟨tm,h⟩ Q ↔ WA C (evalA (.alloc z) tm h) d r K tm h Q:=WOs_a rfl
theorem WOs_box {d:Option Nat} {r:List AOper} {tm:List AV} {h:AHeap} (x:AOpd):WOs C (⟨d,(.box x),none⟩ :: r) K ⟨tm,h⟩ Q ↔ WA C (evalA (.box x) tm h) d r K tm h Q:=WOs_a rfl
theorem WOs_bslice {d:Option Nat} {r:List AOper} {tm:List AV} {h:AHeap} (len sz:Nat) (z:List AV) (qs:List (Nat × AOpd)):WOs C (⟨d,(.bslice len sz z qs),none⟩ :: r) K ⟨tm,h⟩ Q ↔ WA C (evalA (.bslice len sz z qs) tm h) d r K tm h Q:=WOs_a rfl
theorem WOs_mkmap {d:Option Nat} {r:List AOper} {tm:List AV} {h:AHeap}  : WOs C (⟨d, .mkmap,none⟩ :: r) K ⟨tm,h⟩ Q ↔ WA C (evalA .mkmap tm h) d r K tm h Q:=WOs_a rfl
theorem WOs_mkslice {d:Option Nat} {r:List AOper} {tm:List AV} {h:AHeap} (sz bytes:Nat) (z:List AV) (l c:AOpd):WOs C (⟨d,(.mkslice sz bytes z l c),none⟩ :: r) K ⟨tm,h⟩ Q ↔ WA C (evalA (.mkslice sz bytes z l c) tm h) d r K tm h Q:=WOs_a rfl
theorem WOs_store {d:Option Nat} {r:List AOper} {tm:List AV} {h:AHeap} (n:Nat) (a x:AOpd):WOs C (⟨d,(.store n a x),none⟩ :: r) K ⟨tm,h⟩ Q ↔ WE C (evalE (.store n a x) C tm h) d r K tm Q:=WOs_e rfl
theorem WDs_store {m:Nat} {d:Option Nat} {r:List (AOper × Nat)} {ps:List ((AHeap -> Bool) × Nat)} {tm:List AV} {h:AHeap} (n:Nat) (a x:AOpd):WDs C ((⟨d,(.store n a x),none⟩,m) :: r) ps K ⟨tm,h⟩ Q ↔ WDE C (evalE (.store n a x) C tm h) d r ps K tm Q:=WDs_e rfl
theorem WOs_mupd {d:Option Nat} {r:List AOper} {tm:List AV} {h:AHeap} (ks:KeyK) (a k v:AOpd):WOs C (⟨d,(.mupd ks a k v),none⟩ :: r) K ⟨tm,h⟩ Q ↔ WE C (evalE (.mupd ks a k v) C tm h) d r K tm Q:=WOs_e rfl
theorem WOs_call {d:Option Nat} {r:List AOper} {tm:List AV} {h:AHeap} (f:AOpd) (args:List AOpd):WOs C (⟨d,(.call f args),none⟩ :: r) K ⟨tm,h⟩ Q ↔ WE C (evalE (.call f args) C tm h) d r K tm Q:=WOs_e rfl
theorem WDs_call {m:Nat} {d:Option Nat} {r:List (AOper × Nat)} {ps:List ((AHeap -> Bool) × Nat)} {tm:List AV} {h:AHeap} (f:AOpd) (args:List AOpd):WDs C ((⟨d,(.call f args),none⟩,m) :: r) ps K ⟨tm,h⟩ Q ↔ WDE C (evalE (.call f args) C tm h) d r ps K tm Q:=WDs_e rfl
theorem WOs_append {d:Option Nat} {r:List AOper} {tm:List AV} {h:AHeap} (sz bytes:Nat) (z:List AV) (s x:AOpd):WOs C (⟨d,(.append sz bytes z s x),none⟩ :: r) K ⟨tm,h⟩ Q ↔ WE C (evalE (.append sz bytes z s x) C tm h) d r K tm Q:=WOs_e rfl
theorem WDs_append {m:Nat} {d:Option Nat} {r:List (AOper × Nat)} {ps:List ((AHeap -> Bool) × Nat)} {tm:List AV} {h:AHeap} (sz bytes:Nat) (z:List AV) (s x:AOpd):WDs C ((⟨d,(.append sz bytes z s x),none⟩,m) :: r) ps K ⟨tm,h⟩ Q ↔ WDE C (evalE (.append sz bytes z s x) C tm h) d r ps K tm Q:=WDs_e rfl
theorem WOs_copy {d:Option Nat} {r:List AOper} {tm:List AV} {h:AHeap} (sz:Nat) (x s:AOpd):WOs C (⟨d,(.copy sz x s),none⟩ :: r) K ⟨tm,h⟩ Q ↔ WE C (evalE (.copy sz x s) C tm h) d r K tm Q:=WOs_e rfl
end
section
variable {T:FnTab} {I:Oracle}
theorem lim_walk {f : Nat} {fn : AFn} (hT : T f = some fn) {a : List AV} {h h' : AHeap} {v : AV} (hI : I f a h = none)
  (hw:WK (lim T I) fn.body [] ⟨a ++ List.replicate (fn.nt - a.length) aundef,h⟩ fun x s => (∀ i,x ≠ .exit i) /\ result fn.res s.tm s.h = some v /\ s.h = h'):lim T I (.fn f) a h = some (v,h'):=by
 obtain ⟨k,x,s,e,h1,h2,h3⟩:=hw
 refine lim_fn hT hI (k:=k) ?_
 have e':exec fn.body (lim T I) k ⟨a ++ List.replicate (fn.nt - a.length) aundef,h⟩ = some (x,s):=e
 rw [e']
 cases x with
 | normal => subst h3; simp only [finish,h2]
 | ret => subst h3; simp only [finish,h2]
 | exit i => exact absurd rfl (h1 i)
theorem lim_walk_ex {f : Nat} {fn : AFn} (hT : T f = some fn) {a : List AV} {h : AHeap} {P : AV -> AHeap -> Prop} (hI : I f a h = none)
  (hw:WK (lim T I) fn.body [] ⟨a ++ List.replicate (fn.nt - a.length) aundef,h⟩ fun x s => (∀ i,x ≠ .exit i) /\ ∃ v,result fn.res s.tm s.h = some v /\ P v s.h):∃ v h',lim T I (.fn f) a h = some (v,h') /\ P v h':=by
 obtain ⟨k,x,s,e,h1,v,h2,h3⟩:=hw
 exact ⟨v,s.h,lim_walk hT hI ⟨k,x,s,e,h1,h2,rfl⟩,h3⟩
end
end Go.AM
namespace Go.AM
open Go
section
variable {tm:List AV} {h:AHeap}
def pickV (c a b:AV):Option AV:=match c with | .bool t => some (bif t then a else b) | _ => none
def toIntV (k:IntKind) (x:AV):Option AV:=match x with | .int _ n => some (.int k (awrap k n)) | _ => none
noncomputable def fieldV (off:Nat) (n:Option Nat) (x:AV):Option AV:=match x with | .agg cs => fit n off cs | _ => none
noncomputable def loadV (n:Option Nat) (a:AV) (h:AHeap):Option AV:=match a with
 | .ptr i o => match cellsOf h i with | some c => fit n o c | none => none
 | _ => none
def iaddrV (sz:Nat) (x i:AV):Option AV:=match x,i with
 | .slice j o len _, .int _ i => if 0 <= i /\ i < len then some (.ptr j (o + i.toNat * sz)) else none
 | _,_ => none
def indexSV (x i:AV):Option AV:=match x,i with
 | .str s, .int _ i => if 0 <= i then match s[i.toNat]? with | some b => some (.int .u8 b) | none => none else none
 | _,_ => none
noncomputable def lenV (k : Nat) (x : AV) (h : AHeap) : Option AV := match k, x with
  | 0, .str s => some (.int .i64 s.length)
  | 1, .nils => some (.int .i64 0)
  | 1, .slice _ _ n _ => some (.int .i64 n)
  | 2, .nilm => some (.int .i64 0)
  | 2, .map i => match h.get i with | some (.map es) => some (.int .i64 es.length) | _ => none
  | _,_ => none
def extrV (i:Nat) (x:AV):Option AV:=match x with | .tup vs => vs[i]? | _ => none
theorem evalQ_mov (x:AOpd):evalQ (.mov x) tm h = some (ev tm x):=rfl
theorem evalQ_bin (op:BinOp) (e:EqK) (x y:AOpd):evalQ (.bin op e x y) tm h = bin op e (ev tm x) (ev tm y):=rfl
theorem evalQ_un (op:UnOp) (x:AOpd):evalQ (.un op x) tm h = un op (ev tm x):=rfl
theorem evalQ_pick (c a b:AOpd):evalQ (.pick c a b) tm h = pickV (ev tm c) (ev tm a) (ev tm b):=rfl
theorem evalQ_toInt (k:IntKind) (x:AOpd):evalQ (.toInt k x) tm h = toIntV k (ev tm x):=rfl
theorem evalQ_field (off:Nat) (n:Option Nat) (x:AOpd):evalQ (.field off n x) tm h = fieldV off n (ev tm x):=rfl
theorem evalQ_load (n:Option Nat) (x:AOpd):evalQ (.load n x) tm h = loadV n (ev tm x) h:=rfl
theorem evalQ_iaddr (sz:Nat) (x i:AOpd):evalQ (.iaddr none sz x i) tm h = iaddrV sz (ev tm x) (ev tm i):=rfl
theorem evalQ_indexS (x i:AOpd):evalQ (.indexS x i) tm h = indexSV (ev tm x) (ev tm i):=rfl
theorem evalQ_len (k:Nat) (x:AOpd):evalQ (.len k x) tm h = lenV k (ev tm x) h:=rfl
theorem evalQ_lenA (n:Nat):evalQ (.lenA n) tm h = some (.int .i64 n):=rfl
theorem evalQ_extr (i:Nat) (x:AOpd):evalQ (.extr i x) tm h = extrV i (ev tm x):=rfl
theorem evalQ_mx (x:AOpd) (xs:List AOpd):evalQ (.mx (x :: xs)) tm h = maxs (ev tm x) (evs tm xs):=rfl
theorem evalQ_mn (x:AOpd) (xs:List AOpd):evalQ (.mn (x :: xs)) tm h = mins (ev tm x) (evs tm xs):=rfl
theorem evalQ_build (z:List AV) (ps:List (Nat × Nat × AOpd)):evalQ (.build z ps) tm h = (match fills z ps tm with | some c => some (.agg c) | none => none):=rfl
theorem evalE_fn {C:CallT} (g:Nat) (args:List AOpd):evalE (.call (.lit (.fn (.func g) [] [])) args) C tm h = C (.fn g) (evs tm args) h:=by
 show C (.fn g) ([] ++ evs tm args ++ []) h = _
 simp
theorem evs_nil:evs tm [] = []:=rfl
theorem evs_cons (x:AOpd) (xs:List AOpd):evs tm (x :: xs) = ev tm x :: evs tm xs:=rfl
end
theorem pickV_tt (a b:AV):pickV (.bool true) a b = some a:=rfl
theorem pickV_ff (a b:AV):pickV (.bool false) a b = some b:=rfl
theorem extrV_0 (x:AV) (r:List AV):extrV 0 (.tup (x :: r)) = some x:=rfl
theorem extrV_1 (x y:AV) (r:List AV):extrV 1 (.tup (x :: y :: r)) = some y:=rfl
theorem extrV_2 (x y z:AV) (r:List AV):extrV 2 (.tup (x :: y :: z :: r)) = some z:=rfl
section
variable {e:EqK} {a b:Int}
theorem add_i64 (h1 : -9223372036854775808 <= a + b) (h2:a + b <= 9223372036854775807):bin .add e (.int .i64 a) (.int .i64 b) = some (.int .i64 (a + b)):=by
 show some (AV.int .i64 (awrap .i64 (a + b))) = _
 rw [awrap_id h1 h2]
theorem sub_i64 (h1 : -9223372036854775808 <= a - b) (h2:a - b <= 9223372036854775807):bin .sub e (.int .i64 a) (.int .i64 b) = some (.int .i64 (a - b)):=by
 show some (AV.int .i64 (awrap .i64 (a - b))) = _
 rw [awrap_id h1 h2]
theorem mul_i64 (h1 : -9223372036854775808 <= a * b) (h2:a * b <= 9223372036854775807):bin .mul e (.int .i64 a) (.int .i64 b) = some (.int .i64 (a * b)):=by
 show some (AV.int .i64 (awrap .i64 (a * b))) = _
 rw [awrap_id h1 h2]
theorem quo_i64 (hb:b ≠ 0) (h1 : -9223372036854775808 <= a.tdiv b) (h2:a.tdiv b <= 9223372036854775807):bin .quo e (.int .i64 a) (.int .i64 b) = some (.int .i64 (a.tdiv b)):=by
 show (bif ieq b 0 then none else some (AV.int .i64 (awrap .i64 (a.tdiv b)))) = _
 rw [ieq_eq,decide_eq_false hb,awrap_id h1 h2]; rfl
theorem rem_i64 (hb:b ≠ 0):bin .rem e (.int .i64 a) (.int .i64 b) = some (.int .i64 (a.tmod b)):=by
 show (bif ieq b 0 then none else some (AV.int .i64 (a.tmod b))) = _
 rw [ieq_eq,decide_eq_false hb]; rfl
theorem quo_pos (h0:0 <= a) (hb:0 < b) (h2:a <= 9223372036854775807):bin .quo e (.int .i64 a) (.int .i64 b) = some (.int .i64 (a / b)):=by
 have e1:a.tdiv b = a / b:=Int.tdiv_eq_ediv_of_nonneg h0
 have l1:0 <= a / b:=Int.ediv_nonneg h0 (Int.le_of_lt hb)
 have l2:a / b <= a:=Int.ediv_le_self b h0
 rw [quo_i64 (by omega) (by rw [e1]; omega) (by rw [e1]; omega),e1]
theorem rem_pos (h0:0 <= a) (hb:0 < b):bin .rem e (.int .i64 a) (.int .i64 b) = some (.int .i64 (a % b)):=by
 rw [rem_i64 (by omega),Int.tmod_eq_emod_of_nonneg h0]
theorem eql_int {k:IntKind}:bin .eql e (.int k a) (.int k b) = some (.bool (decide (a = b))):=by
 show (bif keq k k then some (AV.bool (ieq a b)) else none) = _
 rw [ieq_eq]; cases k <;> rfl
theorem neq_int {k:IntKind}:bin .neq e (.int k a) (.int k b) = some (.bool (decide (a ≠ b))):=by
 show (bif keq k k then some (AV.bool (!ieq a b)) else none) = _
 rw [ieq_eq, <- decide_not]; cases k <;> rfl
theorem lss_int {k:IntKind}:bin .lss e (.int k a) (.int k b) = some (.bool (decide (a < b))):=by
 show (bif keq k k then some (AV.bool (ilt a b)) else none) = _
 rw [ilt_eq]; cases k <;> rfl
theorem gtr_int {k:IntKind}:bin .gtr e (.int k a) (.int k b) = some (.bool (decide (b < a))):=by
 show (bif keq k k then some (AV.bool (ilt b a)) else none) = _
 rw [ilt_eq]; cases k <;> rfl
theorem leq_int {k:IntKind}:bin .leq e (.int k a) (.int k b) = some (.bool (decide (a <= b))):=by
 have:(!decide (b < a)) = decide (a <= b):=by rw [<- decide_not,decide_eq_decide,Int.not_lt]
 show (bif keq k k then some (AV.bool (!ilt b a)) else none) = _
 rw [ilt_eq,this]; cases k <;> rfl
theorem geq_int {k:IntKind}:bin .geq e (.int k a) (.int k b) = some (.bool (decide (b <= a))):=by
 have:(!decide (a < b)) = decide (b <= a):=by rw [<- decide_not,decide_eq_decide,Int.not_lt]
 show (bif keq k k then some (AV.bool (!ilt a b)) else none) = _
 rw [ilt_eq,this]; cases k <;> rfl
theorem not_bool {t:Bool}:un .not (.bool t) = some (.bool !t):=rfl
end
end Go.AM
namespace Go.AM
open Go
def AOpd.map (σ:Nat -> AOpd):AOpd -> AOpd
 | .tmp t => σ t
 | .lit v => .lit v
def mapL (σ:Nat -> AOpd):List AOpd -> List AOpd
 | [] => []
 | x :: r => x.map σ :: mapL σ r
def mapO (σ:Nat -> AOpd):Option AOpd -> Option AOpd
 | none => none
 | some x => some (x.map σ)
def mapP (σ:Nat -> AOpd):List (Nat × AOpd) -> List (Nat × AOpd)
 | [] => []
 | (i,x) :: r => (i,x.map σ) :: mapP σ r
def mapF (σ:Nat -> AOpd):List (Nat × Nat × AOpd) -> List (Nat × Nat × AOpd)
 | [] => []
 | (o,n,x) :: r => (o,n,x.map σ) :: mapF σ r
def AOp.map (σ:Nat -> AOpd):AOp -> AOp
 | .mov x => .mov (x.map σ)
 | .pick c a b => .pick (c.map σ) (a.map σ) (b.map σ)
 | .alloc z => .alloc z
 | .box x => .box (x.map σ)
 | .build z ps => .build z (mapF σ ps)
 | .bslice l s z ps => .bslice l s z (mapP σ ps)
 | .load n a => .load n (a.map σ)
 | .store n a x => .store n (a.map σ) (x.map σ)
 | .nilck x => .nilck (x.map σ)
 | .bin op e x y => .bin op e (x.map σ) (y.map σ)
 | .un op x => .un op (x.map σ)
 | .toInt k x => .toInt k (x.map σ)
 | .toStr x => .toStr (x.map σ)
 | .toBytes x => .toBytes (x.map σ)
 | .iface t x => .iface t (x.map σ)
 | .mkfn f fs cs => .mkfn f (mapL σ fs) (mapL σ cs)
 | .mkmap => .mkmap
 | .mkslice s b z l c => .mkslice s b z (l.map σ) (c.map σ)
 | .slice s x lo hi up => .slice s (x.map σ) (mapO σ lo) (mapO σ hi) (mapO σ up)
 | .sliceA n s x lo hi up => .sliceA n s (x.map σ) (mapO σ lo) (mapO σ hi) (mapO σ up)
 | .substr x lo hi => .substr (x.map σ) (mapO σ lo) (mapO σ hi)
 | .faddr o x => .faddr o (x.map σ)
 | .field o n x => .field o n (x.map σ)
 | .iaddr a s x i => .iaddr a s (x.map σ) (i.map σ)
 | .index l s n x i => .index l s n (x.map σ) (i.map σ)
 | .indexS x i => .indexS (x.map σ) (i.map σ)
 | .lookup k z o m x => .lookup k z o (m.map σ) (x.map σ)
 | .mupd k m x v => .mupd k (m.map σ) (x.map σ) (v.map σ)
 | .extr i x => .extr i (x.map σ)
 | .call f args => .call (f.map σ) (mapL σ args)
 | .append s b z x y => .append s b z (x.map σ) (y.map σ)
 | .copy s d x => .copy s (d.map σ) (x.map σ)
 | .len k x => .len k (x.map σ)
 | .lenA n => .lenA n
 | .mx xs => .mx (mapL σ xs)
 | .mn xs => .mn (mapL σ xs)
theorem AOp.cls_map (σ:Nat -> AOpd) (op:AOp):(op.map σ).cls = op.cls:=by cases op <;> rfl
section
variable {tm tm':List AV} {h:AHeap} {σ:Nat -> AOpd}
theorem ev_map {x:AOpd} (hx:∀ t ∈ x.temps,ev tm' (σ t) = nth tm t):ev tm' (x.map σ) = ev tm x:=by
 cases x with
 | tmp t => exact hx t (by simp [AOpd.temps])
 | lit v => rfl
theorem evs_map:∀ {l:List AOpd},(∀ t ∈ tempsL l,ev tm' (σ t) = nth tm t) -> evs tm' (mapL σ l) = evs tm l
 | [],_ => rfl
 | x :: r,hx => by
  have h1:=ev_map (x:=x) fun t ht => hx t (List.mem_append_left _ ht)
  have h2:=evs_map (l:=r) fun t ht => hx t (List.mem_append_right _ ht)
  simp only [mapL,evs,h1,h2]
theorem optInt_map {x:Option AOpd} (hx:∀ t ∈ tempsO x,ev tm' (σ t) = nth tm t):optInt tm' (mapO σ x) = optInt tm x:=by
 cases x with
 | none => rfl
 | some x => simp only [mapO,optInt]; rw [ev_map hx]
theorem fills_map:∀ {ps:List (Nat × Nat × AOpd)} {z:List AV},(∀ t ∈ tempsF ps,ev tm' (σ t) = nth tm t) -> fills z (mapF σ ps) tm' = fills z ps tm
 | [],_,_ => rfl
 | (o,n,x) :: r,z,hx => by
  have h1:=ev_map (x:=x) fun t ht => hx t (List.mem_append_left _ ht)
  have h2:∀ z,fills z (mapF σ r) tm' = fills z r tm:=fun z => fills_map fun t ht => hx t (List.mem_append_right _ ht)
  simp only [mapF,fills,h1,h2]
theorem fillsS_map {sz:Nat}:∀ {ps:List (Nat × AOpd)} {z:List AV},(∀ t ∈ tempsP ps,ev tm' (σ t) = nth tm t) -> fillsS sz z (mapP σ ps) tm' = fillsS sz z ps tm
 | [],_,_ => rfl
 | (i,x) :: r,z,hx => by
  have h1:=ev_map (x:=x) fun t ht => hx t (List.mem_append_left _ ht)
  have h2:∀ z,fillsS sz z (mapP σ r) tm' = fillsS sz z r tm:=fun z => fillsS_map fun t ht => hx t (List.mem_append_right _ ht)
  simp only [mapP,fillsS,h1,h2]
theorem evalQ_map {op:AOp} (hx:∀ t ∈ op.temps,ev tm' (σ t) = nth tm t):evalQ (op.map σ) tm' h = evalQ op tm h:=by
 cases op with
 | mov x => simp only [AOp.map,evalQ,ev_map hx]
 | pick c x y =>
  simp only [AOp.temps,List.mem_append] at hx
  simp only [AOp.map,evalQ,ev_map (x:=c) fun t ht => hx t (.inl ht),ev_map (x:=x) fun t ht => hx t (.inr (.inl ht)),ev_map (x:=y) fun t ht => hx t (.inr (.inr ht))]
 | build z ps => simp only [AOp.map,evalQ,fills_map hx]
 | load n x => simp only [AOp.map,evalQ,ev_map hx]
 | nilck x => simp only [AOp.map,evalQ,ev_map hx]
 | bin op e x y =>
  simp only [AOp.temps,List.mem_append] at hx
  simp only [AOp.map,evalQ,ev_map (x:=x) fun t ht => hx t (.inl ht),ev_map (x:=y) fun t ht => hx t (.inr ht)]
 | un op x => simp only [AOp.map,evalQ,ev_map hx]
 | toInt k x => simp only [AOp.map,evalQ,ev_map hx]
 | toStr x => simp only [AOp.map,evalQ,ev_map hx]
 | iface t x => simp only [AOp.map,evalQ,ev_map hx]
 | mkfn f fs cs =>
  simp only [AOp.temps,List.mem_append] at hx
  simp only [AOp.map,evalQ,evs_map (l:=fs) fun t ht => hx t (.inl ht),evs_map (l:=cs) fun t ht => hx t (.inr ht)]
 | slice sz x lo hi up =>
  simp only [AOp.temps,List.mem_append] at hx
  simp only [AOp.map,evalQ,ev_map (x:=x) fun t ht => hx t (.inl ht),optInt_map (x:=lo) fun t ht => hx t (.inr (.inl ht)),optInt_map (x:=hi) fun t ht => hx t (.inr (.inr (.inl ht))),optInt_map (x:=up) fun t ht => hx t (.inr (.inr (.inr ht)))]
 | sliceA n sz x lo hi up =>
  simp only [AOp.temps,List.mem_append] at hx
  simp only [AOp.map,evalQ,ev_map (x:=x) fun t ht => hx t (.inl ht),optInt_map (x:=lo) fun t ht => hx t (.inr (.inl ht)),optInt_map (x:=hi) fun t ht => hx t (.inr (.inr (.inl ht))),optInt_map (x:=up) fun t ht => hx t (.inr (.inr (.inr ht)))]
 | substr x lo hi =>
  simp only [AOp.temps,List.mem_append] at hx
  simp only [AOp.map,evalQ,ev_map (x:=x) fun t ht => hx t (.inl ht),optInt_map (x:=lo) fun t ht => hx t (.inr (.inl ht)),optInt_map (x:=hi) fun t ht => hx t (.inr (.inr ht))]
 | faddr off x => simp only [AOp.map,evalQ,ev_map hx]
 | field off n x => simp only [AOp.map,evalQ,ev_map hx]
 | iaddr arr sz x i =>
  simp only [AOp.temps,List.mem_append] at hx
  cases arr <;> simp only [AOp.map,evalQ,ev_map (x:=x) fun t ht => hx t (.inl ht),ev_map (x:=i) fun t ht => hx t (.inr ht)]
 | index len sz n x i =>
  simp only [AOp.temps,List.mem_append] at hx
  simp only [AOp.map,evalQ,ev_map (x:=x) fun t ht => hx t (.inl ht),ev_map (x:=i) fun t ht => hx t (.inr ht)]
 | indexS x i =>
  simp only [AOp.temps,List.mem_append] at hx
  simp only [AOp.map,evalQ,ev_map (x:=x) fun t ht => hx t (.inl ht),ev_map (x:=i) fun t ht => hx t (.inr ht)]
 | lookup ks z ok m k =>
  simp only [AOp.temps,List.mem_append] at hx
  simp only [AOp.map,evalQ,ev_map (x:=m) fun t ht => hx t (.inl ht),ev_map (x:=k) fun t ht => hx t (.inr ht)]
 | extr i x => simp only [AOp.map,evalQ,ev_map hx]
 | len k x => simp only [AOp.map,evalQ,ev_map hx]
 | lenA n => rfl
 | mx xs => simp only [AOp.map,evalQ,evs_map hx]
 | mn xs => simp only [AOp.map,evalQ,evs_map hx]
 | _ => rfl
theorem evalA_map {op:AOp} (hx:∀ t ∈ op.temps,ev tm' (σ t) = nth tm t):evalA (op.map σ) tm' h = evalA op tm h:=by
 cases op with
 | box x => simp only [AOp.map,evalA,ev_map hx]
 | bslice len sz z ps => simp only [AOp.map,evalA,fillsS_map hx]
 | mkslice sz b z l c =>
  simp only [AOp.temps,List.mem_append] at hx
  simp only [AOp.map,evalA,ev_map (x:=l) fun t ht => hx t (.inl ht),ev_map (x:=c) fun t ht => hx t (.inr ht)]
 | toBytes x => simp only [AOp.map,evalA,ev_map hx]
 | _ => rfl
theorem evalE_map {op:AOp} {call:CallT} (hx:∀ t ∈ op.temps,ev tm' (σ t) = nth tm t):evalE (op.map σ) call tm' h = evalE op call tm h:=by
 cases op with
 | store n x y =>
  simp only [AOp.temps,List.mem_append] at hx
  simp only [AOp.map,evalE,ev_map (x:=x) fun t ht => hx t (.inl ht),ev_map (x:=y) fun t ht => hx t (.inr ht)]
 | mupd ks m k v =>
  simp only [AOp.temps,List.mem_append] at hx
  simp only [AOp.map,evalE,ev_map (x:=m) fun t ht => hx t (.inl ht),ev_map (x:=k) fun t ht => hx t (.inr (.inl ht)),ev_map (x:=v) fun t ht => hx t (.inr (.inr ht))]
 | call f args =>
  simp only [AOp.temps,List.mem_append] at hx
  simp only [AOp.map,evalE,ev_map (x:=f) fun t ht => hx t (.inl ht),evs_map (l:=args) fun t ht => hx t (.inr ht)]
 | append sz b z x y =>
  simp only [AOp.temps,List.mem_append] at hx
  simp only [AOp.map,evalE,ev_map (x:=x) fun t ht => hx t (.inl ht),ev_map (x:=y) fun t ht => hx t (.inr ht)]
 | copy sz x y =>
  simp only [AOp.temps,List.mem_append] at hx
  simp only [AOp.map,evalE,ev_map (x:=x) fun t ht => hx t (.inl ht),ev_map (x:=y) fun t ht => hx t (.inr ht)]
 | _ => rfl
end
noncomputable def val (op:AOp) (call:CallT) (tm:List AV) (h:AHeap):Option (AV × AHeap):=match op.cls with
 | .q => match evalQ op tm h with | some v => some (v,h) | none => none
 | .a => match evalA op tm h with | some (b,v) => some (v,h.push b) | none => none
 | .e => evalE op call tm h
theorem step1_val (o:AOper) (call:CallT) (s:St):step1 o call s = (match val o.op call s.tm s.h with | some (v,h') => some ⟨putD s.tm o.dst v,h'⟩ | none => none):=by
 unfold val
 cases hc:o.op.cls with
 | q => rw [step1_q hc]; dsimp only; cases evalQ o.op s.tm s.h <;> rfl
 | a => rw [step1_a hc]; dsimp only; cases evalA o.op s.tm s.h <;> rfl
 | e => rw [step1_e hc]; rfl
theorem val_map {tm tm':List AV} {h:AHeap} {σ:Nat -> AOpd} {c c':CallT} (hl:Le c' c) {op:AOp} (hx:∀ t ∈ op.temps,ev tm' (σ t) = nth tm t) {r:AV × AHeap} (he:val (op.map σ) c' tm' h = some r):val op c tm h = some r:=by
 unfold val at he ⊢
 rw [AOp.cls_map,evalQ_map hx,evalA_map hx,evalE_map hx] at he
 cases hc:op.cls with
 | q => rw [hc] at he; exact he
 | a => rw [hc] at he; exact he
 | e => rw [hc] at he; exact evalE_le hl he
abbrev Mp:=List (Nat × AOpd)
def Mp.get:Mp -> Nat -> Option AOpd
 | [],_ => none
 | (k,x) :: r,t => bif Nat.beq k t then some x else Mp.get r t
theorem Mp.get_mem:∀ {M:Mp} {t:Nat} {x:AOpd},M.get t = some x -> (t,x) ∈ M
 | (k,y) :: r,t,x,h => by
  unfold Mp.get at h
  cases hb:Nat.beq k t with
  | true => rw [hb] at h; cases h; rw [Nat.eq_of_beq_eq_true hb]; exact .head _
  | false => rw [hb] at h; exact .tail _ (Mp.get_mem h)
def Mp.sub (M:Mp) (t:Nat):AOpd:=match M.get t with | some x => x | none => .lit aundef
def isT' (r:Nat):AOpd -> Bool
 | .tmp t => Nat.beq t r
 | .lit _ => false
def Mp.drop1 (M:Mp) (d:Nat):Mp:=M.filter fun p => !Nat.beq p.1 d
def Mp.keep (M:Mp) (d r:Nat):Mp:=(d, .tmp r) :: (M.drop1 d).filter fun p => !isT' r p.2
structure R (nt nt':Nat) (M:Mp) (tm tm':List AV):Prop where
 l:nt <= tm.length
 l':nt' <= tm'.length
 eq:∀ t x,(t,x) ∈ M -> nth tm t = ev tm' x
theorem put_len (tm:List AV):∀ (d:Nat) (v:AV),(put tm d v).length = tm.length:=by
 induction tm with
 | nil => intro d v; rfl
 | cons x r ih => intro d v; cases d with
  | zero => rfl
  | succ d => rw [put_succ]; simp [ih]
theorem nth_put (tm:List AV):∀ (d t:Nat) (v:AV),d < tm.length -> nth (put tm d v) t = if t = d then v else nth tm t:=by
 induction tm with
 | nil => intro d t v h; simp at h
 | cons x r ih => intro d t v h; cases d with
  | zero => cases t with
   | zero => rfl
   | succ t => rw [put_zero]; simp [nth_succ]
  | succ d => cases t with
   | zero => rw [put_succ,nth_zero,nth_zero,if_neg (by omega)]
   | succ t => rw [put_succ,nth_succ,nth_succ,ih d t v (by simpa using h)]; simp
theorem R.ok {nt nt':Nat} {M:Mp} {tm tm':List AV} (h:R nt nt' M tm tm') {t:Nat} (ht:(M.get t).isSome = true):ev tm' (M.sub t) = nth tm t:=by
 unfold Mp.sub
 cases hg:M.get t with
 | none => rw [hg] at ht; cases ht
 | some x => exact (h.eq t x (Mp.get_mem hg)).symm
theorem R.puts {nt nt':Nat} {M:Mp} {tm tm':List AV} (h:R nt nt' M tm tm') {d r:Nat} (hd:d < nt) (hr:r < nt') (v:AV):R nt nt' (M.keep d r) (put tm d v) (put tm' r v):=by
 refine ⟨by rw [put_len]; exact h.l,by rw [put_len]; exact h.l',?_⟩
 intro t x hm
 have e1:=nth_put tm d t v (Nat.lt_of_lt_of_le hd h.l)
 unfold Mp.keep at hm
 rcases List.mem_cons.1 hm with e | hm
 ·cases e
  rw [e1,if_pos rfl]
  show v = nth (put tm' r v) r
  rw [nth_put tm' r r v (Nat.lt_of_lt_of_le hr h.l'),if_pos rfl]
 ·obtain ⟨hm,h2⟩:=List.mem_filter.1 hm
  unfold Mp.drop1 at hm
  obtain ⟨hm,h3⟩:=List.mem_filter.1 hm
  have hne:t ≠ d:=by
   intro e; subst e; simp at h3
  rw [e1,if_neg hne,h.eq t x hm]
  cases x with
  | lit v => rfl
  | tmp t' =>
   show nth tm' t' = nth (put tm' r v) t'
   have hne2:t' ≠ r:=by
    intro e; subst e; simp [isT'] at h2
   rw [nth_put tm' r t' v (Nat.lt_of_lt_of_le hr h.l'),if_neg hne2]
theorem R.mov {nt nt':Nat} {M:Mp} {tm tm':List AV} (h:R nt nt' M tm tm') {d:Nat} (hd:d < nt) {v:AV} {x:AOpd} (hx:ev tm' x = v):R nt nt' ((d,x) :: M.drop1 d) (AM.put tm d v) tm':=by
 refine ⟨by rw [put_len]; exact h.l,h.l',?_⟩
 intro t y hm
 have e1:=nth_put tm d t v (Nat.lt_of_lt_of_le hd h.l)
 rcases List.mem_cons.1 hm with e | hm
 ·cases e; rw [e1,if_pos rfl,hx]
 ·unfold Mp.drop1 at hm
  obtain ⟨hm,h3⟩:=List.mem_filter.1 hm
  have hne:t ≠ d:=by
   intro e; subst e; simp at h3
  rw [e1,if_neg hne,h.eq t y hm]
def tempsIn (M:Mp) (l:List Nat):Bool:=l.all fun t => (M.get t).isSome
theorem tempsIn_spec {M:Mp} {l:List Nat} (h:tempsIn M l = true) {nt nt':Nat} {tm tm':List AV} (hr:R nt nt' M tm tm'):∀ t ∈ l,ev tm' (M.sub t) = nth tm t :=
 fun t ht => hr.ok (List.all_eq_true.1 h t ht)
def genG (M:Mp):Option (Nat × Bool) -> Option (Option (Nat × Bool))
 | none => some none
 | some (t,b) => match M.get t with
  | some (.tmp t') => some (some (t',b))
  | _ => none
theorem genG_ok {M:Mp} {g g':Option (Nat × Bool)} (h:genG M g = some g') {nt nt':Nat} {tm tm':List AV} (hr:R nt nt' M tm tm'):wanted tm g = wanted tm' g':=by
 cases g with
 | none => cases h; rfl
 | some p =>
  obtain ⟨t,b⟩:=p
  simp only [genG] at h
  split at h
  ·rename_i t' hg
   cases h
   have:=hr.eq t _ (Mp.get_mem hg)
   show (match nth tm t with | .bool c => c == b | _ => false) = (match nth tm' t' with | .bool c => c == b | _ => false)
   rw [this]; rfl
  ·cases h
def genD (nt nt':Nat) (M:Mp) (d:Option Nat) (r:Nat):Option (Option Nat × Mp):=match d with
 | none => some (none,M)
 | some d => bif Nat.blt d nt && Nat.blt r nt' then some (some r,M.keep d r) else none
theorem genD_ok {nt nt':Nat} {M M':Mp} {d d':Option Nat} {r:Nat} (h:genD nt nt' M d r = some (d',M')) {tm tm':List AV} (hr:R nt nt' M tm tm') (v:AV):R nt nt' M' (putD tm d v) (putD tm' d' v):=by
 unfold genD at h
 cases d with
 | none => cases h; exact hr
 | some d =>
  dsimp only at h
  cases hb:Nat.blt d nt && Nat.blt r nt' with
  | false => rw [hb] at h; cases h
  | true =>
   rw [hb] at h
   cases h
   simp only [Bool.and_eq_true,Nat.blt_eq] at hb
   exact hr.puts hb.1 hb.2 v
noncomputable def outV (d:Option Nat) (tm:List AV):AV:=match d with | some d => nth tm d | none => aundef
theorem genD_nth {nt nt':Nat} {M M':Mp} {d d':Option Nat} {r:Nat} (h:genD nt nt' M d r = some (d',M')) {tm tm':List AV} (hr:R nt nt' M tm tm') (v:AV):outV d (putD tm d v) = outV d' (putD tm' d' v):=by
 unfold genD at h
 cases d with
 | none => cases h; rfl
 | some d =>
  dsimp only at h
  cases hb:Nat.blt d nt && Nat.blt r nt' with
  | false => rw [hb] at h; cases h
  | true =>
   rw [hb] at h
   cases h
   simp only [Bool.and_eq_true,Nat.blt_eq] at hb
   show nth (put tm d v) d = nth (put tm' r v) r
   rw [nth_put tm d d v (Nat.lt_of_lt_of_le hb.1 hr.l),nth_put tm' r r v (Nat.lt_of_lt_of_le hb.2 hr.l'),if_pos rfl,if_pos rfl]
def genOps (nt nt':Nat):List AOper -> List (Option Nat) -> Mp -> Option (List AOper × Mp)
 | [],_,M => some ([],M)
 | _ :: _, [],_ => none
 | o :: l,c :: cs,M => bif tempsIn M o.op.temps then (match c,o with
  | none,⟨some d, .mov x,none⟩ => bif Nat.blt d nt then genOps nt nt' l cs ((d,x.map M.sub) :: M.drop1 d) else none
  | none,_ => none
  | some r,o => match genG M o.guard,genD nt nt' M o.dst r with
   | some g,some (d',M') => match genOps nt nt' l cs M' with
    | some (l',M2) => some (⟨d',o.op.map M.sub,g⟩ :: l',M2)
    | none => none
   | _,_ => none) else none
theorem genOps_ok {nt nt' : Nat} {c c' : CallT} (hl : Le c' c) : ∀ (l : List AOper) (cs : List (Option Nat)) {M M2 : Mp} {l' : List AOper} {tm tm' : List AV} {h : AHeap} {s' : St}, genOps nt nt' l cs M = some (l', M2) -> R nt nt' M tm tm' -> runOps l' c' ⟨tm', h⟩ = some s' ->
  ∃ tm2,runOps l c ⟨tm,h⟩ = some ⟨tm2,s'.h⟩ /\ R nt nt' M2 tm2 s'.tm
 | [],_,M,M2,l',tm,tm',h,s',hg,hr,he => by
  cases hg; cases he; exact ⟨tm,rfl,hr⟩
 | o :: l, [],_,_,_,_,_,_,_,hg,_,_ => by cases hg
 | o :: l,q :: cs,M,M2,l',tm,tm',h,s',hg,hr,he => by
  unfold genOps at hg
  cases ht:tempsIn M o.op.temps with
  | false => rw [ht] at hg; cases hg
  | true =>
   rw [ht,cond_true] at hg
   have hx:=tempsIn_spec ht hr
   split at hg
   ·rename_i d x
    cases hd:Nat.blt d nt with
    | false => rw [hd] at hg; cases hg
    | true =>
     rw [hd,cond_true] at hg
     rw [Nat.blt_eq] at hd
     obtain ⟨tm2,e1,e2⟩:=genOps_ok hl l cs hg (hr.mov hd (ev_map hx)) he
     exact ⟨tm2,e1,e2⟩
   ·cases hg
   ·rename_i r
    split at hg
    ·rename_i g d' M' hgg hgd
     split at hg
     ·rename_i l2 M3 hgo
      cases hg
      rw [runOps_cons, <- genG_ok hgg hr] at he
      rw [runOps_cons]
      by_cases hw:wanted tm o.guard = true
      ·rw [if_pos hw] at he ⊢
       rw [step1_val] at he ⊢
       cases hv:val (o.op.map M.sub) c' tm' h with
       | none => rw [hv] at he; cases he
       | some p =>
        rw [hv] at he
        rw [val_map hl hx hv]
        exact genOps_ok hl l cs hgo (genD_ok hgd hr p.1) he
      ·rw [if_neg hw] at he ⊢
       exact genOps_ok hl l cs hgo (genD_ok hgd hr aundef) he
     ·cases hg
    ·cases hg
theorem recheck_map {o:AOper} {σ:Nat -> AOpd} {tm tm':List AV} (hx:∀ t ∈ o.op.temps,ev tm' (σ t) = nth tm t) (h:AHeap) (v:AV) (d':Option Nat) (g:Option (Nat × Bool)):recheck ⟨d',o.op.map σ,g⟩ tm' h v = recheck o tm h v:=by
 funext h'
 unfold recheck
 dsimp only
 rw [AOp.cls_map]
 cases o.op.cls with
 | q => dsimp only; rw [evalQ_map hx]
 | a => dsimp only; rw [evalA_map hx]
 | e => rfl
def genDraw (nt nt':Nat):List (AOper × Nat) -> List (Option Nat) -> Mp -> Option (List (AOper × Nat) × Mp)
 | [],_,M => some ([],M)
 | _ :: _, [],_ => none
 | (o,n) :: l,c :: cs,M => bif tempsIn M o.op.temps then (match c,o,n with
  | none,⟨some d, .mov x,none⟩,0 => bif Nat.blt d nt then genDraw nt nt' l cs ((d,x.map M.sub) :: M.drop1 d) else none
  | none,_,_ => none
  | some r,o,n => match genG M o.guard,genD nt nt' M o.dst r with
   | some g,some (d',M') => match genDraw nt nt' l cs M' with
    | some (l',M2) => some ((⟨d',o.op.map M.sub,g⟩,n) :: l',M2)
    | none => none
   | _,_ => none) else none
theorem genDraw_ok {nt nt' : Nat} {c c' : CallT} (hl : Le c' c) : ∀ (l : List (AOper × Nat)) (cs : List (Option Nat)) {M M2 : Mp} {l' : List (AOper × Nat)} {tm tm' : List AV} {h : AHeap} {s' : St} {ps : List ((AHeap -> Bool) × Nat)}, genDraw nt nt' l cs M = some (l', M2) -> R nt nt' M tm tm' -> runDraw l' c' ⟨tm', h⟩ ps = some s' ->
  ∃ tm2,runDraw l c ⟨tm,h⟩ ps = some ⟨tm2,s'.h⟩ /\ R nt nt' M2 tm2 s'.tm
 | [],_,M,M2,l',tm,tm',h,s',ps,hg,hr,he => by
  cases hg; cases he; exact ⟨tm,rfl,hr⟩
 | _ :: l, [],_,_,_,_,_,_,_,_,hg,_,_ => by cases hg
 | (o,n) :: l,q :: cs,M,M2,l',tm,tm',h,s',ps,hg,hr,he => by
  unfold genDraw at hg
  cases ht:tempsIn M o.op.temps with
  | false => rw [ht] at hg; cases hg
  | true =>
   rw [ht,cond_true] at hg
   have hx:=tempsIn_spec ht hr
   split at hg
   ·rename_i d x
    cases hd:Nat.blt d nt with
    | false => rw [hd] at hg; cases hg
    | true =>
     rw [hd,cond_true] at hg
     rw [Nat.blt_eq] at hd
     obtain ⟨tm2,e1,e2⟩:=genDraw_ok hl l cs hg (hr.mov hd (ev_map hx)) he
     exact ⟨tm2,e1,e2⟩
   ·cases hg
   ·rename_i r
    split at hg
    ·rename_i g d' M' hgg hgd
     split at hg
     ·rename_i l2 M3 hgo
      cases hg
      rw [runDraw_cons, <- genG_ok hgg hr] at he
      rw [runDraw_cons]
      by_cases hw:wanted tm o.guard = true
      ·rw [if_pos hw] at he ⊢
       rw [step1_val] at he ⊢
       cases hv:val (o.op.map M.sub) c' tm' h with
       | none => rw [hv] at he; cases he
       | some p =>
        rw [hv] at he
        rw [val_map hl hx hv]
        dsimp only at he ⊢
        rw [AOp.cls_map] at he
        have e1:=genD_ok hgd hr p.1
        have e2:=genD_nth hgd hr p.1
        cases hc:o.op.cls with
        | e =>
         simp only [hc] at he ⊢
         cases hb:checks ps p.2 with
         | false => rw [hb] at he; cases he
         | true => rw [hb] at he; exact genDraw_ok hl l cs hgo e1 he
        | q =>
         simp only [hc] at he ⊢
         cases n with
         | zero => exact genDraw_ok hl l cs hgo e1 he
         | succ n =>
          rw [recheck_map hx] at he
          have he2:runDraw l2 c' ⟨putD tm' d' p.1,p.2⟩ ((recheck o tm h (outV d' (putD tm' d' p.1)),n + 1) :: ps) = some s':=he
          rw [<- e2] at he2
          exact genDraw_ok hl l cs hgo e1 he2
        | a =>
         simp only [hc] at he ⊢
         cases n with
         | zero => exact genDraw_ok hl l cs hgo e1 he
         | succ n =>
          rw [recheck_map hx] at he
          have he2:runDraw l2 c' ⟨putD tm' d' p.1,p.2⟩ ((recheck o tm h (outV d' (putD tm' d' p.1)),n + 1) :: ps) = some s':=he
          rw [<- e2] at he2
          exact genDraw_ok hl l cs hgo e1 he2
      ·rw [if_neg hw] at he ⊢
       dsimp only at he
       rw [AOp.cls_map] at he
       exact genDraw_ok hl l cs hgo (genD_ok hgd hr aundef) he
     ·cases hg
    ·cases hg
inductive Ct where
 | skip
 | ops (l:List (Option Nat))
 | seq (a b:Ct)
 | cond (a b:Ct)
 | block (M:Mp) (a:Ct)
 | loop (M:Mp) (a:Ct)
def AOpd.beq:AOpd -> AOpd -> Bool
 | .tmp a, .tmp b => Nat.beq a b
 | .lit a, .lit b => AV.beq a b
 | _,_ => false
theorem AOpd.eq_of_beq {a b:AOpd} (h:AOpd.beq a b = true):a = b:=by
 cases a <;> cases b <;> simp only [AOpd.beq] at h <;> first | (cases h; done) | skip
 ·rw [Nat.eq_of_beq_eq_true h]
 ·rw [AV.eq_of_beq h]
def Mp.le (M1 M:Mp):Bool:=M1.all fun p => match M.get p.1 with | some x => AOpd.beq x p.2 | none => false
theorem R.weak {nt nt':Nat} {M1 M:Mp} {tm tm':List AV} (h:R nt nt' M tm tm') (hl:M1.le M = true):R nt nt' M1 tm tm':=by
 refine ⟨h.l,h.l',fun t x hm => ?_⟩
 have:=List.all_eq_true.1 hl (t,x) hm
 dsimp only at this
 split at this
 ·rename_i y hg
  rw [<- AOpd.eq_of_beq this]; exact h.eq t y (Mp.get_mem hg)
 ·cases this
def Mp.meet (M1 M2:Mp):Mp:=M1.filter fun p => match M2.get p.1 with | some x => AOpd.beq x p.2 | none => false
theorem Mp.meet_l (M1 M2:Mp) {nt nt':Nat} {tm tm':List AV} (h:R nt nt' M1 tm tm'):R nt nt' (M1.meet M2) tm tm' :=
 ⟨h.l,h.l',fun t x hm => h.eq t x (List.mem_filter.1 hm).1⟩
theorem Mp.meet_r (M1 M2:Mp) {nt nt':Nat} {tm tm':List AV} (h:R nt nt' M2 tm tm'):R nt nt' (M1.meet M2) tm tm' :=
 ⟨h.l,h.l',fun t x hm => by
  have:=(List.mem_filter.1 hm).2
  dsimp only at this
  split at this
  ·rename_i y hg
   rw [<- AOpd.eq_of_beq this]; exact h.eq t y (Mp.get_mem hg)
  ·cases this⟩
def join:Option Mp -> Option Mp -> Option Mp
 | none,b => b
 | a,none => a
 | some a,some b => some (a.meet b)
def leO (M1:Mp):Option Mp -> Bool
 | none => true
 | some M => M1.le M
abbrev En:=List (Nat × Mp)
def En.get:En -> Nat -> Option Mp
 | [],_ => none
 | (k,x) :: r,t => bif Nat.beq k t then some x else En.get r t
def gen (nt nt':Nat) (Mr:Mp):ACode -> Ct -> En -> Mp -> Option (ACode × Option Mp)
 | .skip,_,_,M => some (.skip,some M)
 | .ops l, .ops cs,_,M => match genOps nt nt' l cs M with | some (l',M') => some (.ops l',some M') | none => none
 | .draw l, .ops cs,_,M => match genDraw nt nt' l cs M with | some (l',M') => some (.draw l',some M') | none => none
 | .seq a b, .seq ca cb,E,M => match gen nt nt' Mr a ca E M with
  | some (a',some M1) => (match gen nt nt' Mr b cb E M1 with | some (b',M2) => some (.seq a' b',M2) | none => none)
  | some (a',none) => some (a',none)
  | none => none
 | .cond c a b, .cond ca cb,E,M => bif tempsIn M c.temps then (match gen nt nt' Mr a ca E M,gen nt nt' Mr b cb E M with
  | some (a',M1),some (b',M2) => some (.cond (c.map M.sub) a' b',join M1 M2)
  | _,_ => none) else none
 | .block id b, .block Mb cb,E,M => match gen nt nt' Mr b cb ((id,Mb) :: E) M with
  | some (b',M1) => bif leO Mb M1 then some (.block id b',some Mb) else none
  | none => none
 | .loop b, .loop Mh cb,E,M => bif Mh.le M then (match gen nt nt' Mr b cb E Mh with
  | some (b',M1) => bif leO Mh M1 then some (.loop b',none) else none
  | none => none) else none
 | .exit i,_,E,M => match E.get i with | some Mi => bif Mi.le M then some (.exit i,none) else none | none => none
 | .scope b,c,E,M => match gen nt nt' Mr b c E M with | some (b',M1) => some (.scope b',M1) | none => none
 | .ret,_,_,M => bif Mr.le M then some (.ret,none) else none
 | _,_,_,_ => none
def outR (nt nt':Nat) (Mr:Mp) (E:En) (Mo:Option Mp) (x:AX) (tm tm':List AV):Prop:=match x with
 | .normal => ∃ M,Mo = some M /\ R nt nt' M tm tm'
 | .exit i => ∃ M,E.get i = some M /\ R nt nt' M tm tm'
 | .ret => R nt nt' Mr tm tm'
theorem gen_ok {nt nt' : Nat} {Mr : Mp} {c c' : CallT} (hl : Le c' c) {k : Nat} : ∀ (a : ACode) (ct : Ct) (E : En) {M : Mp} {a' : ACode} {Mo : Option Mp} {tm tm' : List AV} {h : AHeap} {x : AX} {s' : St}, gen nt nt' Mr a ct E M = some (a', Mo) -> R nt nt' M tm tm' -> exec a' c' k ⟨tm', h⟩ = some (x, s') ->
  ∃ tm2,exec a c k ⟨tm,h⟩ = some (x,⟨tm2,s'.h⟩) /\ outR nt nt' Mr E Mo x tm2 s'.tm
 | .skip,ct,E,M,a',Mo,tm,tm',h,x,s',hg,hr,he => by
  simp only [gen] at hg; cases hg; cases he; exact ⟨tm,rfl,M,rfl,hr⟩
 | .ops l, .ops cs,E,M,a',Mo,tm,tm',h,x,s',hg,hr,he => by
  simp only [gen] at hg
  split at hg
  ·rename_i l' M' hgo
   cases hg
   rw [exec_ops] at he
   cases hv:runOps l' c' ⟨tm',h⟩ with
   | none => rw [hv] at he; cases he
   | some s1 =>
    rw [hv] at he; cases he
    obtain ⟨tm2,e1,e2⟩:=genOps_ok hl l cs hgo hr hv
    exact ⟨tm2,by rw [exec_ops,e1],M',rfl,e2⟩
  ·cases hg
 | .draw l, .ops cs,E,M,a',Mo,tm,tm',h,x,s',hg,hr,he => by
  simp only [gen] at hg
  split at hg
  ·rename_i l' M' hgo
   cases hg
   rw [exec_draw] at he
   cases hv:runDraw l' c' ⟨tm',h⟩ [] with
   | none => rw [hv] at he; cases he
   | some s1 =>
    rw [hv] at he; cases he
    obtain ⟨tm2,e1,e2⟩:=genDraw_ok hl l cs hgo hr hv
    exact ⟨tm2,by rw [exec_draw,e1],M',rfl,e2⟩
  ·cases hg
 | .seq a b, .seq ca cb,E,M,a',Mo,tm,tm',h,x,s',hg,hr,he => by
  simp only [gen] at hg
  split at hg
  ·rename_i a1 M1 hga
   split at hg
   ·rename_i b1 M2 hgb
    cases hg
    rw [exec_seq] at he
    cases hv:exec a1 c' k ⟨tm',h⟩ with
    | none => rw [hv] at he; cases he
    | some p =>
     obtain ⟨y,s1⟩:=p
     rw [hv] at he
     obtain ⟨tm2,e1,e2⟩:=gen_ok hl a ca E hga hr hv
     rw [exec_seq,e1]
     cases y with
     | normal =>
      obtain ⟨M0,e3,e4⟩:=e2
      cases e3
      exact gen_ok hl b cb E hgb e4 he
     | exit i => cases he; exact ⟨tm2,rfl,e2⟩
     | ret => cases he; exact ⟨tm2,rfl,e2⟩
   ·cases hg
  ·rename_i a1 hga
   cases hg
   obtain ⟨tm2,e1,e2⟩:=gen_ok hl a ca E hga hr he
   rw [exec_seq,e1]
   cases x with
   | normal => obtain ⟨M0,e3,e4⟩:=e2; cases e3
   | exit i => exact ⟨tm2,rfl,e2⟩
   | ret => exact ⟨tm2,rfl,e2⟩
  ·cases hg
 | .cond cd a b, .cond ca cb,E,M,a',Mo,tm,tm',h,x,s',hg,hr,he => by
  simp only [gen] at hg
  cases ht:tempsIn M cd.temps with
  | false => rw [ht] at hg; cases hg
  | true =>
   rw [ht,cond_true] at hg
   have hx:=ev_map (tempsIn_spec ht hr)
   split at hg
   ·rename_i a1 M1 b1 M2 hga hgb
    cases hg
    rw [exec_cond] at he ⊢
    dsimp only at he ⊢
    rw [hx] at he
    split at he
    ·rename_i t hc
     split at he
     ·rename_i htt
      obtain ⟨tm2,e1,e2⟩:=gen_ok hl a ca E hga hr he
      refine ⟨tm2,by rw [if_pos htt]; exact e1,?_⟩
      cases x with
      | normal =>
       obtain ⟨M0,e3,e4⟩:=e2
       cases e3
       cases M2 with
       | none => exact ⟨_,rfl,e4⟩
       | some M2 => exact ⟨_,rfl,Mp.meet_l _ _ e4⟩
      | exit i => exact e2
      | ret => exact e2
     ·rename_i htt
      obtain ⟨tm2,e1,e2⟩:=gen_ok hl b cb E hgb hr he
      refine ⟨tm2,by rw [if_neg htt]; exact e1,?_⟩
      cases x with
      | normal =>
       obtain ⟨M0,e3,e4⟩:=e2
       cases e3
       cases M1 with
       | none => exact ⟨_,rfl,e4⟩
       | some M1 => exact ⟨_,rfl,Mp.meet_r _ _ e4⟩
      | exit i => exact e2
      | ret => exact e2
    ·cases he
   ·cases hg
 | .block id b, .block Mb cb,E,M,a',Mo,tm,tm',h,x,s',hg,hr,he => by
  simp only [gen] at hg
  split at hg
  ·rename_i b1 M1 hgb
   cases hle:leO Mb M1 with
   | false => rw [hle] at hg; cases hg
   | true =>
    rw [hle,cond_true] at hg
    cases hg
    rw [exec_block] at he
    cases hv:exec b1 c' k ⟨tm',h⟩ with
    | none => rw [hv] at he; cases he
    | some p =>
     obtain ⟨y,s1⟩:=p
     rw [hv] at he
     obtain ⟨tm2,e1,e2⟩:=gen_ok hl b cb _ hgb hr hv
     rw [exec_block,e1]
     cases y with
     | normal =>
      cases he
      obtain ⟨M0,e3,e4⟩:=e2
      cases e3
      exact ⟨tm2,rfl,Mb,rfl,e4.weak hle⟩
     | exit i =>
      obtain ⟨M0,e3,e4⟩:=e2
      unfold blockX at he ⊢
      dsimp only at he ⊢
      by_cases hi:i = id
      ·subst hi
       rw [if_pos rfl] at he ⊢
       cases he
       have:En.get ((i,Mb) :: E) i = some Mb:=by simp [En.get]
       rw [this] at e3
       cases e3
       exact ⟨tm2,rfl,Mb,rfl,e4⟩
      ·rw [if_neg hi] at he ⊢
       cases he
       refine ⟨tm2,rfl,M0,?_,e4⟩
       have hb:Nat.beq id i = false:=by
        cases hq:Nat.beq id i
        ·rfl
        ·exact absurd (Nat.eq_of_beq_eq_true hq).symm hi
       simpa [En.get,hb] using e3
     | ret => cases he; exact ⟨tm2,rfl,e2⟩
  ·cases hg
 | .loop b, .loop Mh cb,E,M,a',Mo,tm,tm',h,x,s',hg,hr,he => by
  simp only [gen] at hg
  cases hle:Mh.le M with
  | false => rw [hle] at hg; cases hg
  | true =>
   rw [hle,cond_true] at hg
   split at hg
   ·rename_i b1 M1 hgb
    cases hle2:leO Mh M1 with
    | false => rw [hle2] at hg; cases hg
    | true =>
     rw [hle2,cond_true] at hg
     cases hg
     rw [exec_loop] at he
     have key:∀ (n:Nat) {tm tm':List AV} {h:AHeap},R nt nt' Mh tm tm' -> iter n (exec b1 c' k) ⟨tm',h⟩ = some (x,s') -> ∃ tm2,iter n (exec b c k) ⟨tm,h⟩ = some (x,⟨tm2,s'.h⟩) /\ outR nt nt' Mr E none x tm2 s'.tm:=by
      intro n
      induction n with
      | zero => intro tm tm' h _ he; cases he
      | succ n ih =>
       intro tm tm' h hr he
       rw [iter_succ] at he
       cases hv:exec b1 c' k ⟨tm',h⟩ with
       | none => rw [hv] at he; cases he
       | some p =>
        obtain ⟨y,s1⟩:=p
        rw [hv] at he
        obtain ⟨tm2,e1,e2⟩:=gen_ok hl b cb E hgb hr hv
        rw [iter_succ,e1]
        cases y with
        | normal =>
         obtain ⟨M0,e3,e4⟩:=e2
         cases e3
         exact ih (e4.weak hle2) he
        | exit i => cases he; exact ⟨tm2,rfl,e2⟩
        | ret => cases he; exact ⟨tm2,rfl,e2⟩
     obtain ⟨tm2,e1,e2⟩:=key k (hr.weak hle) he
     exact ⟨tm2,by rw [exec_loop]; exact e1,e2⟩
   ·cases hg
 | .exit i,ct,E,M,a',Mo,tm,tm',h,x,s',hg,hr,he => by
  simp only [gen] at hg
  split at hg
  ·rename_i Mi hgi
   cases hle:Mi.le M with
   | false => rw [hle] at hg; cases hg
   | true =>
    rw [hle,cond_true] at hg
    cases hg; cases he
    exact ⟨tm,rfl,Mi,hgi,hr.weak hle⟩
  ·cases hg
 | .scope b,ct,E,M,a',Mo,tm,tm',h,x,s',hg,hr,he => by
  simp only [gen] at hg
  split at hg
  ·rename_i b1 M1 hgb
   cases hg
   rw [exec_scope] at he ⊢
   exact gen_ok hl b ct E hgb hr he
  ·cases hg
 | .ret,ct,E,M,a',Mo,tm,tm',h,x,s',hg,hr,he => by
  simp only [gen] at hg
  cases hle:Mr.le M with
  | false => rw [hle] at hg; cases hg
  | true =>
   rw [hle,cond_true] at hg
   cases hg; cases he
   exact ⟨tm,rfl,hr.weak hle⟩
 | .rangeFunc _ _ _ _,_,_,_,_,_,_,_,_,_,_,hg,_,_ => by simp [gen] at hg
def genRes (Mr:Mp):List ARes -> Option (List ARes)
 | [] => some []
 | .tmp t :: r => match Mr.get t,genRes Mr r with
  | some (.tmp t'),some r' => some (.tmp t' :: r')
  | _,_ => none
 | .cell t n :: r => match Mr.get t,genRes Mr r with
  | some (.tmp t'),some r' => some (.cell t' n :: r')
  | _,_ => none
theorem genRes_ok {nt nt':Nat} {Mr:Mp} {tm tm':List AV} (hr:R nt nt' Mr tm tm') (h:AHeap):∀ {rs rs':List ARes},genRes Mr rs = some rs' -> resOfs tm h rs = resOfs tm' h rs'
 | [],_,hg => by cases hg; rfl
 | .tmp t :: r,_,hg => by
  unfold genRes at hg
  split at hg
  ·rename_i t' r' h1 h2
   cases hg
   have e:=hr.eq t _ (Mp.get_mem h1)
   have e':nth tm t = nth tm' t':=e
   simp only [resOfs,resOf,e',genRes_ok hr h h2]
  ·cases hg
 | .cell t n :: r,_,hg => by
  unfold genRes at hg
  split at hg
  ·rename_i t' r' h1 h2
   cases hg
   have e:=hr.eq t _ (Mp.get_mem h1)
   have e':nth tm t = nth tm' t':=e
   simp only [resOfs,resOf,e',genRes_ok hr h h2]
  ·cases hg
theorem nth_app (l:List AV) (n t:Nat):nth (l ++ List.replicate n aundef) t = nth l t:=by
 induction l generalizing t with
 | nil =>
  rw [List.nil_append,nth_nil]
  induction n generalizing t with
  | zero => rfl
  | succ n ih => cases t with
   | zero => rfl
   | succ t => rw [List.replicate_succ,nth_succ]; exact ih t
 | cons x r ih => cases t with
  | zero => rfl
  | succ t => rw [List.cons_append,nth_succ,nth_succ]; exact ih t
def genFn (fn:AFn) (nt':Nat) (M0 Mr:Mp) (ct:Ct):Option AFn :=
 bif M0.all fun p => AOpd.beq p.2 (.tmp p.1) then (match gen fn.nt nt' Mr fn.body ct [] M0,genRes Mr fn.res with
  | some (b,Mo),some rs => bif leO Mr Mo then some ⟨nt',rs,b⟩ else none
  | _,_ => none) else none
theorem genFn_ok {fn fn' : AFn} {nt' : Nat} {M0 Mr : Mp} {ct : Ct} (hg : genFn fn nt' M0 Mr ct = some fn') {c c' : CallT} (hl : Le c' c) {k : Nat} {args : List AV} {h : AHeap} {r : AV × AHeap}
  (he:finish fn'.res (exec fn'.body c' k ⟨args ++ List.replicate (fn'.nt - args.length) aundef,h⟩) = some r):finish fn.res (exec fn.body c k ⟨args ++ List.replicate (fn.nt - args.length) aundef,h⟩) = some r:=by
 unfold genFn at hg
 cases hm:M0.all fun p => AOpd.beq p.2 (.tmp p.1) with
 | false => rw [hm] at hg; cases hg
 | true =>
  rw [hm,cond_true] at hg
  split at hg
  ·rename_i b Mo rs hgb hgr
   cases hle:leO Mr Mo with
   | false => rw [hle] at hg; cases hg
   | true =>
    rw [hle,cond_true] at hg
    cases hg
    dsimp only at he
    have hr:R fn.nt nt' M0 (args ++ List.replicate (fn.nt - args.length) aundef) (args ++ List.replicate (nt' - args.length) aundef):=by
     refine ⟨by simp; omega,by simp; omega,fun t x hx => ?_⟩
     have:=AOpd.eq_of_beq (List.all_eq_true.1 hm (t,x) hx)
     dsimp only at this
     subst this
     show nth _ t = nth _ t
     rw [nth_app,nth_app]
    cases hv:exec b c' k ⟨args ++ List.replicate (nt' - args.length) aundef,h⟩ with
    | none => rw [hv] at he; cases he
    | some p =>
     obtain ⟨x,s'⟩:=p
     rw [hv] at he
     obtain ⟨tm2,e1,e2⟩:=gen_ok hl _ _ _ hgb hr hv
     rw [e1]
     cases x with
     | normal =>
      obtain ⟨M,e3,e4⟩:=e2
      subst e3
      have e5:R fn.nt nt' Mr tm2 s'.tm:=e4.weak hle
      simp only [finish,result] at he ⊢
      rw [genRes_ok e5 s'.h hgr]; exact he
     | exit i => cases he
     | ret =>
      have e5:R fn.nt nt' Mr tm2 s'.tm:=e2
      simp only [finish,result] at he ⊢
      rw [genRes_ok e5 s'.h hgr]; exact he
  ·cases hg
def FOpt (f f':AFn):Prop:=f' = f \/ ∃ nt' M0 Mr ct,genFn f nt' M0 Mr ct = some f'
def TOpt (T T':FnTab):Prop:=∀ f fn',T' f = some fn' -> ∃ fn,T f = some fn /\ FOpt fn fn'
theorem callF_opt {T T':FnTab} {I:Oracle} (hO:TOpt T T'):∀ n:Nat,Le (callF T' I n) (callF T I n)
 | 0 => fun _ _ _ _ e => by cases e
 | n + 1 => fun c a hp r e => by
  have ih:Le (callF T' I n) (callF T I n):=callF_opt hO n
  cases c with
  | fn f =>
   rw [callF_fn] at e ⊢
   cases hi:I f a hp with
   | some r' => rw [hi] at e; exact e
   | none =>
    rw [hi] at e
    dsimp only at e ⊢
    cases hT:T' f with
    | none => rw [hT] at e; cases e
    | some fn' =>
     rw [hT] at e
     obtain ⟨fn,h1,h2⟩:=hO _ _ hT
     rw [h1]
     dsimp only at e ⊢
     rcases h2 with h2 | ⟨nt',M0,Mr,ct,h2⟩
     ·subst h2
      exact finish_le (fun p hp => exec_le ih (Nat.le_refl n) _ hp) e
     ·exact genFn_ok h2 ih e
  | yield l =>
   rw [callF_yield] at e ⊢
   split at e
   ·rename_i tm ps ca cb pend hg
    split at e
    ·rename_i hlen
     rw [if_pos hlen]
     split at e
     ·rename_i s1 hv
      rw [exec_le ih (Nat.le_refl n) _ hv]
      dsimp only at e ⊢
      split at e
      ·exact endRound_le (fun p hp => exec_le ih (Nat.le_refl n) _ hp) e
      ·cases e
     ·cases e
    ·cases e
   ·cases e
def Tb.Opt:Tb -> Tb -> Prop
 | .no, .no => True
 | .one k f, .one k' f' => k = k' /\ FOpt f f'
 | .br k l r, .br k' l' r' => k = k' /\ Tb.Opt l l' /\ Tb.Opt r r'
 | _,_ => False
theorem Tb.opt:∀ {t t':Tb},t.Opt t' -> TOpt t.get t'.get
 | .no, .no,_,f,fn,h => by cases h
 | .one k g, .one k' g',hk,f,fn,h => by
  obtain ⟨e,hf⟩:=hk
  subst e
  have h':Bool.rec (motive:=fun _ => Option AFn) none (some g') (Nat.beq f k) = some fn:=h
  show ∃ fn0,Bool.rec (motive:=fun _ => Option AFn) none (some g) (Nat.beq f k) = some fn0 /\ _
  cases hb:Nat.beq f k with
  | false => rw [hb] at h'; cases h'
  | true => rw [hb] at h'; cases h'; exact ⟨g,rfl,hf⟩
 | .br k l r, .br k' l' r',hk,f,fn,h => by
  obtain ⟨e,h1,h2⟩:=hk
  subst e
  have h':Bool.rec (motive:=fun _ => Option AFn) (r'.get f) (l'.get f) (Nat.blt f k) = some fn:=h
  show ∃ fn0,Bool.rec (motive:=fun _ => Option AFn) (r.get f) (l.get f) (Nat.blt f k) = some fn0 /\ _
  cases hb:Nat.blt f k with
  | false => rw [hb] at h'; exact Tb.opt h2 f fn h'
  | true => rw [hb] at h'; exact Tb.opt h1 f fn h'
 | .no, .one _ _,hk,_,_,_ => hk.elim
 | .no, .br _ _ _,hk,_,_,_ => hk.elim
 | .one _ _, .no,hk,_,_,_ => hk.elim
 | .one _ _, .br _ _ _,hk,_,_,_ => hk.elim
 | .br _ _ _, .no,hk,_,_,_ => hk.elim
 | .br _ _ _, .one _ _,hk,_,_,_ => hk.elim
end Go.AM
namespace Go.AM
open Go
theorem cellsOf_push {h:AHeap} {c:List AV} {r:Bool}:cellsOf (h.push (.cells c r)) h.next = some c:=by
 unfold cellsOf; rw [AHeap.get_push_same]
theorem cellsOf_get {h:AHeap} {i:Nat} {c:List AV} {r:Bool} (hg:h.get i = some (.cells c r)):cellsOf h i = some c:=by
 unfold cellsOf; rw [hg]
theorem cut_all:∀ (l:List AV),cut l 0 l.length = some l
 | [] => rfl
 | x :: xs => by rw [List.length_cons,cut_cons,cut_all xs]
theorem cut_at:∀ (l:List AV) (i:Nat) (x:AV),l[i]? = some x -> cut l i 1 = some [x]
 | [],i,x,h => by simp at h
 | y :: ys,0,x,h => by
  simp at h; subst h
  rw [cut_cons,cut_zero]
 | y :: ys,i + 1,x,h => by
  rw [cut_succ]; exact cut_at ys i x (by simpa using h)
theorem fit_at {l:List AV} {i:Nat} {x:AV} (h:l[i]? = some x):fit none i l = some x:=by
 show (match cut l i 1 with | some [v] => some v | _ => none) = _
 rw [cut_at l i x h]
noncomputable def appV (sz bytes:Nat) (s x:AV) (h:AHeap):Option (AV × AHeap):=evalE (.append sz bytes [] (.lit s) (.lit x)) (fun _ _ _ => none) [] h
theorem evalE_append {C:CallT} {tm:List AV} {h:AHeap} {sz bytes:Nat} {z:List AV} {s x:AOpd}:evalE (.append sz bytes z s x) C tm h = appV sz bytes (ev tm s) (ev tm x) h:=rfl
end Go.AM
namespace Go.AM
open Go
theorem result_1 {a:Nat} {tm:List AV} {h:AHeap}:result [.tmp a] tm h = some (nth tm a):=rfl
theorem lim_opt {T T':FnTab} {I:Oracle} (hO:TOpt T T') {f:Nat} {a:List AV} {h:AHeap} {r:AV × AHeap} (e:lim T' I (.fn f) a h = some r):∃ n,callF T I n (.fn f) a h = some r:=by
 obtain ⟨n,e⟩:=lim_iff.1 e
 exact ⟨n,callF_opt hO n _ _ _ _ e⟩
theorem iaddrV_ok {sz j o len:Nat} {c:ACap} {k:IntKind} {i:Nat} (h:i < len):iaddrV sz (.slice j o len c) (.int k (i:Int)) = some (.ptr j (o + i * sz)):=by
 show (if 0 <= (i:Int) /\ (i:Int) < len then some (AV.ptr j (o + (i:Int).toNat * sz)) else none) = _
 rw [if_pos (by omega),Int.toNat_natCast]
theorem loadV_at {h:AHeap} {i o:Nat} {c:List AV} {x:AV} (hc:cellsOf h i = some c) (hx:c[o]? = some x):loadV none (.ptr i o) h = some x:=by
 show (match cellsOf h i with | some c => fit none o c | none => none) = _
 rw [hc]; exact fit_at hx
def RSd:=PLift.up (And.intro @WK_skip (And.intro @WK_seq (And.intro @WX_seq (And.intro @WX_seq_exit (And.intro @WX_seq_ret (And.intro @WK_block (And.intro @WX_block (And.intro @WX_block_ret (And.intro @WX_block_eq (And.intro @WK_exit (And.intro @WK_ret (And.intro @WK_scope (And.intro @WK_cond (And.intro @WK_ops (And.intro @WK_draw (And.intro @WX_loop (And.intro @WX_loop_exit (And.intro @WX_loop_ret (And.intro @WX_nil (And.intro @WB_true (And.intro @WB_false (And.intro @WOs_nil (And.intro @WDs_nil (And.intro @WV_some (And.intro @WA_some (And.intro @WE_some (And.intro @WDV_zero (And.intro @WDE_none (And.intro @putD_some (And.intro @putD_none (And.intro @WOs_g (And.intro @WG_tt (And.intro @WG_ff (And.intro @WG_tf (And.intro @WG_ft (And.intro @WG_un (And.intro @WOs_mov (And.intro @WOs_bin (And.intro @WOs_un (And.intro @WOs_pick (And.intro @WOs_toInt (And.intro @WOs_len (And.intro @WOs_load (And.intro @WOs_iaddr (And.intro @WOs_indexS (And.intro @WOs_extr (And.intro @WOs_field (And.intro @WOs_toStr (And.intro @WOs_call (And.intro @WOs_store (And.intro @WOs_append (And.intro @WOs_slice (And.intro @WOs_mx (And.intro @WOs_mn (And.intro @WOs_build (And.intro @WOs_bslice (And.intro @WOs_mkslice (And.intro @WOs_alloc (And.intro @WOs_lenA (And.intro @WDs_mov (And.intro @WDs_bin (And.intro @WDs_call (And.intro @evalQ_mov (And.intro @evalQ_bin (And.intro @evalQ_un (And.intro @evalQ_pick (And.intro @evalQ_toInt (And.intro @evalQ_len (And.intro @evalQ_load (And.intro @evalQ_iaddr (And.intro @evalQ_indexS (And.intro @evalQ_extr (And.intro @evalQ_field (And.intro @evalQ_mx (And.intro @evalQ_mn (And.intro @evalQ_lenA (And.intro @evalE_fn (And.intro @evalE_append (And.intro @evs_cons (And.intro @evs_nil (And.intro @ev_tmp (And.intro @ev_lit (And.intro @nth_zero (And.intro @nth_succ (And.intro @put_zero (And.intro @put_succ (And.intro @pickV_tt (And.intro @pickV_ff (And.intro @extrV_0 (And.intro @extrV_1 @extrV_2))))))))))))))))))))))))))))))))))))))))))))))))))))))))))))))))))))))))))))))))))))))))))
end Go.AM
namespace Go.AM
open Go Go.ChangeShapes Go.WideShapes Go.RowKit
def capOK (sz n:Nat):ACap -> Prop
 | .exact m => n <= m
 | .opn s => s = sz
def SlAt (h:AHeap) (v:AV) (c:List AV):Prop :=
 (v = .nils /\ c = []) \/ ∃ i o cap full,v = .slice i o c.length cap /\ i < h.next /\ (c ≠ [] -> cellsOf h i = some full /\ cut full o c.length = some c) /\ capOK 1 c.length cap
structure InitH (P:Program) (ρ:Rho) (h:AHeap) (w:World):Prop where
 sim:Sim P ρ h w.heap.size w
 ro:∀ i o,h.get i = some o -> o.rw = false
structure Gro (h h':AHeap):Prop where
 le:h.next <= h'.next
 same:∀ j,j < h.next -> h'.get j = h.get j
theorem Gro.refl (h:AHeap):Gro h h:=⟨Nat.le_refl _,fun _ _ => rfl⟩
theorem Gro.trans {a b c:AHeap} (x:Gro a b) (y:Gro b c):Gro a c:=⟨Nat.le_trans x.le y.le,fun j hj => by rw [y.same j (Nat.lt_of_lt_of_le hj x.le),x.same j hj]⟩
theorem Gro.push (h:AHeap) (o:AObj):Gro h (h.push o):=⟨Nat.le_succ _,fun _ hj => AHeap.get_push_lt h o hj⟩
theorem Gro.cells {h h':AHeap} (g:Gro h h') {i:Nat} (hi:i < h.next):cellsOf h' i = cellsOf h i:=by unfold cellsOf; rw [g.same i hi]
theorem SlAt.gro {h h':AHeap} {v:AV} {c:List AV} (s:SlAt h v c) (g:Gro h h'):SlAt h' v c:=by
 rcases s with s | ⟨i,o,cap,full,h1,h2,h3,h5⟩
 ·exact .inl s
 ·exact .inr ⟨i,o,cap,full,h1,Nat.lt_of_lt_of_le h2 g.le,fun hc => by rw [g.cells h2]; exact h3 hc,h5⟩
section
variable {P:Program} {ρ:Rho} {h:AHeap} {w:World}
theorem InitH.empty (w:World):InitH P (fun _ => none) .empty w :=
 ⟨⟨Nat.le_refl _,(fun i p h => by cases h),(fun i o p _ h => by cases h),(fun i j oi oj pi pj _ _ _ h => by cases h),Tidy.empty⟩,fun i o h => by cases h⟩
theorem InitH.fresh (hI:InitH P ρ h w):ρ h.next = none:=by
 cases e:ρ h.next with
 | none => rfl
 | some p => exact absurd (hI.sim.dom _ _ e) (Nat.lt_irrefl _)
theorem InitH.push (hI : InitH P ρ h w) {p : Place} {c : List AV} {cc : Array Value} {el : TypeId} {fr : Nat × Nat} (hb : w.heap[p.blk]? = some (.cells cc el fr)) (hle : p.base + p.room <= cc.size) (hl : c.length <= p.room)
  (hv:∀ k a,c[k]? = some a -> ∃ v,cc[p.base + k]? = some v /\ VR ρ a v):Ext ρ (upd ρ h.next p) /\ InitH P (upd ρ h.next p) (h.push (.cells c false)) w:=by
 have hx:Ext ρ (upd ρ h.next p):=Ext.upd p hI.fresh
 have hro:∀ i o,(h.push (.cells c false)).get i = some o -> o.rw = false:=fun i o e => by
  rw [AHeap.get_push] at e
  split at e
  ·cases e; rfl
  ·exact hI.ro i o e
 refine ⟨hx,⟨⟨hI.sim.low,fun i q e => ?_,fun i o q e1 e2 => ?_,fun i j oi oj pi pj _ e1 _ _ _ e5 => ?_,hI.sim.tidy.push _⟩,hro⟩⟩
 ·show i < h.next + 1
  by_cases ei:i = h.next
  ·omega
  ·rw [upd_ne _ _ ei] at e
   have:=hI.sim.dom i q e; omega
 ·rw [AHeap.get_push] at e1
  by_cases ei:i = h.next
  ·subst ei
   rw [if_pos rfl] at e1; cases e1
   rw [upd_self] at e2; cases e2
   exact ⟨cc,el,fr,hb,hle,hl,fun k a hk => let ⟨v,h1,h2⟩:=hv k a hk; ⟨v,h1,h2.mono hx⟩,fun e => by cases e⟩
  ·rw [if_neg ei] at e1
   rw [upd_ne _ _ ei] at e2
   exact (hI.sim.obj i o q e1 e2).mono hx
 ·rw [hro i oi e1] at e5; cases e5
theorem InitH.skip (hI:InitH P ρ h w) (p:Place):Ext ρ (upd ρ h.next p) /\ InitH P (upd ρ h.next p) ⟨h.next + 1,h.t⟩ w:=by
 have hx:Ext ρ (upd ρ h.next p):=Ext.upd p hI.fresh
 have hget:∀ i,(⟨h.next + 1,h.t⟩:AHeap).get i = h.get i:=fun _ => rfl
 refine ⟨hx,⟨⟨hI.sim.low,fun i q e => ?_,fun i o q e1 e2 => ?_,fun i j oi oj pi pj _ e1 _ _ _ e5 => ?_,fun i hi => hI.sim.tidy i (Nat.le_of_succ_le hi)⟩,hI.ro⟩⟩
 ·show i < h.next + 1
  by_cases ei:i = h.next
  ·omega
  ·rw [upd_ne _ _ ei] at e
   have:=hI.sim.dom i q e; omega
 ·rw [hget] at e1
  by_cases ei:i = h.next
  ·subst ei
   rw [hI.sim.tidy h.next (Nat.le_refl _)] at e1; cases e1
  ·rw [upd_ne _ _ ei] at e2
   exact (hI.sim.obj i o q e1 e2).mono hx
 ·rw [hget] at e1
  rw [hI.ro i oi e1] at e5; cases e5
theorem cell_in {a:Addr} {v:Value} (h:w.cell? a = some v):∃ cc el fr,w.heap[a.block]? = some (.cells cc el fr) /\ a.spot = none /\ cc[a.off]? = some v:=by
 unfold World.cell? at h
 split at h
 ·rename_i c el fr hb
  split at h
  ·cases h
  ·rename_i hs
   refine ⟨c,el,fr,hb,?_,h⟩
   cases e:a.spot with
   | none => rfl
   | some _ => rw [e] at hs; simp at hs
 ·cases h
theorem InitH.slice (hI : InitH P ρ h w) {a : Addr} {len cap : Nat} (hl : len <= cap) {c : List AV} (hc : c.length = len) (hcell : ∀ i, i < cap -> ∃ v, w.cell? (a.add i) = some v /\ (∀ x, c[i]? = some x -> VR ρ x v)) :
  ∃ ρ' h' av,Ext ρ ρ' /\ InitH P ρ' h' w /\ Gro h h' /\ VR ρ' av (.slice (some a) len cap) /\ SlAt h' av c:=by
 by_cases h0:cap = 0
 ·subst h0
  obtain rfl:len = 0:=by omega
  obtain rfl:=List.eq_nil_of_length_eq_zero hc
  obtain ⟨k1,k2⟩:=hI.skip ⟨0,0,0⟩
  exact ⟨_,_, .slice h.next 0 0 (.opn 1),k1,k2,⟨Nat.le_succ _,fun _ _ => rfl⟩, .sle a (upd_self _ _ _) rfl, .inr ⟨h.next,0, .opn 1, [],rfl,Nat.lt_succ_self _,fun e => absurd rfl e,rfl⟩⟩
 ·obtain ⟨v0,e0,_⟩:=hcell 0 (by omega)
  rw [show a.add 0 = a from rfl] at e0
  obtain ⟨cc,el,fr,hb,hs,_⟩:=cell_in e0
  obtain ⟨blk,off,spot⟩:=a
  simp only at hs hb
  subst hs
  have hat:∀ i,i < cap -> ∃ v,cc[off + i]? = some v /\ (∀ x,c[i]? = some x -> VR ρ x v):=fun i hi => by
   obtain ⟨v,e1,e2⟩:=hcell i hi
   rw [Addr.add_plain] at e1
   obtain ⟨cc',el',fr',hb',_,e3⟩:=cell_in e1
   simp only at hb' e3
   rw [hb] at hb'; cases hb'
   exact ⟨v,e3,e2⟩
  have hsz:off + cap <= cc.size:=by
   obtain ⟨v,e,_⟩:=hat (cap - 1) (by omega)
   have:=(Array.getElem?_eq_some_iff.1 e).1
   omega
  obtain ⟨k1,k2⟩:=hI.push (p:=⟨blk,off,len⟩) (c:=c) hb (show off + len <= cc.size by omega) (Nat.le_of_eq hc) (fun k x hk => by
   have hk':k < len:=by have:=(List.getElem?_eq_some_iff.1 hk).1; omega
   obtain ⟨v,e,e2⟩:=hat k (by omega)
   exact ⟨v,e,e2 x hk⟩)
  refine ⟨_,_, .slice h.next 0 len (.exact cap),k1,k2,Gro.push _ _, .slx (p:=⟨blk,off,len⟩) (upd_self _ _ _) hl, .inr ⟨h.next,0, .exact cap,c,by rw [hc],Nat.lt_succ_self _,fun _ => ⟨cellsOf_push,?_⟩,show c.length <= cap by omega⟩⟩
  exact cut_all c
section
variable {H:Type} {enc:TypeId × Value -> H} {held:Bool}
theorem InitH.ints (hI : InitH P ρ h w) {t e : TypeId} {fuel : Nat} {v : Value} {x : DataW H × List MemPlace} (ht : P.underlying t = some (.slice e)) (he : P.underlying e = some (.int .i64)) (hc : P.cellsOf e = 1)
  (hx:DataW.trod enc P w 0 (fun _ => true) held fuel t [v] = some x) :
  ∃ ρ' h' av, ∃ l:List Int,Ext ρ ρ' /\ InitH P ρ' h' w /\ Gro h h' /\ VR ρ' av v /\ SlAt h' av (l.map (.int .i64)) /\ ∀ n ∈ l,(Lit.int .i64 n).wf = true:=by
 rcases open_ints ht he hc hx with ⟨hcs,_⟩ | ⟨a,len,cap,zs,hcs,_,hl,hm,hz,_,hcell,hwf⟩
 ·cases hcs
  exact ⟨ρ,h, .nils, [],Ext.refl _,hI,Gro.refl _, .nils, .inl ⟨rfl,rfl⟩,fun n hn => by cases hn⟩
 ·cases hcs
  have hz':zs.length = cap:=by simpa using hz
  obtain ⟨ρ',h',av,k1,k2,k3,k4,k5⟩:=hI.slice (a:=a) (len:=len) (cap:=cap) hl (c:=(zs.take len).map (.int .i64)) (by simp; omega) (fun i hi => by
   refine ⟨_,hcell i (by omega),fun y hy => ?_⟩
   have hi':i < len:=by
    have:=(List.getElem?_eq_some_iff.1 hy).1
    simp at this; omega
   rw [List.getElem?_map,List.getElem?_take_of_lt hi'] at hy
   have e2:zs[i]? = some (zs.getD i 0):=by
    rw [List.getElem?_eq_getElem (by omega),List.getD,List.getElem?_eq_getElem (by omega)]; rfl
   rw [e2] at hy
   cases hy
   exact .int _ _)
  exact ⟨ρ',h',av,zs.take len,k1,k2,k3,k4,k5,fun n hn => hwf n (List.mem_of_mem_take hn)⟩
end
theorem calls_init (hm : P.follows .mixedOrders = true) {T : FnTab} {I : Oracle} (hT : TabOK P T) (hI : IOK P I) (hH : InitH P ρ h w) {n f : Nat} {args : List AV} {args' : Array Value} {b : Bool} {h' : AHeap} (he : callF T I n (.fn f) args h = some (.bool b, h'))
  (ha:VRs ρ args args'.toList) {fn:AFn} (hf:T f = some fn):Calls P f args' w fun e w' => e = .returned (.bool b) /\ RowKit.Below w.heap.size w w':=by
 have hs:=hH.sim
 have hup:=(callF_sound hm hT hI n).fn f args _ h h' he ρ w.heap.size w args' hs ha
 obtain ⟨F,h1,h2,h3⟩:=hT f fn hf
 unfold trFn at h2
 split at h2 <;> first | (cases h2; done) | skip
 rename_i c hb
 rw [callFunc_enter h1 h3 hb] at hup
 have hup':CallsIn Fence.wide 0 P f args' w _:=hup
 rw [callsIn_wide] at hup'
 intro cs
 obtain ⟨e,w',fr,⟨v,he', ρ',hv,st⟩,rest⟩:=hup' cs
 refine ⟨e,w',fr,⟨?_,st.below hs⟩,rest⟩
 rw [he']; cases hv; rfl
end
end Go.AM
namespace Go.AM
open Go
def oid:AV -> Option Nat
 | .slice i _ _ _ => some i
 | .ptr i _ => some i
 | .map i => some i
 | _ => none
structure Chg (F:Nat -> Prop) (h h':AHeap):Prop where
 le:h.next <= h'.next
 same:∀ j,j < h.next -> ¬ F j -> h'.get j = h.get j
section
variable {F G:Nat -> Prop} {h h' h2:AHeap}
theorem Chg.refl (h:AHeap):Chg F h h:=⟨Nat.le_refl _,fun _ _ _ => rfl⟩
theorem Chg.mono (c:Chg F h h') (hF:∀ j,j < h.next -> F j -> G j):Chg G h h':=⟨c.le,fun j hj hg => c.same j hj fun hf => hg (hF j hj hf)⟩
theorem Chg.trans (c:Chg F h h') (d:Chg G h' h2) (hG:∀ j,j < h.next -> G j -> F j):Chg F h h2 :=
 ⟨Nat.le_trans c.le d.le,fun j hj hf => by rw [d.same j (Nat.lt_of_lt_of_le hj c.le) fun hg => hf (hG j hj hg),c.same j hj hf]⟩
theorem Gro.chg (g:Gro h h'):Chg F h h':=⟨g.le,fun j hj _ => g.same j hj⟩
theorem Chg.push (h:AHeap) (o:AObj):Chg F h (h.push o):=(Gro.push h o).chg
theorem Chg.set (h:AHeap) {i:Nat} (hF:F i) (o:AObj):Chg F h (h.set i o):=⟨Nat.le_refl _,fun _ _ hj => AHeap.get_set_ne _ _ fun e => hj (e ▸ hF)⟩
theorem Gro.set (g:Gro h h') {i:Nat} (hi:h.next <= i) (o:AObj):Gro h (h'.set i o):=⟨g.le,fun j hj => by rw [AHeap.get_set_ne _ _ (by omega),g.same j hj]⟩
theorem Gro.chg_new (g:Gro h h') (c:Chg F h' h2) (hF:∀ j,F j -> h.next <= j):Gro h h2:=⟨Nat.le_trans g.le c.le,fun j hj => by rw [c.same j (Nat.lt_of_lt_of_le hj g.le) fun hf => by have:=hF j hf; omega,g.same j hj]⟩
end
def SlN (sz:Nat) (h:AHeap) (v:AV) (n:Nat) (c:List AV):Prop :=
 (v = .nils /\ n = 0 /\ c = []) \/ ∃ i o cap full,v = .slice i o n cap /\ i < h.next /\ c.length = n * sz /\ (n ≠ 0 -> cellsOf h i = some full /\ cut full o (n * sz) = some c)
theorem SlAt.toN {h:AHeap} {v:AV} {c:List AV} (s:SlAt h v c):SlN 1 h v c.length c:=by
 rcases s with ⟨rfl,rfl⟩ | ⟨i,o,cap,full,h1,h2,h3,_⟩
 ·exact .inl ⟨rfl,rfl,rfl⟩
 ·refine .inr ⟨i,o,cap,full,h1,h2,(Nat.mul_one _).symm,fun hn => ?_⟩
  rw [Nat.mul_one]
  exact h3 fun e => hn (by rw [e]; rfl)
theorem Chg.cells {F:Nat -> Prop} {h h':AHeap} (c:Chg F h h') {i:Nat} (hi:i < h.next) (hF:¬ F i):cellsOf h' i = cellsOf h i:=by unfold cellsOf; rw [c.same i hi hF]
theorem SlAt.chg {F:Nat -> Prop} {h h':AHeap} {v:AV} {c:List AV} (s:SlAt h v c) (k:Chg F h h') (hF:∀ i,oid v = some i -> ¬ F i):SlAt h' v c:=by
 rcases s with s | ⟨i,o,cap,full,h1,h2,h3,h5⟩
 ·exact .inl s
 ·exact .inr ⟨i,o,cap,full,h1,Nat.lt_of_lt_of_le h2 k.le,fun hc => by rw [k.cells h2 (hF i (by rw [h1]; rfl))]; exact h3 hc,h5⟩
theorem SlAt.oid_lt {h:AHeap} {v:AV} {c:List AV} (s:SlAt h v c) {i:Nat} (hi:oid v = some i):i < h.next:=by
 rcases s with ⟨rfl,_⟩ | ⟨j,o,cap,full,rfl,h2,h3⟩
 ·cases hi
 ·cases hi; exact h2
theorem SlAt.scalar {h:AHeap} {v:AV} {c:List AV} (s:SlAt h v c):v.scalar = true:=by
 rcases s with ⟨rfl,_⟩ | ⟨j,o,cap,full,rfl,_⟩ <;> rfl
def eaddr (v:AV) (k:Nat):AV:=match v with | .slice i o _ _ => .ptr i (o + k) | _ => .nilp
section
variable {h:AHeap} {v:AV} {c:List AV}
theorem SlAt.len (s:SlAt h v c) {h':AHeap}:lenV 1 v h' = some (.int .i64 (c.length:Int)):=by
 rcases s with ⟨rfl,rfl⟩ | ⟨i,o,cap,full,rfl,_⟩ <;> rfl
theorem SlAt.iaddr (s:SlAt h v c) {k:Nat} {q:IntKind} (hk:k < c.length):iaddrV 1 v (.int q (k:Int)) = some (eaddr v k):=by
 rcases s with ⟨rfl,rfl⟩ | ⟨i,o,cap,full,rfl,_⟩
 ·simp at hk
 ·rw [iaddrV_ok hk,Nat.mul_one]; rfl
theorem SlAt.load (s:SlAt h v c) {k:Nat} {x:AV} (hx:c[k]? = some x):loadV none (eaddr v k) h = some x:=by
 have hk:=(List.getElem?_eq_some_iff.1 hx).1
 rcases s with ⟨rfl,rfl⟩ | ⟨i,o,cap,full,rfl,h2,h3,_⟩
 ·simp at hk
 ·obtain ⟨e1,e2⟩:=h3 fun e => by rw [e] at hk; simp at hk
  refine loadV_at e1 ?_
  obtain ⟨_,_,e3⟩:=cut_spec e2
  rw [<- e3 k hk]; exact hx
theorem SlN.src {sz n:Nat} (s:SlN sz h v n c) (hs:c.all AV.scalar = true):srcOf sz v h = some (n,c):=by
 rcases s with ⟨rfl,rfl,rfl⟩ | ⟨i,o,cap,full,rfl,h2,h3,h4⟩
 ·rfl
 ·unfold srcOf
  cases hz:Nat.beq n 0 with
  | true =>
   have:=Nat.eq_of_beq_eq_true hz
   subst this
   have:c = []:=List.eq_nil_of_length_eq_zero (by omega)
   subst this; rfl
  | false =>
   have hn:n ≠ 0:=fun e => by rw [e] at hz; cases hz
   obtain ⟨e1,e2⟩:=h4 hn
   simp only [hz,cond_false,e1,e2,hs,cond_true]
end
def Own (sz:Nat) (h:AHeap) (b:AV) (n:Nat) (L:List AV):Prop :=
 (b = .nils /\ n = 0 /\ L = []) \/ ∃ i cap,b = .slice i 0 n cap /\ (cap = .opn sz \/ cap = .exact n) /\ L.length = n * sz /\ i < h.next /\ h.get i = some (.cells L true)
section
variable {sz n:Nat} {h h':AHeap} {b:AV} {L:List AV}
theorem Own.nil:Own sz h .nils 0 [] := .inl ⟨rfl,rfl,rfl⟩
theorem Own.lt (o:Own sz h b n L) {i:Nat} (hi:oid b = some i):i < h.next:=by
 rcases o with ⟨rfl,_⟩ | ⟨j,cap,rfl,_,_,h2,_⟩
 ·cases hi
 ·cases hi; exact h2
theorem Own.get (o:Own sz h b n L) {i:Nat} (hi:oid b = some i):h.get i = some (.cells L true):=by
 rcases o with ⟨rfl,_⟩ | ⟨j,cap,rfl,_,_,_,h2⟩
 ·cases hi
 ·cases hi; exact h2
theorem Own.length (o:Own sz h b n L):L.length = n * sz:=by
 rcases o with ⟨_,rfl,rfl⟩ | ⟨j,cap,rfl,_,h1,_⟩
 ·simp
 ·exact h1
theorem Own.at (o:Own 1 h b n L):SlAt h b L:=by
 rcases o with ⟨rfl,_,rfl⟩ | ⟨i,cap,rfl,h0,h1,h2,h3⟩
 ·exact .inl ⟨rfl,rfl⟩
 ·rw [Nat.mul_one] at h1
  subst h1
  refine .inr ⟨i,0,cap,L,rfl,h2,fun _ => ⟨cellsOf_get h3,cut_all L⟩,?_⟩
  rcases h0 with rfl | rfl
  ·exact rfl
  ·exact Nat.le_refl _
theorem Own.chg {F:Nat -> Prop} (o:Own sz h b n L) (c:Chg F h h') (hF:∀ i,oid b = some i -> ¬ F i):Own sz h' b n L:=by
 rcases o with o | ⟨i,cap,rfl,h0,h1,h2,h3⟩
 ·exact .inl o
 ·exact .inr ⟨i,cap,rfl,h0,h1,Nat.lt_of_lt_of_le h2 c.le,by rw [c.same i h2 (hF i rfl)]; exact h3⟩
theorem Own.gro (o:Own sz h b n L) (g:Gro h h'):Own sz h' b n L:=o.chg (F:=fun _ => False) g.chg fun _ _ hf => hf
theorem Own.app (o : Own sz h b n L) {bytes m : Nat} {s : AV} {c : List AV} (hs : SlN sz h s m c) (hsc : c.all AV.scalar = true) (hm : m ≠ 0) (hsz : sz ≠ 0) (hb : (n + m) * bytes <= 140737488355328) :
  ∃ b' h',appV sz bytes b s h = some (b',h') /\ Own sz h' b' (n + m) (L ++ c) /\ Chg (fun j => oid b = some j) h h' /\ oid b' = some h.next /\ h'.next = h.next + 1:=by
 have hsrc:=hs.src hsc
 have hcl:c.length = m * sz:=by
  rcases hs with ⟨_,rfl,rfl⟩ | ⟨_,_,_,_,_,_,h3,_⟩
  ·simp
  ·exact h3
 have hmp:0 < m * sz:=Nat.mul_pos (by omega) (by omega)
 rcases o with ⟨rfl,rfl,rfl⟩ | ⟨i,cap,rfl,h0,h1,h2,h3⟩
 ·refine ⟨.slice h.next 0 m (.opn sz),h.push (.cells c true),?_, .inr ⟨h.next, .opn sz,by rw [Nat.zero_add], .inl rfl,by simp [hcl],Nat.lt_succ_self _,AHeap.get_push_same h _⟩,Chg.push h _,rfl,rfl⟩
  unfold appV
  simp only [evalE,ev_lit,hsrc]
  rw [Nat.zero_add] at hb
  rw [if_neg hm,if_pos hb]
 ·have hlen:(L ++ c).length = (n + m) * sz:=by rw [List.length_append,h1,hcl,Nat.add_mul]
  rcases h0 with rfl | rfl
  ·refine ⟨.slice h.next 0 (n + m) (.opn sz),(h.del i).push (.cells (L ++ c) true),?_, .inr ⟨h.next, .opn sz,rfl, .inl rfl,hlen,Nat.lt_succ_self _,AHeap.get_push_same (h.del i) _⟩,?_,rfl,rfl⟩
   ·unfold appV
    have hown:ownOf h i = some L:=by unfold ownOf; rw [h3]
    have hd:drops L 0 = L:=by cases L <;> rfl
    simp only [evalE,ev_lit,hsrc,hown]
    rw [if_pos ⟨trivial,hb⟩,if_neg (by rw [h1,Nat.add_mul]; omega),if_pos (by rw [h1]; omega),hd]
   ·refine ⟨Nat.le_succ _,fun j hj hne => ?_⟩
    rw [AHeap.get_push_lt _ _ (show j < (h.del i).next from hj),AHeap.get_del_ne _ fun e => hne (by rw [e]; rfl)]
  ·refine ⟨.slice h.next 0 (n + m) (.opn sz),h.push (.cells (L ++ c) true),?_, .inr ⟨h.next, .opn sz,rfl, .inl rfl,hlen,Nat.lt_succ_self _,AHeap.get_push_same h _⟩,Chg.push h _,rfl,rfl⟩
   unfold appV
   have hcut:cut L 0 (n * sz) = some L:=by rw [<- h1]; exact cut_all L
   simp only [evalE,ev_lit,hsrc,cellsOf_get h3,hcut]
   rw [if_neg (by omega),if_pos hb]
theorem Own.app1 (o : Own sz h b n L) {bytes : Nat} {c : List AV} (hc : c.length = sz) (hsc : c.all AV.scalar = true) (hsz : sz ≠ 0) (hb : (n + 1) * bytes <= 140737488355328) :
  ∃ b' h',appV sz bytes b (.slice h.next 0 1 (.exact 1)) (h.push (.cells c true)) = some (b',h') /\ Own sz h' b' (n + 1) (L ++ c) /\ Chg (fun j => oid b = some j) h h' /\ oid b' = some (h.next + 1) /\ h'.next = h.next + 2:=by
 have o':Own sz (h.push (.cells c true)) b n L:=o.gro (Gro.push h _)
 obtain ⟨b',h',k1,k2,k3,k4,k5⟩:=o'.app (bytes:=bytes) (m:=1) (s := .slice h.next 0 1 (.exact 1)) (c:=c) (.inr ⟨h.next,0, .exact 1,c,rfl,Nat.lt_succ_self _,by rw [hc,Nat.one_mul],fun _ => ⟨cellsOf_push,by rw [Nat.one_mul, <- hc]; exact cut_all c⟩⟩) hsc (by decide) hsz hb
 exact ⟨b',h',k1,k2,(Chg.push h _).trans k3 (fun j _ hj => hj),k4,k5⟩
theorem Own.app0 (o:Own sz h b n L) {bytes:Nat} {s:AV} {c:List AV} (hs:SlN sz h s 0 c) (hb:n * bytes <= 140737488355328):∃ b' h',appV sz bytes b s h = some (b',h') /\ Own sz h' b' n L /\ Chg (fun j => oid b = some j) h h':=by
 have hsrc:=hs.src (by
  rcases hs with ⟨_,_,rfl⟩ | ⟨_,_,_,_,_,_,h3,_⟩
  ·rfl
  ·rw [Nat.zero_mul] at h3; rw [List.eq_nil_of_length_eq_zero h3]; rfl)
 have hc0:c = []:=by
  rcases hs with ⟨_,_,rfl⟩ | ⟨_,_,_,_,_,_,h3,_⟩
  ·rfl
  ·rw [Nat.zero_mul] at h3; exact List.eq_nil_of_length_eq_zero h3
 subst hc0
 rcases o with ⟨rfl,rfl,rfl⟩ | ⟨i,cap,rfl,h0,h1,h2,h3⟩
 ·refine ⟨.nils,h,?_,Own.nil,Chg.refl h⟩
  unfold appV
  simp only [evalE,ev_lit,hsrc]
  rw [if_pos trivial]
 ·rcases h0 with rfl | rfl
  ·have hown:ownOf h i = some L:=by unfold ownOf; rw [h3]
   refine ⟨.slice i 0 n (.opn sz),h.set i (.cells L true),?_, .inr ⟨i, .opn sz,rfl, .inl rfl,h1,h2,AHeap.get_set_same h i _⟩,Chg.set h (show oid (.slice i 0 n (.opn sz)) = some i from rfl) _⟩
   unfold appV
   have hl:lay L (n * sz) [] = some L:=by
    obtain ⟨l',e⟩:=lay_some (l:=L) (o:=n * sz) (vs:=[]) (by simp [h1])
    obtain ⟨_,_,e3⟩:=lay_spec e
    rw [e]
    congr 1
    refine List.ext_getElem? fun k => ?_
    rw [e3 k,if_neg (by simp)]
   simp only [evalE,ev_lit,hsrc,hown,Nat.add_zero,Nat.zero_add]
   rw [if_pos ⟨trivial,hb⟩,if_pos (by rw [h1]; exact Nat.le_refl _),hl]
  ·refine ⟨.slice i 0 n (.exact n),h,?_, .inr ⟨i, .exact n,rfl, .inr rfl,h1,h2,h3⟩,Chg.refl h⟩
   unfold appV
   simp only [evalE,ev_lit,hsrc]
   rw [if_pos (by omega),if_pos trivial]
end
noncomputable def stV (n:Nat) (a x:AV) (h:AHeap):Option (AV × AHeap):=evalE (.store n (.lit a) (.lit x)) (fun _ _ _ => none) [] h
theorem evalE_store {C:CallT} {n:Nat} {a x:AOpd} {tm:List AV} {h:AHeap}:evalE (.store n a x) C tm h = stV n (ev tm a) (ev tm x) h:=rfl
theorem lay_put:∀ (l:List AV) (k:Nat) (v:AV),k < l.length -> lay l k [v] = some (l.set k v)
 | [],k,v,h => by simp at h
 | x :: xs,0,v,_ => by rw [lay_cons,lay_zero]; rfl
 | x :: xs,k + 1,v,h => by rw [lay_succ,lay_put xs k v (by simpa using h)]; rfl
theorem scalar_cells {x:AV} (h:x.scalar = true):x.cells = [x]:=by cases x <;> first | rfl | cases h
theorem stV_at {h:AHeap} {i k:Nat} {c:List AV} {x:AV} (hg:h.get i = some (.cells c true)) (hk:k < c.length) (hx:x.scalar = true):stV 1 (.ptr i k) x h = some (aundef,h.set i (.cells (c.set k x) true)):=by
 have ho:ownOf h i = some c:=by unfold ownOf; rw [hg]
 show (match ownOf h i with | some c => if x.cells.length = 1 /\ x.cells.all AV.scalar = true then match lay c k x.cells with | some c' => some (aundef,h.set i (.cells c' true)) | none => none else none | none => none) = _
 rw [ho,scalar_cells hx]
 simp only [List.length_singleton,List.all_cons,List.all_nil,hx,Bool.and_true,and_self,if_true,lay_put c k x hk]
theorem loadV_get {h:AHeap} {i o:Nat} {c:List AV} {r:Bool} {x:AV} (hg:h.get i = some (.cells c r)) (hx:c[o]? = some x):loadV none (.ptr i o) h = some x:=loadV_at (cellsOf_get hg) hx
end Go.AM
namespace Go.AM
open Go Go.Proofs Go.Sort Go.Shelf
noncomputable def roUp (h:AHeap) (i:Nat):Nat -> AHeap
 | 0 => .empty
 | k + 1 => match (if k = i then none else h.get k) with
  | some (.cells c _) => (roUp h i k).push (.cells c false)
  | _ => ((roUp h i k).push (.cells [] false)).del k
theorem roUp_next (h:AHeap) (i:Nat):∀ k,(roUp h i k).next = k
 | 0 => rfl
 | k + 1 => by
  unfold roUp
  split
  ·rw [AHeap.next_push,roUp_next h i k]
  ·rw [AHeap.next_del,AHeap.next_push,roUp_next h i k]
theorem roUp_get (h:AHeap) (i:Nat):∀ k j,(roUp h i k).get j = if j < k /\ j ≠ i then (match h.get j with | some (.cells c _) => some (.cells c false) | _ => none) else none
 | 0,j => by rw [if_neg (by omega)]; rfl
 | k + 1,j => by
  have hn:=roUp_next h i k
  have ih:=roUp_get h i k j
  unfold roUp
  by_cases ek:j = k
  ·subst ek
   by_cases ei:j = i
   ·rw [if_pos ei]
    rw [if_neg (fun hh => hh.2 ei),AHeap.get_del_same]
   ·rw [if_neg ei,if_pos ⟨by omega,ei⟩]
    cases hg:h.get j with
    | none => rw [AHeap.get_del_same]
    | some o =>
     cases o with
     | cells c b =>
      have:=AHeap.get_push_same (roUp h i j) (.cells c false)
      rw [hn] at this; exact this
     | map es => rw [AHeap.get_del_same]
     | loop a b c d e f g => rw [AHeap.get_del_same]
  ·have e1 : (j < k + 1 /\ j ≠ i) = (j < k /\ j ≠ i) := by
    apply propext; constructor <;> intro hh <;> exact ⟨by omega,hh.2⟩
   simp only [e1]
   rw [<- ih]
   split
   ·exact AHeap.get_push_ne _ _ (by rw [hn]; exact ek)
   ·rw [AHeap.get_del_ne _ ek,AHeap.get_push_ne _ _ (by rw [hn]; exact ek)]
noncomputable def roH (h:AHeap) (i:Nat):AHeap:=roUp h i h.next
theorem roH_next (h:AHeap) (i:Nat):(roH h i).next = h.next:=roUp_next h i _
theorem roH_some {h:AHeap} {i j:Nat} {o:AObj} (e:(roH h i).get j = some o):j < h.next /\ j ≠ i /\ ∃ c b,h.get j = some (.cells c b) /\ o = .cells c false:=by
 unfold roH at e
 rw [roUp_get] at e
 split at e
 ·rename_i hh
  refine ⟨hh.1,hh.2,?_⟩
  split at e
  ·rename_i c b hg; cases e; exact ⟨c,b,hg,rfl⟩
  ·cases e
 ·cases e
theorem roH_cells {h:AHeap} {i j:Nat} (hj:j < h.next) (hne:j ≠ i):cellsOf (roH h i) j = cellsOf h j:=by
 unfold cellsOf roH
 rw [roUp_get,if_pos ⟨hj,hne⟩]
 cases h.get j with
 | none => rfl
 | some o => cases o <;> rfl
theorem SlAt.ro {h:AHeap} {v:AV} {c:List AV} (s:SlAt h v c) {i:Nat} (hi:oid v ≠ some i):SlAt (roH h i) v c:=by
 rcases s with s | ⟨j,o,cap,full,rfl,h2,h3,h4⟩
 ·exact .inl s
 ·exact .inr ⟨j, o, cap, full, rfl, by rw [roH_next]; exact h2, fun hc => by
   rw [roH_cells h2 fun e => hi (by rw [e]; rfl)]; exact h3 hc,h4⟩
section
variable {P:Program} {ρ:Rho} {h:AHeap} {B:Nat} {w W:World}
structure Turned (w W:World) (p:Place) (f:Array Value -> Array Value):Prop where
 get:∀ b,b < w.heap.size -> W.heap[b]? = if b = p.blk then (w.heap[b]?).map (onCells f) else w.heap[b]?
 size:w.heap.size <= W.heap.size
 len:∀ c,(f c).size = c.size
 out:∀ (c:Array Value) k,k < p.base \/ p.base + p.room <= k -> (f c)[k]? = c[k]?
theorem Turned.cells {p q:Place} {f:Array Value -> Array Value} (t:Turned w W p f) {c:List AV} {r r':Bool} (h:ObjR P ρ B w (.cells c r) q) (ha:Apart p q) (hr:r' = true -> r = true):ObjR P ρ B W (.cells c r') q:=by
 have hlt:=ObjR.lt h
 obtain ⟨cc,el,fr,h1,h2,h3,h4,h5⟩:=h
 have hg:=t.get q.blk hlt
 by_cases e:q.blk = p.blk
 ·rw [if_pos e,h1] at hg
  refine ⟨f cc,el,fr,hg,by rw [t.len]; exact h2,h3,fun k a hk => ?_,fun hw => h5 (hr hw)⟩
  obtain ⟨v,hv,hr⟩:=h4 k a hk
  refine ⟨v,?_,hr⟩
  have hk2:=(List.getElem?_eq_some_iff.1 hk).1
  rw [t.out cc _ ?_]; exact hv
  rcases ha with ha | ha | ha
  ·exact absurd e.symm ha
  ·right; omega
  ·left; omega
 ·rw [if_neg e,h1] at hg
  exact ⟨cc,el,fr,hg,h2,h3,h4,fun hw => h5 (hr hw)⟩
theorem sim_ro (hs:Sim P ρ h B w) {i:Nat} {c:List AV} {p:Place} (hg:h.get i = some (.cells c true)) (hp:ρ i = some p) {f:Array Value -> Array Value} (t:Turned w W p f):Sim P ρ (roH h i) W.heap.size W:=by
 refine ⟨Nat.le_refl _,fun j q hj => by rw [roH_next]; exact hs.dom j q hj,fun j o q hj hq => ?_,fun j j2 o o2 q q2 _ hj _ _ _ hw => ?_,fun j hj => ?_⟩
 ·obtain ⟨h1,h2,c2,b,h3,rfl⟩:=roH_some hj
  have h4:=t.cells (hs.obj j _ q h3 hq) (hs.sep i j _ _ p q (Ne.symm h2) hg h3 hp hq rfl) (r':=false) (fun e => by cases e)
  obtain ⟨cc,el,fr,k1,k2,k3,k4,_⟩:=h4
  exact ⟨cc,el,fr,k1,k2,k3,k4,fun e => by cases e⟩
 ·obtain ⟨_,_,_,_,_,rfl⟩:=roH_some hj
  cases hw
 ·cases e:(roH h i).get j with
  | none => rfl
  | some o => have:=(roH_some e).1; rw [roH_next] at hj; omega
theorem turned_sort {α : Type} [Inhabited α] (enc : α -> Value) (blk off m : Nat) (dk : Array α) (os : Array Obj) {p : Place} (hb : p.blk = blk) (h1 : p.base <= off) (h2 : off + dk.size <= p.base + p.room) :
  Turned w (sortWorld enc w blk off m dk os) p (putCells enc off dk):=by
 subst hb
 refine ⟨fun b hb => ?_,?_,fun c => by unfold putCells; simp,fun c k hk => ?_⟩
 ·show ((w.heap.modify p.blk (onCells (putCells enc off dk))) ++ os)[b]? = _
  rw [Array.getElem?_append_left (by simpa using hb),Array.getElem?_modify]
  by_cases e:p.blk = b
  ·rw [if_pos e,if_pos e.symm]
  ·rw [if_neg e,if_neg (Ne.symm e)]
 ·show w.heap.size <= ((w.heap.modify p.blk (onCells (putCells enc off dk))) ++ os).size
  simp
 ·unfold putCells
  rw [Array.getElem?_mapIdx]
  cases c[k]? with
  | none => rfl
  | some x => rw [Option.map_some,if_neg (by omega)]
end
end Go.AM
