/- What the code computes: symbolic runs of the functions. No condition. -/
import Derived.Test.YtehmnmdohadigaaGreatPyb0
set_option linter.unusedSimpArgs false
set_option maxRecDepth 100000
namespace Go.AM
open Go Go.GT
abbrev Gd:=Int × AV × List (List Int)
def gcells (G:List Gd):List AV:=G.flatMap fun g => [.int .i64 g.1,g.2.1]
theorem gcells_cut:∀ {G:List Gd} {k:Nat} {g:Gd},G[k]? = some g -> cut (gcells G) (k * 2) 2 = some [.int .i64 g.1,g.2.1]
 | x :: G,0,g,h => by
  simp at h; subst h
  show cut (.int .i64 x.1 :: x.2.1 :: gcells G) 0 2 = _
  rw [cut_cons,cut_cons,cut_zero]
 | x :: G,k + 1,g,h => by
  have:cut (gcells (x :: G)) ((k + 1) * 2) 2 = cut (gcells G) (k * 2) 2:=by
   show cut (.int .i64 x.1 :: x.2.1 :: gcells G) ((k + 1) * 2) 2 = _
   rw [show (k + 1) * 2 = k * 2 + 1 + 1 by omega,cut_succ,cut_succ]
  rw [this]; exact gcells_cut (by simpa using h)
theorem gcells_get:∀ {G:List Gd} {k:Nat} {g:Gd},G[k]? = some g -> (gcells G)[k * 2]? = some (.int .i64 g.1)
 | x :: G,0,g,h => by simp at h; subst h; rfl
 | x :: G,k + 1,g,h => by
  show (.int .i64 x.1 :: x.2.1 :: gcells G:List AV)[(k + 1) * 2]? = _
  rw [show (k + 1) * 2 = k * 2 + 1 + 1 by omega,List.getElem?_cons_succ,List.getElem?_cons_succ]
  exact gcells_get (by simpa using h)
structure GsAt (h:AHeap) (v:AV) (G:List Gd):Prop where
 at_:∃ i,v = .slice i 0 G.length (.exact G.length) /\ i < h.next /\ h.get i = some (.cells (gcells G) true)
 ls:∀ g ∈ G,LsAt h g.2.1 g.2.2 /\ g.2.1.scalar = true
theorem GsAt.gro {h h':AHeap} {v:AV} {G:List Gd} (s:GsAt h v G) (g:Gro h h'):GsAt h' v G:=by
 obtain ⟨i,e,hi,hg⟩:=s.at_
 exact ⟨⟨i,e,Nat.lt_of_lt_of_le hi g.le,by rw [g.same _ hi]; exact hg⟩,fun x hx => ⟨(s.ls x hx).1.gro g,(s.ls x hx).2⟩⟩
def gd0:Gd:=(0, .nils, [])
def gE (G:List Gd) (i:Nat):Int:=groupErr (G.getD i gd0).1 (G.getD i gd0).2.2
def dgE (G:List Gd) (i:Nat):Int:=if (G.getD i gd0).1 ≠ (G.getD 0 gd0).1 then 2 else 0
def pmE (G:List Gd) (Ps:List (List Int)) (i:Nat):Int:=genErr (G.getD 0 gd0).1 (Ps.getD i [])
def chkE (G:List Gd) (Ps:List (List Int)):Int :=
 if firstE (gE G) G.length ≠ 0 then firstE (gE G) G.length else if firstE (dgE G) G.length ≠ 0 then 2 else firstE (pmE G Ps) Ps.length
section
variable {I:Oracle} (hNo:NoI I) {h:AHeap}
include hNo
theorem jcheck_spec {v vP : AV} {G : List Gd} {Ps : List (List Int)} (s : GsAt h v G) (hP : LsAt h vP Ps) (hG0 : 0 < G.length) (hGl : G.length <= 1000) (hPl : Ps.length <= 1000)
  (hord:∀ g ∈ G,groupErr g.1 g.2.2 = 0 -> ∃ l,IsEl g.1.toNat (gS g.2.2) l /\ l.length <= 5040) :
  ∃ h',lim otab.get I (.fn 135) [v,vP] h = some (.int .i64 (chkE G Ps),h') /\ Gro h h':=by
 refine (lim_walk_ex (T:=otab.get) (I:=I) (f:=135) (fn:=of135) rfl (a:=[v,vP]) (h:=h) (P:=fun a h' => a = .int .i64 (chkE G Ps) /\ Gro h h') (hNo.at _ _ (by decide) (by decide) (by decide)) ?_) |> fun ⟨a,h',e,q1,q2⟩ => ⟨h',by rw [e,q1],q2⟩
 show WK _ _ [] ⟨[v,vP,aundef,aundef,aundef,aundef,aundef],h⟩ _
 dsimp only [of135,Z.t,Z.f,Z.i,Z.q,Z.m,Z.l,Z.b,Z.c,Z.w]
 obtain ⟨i0,rfl,hi0,hg0⟩:=s.at_
 have ldg:∀ {h':AHeap} {k:Nat} {g:Gd},Gro h h' -> G[k]? = some g -> loadV (some 2) (.ptr i0 (k * 2)) h' = some (.agg [.int .i64 g.1,g.2.1]):=fun {h' k g} gr hk => by
  show (match cellsOf h' i0 with | some c => fit (some 2) (k * 2) c | none => none) = _
  rw [cellsOf_get (by rw [gr.same _ hi0]; exact hg0)]
  show (match cut (gcells G) (k * 2) 2 with | some r => some (AV.agg r) | none => none) = _
  rw [gcells_cut hk]
 have ld1:∀ {h':AHeap} {k:Nat} {g:Gd},Gro h h' -> G[k]? = some g -> loadV none (.ptr i0 (k * 2)) h' = some (.int .i64 g.1):=fun {h' k g} gr hk => loadV_get (by rw [gr.same _ hi0]; exact hg0) (gcells_get hk)
 have iad:∀ {k:Nat},k < G.length -> iaddrV 2 (.slice i0 0 G.length (.exact G.length)) (.int .i64 (k:Int)) = some (.ptr i0 (k * 2)):=fun {k} hk => by
  have:=iaddrV_ok (sz:=2) (j:=i0) (o:=0) (c := .exact G.length) (k := .i64) hk
  rwa [Nat.zero_add] at this
 have st7:∀ (h':AHeap) (g:Gd),g ∈ G -> stV 2 (.ptr h'.next 0) (.agg [.int .i64 g.1,g.2.1]) (h'.push (.cells [.int .i64 0, .nils] true)) = some (aundef,(h'.push (.cells [.int .i64 0, .nils] true)).set h'.next (.cells [.int .i64 g.1,g.2.1] true)):=fun h' g hg => stV_two (AHeap.get_push_same _ _) rfl (s.ls g hg).2
 have gr7:∀ (h':AHeap) (g:Gd),Gro h' ((h'.push (.cells [.int .i64 0, .nils] true)).set h'.next (.cells [.int .i64 g.1,g.2.1] true)):=fun h' g => (Gro.push h' _).set (Nat.le_refl _) _
 have rd7:∀ (h':AHeap) (g:Gd),((h'.push (.cells [.int .i64 0, .nils] true)).set h'.next (.cells [.int .i64 g.1,g.2.1] true)).get h'.next = some (.cells [.int .i64 g.1,g.2.1] true):=fun h' g => AHeap.get_set_same _ _ _
 have gat:∀ {k:Nat} {g:Gd},G[k]? = some g -> G.getD k gd0 = g:=fun hk => getD_some hk
 simp (disch:=omega) only [RSf.down,len_sl]
 refine WK_loopJ (fun k s => k <= G.length /\ ∃ y3 y4 y6 h',s = ⟨[.slice i0 0 G.length (.exact G.length),vP, .int .i64 (k:Int),y3,y4, .int .i64 (G.length:Int),y6],h'⟩ /\ Gro h h' /\ ∀ j,j < k -> gE G j = 0) G.length ⟨Nat.zero_le _,_,_,_,h,rfl,Gro.refl _,fun j hj => by omega⟩ ?_
 rintro k hk _ ⟨_,y3,y4,y6,h',rfl,g,hz⟩ next
 by_cases hkl:k < G.length
 ·obtain ⟨x,hx⟩:=get_some hkl
  have hxm:=List.mem_of_getElem? hx
  have l1:=ldg g hx
  have e1:=st7 h' x hxm
  have l2:=loadV_two (rd7 h' x)
  have g7:=gr7 h' x
  simp (disch:=omega) only [RSf.down,lssT,iad,l1,e1,l2]
  generalize (h'.push (.cells [.int .i64 0, .nils] true)).set h'.next (.cells [.int .i64 x.1,x.2.1] true) = h7 at e1 l2 g7 ⊢
  obtain ⟨h8,f8,g8⟩:=gcheck hNo ((s.ls x hxm).1.gro (g.trans g7)) x.1
  have hge:gE G k = groupErr x.1 x.2.2:=by unfold gE; rw [gat hx]
  by_cases hE:groupErr x.1 x.2.2 = 0
  ·rw [hE] at f8
   simp (disch:=omega) only [RSf.down,f8,neqF,add1N]
   refine next hkl _ ⟨by omega,_,_,_,h8,rfl,g.trans (g7.trans g8),fun j hj => ?_⟩
   by_cases hj2:j < k
   ·exact hz j hj2
   ·obtain rfl:j = k:=by omega
    rw [hge,hE]
  ·have hf:=firstE_at hkl hz (by rw [hge]; exact hE)
   have hc:chkE G Ps = groupErr x.1 x.2.2:=by unfold chkE; rw [hf,hge,if_pos hE]
   simp (disch:=omega) only [RSf.down,f8,neqT]
   exact ⟨(fun i hi => by cases hi),_,rfl,by rw [hc]; rfl,g.trans (g7.trans g8)⟩
 obtain rfl:k = G.length:=by omega
 have hz1:=firstE_zero hz
 simp (disch:=omega) only [RSf.down,lssF,len_sl]
 refine WK_loopJ (fun k s => k <= G.length /\ ∃ y3 y4 y6 h',s = ⟨[.slice i0 0 G.length (.exact G.length),vP, .int .i64 (k:Int),y3,y4, .int .i64 (G.length:Int),y6],h'⟩ /\ Gro h h' /\ ∀ j,j < k -> dgE G j = 0) G.length ⟨Nat.zero_le _,_,_,_,h',rfl,g,fun j hj => by omega⟩ ?_
 clear g
 rintro k hk _ ⟨_,y3,y4,y6,h',rfl,g,hz2⟩ next
 obtain ⟨x0,hx0⟩:=get_some hG0
 by_cases hkl:k < G.length
 ·obtain ⟨x,hx⟩:=get_some hkl
  have hxm:=List.mem_of_getElem? hx
  have l1:=ldg g hx
  have e1:=st7 h' x hxm
  have l2:loadV none (.ptr h'.next 0) ((h'.push (.cells [.int .i64 0, .nils] true)).set h'.next (.cells [.int .i64 x.1,x.2.1] true)) = some (.int .i64 x.1):=loadV_get (rd7 h' x) rfl
  have g7:=gr7 h' x
  have l3:=ld1 (g.trans g7) hx0
  have i00:=iad hG0
  rw [Nat.zero_mul] at l3 i00
  have i00':iaddrV 2 (.slice i0 0 G.length (.exact G.length)) (.int .i64 0) = some (.ptr i0 0):=i00
  simp (disch:=omega) only [RSf.down,lssT,iad,l1,e1]
  generalize (h'.push (.cells [.int .i64 0, .nils] true)).set h'.next (.cells [.int .i64 x.1,x.2.1] true) = h7 at e1 l2 g7 l3 ⊢
  have hge:dgE G k = if x.1 ≠ x0.1 then 2 else 0:=by unfold dgE; rw [gat hx,gat hx0]
  by_cases hE:x.1 = x0.1
  ·simp (disch:=omega) only [RSf.down,l2,i00',l3,neqF,add1N]
   refine next hkl _ ⟨by omega,_,_,_,h7,rfl,g.trans g7,fun j hj => ?_⟩
   by_cases hj2:j < k
   ·exact hz2 j hj2
   ·obtain rfl:j = k:=by omega
    rw [hge,if_neg (fun hh => hh hE)]
  ·have hf:=firstE_at hkl hz2 (by rw [hge,if_pos hE]; decide)
   have hc:chkE G Ps = 2:=by unfold chkE; rw [hz1,if_neg (fun hh => hh rfl),hf,hge,if_pos hE,if_pos (by decide)]
   simp (disch:=omega) only [RSf.down,l2,i00',l3,neqT]
   exact ⟨(fun i hi => by cases hi),_,rfl,by rw [hc]; rfl,g.trans g7⟩
 obtain rfl:k = G.length:=by omega
 have hz3:=firstE_zero hz2
 simp (disch:=omega) only [RSf.down,lssF,hP.len]
 refine WK_loopJ (fun k s => k <= Ps.length /\ ∃ y3 y4 y5 h',s = ⟨[.slice i0 0 G.length (.exact G.length),vP, .int .i64 (k:Int),y3,y4,y5, .int .i64 (Ps.length:Int)],h'⟩ /\ Gro h h' /\ ∀ j,j < k -> pmE G Ps j = 0) Ps.length ⟨Nat.zero_le _,_,_,_,h',rfl,g,fun j hj => by omega⟩ ?_
 clear g
 rintro k hk _ ⟨_,y3,y4,y5,h',rfl,g,hz4⟩ next
 by_cases hkl:k < Ps.length
 ·obtain ⟨p,hp⟩:=get_some hkl
  obtain ⟨i1,a,i2,i3⟩:=(hP.gro g).get hp
  have fc:=pcheck hNo i3
  have l3:=ld1 g hx0
  have i00:=iad hG0
  rw [Nat.zero_mul] at l3 i00
  have i00':iaddrV 2 (.slice i0 0 G.length (.exact G.length)) (.int .i64 0) = some (.ptr i0 0):=i00
  have hge:pmE G Ps k = genErr x0.1 p:=by unfold pmE; rw [gat hx0,getD_some hp]
  by_cases hE:permErr p = 0
  ·rw [hE] at fc
   by_cases hE2:(p.length:Int) = x0.1
   ·have e0:genErr x0.1 p = 0:=by unfold genErr; rw [if_neg (fun hh => hh hE),if_neg (fun hh => hh hE2)]
    simp (disch:=omega) only [RSf.down,lssT,i1,i2,fc,neqF,i3.len,i00',l3,add1N]
    refine next hkl _ ⟨by omega,_,_,_,h',rfl,g,fun j hj => ?_⟩
    by_cases hj2:j < k
    ·exact hz4 j hj2
    ·obtain rfl:j = k:=by omega
     rw [hge,e0]
   ·have e0:genErr x0.1 p = 2:=by unfold genErr; rw [if_neg (fun hh => hh hE),if_pos hE2]
    have hf:=firstE_at hkl hz4 (by rw [hge,e0]; decide)
    have hc:chkE G Ps = 2:=by unfold chkE; rw [hz1,if_neg (fun hh => hh rfl),hz3,if_neg (fun hh => hh rfl),hf,hge,e0]
    simp (disch:=omega) only [RSf.down,lssT,i1,i2,fc,neqF,i3.len,i00',l3,neqT]
    exact ⟨(fun i hi => by cases hi),_,rfl,by rw [hc]; rfl,g⟩
  ·have e0:genErr x0.1 p = permErr p:=by unfold genErr; rw [if_pos hE]
   have hf:=firstE_at hkl hz4 (by rw [hge,e0]; exact hE)
   have hc:chkE G Ps = permErr p:=by unfold chkE; rw [hz1,if_neg (fun hh => hh rfl),hz3,if_neg (fun hh => hh rfl),hf,hge,e0]
   simp (disch:=omega) only [RSf.down,lssT,i1,i2,fc,neqT]
   exact ⟨(fun i hi => by cases hi),_,rfl,by rw [hc]; rfl,g⟩
 obtain rfl:k = Ps.length:=by omega
 have hz5:=firstE_zero hz4
 have hc:chkE G Ps = 0:=by unfold chkE; rw [hz1,if_neg (fun hh => hh rfl),hz3,if_neg (fun hh => hh rfl),hz5]
 simp (disch:=omega) only [RSf.down,lssF,len_sl]
 refine WK_loopJ (fun k s => k <= G.length /\ ∃ y2 y3 y5 y6 h',s = ⟨[.slice i0 0 G.length (.exact G.length), .int .i64 (k:Int),y2,y3, .int .i64 (G.length:Int),y5,y6],h'⟩ /\ Gro h h') G.length ⟨Nat.zero_le _,_,_,_,_,h',rfl,g⟩ ?_
 clear g
 rintro k hk _ ⟨_,y2,y3,y5,y6,h',rfl,g⟩ next
 by_cases hkl:k < G.length
 ·obtain ⟨x,hx⟩:=get_some hkl
  have hxm:=List.mem_of_getElem? hx
  have l1:=ldg g hx
  have e1:=st7 h' x hxm
  have l2:=loadV_two (rd7 h' x)
  have g7:=gr7 h' x
  simp (disch:=omega) only [RSf.down,lssT,iad,l1,e1,l2]
  generalize (h'.push (.cells [.int .i64 0, .nils] true)).set h'.next (.cells [.int .i64 x.1,x.2.1] true) = h7 at e1 l2 g7 ⊢
  have hE:groupErr x.1 x.2.2 = 0:=by
   have:=hz k hkl
   unfold gE at this; rwa [gat hx] at this
  obtain ⟨l,k1,k2⟩:=hord x hxm hE
  obtain ⟨ko,h8,f8,g8,_,ho⟩:=porder_spec hNo ((s.ls x hxm).1.gro (g.trans g7)) x.1 (fun _ => ⟨l,fun p hp => (k1.mem p).2 hp,k2⟩)
  have hko:=ho hE l k1
  rw [hE] at f8
  simp (disch:=omega) only [RSf.down,f8,neqF,gtrF,add1N]
  exact next hkl _ ⟨by omega,_,_,_,_,h8,rfl,g.trans (g7.trans g8)⟩
 obtain rfl:k = G.length:=by omega
 simp (disch:=omega) only [RSf.down,lssF]
 exact ⟨(fun i hi => by cases hi),_,rfl,by rw [hc]; rfl,g⟩
theorem jelements_spec (hS : Srt I) {vg : AV} {ls : List (List Int)} (hg : LsAt h vg ls) {d : Int} (hc : groupErr d ls = 0) {l : List Pm} (hel : IsEl d.toNat (gS ls) l) (hl : l.length <= 5040) :
  ∃ v cb h',lim otab.get I (.fn 137) [.agg [.int .i64 d,vg]] h = some (v,h') /\ PL h' v cb l /\ Gro h h' /\ ∀ j,oid v = some j -> h.next <= j:=by
 have g1:=Gro.push h (.cells [.int .i64 d,vg] true)
 have b1:=box_all (h:=h) (c:=[.int .i64 d,vg]) (r:=true) (Gro.refl _) (n:=2) rfl
 obtain ⟨v,cb,h3,f3,p3,g3,fr⟩:=pelements_spec hS (hg.gro g1) hc hel hl
 refine (lim_walk_ex (T:=otab.get) (I:=I) (f:=137) (fn:=of137) rfl (a:=[.agg [.int .i64 d,vg]]) (h:=h) (P:=fun a h' => a = v /\ h' = h3) (hNo.at _ _ (by decide) (by decide) (by decide)) ?_) |> fun ⟨a,h',e,q1,q2⟩ => ⟨v,cb,h3,by rw [e,q1,q2],p3,g1.trans g3,fun j hj => by have:=fr j hj; have:(h.push (.cells [.int .i64 d,vg] true)).next = h.next + 1:=rfl; omega⟩
 show WK _ _ [] ⟨[.agg [.int .i64 d,vg],aundef],h⟩ _
 dsimp only [of137,Z.t,Z.f,Z.i,Z.q,Z.m,Z.l,Z.b,Z.c,Z.w]
 simp (disch:=omega) only [RSf.down,b1,f3]
 exact ⟨(fun i hi => by cases hi),_,rfl,rfl,trivial⟩
end
end Go.AM
namespace Go.AM
open Go Go.GT
theorem PmAt.keep {h h':AHeap} {v:AV} {p:Pm} (s:PmAt h v p) (hn:h.next <= h'.next) (hk:∀ i c,i < h.next -> cellsOf h i = some c -> cellsOf h' i = some c):PmAt h' v p:=by
 rcases s with s | ⟨i,o,cap,full,h1,h2,h3,h5⟩
 ·exact .inl s
 ·exact .inr ⟨i,o,cap,full,h1,Nat.lt_of_lt_of_le h2 hn,fun hp => ⟨hk i _ h2 (h3 hp).1,(h3 hp).2⟩,h5⟩
theorem inOrd_sma {E:List (Pm × AV)} {idx:List Nat} (hl:∀ i ∈ idx,i < E.length):inOrd (sma E) idx = sma (idx.map fun i => E.getD i ([],aundef)):=by
 unfold inOrd sma
 rw [List.map_map]
 refine List.map_congr_left fun i hi => ?_
 have:=hl i hi
 have h1:E[i]? = some E[i]:=List.getElem?_eq_getElem this
 show (E.map fun e => (AV.str e.1,e.2)).getD i (aundef,aundef) = (AV.str (E.getD i ([],aundef)).1,(E.getD i ([],aundef)).2)
 rw [List.getD,List.getElem?_map,h1,List.getD,h1]; rfl
theorem perm_getD {α:Type} {E:List α} {d:α} {idx:List Nat} (hp:idx.Perm (List.range E.length)):(idx.map fun i => E.getD i d).Perm E:=by
 have h1:=hp.map fun i => E.getD i d
 have h2:(List.range E.length).map (fun i => E.getD i d) = E:=by
  refine List.ext_getElem? fun k => ?_
  rw [List.getElem?_map]
  by_cases hk:k < E.length
  ·rw [List.getElem?_range hk]
   show some (E.getD k d) = _
   rw [List.getD,List.getElem?_eq_getElem hk]; rfl
  ·rw [List.getElem?_eq_none (by rw [List.length_range]; omega),List.getElem?_eq_none (by omega)]; rfl
 rwa [h2] at h1
section
variable {h0:AHeap} {vl vp:AV}
def clT (vl vp m4 m5 x7 x8 x12 x13 x14 x15 x16 x17 x18 x19 x20 x21 x22 x23 x24 x25 x26 b x11 x27 x28 x29 x30 x31 x32 x33 x34 x35 x36:AV):List AV :=
 [vl,vp,aundef,aundef,m4,m5,aundef,x7,x8,b,aundef,x11,x12,x13,x14,x15,x16,x17,x18,x19,x20,x21,x22,x23,x24,x25,x26,x27,x28,x29,x30,x31,x32,x33,x34,x35,x36,aundef,aundef,aundef]
theorem mgo_cl {C : CallT} {hh : AHeap} {n0 : Nat} {vl vp m4 m5 x7 x8 x12 x13 x14 x15 x16 x17 x18 x19 x20 x21 x22 x23 x24 x25 x26 x27 : AV} : ∀ (F : List (Pm × AV)) (D : List Pm) (c : List AV) (b : AV) (h' : AHeap) (x11 x29 x30 x31 x32 x33 x34 x35 x36 : AV),
  PL h' b c D -> (∀ e ∈ F,PmAt h' e.2 e.1) -> D.length + F.length <= 100000 -> h'.next = hh.next + 2 * D.length -> (∀ i,oid b = some i -> i = h'.next - 1 /\ hh.next <= i) -> (∀ i o,hh.get i = some o -> i < hh.next -> h'.get i = some o) -> (b = .nils \/ ∃ i,b = .slice i 0 D.length (.opn 1)) ->
  ∃ b' h2 c' y11 y29 y30 y31 y32 y33 y34 y35 y36,mgo (mround C 0 28 n0 29 [clX] (.tmp 30) 31 clA clB) (sma F) ⟨clT vl vp m4 m5 x7 x8 x12 x13 x14 x15 x16 x17 x18 x19 x20 x21 x22 x23 x24 x25 x26 b x11 x27 (.ptr n0 0) x29 x30 x31 x32 x33 x34 x35 x36,h'⟩ = some ⟨clT vl vp m4 m5 x7 x8 x12 x13 x14 x15 x16 x17 x18 x19 x20 x21 x22 x23 x24 x25 x26 b' y11 x27 (.ptr n0 0) y29 y30 y31 y32 y33 y34 y35 y36,h2⟩ /\
   PL h2 b' c' (D ++ F.map Prod.fst) /\ c' = c ++ F.map Prod.snd /\ h2.next = hh.next + 2 * (D.length + F.length) /\ (∀ i,oid b' = some i -> i = h2.next - 1 /\ hh.next <= i) /\ (∀ i o,hh.get i = some o -> i < hh.next -> h2.get i = some o) /\ (b' = .nils \/ ∃ i,b' = .slice i 0 (D.length + F.length) (.opn 1)) /\ (∀ a q,PmAt h' a q -> PmAt h2 a q)
 | [],D,c,b,h',x11,x29,x30,x31,x32,x33,x34,x35,x36,P,_,_,hn,ho,hk,hb => ⟨b,h',c,x11,x29,x30,x31,x32,x33,x34,x35,x36,rfl,by rw [List.map_nil,List.append_nil]; exact P,by rw [List.map_nil,List.append_nil],by simpa using hn,ho,hk,by simpa using hb,fun _ _ h => h⟩
 | (p,v) :: F,D,c,b,h',x11,x29,x30,x31,x32,x33,x34,x35,x36,P,hF,hl,hn,ho,hk,hb => by
  have hv:=hF _ (.head _)
  rw [List.length_cons] at hl
  obtain ⟨q0,b1,h1,q1,q2,q3,q4,q5⟩:=P.app hv (by omega)
  have hsl:=P.own_sls
  have hF1:∀ e ∈ F,PmAt h1 e.2 e.1:=fun e he => (hF e (.tail _ he)).stay q3 hsl
  have hb1:b1 = .nils \/ ∃ i,b1 = .slice i 0 (D ++ [p]).length (.opn 1):=by
   have hap:appV 1 24 b (.slice h'.next 0 1 (.exact 1)) (h'.push (.cells [v] true)) = some (b1,h1):=q1
   rcases hb with rfl | ⟨i,rfl⟩
   ·rcases P.own with ⟨_,e2,_⟩ | ⟨i,cap,e,_⟩
    ·have hD:D = []:=List.eq_nil_of_length_eq_zero e2
     subst hD
     rcases q2.own with ⟨_,e,_⟩ | ⟨i,cap,e1,e2,e3,e4,e5⟩
     ·cases e
     ·refine .inr ⟨i,?_⟩
      have hsrc:srcOf 1 (.slice h'.next 0 1 (.exact 1)) (h'.push (.cells [v] true)) = some (1, [v]):=by
       simp only [srcOf,show Nat.beq 1 0 = false from rfl,cond_false,cellsOf_push,Nat.mul_one,cut_cons,cut_zero]
       simp [hv.scalar]
      unfold appV at hap
      simp only [evalE,ev_lit,hsrc] at hap
      rw [if_neg (by decide),if_pos (by decide)] at hap
      cases hap
      cases e1
      rfl
    ·cases e
   ·rcases q2.own with ⟨e1,e2,_⟩ | ⟨j,cap,e1,e2,e3,e4,e5⟩
    ·rw [e1] at q4; cases q4
    ·refine .inr ⟨j,?_⟩
     rw [e1]
     have hcap:cap = .opn 1:=by
      rcases P.own with ⟨e,_⟩ | ⟨i2,cap2,f1,f2,f3,f4,f5⟩
      ·cases e
      ·injection f1 with f1a f1b f1c f1d
       subst f1a; subst f1d
       have hsrc:srcOf 1 (.slice h'.next 0 1 (.exact 1)) (h'.push (.cells [v] true)) = some (1, [v]):=by
        simp only [srcOf,show Nat.beq 1 0 = false from rfl,cond_false,cellsOf_push,Nat.mul_one,cut_cons,cut_zero]
        simp [hv.scalar]
       have hown:ownOf (h'.push (.cells [v] true)) i = some c:=by unfold ownOf; rw [AHeap.get_push_lt _ _ f4,f5]
       have hd:drops c 0 = c:=by cases c <;> rfl
       unfold appV at hap
       simp only [evalE,ev_lit,hsrc,hown] at hap
       rw [if_pos ⟨trivial,by omega⟩,if_neg (by omega),if_pos (by omega)] at hap
       cases hap
       injection e1 with _ _ _ e6
       exact e6.symm
     rw [hcap]
  have ho1:∀ i,oid b1 = some i -> i = h1.next - 1 /\ hh.next <= i:=fun i hi => by
   rw [q4] at hi; cases hi; omega
  have hk1:∀ i o,hh.get i = some o -> i < hh.next -> h1.get i = some o:=fun i o hi hlt => by
   rw [q3.same i (by omega) fun e => by have:=(ho i e).2; omega]; exact hk i o hi hlt
  obtain ⟨b',h2,c',y11,y29,y30,y31,y32,y33,y34,y35,y36,r1,r2,r3,r4,r5,r6,r7,r8⟩:=mgo_cl (C:=C) (hh:=hh) (n0:=n0) (vl:=vl) (vp:=vp) (m4:=m4) (m5:=m5) (x7:=x7) (x8:=x8) (x12:=x12) (x13:=x13) (x14:=x14) (x15:=x15) (x16:=x16) (x17:=x17) (x18:=x18) (x19:=x19) (x20:=x20) (x21:=x21) (x22:=x22) (x23:=x23) (x24:=x24) (x25:=x25) (x26:=x26) (x27:=x27)
   F (D ++ [p]) (c ++ [v]) b1 h1 v (.tup [.bool true, .str p,v]) (.bool true) (.tup [.str p,v]) v b v (.slice h'.next 0 1 (.exact 1)) b1 q2 hF1 (by rw [List.length_append,List.length_singleton]; omega) (by rw [List.length_append,List.length_singleton]; omega) ho1 hk1 hb1
  refine ⟨b',h2,c',y11,y29,y30,y31,y32,y33,y34,y35,y36,?_,by simpa using r2,by simpa using r3,by rw [r4,List.length_append,List.length_singleton,List.length_cons]; omega,r5,r6,?_,fun a q s => r8 a q (s.stay q3 hsl)⟩
  ·show (match mround C 0 28 n0 29 [clX] (.tmp 30) 31 clA clB (.str p) v ⟨clT vl vp m4 m5 x7 x8 x12 x13 x14 x15 x16 x17 x18 x19 x20 x21 x22 x23 x24 x25 x26 b x11 x27 (.ptr n0 0) x29 x30 x31 x32 x33 x34 x35 x36,h'⟩ with | some s' => mgo (mround C 0 28 n0 29 [clX] (.tmp 30) 31 clA clB) (sma F) s' | none => none) = _
   have hw:WK C clB [] ⟨clT vl vp m4 m5 x7 x8 x12 x13 x14 x15 x16 x17 x18 x19 x20 x21 x22 x23 x24 x25 x26 b v x27 (.ptr n0 0) (.tup [.bool true, .str p,v]) (.bool true) (.tup [.str p,v]) v x33 x34 x35 x36,h'⟩ fun x s => x = .normal /\ s = ⟨clT vl vp m4 m5 x7 x8 x12 x13 x14 x15 x16 x17 x18 x19 x20 x21 x22 x23 x24 x25 x26 b1 v x27 (.ptr n0 0) (.tup [.bool true, .str p,v]) (.bool true) (.tup [.str p,v]) v b v (.slice h'.next 0 1 (.exact 1)) b1,h1⟩:=by
    unfold clT clB
    simp (disch:=omega) only [RSe.down,q0,q1]
    exact ⟨trivial,trivial⟩
   obtain ⟨k,y,s',e1,rfl,rfl⟩:=hw
   have e1':exec clB C 0 ⟨clT vl vp m4 m5 x7 x8 x12 x13 x14 x15 x16 x17 x18 x19 x20 x21 x22 x23 x24 x25 x26 b v x27 (.ptr n0 0) (.tup [.bool true, .str p,v]) (.bool true) (.tup [.str p,v]) v x33 x34 x35 x36,h'⟩ = some (.normal,⟨clT vl vp m4 m5 x7 x8 x12 x13 x14 x15 x16 x17 x18 x19 x20 x21 x22 x23 x24 x25 x26 b1 v x27 (.ptr n0 0) (.tup [.bool true, .str p,v]) (.bool true) (.tup [.str p,v]) v b v (.slice h'.next 0 1 (.exact 1)) b1,h1⟩):=e1
   have hr:mround C 0 28 n0 29 [clX] (.tmp 30) 31 clA clB (.str p) v ⟨clT vl vp m4 m5 x7 x8 x12 x13 x14 x15 x16 x17 x18 x19 x20 x21 x22 x23 x24 x25 x26 b x11 x27 (.ptr n0 0) x29 x30 x31 x32 x33 x34 x35 x36,h'⟩ = some ⟨clT vl vp m4 m5 x7 x8 x12 x13 x14 x15 x16 x17 x18 x19 x20 x21 x22 x23 x24 x25 x26 b1 v x27 (.ptr n0 0) (.tup [.bool true, .str p,v]) (.bool true) (.tup [.str p,v]) v b v (.slice h'.next 0 1 (.exact 1)) b1,h1⟩:=by
    have ra:runOps [clX] C ⟨put (clT vl vp m4 m5 x7 x8 x12 x13 x14 x15 x16 x17 x18 x19 x20 x21 x22 x23 x24 x25 x26 b x11 x27 (.ptr n0 0) x29 x30 x31 x32 x33 x34 x35 x36) 29 (.tup [.bool true, .str p,v]),h'⟩ = some ⟨clT vl vp m4 m5 x7 x8 x12 x13 x14 x15 x16 x17 x18 x19 x20 x21 x22 x23 x24 x25 x26 b x11 x27 (.ptr n0 0) (.tup [.bool true, .str p,v]) (.bool true) x31 x32 x33 x34 x35 x36,h'⟩:=rfl
    have rb:runOps clA C ⟨put (clT vl vp m4 m5 x7 x8 x12 x13 x14 x15 x16 x17 x18 x19 x20 x21 x22 x23 x24 x25 x26 b x11 x27 (.ptr n0 0) (.tup [.bool true, .str p,v]) (.bool true) x31 x32 x33 x34 x35 x36) 31 (.tup [.str p,v]),h'⟩ = some ⟨clT vl vp m4 m5 x7 x8 x12 x13 x14 x15 x16 x17 x18 x19 x20 x21 x22 x23 x24 x25 x26 b v x27 (.ptr n0 0) (.tup [.bool true, .str p,v]) (.bool true) (.tup [.str p,v]) v x33 x34 x35 x36,h'⟩:=rfl
    unfold mround
    dsimp only
    rw [ra]
    show (if n0 = n0 then (match runOps clA C ⟨put (clT vl vp m4 m5 x7 x8 x12 x13 x14 x15 x16 x17 x18 x19 x20 x21 x22 x23 x24 x25 x26 b x11 x27 (.ptr n0 0) (.tup [.bool true, .str p,v]) (.bool true) x31 x32 x33 x34 x35 x36) 31 (.tup [.str p,v]),h'⟩ with
     | some s3 => (match exec clB C 0 s3 with
      | some (.normal,s4) => (match nth s4.tm 28 with | .ptr i 0 => if i = n0 then some s4 else none | _ => none)
      | _ => none)
     | none => none) else none) = _
    rw [if_pos rfl,rb]
    dsimp only
    rw [e1']
    show (if n0 = n0 then _ else _) = _
    rw [if_pos rfl]
   rw [hr]; exact r1
  ·rcases r7 with e | ⟨i,e⟩
   ·exact .inl e
   ·refine .inr ⟨i,?_⟩
    rw [e,List.length_append,List.length_singleton,List.length_cons]
    congr 1; omega
end
end Go.AM
namespace Go.AM
open Go Go.GT
theorem lookup_of {E:List (Pm × AV)} (nd:(E.map Prod.fst).Nodup) {p:Pm} {v:AV} (h:(p,v) ∈ E):E.lookup p = some v:=by
 induction E with
 | nil => cases h
 | cons e E ih =>
  obtain ⟨q,w⟩:=e
  rw [List.map_cons,List.nodup_cons] at nd
  rcases List.mem_cons.1 h with h1 | h1
  ·cases h1; rw [List.lookup_cons_self]
  ·have hne : (p == q) = false := by
    rw [Bool.eq_false_iff]; intro hh
    have:=eq_of_beq hh
    subst this
    exact nd.1 (List.mem_map.2 ⟨_,h1,rfl⟩)
   rw [List.lookup_cons,hne]; exact ih nd.2 h1
section
variable {h:AHeap} {vl vp:AV} {l:List Pm} {p:Pm} {n:Nat}
theorem class_pre (hl : PmsAt h vl l) (hp : PmAt h vp p) (pv : ∀ x ∈ l, PV n x) (pp : PV n p) (hn : n <= 20) (hL : l.length <= 5040) :
  ∃ k x7 x8 x15 x16 x17 x18 x19 x20 x21 x22 x23 x24 x25 x26 E hA,exec (.seq cl0 (.seq cl1 (.seq cl2 cl3))) (lim otab.get srt) k ⟨[vl,vp] ++ List.replicate (40 - [vl,vp].length) aundef,h⟩ = some (.normal,⟨clT vl vp .nils (.map h.next) x7 x8 (.map h.next) vl (.int .i64 (l.length:Int)) x15 x16 x17 x18 x19 x20 x21 x22 x23 x24 x25 x26 .nils aundef aundef aundef aundef aundef aundef aundef aundef aundef aundef aundef,hA⟩) /\
   hA.get h.next = some (.map (sma E)) /\ h.next < hA.next /\ Gro h hA /\ (E.map Prod.fst).Nodup /\ (∀ q,q ∈ E.map Prod.fst ↔ ∃ x ∈ l,cj p x = q) /\ ∀ e ∈ E,PmAt hA e.2 e.1:=by
 have hNo:=srt_srt.no
 have hw : WK (lim otab.get srt) (.seq cl0 (.seq cl1 (.seq cl2 cl3))) [] ⟨[vl, vp] ++ List.replicate (40 - [vl, vp].length) aundef, h⟩ fun x s => x = .normal /\ ∃ x7 x8 x15 x16 x17 x18 x19 x20 x21 x22 x23 x24 x25 x26 E hA, s = ⟨clT vl vp .nils (.map h.next) x7 x8 (.map h.next) vl (.int .i64 (l.length : Int)) x15 x16 x17 x18 x19 x20 x21 x22 x23 x24 x25 x26 .nils aundef aundef aundef aundef aundef aundef aundef aundef aundef aundef aundef, hA⟩ /\
   hA.get h.next = some (.map (sma E)) /\ h.next < hA.next /\ Gro h hA /\ (E.map Prod.fst).Nodup /\ (∀ q,q ∈ E.map Prod.fst ↔ ∃ x ∈ l,cj p x = q) /\ ∀ e ∈ E,PmAt hA e.2 e.1:=by
  show WK _ _ [] ⟨[vl,vp,aundef,aundef,aundef,aundef,aundef,aundef,aundef,aundef,aundef,aundef,aundef,aundef,aundef,aundef,aundef,aundef,aundef,aundef,aundef,aundef,aundef,aundef,aundef,aundef,aundef,aundef,aundef,aundef,aundef,aundef,aundef,aundef,aundef,aundef,aundef,aundef,aundef,aundef],h⟩ _
  unfold cl0 cl1 cl2 cl3
  simp (disch:=omega) only [RSe.down,hl.len]
  have q0:(h.push (.map [])).get h.next = some (.map (sma [])):=AHeap.get_push_same _ _
  refine WK_loopJ (fun k s => k <= l.length /\ ∃ x7 x8 x16 x17 x18 x19 x20 x21 x22 x23 x24 x25 x26 E h',s = ⟨clT vl vp .nils (.map h.next) x7 x8 (.map h.next) vl (.int .i64 (l.length:Int)) (.int .i64 (k:Int)) x16 x17 x18 x19 x20 x21 x22 x23 x24 x25 x26 aundef aundef aundef aundef aundef aundef aundef aundef aundef aundef aundef aundef,h'⟩ /\
   h'.get h.next = some (.map (sma E)) /\ h.next < h'.next /\ Gro h h' /\ (E.map Prod.fst).Nodup /\ (∀ q,q ∈ E.map Prod.fst ↔ ∃ x ∈ l.take k,cj p x = q) /\ ∀ e ∈ E,PmAt h' e.2 e.1) l.length
   ⟨Nat.zero_le _,_,_,_,_,_,_,_,_,_,_,_,_,_, [],_,rfl,q0,Nat.lt_succ_self _,Gro.push h _,List.nodup_nil,(fun q => by simp),fun e he => by cases he⟩ ?_
  rintro k hk _ ⟨_,x7,x8,x16,x17,x18,x19,x20,x21,x22,x23,x24,x25,x26,E,h',rfl,hg,hlt,g,nd,hmem,hE⟩ next
  unfold clT
  by_cases hkl:k < l.length
  ·obtain ⟨x,hx⟩:=get_some hkl
   have hxm:=List.mem_of_getElem? hx
   obtain ⟨i1,a,i2,i3⟩:=(PmsAt.gro hl g).get hx
   obtain ⟨v2,h2,f2,n2⟩:=conj_fn (I:=srt) (f:=151) rfl (fun _ _ => hNo.at _ _ (by decide) (by decide) (by decide)) (PmAt.gro hp g) i3 pp (pv x hxm) (by omega)
   have pc:=PV.cj pp (pv x hxm)
   obtain ⟨h3,f3,g3⟩:=jkey_spec hNo n2.at_ pc hn
   have hg3:h3.get h.next = some (.map (sma E)):=by rw [(n2.gro.trans g3).same _ hlt]; exact hg
   have em:∀ tm:List AV,nth tm 22 = .map h.next -> nth tm 24 = .str (cj p x) -> nth tm 25 = v2 -> evalE (.mupd (.one 2) (.tmp 22) (.tmp 24) (.tmp 25)) (lim otab.get srt) tm h3 = some (aundef,h3.set h.next (.map (sma (updE E (cj p x) v2)))):=fun tm e1 e2 e3 => mupd_sma hg3 (by rw [ev_tmp]; exact e1) (by rw [ev_tmp]; exact e2) (by rw [ev_tmp]; exact e3)
   simp (disch:=omega) only [RSe.down,lssT,i1,i2,f2,f3]
   rw [em _ rfl rfl rfl]
   simp (disch:=omega) only [RSe.down,add1N]
   have e4:l.take (k + 1) = l.take k ++ [x]:=by rw [List.take_add_one,hx]; rfl
   have kp:∀ a q,PmAt h3 a q -> PmAt (h3.set h.next (.map (sma (updE E (cj p x) v2)))) a q:=fun a q s => s.keep (Nat.le_refl _) fun i c _ hc => by
    have hi:i ≠ h.next:=fun e => by
     rw [e] at hc; unfold cellsOf at hc; rw [hg3] at hc; cases hc
    unfold cellsOf at hc ⊢; rw [AHeap.get_set_ne _ _ hi]; exact hc
   refine next hkl _ ⟨by omega,_,_,_,_,_,_,_,_,_,_,_,_,_,updE E (cj p x) v2,_,rfl,AHeap.get_set_same _ _ _,by have:=n2.gro.le; have:=g3.le; show h.next < h3.next; omega,(g.trans (n2.gro.trans g3)).set (Nat.le_refl _) _,?_,fun q => ?_,fun e he => ?_⟩
   ·rw [updE_keys]
    split
    ·exact nd
    ·rename_i hni
     rw [List.nodup_append]
     exact ⟨nd,List.nodup_cons.2 ⟨List.not_mem_nil,List.nodup_nil⟩,fun a ha b hb => by rw [List.mem_singleton.1 hb]; exact fun e => hni (e ▸ ha)⟩
   ·have h1 : q ∈ (updE E (cj p x) v2).map Prod.fst ↔ q ∈ E.map Prod.fst \/ q = cj p x := by
     rw [updE_keys]
     split
     ·rename_i hin
      exact ⟨.inl,fun hh => hh.elim id fun e => e ▸ hin⟩
     ·rw [List.mem_append,List.mem_singleton]
    rw [h1,hmem,e4]
    constructor
    ·rintro (⟨y,hy,e⟩ | e)
     ·exact ⟨y,List.mem_append_left _ hy,e⟩
     ·exact ⟨x,List.mem_append_right _ (List.mem_singleton.2 rfl),e.symm⟩
    ·rintro ⟨y,hy,e⟩
     rcases List.mem_append.1 hy with hy | hy
     ·exact .inl ⟨y,hy,e⟩
     ·rw [List.mem_singleton.1 hy] at e; exact .inr e.symm
   ·rcases updE_mem he with e | he
    ·rw [e]; exact kp _ _ (n2.at_.gro g3)
    ·exact kp _ _ ((hE e he).gro (n2.gro.trans g3))
  ·obtain rfl:k = l.length:=by omega
   simp (disch:=omega) only [RSe.down,lssF]
   rw [List.take_length] at hmem
   exact ⟨trivial,_,_,_,_,_,_,_,_,_,_,_,_,_,_,E,h',rfl,hg,hlt,g,nd,hmem,hE⟩
 obtain ⟨k,y,s',e1,rfl,x7,x8,x15,x16,x17,x18,x19,x20,x21,x22,x23,x24,x25,x26,E,hA,rfl,k1,k2,k3,k4,k5,k6⟩:=hw
 exact ⟨k,x7,x8,x15,x16,x17,x18,x19,x20,x21,x22,x23,x24,x25,x26,E,hA,e1,k1,k2,k3,k4,k5,k6⟩
end
section
variable {I:Oracle} (hC:Cjc I) {h:AHeap}
include hC
theorem class_spec {vl vp : AV} {l : List Pm} {p : Pm} {n : Nat} (hl : PmsAt h vl l) (hp : PmAt h vp p) (pv : ∀ x ∈ l, PV n x) (pp : PV n p) (hn : n <= 20) (hL : l.length <= 5040) (hne : l ≠ []) (hyl : ∀ k, vl ≠ .fn (.yield k) [] []) (hyp : ∀ k, vp ≠ .fn (.yield k) [] []) :
  ∃ v c h',lim otab.get I (.fn 147) [vl,vp] h = some (v,h') /\ PL h' v c (ccl l p) /\ Gro h h' /\ ∀ j,oid v = some j -> h.next <= j:=by
 obtain ⟨k,x7,x8,x15,x16,x17,x18,x19,x20,x21,x22,x23,x24,x25,x26,E,hA,e1,hg,hlt,gA,nd,hmem,hE⟩:=class_pre hl hp pv pp hn hL
 have hEne:E ≠ []:=fun e => by
  obtain ⟨x,hx⟩:=List.exists_mem_of_ne_nil l hne
  have:=(hmem _).2 ⟨x,hx,rfl⟩
  rw [e] at this; cases this
 have hElen:E.length <= l.length:=by
  have h1:(E.map Prod.fst).length <= (l.map (cj p)).length:=nodup_le nd fun q hq => by
   obtain ⟨x,hx,e⟩:=(hmem q).1 hq
   exact List.mem_map.2 ⟨x,hx,e⟩
  rwa [List.length_map,List.length_map] at h1
 have hEpos:0 < E.length:=List.length_pos_iff.2 hEne
 have hsl:(sma E).length = E.length:=List.length_map _
 let sB:St:=⟨clT vl vp .nils (.map h.next) x7 x8 (.map h.next) vl (.int .i64 (l.length:Int)) x15 x16 x17 x18 x19 x20 x21 x22 x23 x24 x25 x26 .nils aundef (.map h.next) aundef aundef aundef aundef aundef aundef aundef aundef aundef,hA⟩
 have hhn:(clH sB h.next).next = hA.next + 1:=rfl
 have hhg:∀ i,i < hA.next -> i ≠ h.next -> (clH sB h.next).get i = hA.get i:=fun i hi hne => by
  show (((hA.push (.cells [] false)).del hA.next).del h.next).get i = _
  rw [AHeap.get_del_ne _ hne,AHeap.get_del_ne _ (by omega),AHeap.get_push_ne _ _ (by omega)]
 have hkeep:∀ a q,PmAt hA a q -> PmAt (clH sB h.next) a q:=fun a q s => s.keep (by rw [hhn]; omega) fun i c hi hc => by
  have hne:i ≠ h.next:=fun e => by rw [e] at hc; unfold cellsOf at hc; rw [hg] at hc; cases hc
  unfold cellsOf at hc ⊢; rw [hhg i hi hne]; exact hc
 let cc:List AV:=(ccl l p).map fun q => (E.lookup q).getD aundef
 have hcperm:∀ L:List Pm,Asc L -> L.Perm (E.map Prod.fst) -> L = ccl l p:=fun L ha hp' => ha.unique asc_ccl fun q => by rw [hp'.mem_iff,hmem,mem_ccl]
 have hkl:(ccl l p).length = E.length:=by
  have h1:(ccl l p).Perm (E.map Prod.fst):=(List.perm_ext_iff_of_nodup (asc_ccl (l:=l) (p:=p)).nodup nd).2 fun q => by rw [hmem,mem_ccl]
  rw [h1.length_eq,List.length_map]
 have hccv:∀ q,q ∈ ccl l p -> ∃ v,(q,v) ∈ E /\ (E.lookup q).getD aundef = v /\ PmAt hA v q:=fun q hq => by
  have h1:=(hmem q).2 (mem_ccl.1 hq)
  obtain ⟨⟨q',v⟩,he,rfl⟩:=List.mem_map.1 h1
  exact ⟨v,he,by rw [lookup_of nd he]; rfl,hE _ he⟩
 have hrun:CRun (lim otab.get srt) [vl,vp] h (.slice (clN sB h.next (sma E).length) 0 (sma E).length (.opn 1),⟨(clH sB h.next).next + 2 * (sma E).length,((clH sB h.next).set (clN sB h.next (sma E).length) (.cells cc true)).t⟩):=by
  refine ⟨k,_,sB,h.next,sma E,cc,e1,rfl,rfl,hg,(by decide:28 < 40),rfl,fun idx hidx => ?_⟩
  rw [hsl] at hidx ⊢
  have hil:∀ i ∈ idx,i < E.length:=fun i hi => List.mem_range.1 (hidx.mem_iff.1 hi)
  rw [inOrd_sma hil]
  have hFp:(idx.map fun i => E.getD i ([],aundef)).Perm E:=perm_getD hidx
  generalize (idx.map fun i => E.getD i ([],aundef)) = F at hFp
  have hFl:F.length = E.length:=hFp.length_eq
  obtain ⟨b',h2,c',y11,y29,y30,y31,y32,y33,y34,y35,y36,r1,r2,r3,r4,r5,r6,r7,r8⟩:=mgo_cl (C:=lim otab.get srt) (hh:=clH sB h.next) (n0:=hA.next) (vl:=vl) (vp:=vp) (m4 := .nils) (m5 := .map h.next) (x7:=x7) (x8:=x8) (x12 := .map h.next) (x13:=vl) (x14 := .int .i64 (l.length:Int)) (x15:=x15) (x16:=x16) (x17:=x17) (x18:=x18) (x19:=x19) (x20:=x20) (x21:=x21) (x22:=x22) (x23:=x23) (x24:=x24) (x25:=x25) (x26:=x26) (x27 := .map h.next)
   F [] [] .nils (clH sB h.next) aundef aundef aundef aundef aundef aundef aundef aundef aundef PL.nil (fun e he => hkeep _ _ (hE e (hFp.mem_iff.1 he))) (by simp; omega) (by simp) (fun i hi => by cases hi) (fun i o hi _ => hi) (.inl rfl)
  rw [List.nil_append] at r2 r3
  simp only [List.length_nil,Nat.zero_add,hFl] at r4 r7
  have hFne:F.map Prod.fst ≠ []:=fun e => by
   have:F.length = 0:=by rw [<- List.length_map (f:=Prod.fst),e]; rfl
   omega
  have hFfp:(F.map Prod.fst).Perm (E.map Prod.fst):=hFp.map _
  obtain ⟨c2,L,h3,f3,p3,aL,pL,pc2,hset,ch3⟩:=sort_PL srt_srt r2 hFne (hFfp.nodup_iff.2 nd) (by rw [List.length_map]; omega) (fun q hq => by
   obtain ⟨x,hx,e⟩:=(hmem q).1 (hFfp.mem_iff.1 hq)
   rw [<- e,(PV.cj pp (pv x hx)).len]; omega) (cf:=212) ⟨_,rfl⟩ fun hr a b q q' ha hb hl => cmp_fn rfl ha hb hl
  have hLc:L = ccl l p:=hcperm L aL (pL.trans hFfp)
  subst hLc
  obtain ⟨i,rfl⟩:∃ i,b' = .slice i 0 E.length (.opn 1):=by
   rcases r7 with e | e
   ·subst e
    rcases r2.own with ⟨_,e2,_⟩ | ⟨_,_,e,_⟩
    ·rw [List.length_map] at e2; omega
    ·cases e
   ·exact e
  obtain ⟨hi1,hi2⟩:=r5 i rfl
  have hN:i = clN sB h.next E.length:=by unfold clN; omega
  have hset':=hset i rfl
  have hc2:c2 = cc:=by
   refine List.ext_getElem? fun j => ?_
   show c2[j]? = ((ccl l p).map fun q => (E.lookup q).getD aundef)[j]?
   rw [List.getElem?_map]
   by_cases hj:j < (ccl l p).length
   ·obtain ⟨a,ha⟩:=get_some (show j < c2.length by rw [p3.len]; exact hj)
    obtain ⟨q,hq⟩:=get_some hj
    rw [ha,hq]
    have s3:=p3.el j a q ha hq
    have hac:a ∈ c':=pc2.mem_iff.1 (List.mem_of_getElem? ha)
    rw [r3] at hac
    obtain ⟨⟨q',a'⟩,he,e⟩:=List.mem_map.1 hac
    have e':a' = a:=e
    subst e'
    have heE:=hFp.mem_iff.1 he
    have s4:PmAt h3 a' q':=(r8 _ _ (hkeep _ _ (hE _ heE))).stay ch3 r2.own_sls
    have:=pmAt_inj s3 s4
    subst this
    rw [Option.map_some,lookup_of nd heE]; rfl
   ·rw [List.getElem?_eq_none (by rw [p3.len]; omega),List.getElem?_eq_none (by omega)]; rfl
  subst hc2
  have hfin:∃ kC,finish [.tmp 4] (exec cl4 (lim otab.get srt) kC ⟨clT vl vp .nils (.map h.next) x7 x8 (.map h.next) vl (.int .i64 (l.length:Int)) x15 x16 x17 x18 x19 x20 x21 x22 x23 x24 x25 x26 (.slice i 0 E.length (.opn 1)) y11 (.map h.next) (.ptr hA.next 0) (.tup [.bool false]) (.bool false) y31 y32 y33 y34 y35 y36,h2⟩) = some (.slice i 0 E.length (.opn 1),h3):=by
   have hw:WK (lim otab.get srt) cl4 [] ⟨clT vl vp .nils (.map h.next) x7 x8 (.map h.next) vl (.int .i64 (l.length:Int)) x15 x16 x17 x18 x19 x20 x21 x22 x23 x24 x25 x26 (.slice i 0 E.length (.opn 1)) y11 (.map h.next) (.ptr hA.next 0) (.tup [.bool false]) (.bool false) y31 y32 y33 y34 y35 y36,h2⟩ fun x s => x = .ret /\ nth s.tm 4 = .slice i 0 E.length (.opn 1) /\ s.h = h3:=by
    unfold clT cl4
    simp (disch:=omega) only [RSe.down,f3]
    exact ⟨trivial,trivial,trivial⟩
   obtain ⟨kC,y,s',q1,rfl,q2,q3⟩:=hw
   have q1':exec cl4 (lim otab.get srt) kC ⟨clT vl vp .nils (.map h.next) x7 x8 (.map h.next) vl (.int .i64 (l.length:Int)) x15 x16 x17 x18 x19 x20 x21 x22 x23 x24 x25 x26 (.slice i 0 E.length (.opn 1)) y11 (.map h.next) (.ptr hA.next 0) (.tup [.bool false]) (.bool false) y31 y32 y33 y34 y35 y36,h2⟩ = some (.ret,s'):=q1
   refine ⟨kC,?_⟩
   rw [q1']
   show (match result [.tmp 4] s'.tm s'.h with | some v => some (v,s'.h) | none => none) = _
   rw [result_1,q2,q3]
  obtain ⟨kC,hfin⟩:=hfin
  have hiN:=hN
  rw [<- hiN]
  refine ⟨_,_,kC,h3,r1,rfl,rfl,hfin,?_,?_,fun j o hj hlt' hne => ?_⟩
  ·rw [hset']; exact r4
  ·rw [hset',AHeap.get_set_same]
  ·rw [hset',AHeap.get_set_ne _ _ hne]
   exact r6 j o hj hlt'
 have hy:∀ k,AV.fn (.yield k) [] [] ∉ [vl,vp]:=fun k hk => by
  rcases List.mem_cons.1 hk with e | e
  ·exact hyl k e.symm
  ·exact hyp k (List.mem_singleton.1 e).symm
 have hJ:=classJ_eq hy hrun
 rw [hsl] at hJ
 have hNge:(clH sB h.next).next <= clN sB h.next E.length:=by unfold clN; omega
 have hfg:∀ i,AHeap.get ⟨(clH sB h.next).next + 2 * E.length,((clH sB h.next).set (clN sB h.next E.length) (.cells cc true)).t⟩ i = if i = clN sB h.next E.length then some (.cells cc true) else (clH sB h.next).get i:=fun i => AHeap.get_set (clH sB h.next) (clN sB h.next E.length) i (.cells cc true)
 have hccl:cc.length = E.length:=by show ((ccl l p).map _).length = _; rw [List.length_map]; exact hkl
 refine ⟨_,cc,_,lim_oracle (by rw [hC.cls]; exact hJ),⟨?_,by rw [hccl,hkl],fun j a q ha hq => ?_⟩,⟨?_,fun j hj => ?_⟩,fun j hj => ?_⟩
 ·refine .inr ⟨clN sB h.next E.length, .opn 1,by rw [hkl], .inl rfl,by rw [hccl,hkl,Nat.mul_one],?_,?_⟩
  ·show clN sB h.next E.length < (clH sB h.next).next + 2 * E.length
   unfold clN; omega
  ·rw [hfg,if_pos rfl]
 ·have ha':((ccl l p).map fun q => (E.lookup q).getD aundef)[j]? = some a:=ha
  rw [List.getElem?_map,hq] at ha'
  cases ha'
  obtain ⟨v,_,e,s⟩:=hccv q (List.mem_of_getElem? hq)
  show PmAt _ ((E.lookup q).getD aundef) q
  rw [e]
  refine (hkeep _ _ s).keep (by show (clH sB h.next).next <= (clH sB h.next).next + 2 * E.length; omega) fun i c hi hc => ?_
  unfold cellsOf at hc ⊢
  rw [hfg,if_neg (by omega)]; exact hc
 ·show h.next <= (clH sB h.next).next + 2 * E.length
  rw [hhn]; omega
 ·rw [hfg,if_neg (by rw [hhn] at hNge; omega),hhg j (by omega) (by omega),gA.same j hj]
 ·cases hj
  rw [hhn] at hNge; omega
end
end Go.AM
namespace Go.AM
open Go Go.GT
def smp (E:List (Pm × Nat)):List (AV × AV):=E.map fun e => (.str e.1, .int .i64 (e.2:Int))
theorem key_str (p q:Pm):keyEq (.one 2) (.str p) (.str q) = some (decide (p = q)):=rfl
theorem find_smp (p:Pm):∀ (E:List (Pm × Nat)) (i:Nat),(∀ v,E.lookup p = some v -> ∃ j,findKey (.one 2) (.str p) (smp E) i = some (some (j, .int .i64 (v:Int)))) /\ (E.lookup p = none -> findKey (.one 2) (.str p) (smp E) i = some none)
 | [],i => ⟨(fun v h => by cases h),fun _ => rfl⟩
 | (b,x) :: E,i => by
  have e0:findKey (.one 2) (.str p) (smp ((b,x) :: E)) i = (match keyEq (.one 2) (.str p) (.str b) with | some true => some (some (i, .int .i64 (x:Int))) | some false => findKey (.one 2) (.str p) (smp E) (i + 1) | none => none):=rfl
  rw [e0,key_str]
  obtain ⟨ih1,ih2⟩:=find_smp p E (i + 1)
  by_cases e:p = b
  ·subst e
   rw [decide_eq_true rfl,List.lookup_cons_self]
   exact ⟨fun v hv => ⟨i,by cases hv; rfl⟩,fun hv => by cases hv⟩
  ·rw [decide_eq_false e]
   have hb:(p == b) = false:=by rw [Bool.eq_false_iff]; intro hh; exact e (eq_of_beq hh)
   rw [List.lookup_cons,hb]
   exact ⟨ih1,ih2⟩
section
variable {tm:List AV} {h:AHeap} {im:Nat} {E:List (Pm × Nat)} (hg:h.get im = some (.map (smp E))) {x k:AOpd} {p:Pm} (hx:ev tm x = .map im) (hk:ev tm k = .str p)
include hg hx hk
theorem lookup_ok {v:Nat} (hv:E.lookup p = some v):evalQ (.lookup (.one 2) (.int .i64 0) true x k) tm h = some (.tup [.int .i64 (v:Int), .bool true]):=by
 obtain ⟨j,j1⟩:=(find_smp p E 0).1 v hv
 have hl:lookK (.one 2) (.str p) (smp E) = findKey (.one 2) (.str p) (smp E) 0:=rfl
 simp only [evalQ,hx,hk,hg,hl,j1]; rfl
theorem lookup_no (hv:E.lookup p = none):evalQ (.lookup (.one 2) (.int .i64 0) true x k) tm h = some (.tup [.int .i64 0, .bool false]):=by
 have j1:=(find_smp p E 0).2 hv
 have hl:lookK (.one 2) (.str p) (smp E) = findKey (.one 2) (.str p) (smp E) 0:=rfl
 simp only [evalQ,hx,hk,hg,hl,j1]; rfl
theorem lookup_val {v:Nat} (hv:E.lookup p = some v):evalQ (.lookup (.one 2) (.int .i64 0) false x k) tm h = some (.int .i64 (v:Int)):=by
 obtain ⟨j,j1⟩:=(find_smp p E 0).1 v hv
 have hl:lookK (.one 2) (.str p) (smp E) = findKey (.one 2) (.str p) (smp E) 0:=rfl
 simp only [evalQ,hx,hk,hg,hl,j1]; rfl
theorem mupd_new {C:CallT} {w:AOpd} {v:Nat} (hw:ev tm w = .int .i64 (v:Int)) (hv:E.lookup p = none):evalE (.mupd (.one 2) x k w) C tm h = some (aundef,h.set im (.map (smp (E ++ [(p,v)])))):=by
 have j1:=(find_smp p E 0).2 hv
 have hl:lookK (.one 2) (.str p) (smp E) = findKey (.one 2) (.str p) (smp E) 0:=rfl
 simp only [evalE,hx,hk,hg,hl,j1,hw]
 have:smp (E ++ [(p,v)]) = smp E ++ [(.str p, .int .i64 (v:Int))]:=by unfold smp; rw [List.map_append]; rfl
 rw [this]
end
end Go.AM
namespace Go.AM
open Go Go.GT
def zpw (n:Nat) (p:Pm):Int -> Pm
 | .ofNat k => pw n p k
 | .negSucc k => pw n (GT.inv p) (k + 1)
section
variable {n:Nat} {p x:Pm}
theorem pw_one (hp:PV n p):pw n p 1 = p:=hp.one_mul
theorem one_pw:∀ k,pw n (one n) k = one n
 | 0 => rfl
 | k + 1 => by
  show mul (pw n (one n) k) (one n) = one n
  rw [one_pw k,(PV.one n).mul_one]
theorem pw_pw (hp:PV n p) (i:Nat):∀ j,pw n (pw n p i) j = pw n p (i * j)
 | 0 => rfl
 | j + 1 => by
  show mul (pw n (pw n p i) j) (pw n p i) = _
  rw [pw_pw hp i j, <- hp.pw_add,Nat.mul_succ]
theorem pw_mod (hp:PV n p) {m:Nat} (hm:pw n p m = one n) (k:Nat):pw n p k = pw n p (k % m):=by
 conv => lhs; rw [<- Nat.div_add_mod k m,hp.pw_add, <- pw_pw hp,hm,one_pw,(hp.pw _).one_mul]
theorem pw_inv (hp:PV n p):∀ k,mul (pw n p k) (pw n (GT.inv p) k) = one n
 | 0 => (PV.one n).mul_one
 | k + 1 => by
  have e:pw n (GT.inv p) (k + 1) = mul (GT.inv p) (pw n (GT.inv p) k):=by
   rw [Nat.add_comm,hp.inv.pw_add,pw_one hp.inv]
  show mul (mul (pw n p k) p) (pw n (GT.inv p) (k + 1)) = one n
  rw [e,(hp.pw k).assoc hp (hp.inv.mul (hp.inv.pw k)), <- hp.assoc hp.inv (hp.inv.pw k),hp.mul_inv,(hp.inv.pw k).one_mul,pw_inv hp k]
theorem inv_pw' (hp:PV n p) (k:Nat):pw n (GT.inv p) k = inv (pw n p k):=(hp.pw k).eq_inv (hp.inv.pw k) (pw_inv hp k)
theorem zpw_pv (hp:PV n p):∀ e,PV n (zpw n p e)
 | .ofNat k => hp.pw k
 | .negSucc k => hp.inv.pw (k + 1)
theorem zpw_mod (hp:PV n p) {m:Nat} (hm:0 < m) (h:pw n p m = one n):∀ e:Int,zpw n p e = pw n p (e % (m:Int)).toNat
 | .ofNat k => by
  show pw n p k = _
  have:((Int.ofNat k) % (m:Int)).toNat = k % m:=by
   show (((k:Nat):Int) % (m:Int)).toNat = k % m
   rw [<- Int.natCast_emod,Int.toNat_natCast]
  rw [this]; exact pw_mod hp h k
 | .negSucc k => by
  show pw n (GT.inv p) (k + 1) = _
  rw [inv_pw' hp]
  have h0:(0:Int) <= Int.negSucc k % (m:Int):=Int.emod_nonneg _ (by omega)
  obtain ⟨r,hr⟩:∃ r:Nat,Int.negSucc k % (m:Int) = (r:Int):=⟨_,(Int.toNat_of_nonneg h0).symm⟩
  rw [hr,Int.toNat_natCast]
  have h1:=Int.emod_add_mul_ediv (Int.negSucc k) (m:Int)
  have h2:Int.negSucc k = -((k:Int) + 1):=Int.negSucc_eq k
  have hd:∃ c:Nat,k + 1 + r = m * c:=by
   refine ⟨(-(Int.negSucc k / (m:Int))).toNat,?_⟩
   have hq:Int.negSucc k / (m:Int) <= 0:=Int.le_of_lt (Int.ediv_neg_of_neg_of_pos (Int.negSucc_lt_zero k) (by omega))
   have h3:((-(Int.negSucc k / (m:Int))).toNat:Int) = -(Int.negSucc k / (m:Int)):=Int.toNat_of_nonneg (by omega)
   have h4:(m:Int) * -(Int.negSucc k / (m:Int)) = -((m:Int) * (Int.negSucc k / (m:Int))):=Int.mul_neg _ _
   have h5:((k + 1 + r:Nat):Int) = ((m * (-(Int.negSucc k / (m:Int))).toNat:Nat):Int):=by
    rw [Int.natCast_mul,h3,h4]; omega
   exact Int.ofNat.inj h5
  obtain ⟨c,hc⟩:=hd
  exact ((hp.pw (k + 1)).eq_inv (hp.pw r) (by rw [<- hp.pw_add,hc, <- pw_pw hp,h,one_pw])).symm
theorem zpw_gen {S:List Pm} (hS:∀ s ∈ S,PV n s) (hp:Gen n S p):∀ e,Gen n S (zpw n p e)
 | .ofNat k => hp.pw hS k
 | .negSucc k => (hp.inv hS).pw hS (k + 1)
end
def pmp (n:Nat) (l:List Pm) (e:Int):List Nat:=(reps l).map fun r => cno l (zpw n r e)
theorem pmp_len {n:Nat} {l:List Pm} {e:Int}:(pmp n l e).length = (reps l).length:=List.length_map _
def cenL (l:List Pm) (A:List Pm):List Pm:=l.filter fun x => A.all fun p => mul x p == mul p x
theorem mem_cenL {l A:List Pm} {x:Pm}:x ∈ cenL l A ↔ x ∈ l /\ ∀ p ∈ A,mul x p = mul p x:=by
 unfold cenL; rw [List.mem_filter,List.all_eq_true]; simp only [beq_iff_eq]
section
variable {n:Nat} {S l:List Pm} (hS:∀ s ∈ S,PV n s) (h:IsEl n S l)
include hS h
theorem el_zpw {p:Pm} (hp:p ∈ l) (e:Int):zpw n p e ∈ l:=(h.mem _).2 (zpw_gen hS ((h.mem p).1 hp) e)
omit hS h in
theorem pmp_get {i:Nat} {r:Pm} (hi:(reps l)[i]? = some r) (e:Int):(pmp n l e)[i]? = some (cno l (zpw n r e)):=by
 unfold pmp; rw [List.getElem?_map,hi]; rfl
end
end Go.AM
namespace Go.AM
open Go Go.GT
theorem SlAt.not_fn {h:AHeap} {v:AV} {c:List AV} (s:SlAt h v c) {f:Fn} {a b:List AV}:v ≠ .fn f a b:=fun e => by
 subst e
 rcases s with ⟨e,_⟩ | ⟨_,_,_,_,e,_⟩ <;> cases e
theorem PmAt.nil_any {h h':AHeap} {v:AV} (s:PmAt h v []) (hn:h.next <= h'.next):PmAt h' v []:=by
 rcases s with s | ⟨i,o,cap,full,h1,h2,h3,h5⟩
 ·exact .inl s
 ·exact .inr ⟨i,o,cap,full,h1,Nat.lt_of_lt_of_le h2 hn,fun hp => absurd rfl hp,h5⟩
theorem lookup_snoc {E:List (Pm × Nat)} {q x:Pm} {v:Nat}:(E ++ [(q,v)]).lookup x = match E.lookup x with | some y => some y | none => if x = q then some v else none:=by
 induction E with
 | nil =>
  show List.lookup x [(q,v)] = if x = q then some v else none
  by_cases e:x = q
  ·subst e; rw [if_pos rfl,List.lookup_cons_self]
  ·have:(x == q) = false:=by rw [Bool.eq_false_iff]; intro hh; exact e (eq_of_beq hh)
   rw [if_neg e,List.lookup_cons,this]; rfl
 | cons a E ih =>
  obtain ⟨b,w⟩:=a
  rw [List.cons_append,List.lookup_cons,List.lookup_cons]
  cases x == b with
  | true => rfl
  | false => exact ih
structure ClsAt (h:AHeap) (v:AV) (l R:List Pm):Prop where
 ex:∃ c,Own 2 h v R.length c /\ ∀ i r,R[i]? = some r -> ∃ a,c[i * 2]? = some a /\ c[i * 2 + 1]? = some (.int .i64 ((ccl l r).length:Int)) /\ PmAt h a r /\ ∀ j,oid a = some j -> oid v ≠ some j
theorem ClsAt.nil {h:AHeap} {l:List Pm}:ClsAt h .nils l []:=⟨[],Own.nil,fun i r hi => by simp at hi⟩
theorem ClsAt.gro {h h':AHeap} {v:AV} {l R:List Pm} (s:ClsAt h v l R) (g:Gro h h'):ClsAt h' v l R:=by
 obtain ⟨c,o,e⟩:=s.ex
 exact ⟨c,o.gro g,fun i r hi => by obtain ⟨a,a1,a2,a3,a4⟩:=e i r hi; exact ⟨a,a1,a2,a3.gro g,a4⟩⟩
theorem ClsAt.stay {F:Nat -> Prop} {h h':AHeap} {v:AV} {l R:List Pm} (s:ClsAt h v l R) (k:Chg F h h') (hF:Soft F h) (ho:∀ i,oid v = some i -> ¬ F i):ClsAt h' v l R:=by
 obtain ⟨c,o,e⟩:=s.ex
 exact ⟨c,o.chg k ho,fun i r hi => by obtain ⟨a,a1,a2,a3,a4⟩:=e i r hi; exact ⟨a,a1,a2,a3.stayG k hF,a4⟩⟩
theorem ClsAt.len {h:AHeap} {v:AV} {l R:List Pm} (s:ClsAt h v l R) {h':AHeap}:lenV 1 v h' = some (.int .i64 (R.length:Int)):=by
 obtain ⟨c,o,_⟩:=s.ex
 rcases o with ⟨rfl,e,_⟩ | ⟨i,cap,rfl,_⟩
 ·rw [e]; rfl
 ·rfl
theorem ClsAt.lt {h:AHeap} {v:AV} {l R:List Pm} (s:ClsAt h v l R) {i:Nat} (hi:oid v = some i):i < h.next:=by
 obtain ⟨c,o,_⟩:=s.ex
 exact o.lt hi
theorem ClsAt.app {h : AHeap} {v vc : AV} {l R : List Pm} {p : Pm} (s : ClsAt h v l R) (ha : PmAt h vc p) (hne : p ≠ [] -> ∀ j, oid vc = some j -> oid v ≠ some j) (hb : R.length <= 100000) :
  ∃ v' h',appV 2 32 v (.slice h.next 0 1 (.exact 1)) (h.push (.cells [vc, .int .i64 ((ccl l p).length:Int)] true)) = some (v',h') /\ ClsAt h' v' l (R ++ [p]) /\ Chg (fun j => oid v = some j) h h' /\ oid v' = some (h.next + 1) /\ h'.next = h.next + 2:=by
 obtain ⟨c,o,e⟩:=s.ex
 obtain ⟨v',h',k1,k2,k3,k4,k5⟩:=o.app1 (bytes:=32) (c:=[vc, .int .i64 ((ccl l p).length:Int)]) rfl (by show (vc.scalar && (true && true)) = true; rw [ha.scalar]; rfl) (by decide) (by omega)
 have hcl:=o.length
 refine ⟨v',h',k1,⟨c ++ [vc, .int .i64 ((ccl l p).length:Int)],by rw [List.length_append]; exact k2,fun i r hi => ?_⟩,k3,k4,k5⟩
 by_cases hlt:i < R.length
 ·rw [List.getElem?_append_left hlt] at hi
  obtain ⟨a,a1,a2,a3,a4⟩:=e i r hi
  refine ⟨a,by rw [List.getElem?_append_left (by omega)]; exact a1,by rw [List.getElem?_append_left (by omega)]; exact a2,a3.chg k3 fun j hj hf => a4 j hj hf,fun j hj hf => ?_⟩
  rw [k4] at hf; cases hf
  have:=SlAt.oid_lt a3 hj; omega
 ·have hi2 : i = R.length := by
   have:=(List.getElem?_eq_some_iff.1 hi).1
   rw [List.length_append,List.length_singleton] at this; omega
  subst hi2
  rw [List.getElem?_append_right (Nat.le_refl _),Nat.sub_self] at hi
  cases hi
  refine ⟨vc,by rw [List.getElem?_append_right (by omega),hcl,Nat.sub_self]; rfl,by rw [List.getElem?_append_right (by omega),hcl,show R.length * 2 + 1 - R.length * 2 = 1 by omega]; rfl,?_,fun j hj hf => ?_⟩
  ·by_cases hp:p = []
   ·subst hp; exact ha.nil_any (by omega)
   ·exact ha.chg k3 fun j hj hf => hne hp j hj hf
  ·rw [k4] at hf; cases hf
   have:=SlAt.oid_lt ha hj; omega
theorem bldK {tm:List AV} {h:AHeap} {v:AV} {n:Int} {x y:AOpd} (hx:ev tm x = v) (sv:v.scalar = true) (hy:ev tm y = .int .i64 n):evalQ (.build [.nils, .int .i64 0] [(0,(1,x)),(1,(1,y))]) tm h = some (.agg [v, .int .i64 n]):=by
 have hc:v.cells = [v]:=scalar_cells sv
 simp only [evalQ,fills,hx,hy,hc]; rfl
section
variable {I:Oracle} (hC:Cjc I) {h:AHeap}
include hC
theorem classes_spec {n : Nat} {S l : List Pm} (hS : ∀ s ∈ S, PV n s) (hel : IsEl n S l) {vl : AV} (hl : PmsAt h vl l) (hn : n <= 20) (hL : l.length <= 5040) :
  ∃ vo im E h',lim otab.get I (.fn 136) [vl] h = some (.tup [vo, .map im],h') /\ ClsAt h' vo l (reps l) /\ h'.get im = some (.map (smp E)) /\ im < h'.next /\ Gro h h' /\ (∀ x,E.lookup x = if x ∈ l then some (cno l x) else none):=by
 have hNo:=hC.srt.no
 refine (lim_walk_ex (T:=otab.get) (I:=I) (f:=136) (fn:=of136) rfl (a:=[vl]) (h:=h) (P:=fun a h' => ∃ vo im E,a = .tup [vo, .map im] /\ ClsAt h' vo l (reps l) /\ h'.get im = some (.map (smp E)) /\ im < h'.next /\ Gro h h' /\ (∀ x,E.lookup x = if x ∈ l then some (cno l x) else none)) (hNo.at _ _ (by decide) (by decide) (by decide)) ?_) |> fun ⟨a,h',e,vo,im,E,q1,q2⟩ => ⟨vo,im,E,h',by rw [e,q1],q2⟩
 show WK _ _ [] ⟨[vl,aundef,aundef,aundef,aundef,aundef,aundef,aundef,aundef,aundef,aundef],h⟩ _
 dsimp only [of136,Z.t,Z.f,Z.i,Z.q,Z.m,Z.l,Z.b,Z.c,Z.w]
 have pv:∀ x ∈ l,PV n x:=fun x hx => el_pv hS hel hx
 have hne:l ≠ []:=List.length_pos_iff.1 hel.pos
 have nfl:∀ k,vl ≠ .fn (.yield k) [] []:=fun k => by obtain ⟨c,s,_⟩:=hl; exact s.not_fn
 simp (disch:=omega) only [RSf.down,hl.len]
 refine WK_loopJ (fun k s => k <= l.length /\ ∃ y1 y2 y3 y4 y7 y9 vo E h',s = ⟨[vl,y1,y2,y3,y4,vo, .map h.next,y7, .int .i64 (k:Int),y9, .int .i64 (l.length:Int)],h'⟩ /\ Gro h h' /\ h'.get h.next = some (.map (smp E)) /\ h.next < h'.next /\ ClsAt h' vo l (repsTo l k) /\ (∀ j,oid vo = some j -> h.next < j) /\ (∀ x,E.lookup x = if x ∈ l /\ ri l x < k then some (cno l x) else none)) l.length
  ⟨Nat.zero_le _,_,_,_,_,_,_, .nils, [],_,rfl,Gro.push h _,AHeap.get_push_same _ _,Nat.lt_succ_self _,by unfold repsTo; rw [List.take_zero]; exact ClsAt.nil,(fun j hj => by cases hj),fun x => by rw [if_neg (fun hh => Nat.not_lt_zero _ hh.2)]; rfl⟩ ?_
 rintro k hk _ ⟨_,y1,y2,y3,y4,y7,y9,vo,E,h',rfl,g,hm,hlt,C,fr,hE⟩ next
 by_cases hkl:k < l.length
 ·obtain ⟨p,hp⟩:=get_some hkl
  have hpl:=List.mem_of_getElem? hp
  have pp:=pv p hpl
  obtain ⟨i1,a,i2,i3⟩:=(PmsAt.gro' hl g).get hp
  obtain ⟨h2,f2,g2⟩:=jkey_spec hNo i3 pp hn
  have hm2:h2.get h.next = some (.map (smp E)):=by rw [g2.same _ hlt]; exact hm
  have hst:=repsTo_succ (l:=l) hp
  cases hr:repB l p with
  | false =>
   have hrk:ri l p < k:=by
    have h1:=ri_le hS hel hp
    have h2:ri l p ≠ k:=fun e => by rw [(ri_rep hS hel hp).2 e] at hr; cases hr
    omega
   have hlo:E.lookup p = some (cno l p):=by rw [hE,if_pos ⟨hpl,hrk⟩]
   have el:∀ tm:List AV,nth tm 6 = .map h.next -> nth tm 1 = .str p -> evalQ (.lookup (.one 2) (.int .i64 0) true (.tmp 6) (.tmp 1)) tm h2 = some (.tup [.int .i64 (cno l p:Int), .bool true]):=fun tm e1 e2 => lookup_ok hm2 (by rw [ev_tmp]; exact e1) (by rw [ev_tmp]; exact e2) hlo
   simp (disch:=omega) only [RSf.down,lssT,i1,i2,f2]
   rw [el _ rfl rfl]
   simp (disch:=omega) only [RSf.down,add1N]
   rw [hr,if_neg (by decide),List.append_nil] at hst
   refine next hkl _ ⟨by omega,_,_,_,_,_,_,vo,E,h2,rfl,g.trans g2,hm2,by have:=g2.le; omega,by rw [hst]; exact C.gro g2,fr,fun x => ?_⟩
   rw [hE]
   have hiff:(x ∈ l /\ ri l x < k) ↔ (x ∈ l /\ ri l x < k + 1):=by
    constructor
    ·exact fun hh => ⟨hh.1,by omega⟩
    ·rintro ⟨h1,h2⟩
     refine ⟨h1,?_⟩
     have h3:ri l x ≠ k:=fun e => by
      have h4:=ri_get hS hel h1
      rw [e,hp] at h4
      rw [Option.some.inj h4,crep_rep hS hel (pv x h1)] at hr; cases hr
     omega
   by_cases hc:x ∈ l /\ ri l x < k
   ·rw [if_pos hc,if_pos (hiff.1 hc)]
   ·rw [if_neg hc,if_neg fun hh => hc (hiff.2 hh)]
  | true =>
   have hrk:=(ri_rep hS hel hp).1 hr
   have hlo:E.lookup p = none:=by rw [hE,if_neg (fun hh => by omega)]
   have el:∀ tm:List AV,nth tm 6 = .map h.next -> nth tm 1 = .str p -> evalQ (.lookup (.one 2) (.int .i64 0) true (.tmp 6) (.tmp 1)) tm h2 = some (.tup [.int .i64 0, .bool false]):=fun tm e1 e2 => lookup_no hm2 (by rw [ev_tmp]; exact e1) (by rw [ev_tmp]; exact e2) hlo
   obtain ⟨v4,c4,h3,f3,p3,g3,fr3⟩:=class_spec hC (PmsAt.gro' hl (g.trans g2)) (i3.gro g2) pv pp hn hL hne nfl (fun k => SlAt.not_fn i3)
   have g23:=g2.trans g3
   have hm3:h3.get h.next = some (.map (smp E)):=by rw [g3.same _ (by have:=g2.le; omega)]; exact hm2
   have hccl:(ccl l p).length <= 5040:=Nat.le_trans len_ccl hL
   have cn:=cno_new hel hp hr
   simp (disch:=omega) only [RSf.down,lssT,i1,i2,f2]
   rw [el _ rfl rfl]
   simp (disch:=omega) only [RSf.down,f3,p3.pms.len]
   have hle3:h'.next <= h3.next:=g23.le
   refine WK_loopJ (fun j s => j <= (ccl l p).length /\ ∃ y2 y3 E' h'',s = ⟨[vl, .int .i64 (j:Int),y2,y3,v4,vo, .map h.next, .int .i64 ((ccl l p).length:Int), .int .i64 (k:Int),a, .int .i64 (l.length:Int)],h''⟩ /\ Gro h h'' /\ h3.next <= h''.next /\ h''.get h.next = some (.map (smp E')) /\ ClsAt h'' vo l (repsTo l k) /\ PL h'' v4 c4 (ccl l p) /\ PmAt h'' a p /\ (∀ x,E'.lookup x = if x ∈ l /\ ri l x < k then some (cno l x) else if x ∈ (ccl l p).take j then some (cno l p) else none)) (ccl l p).length
    ⟨Nat.zero_le _,_,_,E,h3,rfl,g.trans g23,Nat.le_refl _,hm3,C.gro g23,p3,i3.gro g23,fun x => by rw [hE,List.take_zero,if_neg (List.not_mem_nil (a:=x))]⟩ ?_
   rintro j hj _ ⟨_,z2,z3,E',h'',rfl,gg,le'',hm'',C'',P'',a'',hE'⟩ next2
   by_cases hjl:j < (ccl l p).length
   ·obtain ⟨q,hq⟩:=get_some hjl
    have hqc:=List.mem_of_getElem? hq
    have hql:=ccl_sub hS hel hpl hqc
    obtain ⟨j1,b,j2,j3⟩:=P''.pms.get hq
    obtain ⟨h4,f4,g4⟩:=jkey_spec hNo j3 (pv q hql) hn
    have hm4:h4.get h.next = some (.map (smp E')):=by rw [g4.same _ (by omega)]; exact hm''
    have hnq:q ∉ (ccl l p).take j:=fun hh => by
     obtain ⟨i,hi⟩:=List.mem_iff_getElem?.1 hh
     rw [List.getElem?_take] at hi
     split at hi
     ·rename_i hij
      have:=(List.getElem?_inj (List.getElem?_eq_some_iff.1 hi).1 (asc_ccl (l:=l) (p:=p)).nodup).1 (hi.trans hq.symm)
      omega
     ·cases hi
    have hrq:ri l q = k:=by rw [ri_class hS hel pp hqc]; exact hrk
    have hlq:E'.lookup q = none:=by rw [hE',if_neg (fun hh => by omega),if_neg hnq]
    have em:∀ tm:List AV,nth tm 6 = .map h.next -> nth tm 2 = .str q -> nth tm 3 = .int .i64 ((repsTo l k).length:Int) -> evalE (.mupd (.one 2) (.tmp 6) (.tmp 2) (.tmp 3)) (lim otab.get I) tm h4 = some (aundef,h4.set h.next (.map (smp (E' ++ [(q,(repsTo l k).length)])))):=fun tm e1 e2 e3 => mupd_new hm4 (by rw [ev_tmp]; exact e1) (by rw [ev_tmp]; exact e2) (by rw [ev_tmp]; exact e3) hlq
    have C4:=C''.gro g4
    simp (disch:=omega) only [RSf.down,lssT,j1,j2,f4,C4.len]
    rw [em _ rfl rfl rfl]
    simp (disch:=omega) only [RSf.down,add1N]
    have cm:Chg (fun i => i = h.next) h4 (h4.set h.next (.map (smp (E' ++ [(q,(repsTo l k).length)])))):=Chg.set (F:=fun i => i = h.next) h4 rfl _
    have sm:=soft_map hm4
    have le4:=g4.le
    have nv4:∀ i,oid v4 = some i -> ¬ i = h.next:=fun i hi e => by have:=fr3 i hi; have:=g2.le; omega
    refine next2 hjl _ ⟨by omega,_,_,_,_,rfl,(gg.trans g4).set (Nat.le_refl _) _,by show h3.next <= h4.next; omega,AHeap.get_set_same _ _ _,C4.stay cm sm (fun i hi e => by have:=fr i hi; omega),(P''.gro g4).stayG cm sm nv4,(a''.gro g4).stayG cm sm,fun x => ?_⟩
    rw [lookup_snoc,hE']
    have e4:(ccl l p).take (j + 1) = (ccl l p).take j ++ [q]:=by rw [List.take_add_one,hq]; rfl
    by_cases h1:x ∈ l /\ ri l x < k
    ·rw [if_pos h1]; exact (if_pos h1).symm
    ·rw [if_neg h1,if_neg h1]
     by_cases h2:x ∈ (ccl l p).take j
     ·rw [if_pos h2,e4,if_pos (List.mem_append_left _ h2)]
     ·rw [if_neg h2,e4]
      show (if x = q then some (repsTo l k).length else none) = _
      by_cases h3:x = q
      ·rw [if_pos h3,if_pos (List.mem_append_right _ (List.mem_singleton.2 h3)),cn]
      ·rw [if_neg h3, if_neg fun hh => by
        rcases List.mem_append.1 hh with hh | hh
        ·exact h2 hh
        ·exact h3 (List.mem_singleton.1 hh)]
   ·obtain rfl:j = (ccl l p).length:=by omega
    obtain ⟨vc,h5,f5,a5,g5,fr5⟩:=clone_fn (I:=I) (f:=152) rfl (fun _ _ => hNo.at _ _ (by decide) (by decide) (by decide)) a'' (by rw [pp.len]; omega)
    have P5:=P''.gro g5
    have C5:=C''.gro g5
    have hrl:(repsTo l k).length <= 100000:=by have:=repsTo_len (l:=l) (k:=k); omega
    obtain ⟨vo',h6,k1,k2,k3,k4,k5⟩:=C5.app a5 (fun hpn jj hjj hf => by
     obtain ⟨i,cap,e,hi⟩:=fr5 hpn
     rw [e] at hjj; cases hjj
     have:=C''.lt hf; omega) hrl
    have eb:∀ tm:List AV,nth tm 1 = .agg [vc, .int .i64 ((ccl l p).length:Int)] -> evalA (.bslice 1 2 [.nils, .int .i64 0] [(0, .tmp 1)]) tm h5 = some (.cells [vc, .int .i64 ((ccl l p).length:Int)] true, .slice h5.next 0 1 (.exact 1)):=fun tm e => by
     simp only [evalA,fillsS,ev_tmp,e]; rfl
    simp (disch:=omega) only [RSf.down,lssF,f5,P5.pms.len]
    rw [bldK (show ev _ (.tmp 1) = vc from rfl) a5.scalar (show ev _ (.tmp 2) = .int .i64 ((ccl l p).length:Int) from rfl)]
    simp (disch:=omega) only [RSf.down]
    rw [eb _ rfl]
    simp (disch:=omega) only [RSf.down,k1,add1N]
    rw [hr,if_pos rfl] at hst
    have fr6:∀ j,oid vo' = some j -> h.next < j:=fun j hj => by rw [k4] at hj; cases hj; have:=g5.le; omega
    have hm6:h6.get h.next = some (.map (smp E')):=by
     rw [k3.same _ (by have:=g5.le; omega) fun e => by have:=fr _ e; omega,g5.same _ (by omega)]; exact hm''
    refine next hkl _ ⟨by omega,_,_,_,_,_,_,vo',E',h6,rfl,(gg.trans g5).chg_new k3 fun j hj => by have:=fr j hj; omega,hm6,by have:=g5.le; omega,by rw [hst]; exact k2,fr6,fun x => ?_⟩
    rw [hE',List.take_length]
    by_cases h1:x ∈ l /\ ri l x < k
    ·rw [if_pos h1,if_pos ⟨h1.1,by omega⟩]
    ·rw [if_neg h1]
     by_cases h2:x ∈ ccl l p
     ·have hxl:=ccl_sub hS hel hpl h2
      rw [if_pos h2,if_pos ⟨hxl,by rw [ri_class hS hel pp h2]; omega⟩,cno_class hS hel pp h2]
     ·rw [if_neg h2,if_neg]
      rintro ⟨hx,hr2⟩
      have h3:ri l x = k:=by
       have:¬ ri l x < k:=fun hh => h1 ⟨hx,hh⟩
       omega
      exact h2 ((ri_iff hS hel hpl hx).1 (by omega))
 ·obtain rfl:k = l.length:=by omega
  simp (disch:=omega) only [RSf.down,lssF]
  rw [repsTo_all] at C
  refine ⟨(fun i hi => by cases hi),_,rfl,vo,h.next,E,rfl,C,hm,hlt,g,fun x => ?_⟩
  rw [hE]
  by_cases hx:x ∈ l
  ·rw [if_pos ⟨hx,ri_lt hS hel hx⟩,if_pos hx]
  ·rw [if_neg (fun hh => hx hh.1),if_neg hx]
end
end Go.AM
namespace Go.AM
open Go Go.GT
theorem bc_sls {n:Nat} {f:Nat -> Bool}:Sls (bc n f):=fun x hx k m e => by
 unfold bc tbl at hx
 obtain ⟨j,_,rfl⟩:=List.mem_map.1 hx
 cases e
section
variable {I:Oracle} (hNo:NoI I) {h:AHeap}
include hNo
theorem cycles_spec {n : Nat} {va : AV} {a : Pm} (ha : PmAt h va a) (pa : PV n a) (hn : n <= 20) :
  ∃ v c h',lim otab.get I (.fn 170) [va] h = some (v,h') /\ PL h' v c (cycL n a n) /\ Gro h h':=by
 refine (lim_walk_ex (T:=otab.get) (I:=I) (f:=170) (fn:=of170) rfl (a:=[va]) (h:=h) (P:=fun v h' => ∃ c,PL h' v c (cycL n a n) /\ Gro h h') (hNo.at _ _ (by decide) (by decide) (by decide)) ?_) |> fun ⟨v,h',e,c,q⟩ => ⟨v,c,h',e,q⟩
 show WK _ _ [] ⟨[va,aundef,aundef,aundef,aundef,aundef,aundef,aundef],h⟩ _
 dsimp only [of170,Z.t,Z.f,Z.i,Z.q,Z.m,Z.l,Z.b,Z.c,Z.w]
 have hlen:∀ {h':AHeap},lenV 1 va h' = some (.int .i64 (n:Int)):=fun {h'} => by rw [ha.len,pa.len]
 simp (disch:=omega) only [RSf.down,hlen,mkslV_nat]
 have r0:(h.push (.cells (repl n [.bool false]) true)).get h.next = some (.cells (bc n fun _ => false) true):=by
  rw [AHeap.get_push_same,tbl_repl]; rfl
 refine WK_loopJ (fun i s => i <= n /\ ∃ y1 y2 y4 vo co f h',s = ⟨[va,y1,y2, .slice h.next 0 n (.exact n),y4, .int .i64 (i:Int),vo, .int .i64 (n:Int)],h'⟩ /\ Gro h h' /\ h.next < h'.next /\ h'.get h.next = some (.cells (bc n f) true) /\ (∀ x,x < n -> (f x = true ↔ ∃ j,j < i /\ Cyd a j x)) /\ PL h' vo co (cycL n a i) /\ ∀ j,oid vo = some j -> h.next < j) n
  ⟨Nat.zero_le _,_,_,_, .nils, [],fun _ => false,_,rfl,Gro.push h _,Nat.lt_succ_self _,r0,(fun x _ => ⟨(fun e => by cases e),fun ⟨j,hj,_⟩ => absurd hj (Nat.not_lt_zero _)⟩),PL.nil,fun j hj => by cases hj⟩ ?_
 rintro i hi _ ⟨_,y1,y2,y4,vo,co,f,hB,rfl,gB,ltB,rB,hf,P,fr⟩ next
 by_cases hin:i < n
 ·simp (disch:=omega) only [RSf.down,lssT]
  have hil:i < n:=hin
  have sB:SlAt hB (.slice h.next 0 n (.exact n)) (bc n f):=tab_at ltB rB bc_len (Nat.le_refl _)
  have iad:∀ {k:Nat},k < n -> iaddrV 1 (.slice h.next 0 n (.exact n)) (.int .i64 (k:Int)) = some (.ptr h.next k):=fun {k} hk => iaddrS hk
  have hsucc:∀ x,(∃ j,j < i + 1 /\ Cyd a j x) ↔ (∃ j,j < i /\ Cyd a j x) \/ Cyd a i x:=fun x => by
   constructor
   ·rintro ⟨j,hj,hc⟩
    by_cases e:j = i
    ·subst e; exact .inr hc
    ·exact .inl ⟨j,by omega,hc⟩
   ·rintro (⟨j,hj,hc⟩ | hc)
    ·exact ⟨j,by omega,hc⟩
    ·exact ⟨i,by omega,hc⟩
  cases hfi:f i with
  | true =>
   obtain ⟨j0,hj0,hc0⟩:=(hf i hin).1 hfi
   have hb:isBig n a i = false:=by
    rw [Bool.eq_false_iff]; intro hh
    exact (isBig_iff.1 hh).1 j0 hj0 hc0
   have hcy:cycL n a (i + 1) = cycL n a i:=by
    unfold cycL; rw [bigL_succ,hb,if_neg (by decide),List.append_nil]
   have l1:loadV none (.ptr h.next i) hB = some (.bool true):=by
    have:=loadV_get rB (bc_get (f:=f) hin)
    rwa [hfi] at this
   refine WK_loop ?_
   have len0:lenV 1 .nils hB = some (.int .i64 0):=rfl
   simp (disch:=omega) only [RSf.down,WX_block_ne,iad,l1,len0,lssT,add1N]
   refine next hin _ ⟨by omega,_,_,_,vo,co,f,hB,rfl,gB,ltB,rB,fun x hx => ?_,by rw [hcy]; exact P,fr⟩
   rw [hf x hx,hsucc]
   constructor
   ·exact .inl
   ·rintro (h1 | h1)
    ·exact h1
    ·exact ⟨j0,hj0,hc0.trans h1⟩
  | false =>
   have hldr:Ldr a i:=fun j hj hc => by
    have:=(hf i hin).2 ⟨j,hj,hc⟩
    rw [hfi] at this; cases this
   have cs:=clen_spec pa hin
   have cpos:=clen_pos (n:=n) (a:=a) (i:=i)
   generalize hm:clen n a i = m at cs cpos
   have hunseen:∀ k,f (itr a i k) = false:=fun k => by
    rw [Bool.eq_false_iff]; intro hh
    obtain ⟨j,hj,hc⟩:=(hf _ (itr_lt pa hin k)).1 hh
    exact hldr j hj (hc.trans (Cyd.symm pa hin ⟨k,rfl⟩))
   refine WK_loopJ (fun k s => k <= m /\ ∃ z1 z4 vc fk h'',z1 = .int .i64 ((itr a i k:Nat):Int) /\ s = ⟨[va,z1,vc, .slice h.next 0 n (.exact n),z4, .int .i64 (i:Int),vo, .int .i64 (n:Int)],h''⟩ /\ Chg (fun j => j = h.next) hB h'' /\ h''.get h.next = some (.cells (bc n fk) true) /\ (∀ x,x < n -> (fk x = true ↔ f x = true \/ ∃ r,r < k /\ itr a i r = x)) /\ Own 1 h'' vc k (pc ((List.range k).map (itr a i))) /\ ∀ j,oid vc = some j -> hB.next <= j) m
    ⟨Nat.zero_le _,_,_, .nils,f,hB,rfl,rfl,Chg.refl hB,rB,(fun x _ => ⟨.inl,fun hh => hh.elim id fun ⟨r,hr,_⟩ => absurd hr (Nat.not_lt_zero _)⟩),Own.nil,fun j hj => by cases hj⟩ ?_
   rintro k hk _ ⟨_,_,z4,vc,fk,h'',rfl,rfl,ch,r'',hfk,ow,frc⟩ next2
   have hxk:=itr_lt pa hin k
   have lt'':h.next < h''.next:=by have:=ch.le; omega
   have g'':Gro h h'':=gB.chg_new ch fun j hj => by omega
   have l1:=loadV_get r'' (bc_get (f:=fk) hxk)
   by_cases hkm:k < m
   ·have hno : fk (itr a i k) = false := by
     rw [Bool.eq_false_iff]; intro hh
     rcases (hfk _ hxk).1 hh with h1 | ⟨r,hr,h1⟩
     ·rw [hunseen k] at h1; cases h1
     ·have:=itr_diff pa hin (x:=r) (y:=k) (by omega) (by omega) h1; omega
    rw [hno] at l1
    have e3:stV 1 (.ptr h.next (itr a i k)) (.bool true) h'' = some (aundef,h''.set h.next (.cells (bc n fun j => j == itr a i k || fk j) true)):=by
     have hs:=stV_tbl (x := .bool true) r'' hxk rfl
     rw [hs]
     congr 3
     unfold bc
     congr 1
     refine tbl_congr fun j hj => ?_
     by_cases ej:j = itr a i k <;> simp [ej]
    have c3:Chg (fun j => j = h.next) h'' (h''.set h.next (.cells (bc n fun j => j == itr a i k || fk j) true)):=Chg.set (F:=fun j => j = h.next) h'' rfl _
    have r3:(h''.set h.next (.cells (bc n fun j => j == itr a i k || fk j) true)).get h.next = some (.cells (bc n fun j => j == itr a i k || fk j) true):=AHeap.get_set_same _ _ _
    have ow3:=ow.chg c3 fun j hj e => by have:=frc j hj; omega
    simp (disch:=omega) only [RSf.down,iad,l1,e3]
    have nx3:(h''.set h.next (.cells (bc n fun j => j == itr a i k || fk j) true)).next = h''.next:=rfl
    generalize h''.set h.next (.cells (bc n fun j => j == itr a i k || fk j) true) = h3 at c3 r3 ow3 nx3 e3 ⊢
    obtain ⟨vc',h4,k1,k2,k3,k4,k5⟩:=ow3.app1 (bytes:=8) (c:=[.int .i64 ((itr a i k:Nat):Int)]) rfl rfl (by decide) (by omega)
    have r4:h4.get h.next = some (.cells (bc n fun j => j == itr a i k || fk j) true):=by rw [k3.same _ (by omega) fun e => by have:=frc _ e; omega]; exact r3
    have ch4:Chg (fun j => j = h.next) hB h4:=(ch.trans c3 fun _ _ hj => hj).trans k3 fun j hj e => by have:=frc j e; omega
    have g4:Gro h h4:=gB.chg_new ch4 fun j hj => by omega
    have i5:=ha.iaddr (q := .i64) (k:=itr a i k) (by rw [pa.len]; exact hxk)
    have l5:=(PmAt.gro ha g4).load (k:=itr a i k) (by rw [pa.len]; exact hxk)
    simp (disch:=omega) only [RSf.down,k1,i5,l5]
    refine next2 hkm _ ⟨by omega,_,_,vc',_,h4,rfl,rfl,ch4,r4,fun x hx => ?_,?_,fun j hj => by rw [k4] at hj; cases hj; have:=ch.le; omega⟩
    ·rw [Bool.or_eq_true,hfk x hx,beq_iff_eq]
     constructor
     ·rintro (e | e | ⟨r,hr,e⟩)
      ·exact .inr ⟨k,by omega,e.symm⟩
      ·exact .inl e
      ·exact .inr ⟨r,by omega,e⟩
     ·rintro (e | ⟨r,hr,e⟩)
      ·exact .inr (.inl e)
      ·by_cases er:r = k
       ·subst er; exact .inl e.symm
       ·exact .inr (.inr ⟨r,by omega,e⟩)
    ·have : pc ((List.range (k + 1)).map (itr a i)) = pc ((List.range k).map (itr a i)) ++ [.int .i64 ((itr a i k : Nat) : Int)] := by
      rw [List.range_succ,List.map_append]; unfold pc; rw [List.map_append]; rfl
     rw [this]; exact k2
   ·obtain rfl:k = m:=by omega
    have hyes:fk (itr a i k) = true:=(hfk _ hxk).2 (.inr ⟨0,cpos,cs.1.symm⟩)
    rw [hyes] at l1
    have lenc:lenV 1 vc h'' = some (.int .i64 (k:Int)):=by
     have:=ow.at.len (h':=h'')
     rw [pc_len,List.length_map,List.length_range] at this; exact this
    have hfin:∀ x,x < n -> (fk x = true ↔ ∃ j,j < i + 1 /\ Cyd a j x):=fun x hx => by
     rw [hfk x hx,hsucc,hf x hx]
     constructor
     ·rintro (e | ⟨r,_,e⟩)
      ·exact .inl e
      ·exact .inr ⟨r,e⟩
     ·rintro (e | ⟨r,e⟩)
      ·exact .inl e
      ·refine .inr ⟨r % k,Nat.mod_lt _ cpos,?_⟩
       rw [<- e,itr_mod pa hin r,hm]
    have sf:Soft (fun j => j = h.next) hB:=fun j _ e => .inr ⟨bc n f,true,by rw [e]; exact rB,bc_sls⟩
    have P'':=P.stayG ch sf fun j hj e => by have:=fr j hj; omega
    by_cases h2:k < 2
    ·have hb : isBig n a i = false := by
      rw [Bool.eq_false_iff]; intro hh
      have:=(isBig_iff.1 hh).2; omega
     have hcy:cycL n a (i + 1) = cycL n a i:=by
      unfold cycL; rw [bigL_succ,hb,if_neg (by decide),List.append_nil]
     simp (disch:=omega) only [RSf.down,WX_block_ne,iad,l1,lenc,lssT,add1N]
     exact next hin _ ⟨by omega,_,_,_,vo,co,fk,h'',rfl,g'',lt'',r'',hfin,by rw [hcy]; exact P'',fr⟩
    ·have hb:isBig n a i = true:=isBig_iff.2 ⟨hldr,by omega⟩
     have hcy:cycL n a (i + 1) = cycL n a i ++ [(List.range k).map (itr a i)]:=by
      unfold cycL; rw [bigL_succ,hb,if_pos rfl,List.map_append,List.map_cons,List.map_nil,hm]
     have hcl:(cycL n a i).length <= 1000000:=by
      have h1:=List.length_filter_le (isBig n a) (List.range i)
      rw [List.length_range] at h1
      unfold cycL bigL; rw [List.length_map]; omega
     have pvc:PmAt h'' vc ((List.range k).map (itr a i)):=ow.at
     obtain ⟨b0,vo',h4,k1,k2,k3,k4,k5⟩:=P''.app pvc hcl
     simp (disch:=omega) only [RSf.down,WX_block_ne,iad,l1,lenc,lssF,b0,k1,add1N]
     refine next hin _ ⟨by omega,_,_,_,vo',_,fk,h4,rfl,g''.chg_new k3 fun j hj => by have:=fr j hj; omega,by omega,by rw [k3.same _ lt'' fun e => by have:=fr _ e; omega]; exact r'',hfin,by rw [hcy]; exact k2,fun j hj => by rw [k4] at hj; cases hj; omega⟩
 ·obtain rfl:i = n:=by omega
  simp (disch:=omega) only [RSf.down,lssF]
  exact ⟨(fun i hi => by cases hi),_,rfl,co,P,gB⟩
end
end Go.AM
namespace Go.AM
open Go Go.GT
theorem pm_push (h:AHeap) (p:Pm):PmAt (h.push (.cells (pc p) true)) (.slice h.next 0 p.length (.exact p.length)) p:=by
 have:=tab_at (h:=h.push (.cells (pc p) true)) (i:=h.next) (Nat.lt_succ_self _) (AHeap.get_push_same h _) (pc_len (p:=p)) (show capOK 1 p.length (.exact p.length) from Nat.le_refl _)
 exact this
theorem ints_push (h:AHeap) (p:List Int):IAt (h.push (.cells (ic p) true)) (.slice h.next 0 p.length (.exact p.length)) p:=by
 have:=tab_at (h:=h.push (.cells (ic p) true)) (i:=h.next) (Nat.lt_succ_self _) (AHeap.get_push_same h _) (ic_len (l:=p)) (show capOK 1 p.length (.exact p.length) from Nat.le_refl _)
 exact this
section
variable {I:Oracle} {f:Nat} (hf:otab.get f = some of99) (hI:∀ a h,I f a h = none) {h:AHeap}
include hf hI
theorem three_fn:∃ vg h',lim otab.get I (.fn f) [] h = some (.agg [.int .i64 3,vg],h') /\ LsAt h' vg [[1,0,2], [1,2,0]] /\ Gro h h':=by
 refine (lim_walk_ex (T:=otab.get) (I:=I) (f:=f) (fn:=of99) hf (a:=[]) (h:=h) (P:=fun a h' => ∃ vg,a = .agg [.int .i64 3,vg] /\ LsAt h' vg [[1,0,2], [1,2,0]] /\ Gro h h') (hI _ _) ?_) |> fun ⟨a,h',e,vg,q1,q2⟩ => ⟨vg,h',by rw [e,q1],q2⟩
 show WK _ _ [] ⟨[aundef,aundef,aundef],h⟩ _
 dsimp only [of99,Z.t,Z.f,Z.i,Z.q,Z.m,Z.l,Z.b,Z.c,Z.w]
 have g1:=Gro.push h (.cells [.int .i64 0, .nils] true)
 have q1:=AHeap.get_push_same h (.cells [.int .i64 0, .nils] true)
 have x1:(h.push (.cells [.int .i64 0, .nils] true)).next = h.next + 1:=rfl
 simp (disch:=omega) only [RSe.down]
 generalize h.push (.cells [.int .i64 0, .nils] true) = h1 at g1 q1 x1 ⊢
 have e2:∀ tm:List AV,evalA (.bslice 3 1 [.int .i64 0, .int .i64 0, .int .i64 0] [(0, .lit (.int .i64 1)),(1, .lit (.int .i64 0)),(2, .lit (.int .i64 2))]) tm h1 = some (.cells (ic [1,0,2]) true, .slice h1.next 0 3 (.exact 3)):=fun _ => rfl
 rw [e2]
 have p2:=ints_push h1 [1,0,2]
 have g2:=Gro.push h1 (.cells (ic [1,0,2]) true)
 have x2:(h1.push (.cells (ic [1,0,2]) true)).next = h.next + 2:=by rw [AHeap.next_push,x1]
 simp (disch:=omega) only [RSe.down]
 generalize h1.push (.cells (ic [1,0,2]) true) = h2 at p2 g2 x2 ⊢
 have e3:∀ tm:List AV,evalA (.bslice 3 1 [.int .i64 0, .int .i64 0, .int .i64 0] [(0, .lit (.int .i64 1)),(1, .lit (.int .i64 2)),(2, .lit (.int .i64 0))]) tm h2 = some (.cells (ic [1,2,0]) true, .slice h2.next 0 3 (.exact 3)):=fun _ => rfl
 rw [e3]
 have p3:=ints_push h2 [1,2,0]
 have g3:=Gro.push h2 (.cells (ic [1,2,0]) true)
 have x3:(h2.push (.cells (ic [1,2,0]) true)).next = h.next + 3:=by rw [AHeap.next_push,x2]
 have p2':=IAt.gro p2 g3
 simp (disch:=omega) only [RSe.down]
 generalize h2.push (.cells (ic [1,2,0]) true) = h3 at p3 g3 x3 p2' ⊢
 have e4:∀ tm:List AV,nth tm 1 = .slice h1.next 0 3 (.exact 3) -> nth tm 2 = .slice h2.next 0 3 (.exact 3) -> evalA (.bslice 2 1 [.nils, .nils] [(0, .tmp 1),(1, .tmp 2)]) tm h3 = some (.cells [.slice h1.next 0 3 (.exact 3), .slice h2.next 0 3 (.exact 3)] true, .slice h3.next 0 2 (.exact 2)):=fun tm a b => by
  simp only [evalA,fillsS,ev_tmp,a,b]; rfl
 rw [e4 _ rfl rfl]
 have p4:SlAt (h3.push (.cells [.slice h1.next 0 3 (.exact 3), .slice h2.next 0 3 (.exact 3)] true)) (.slice h3.next 0 2 (.exact 2)) [.slice h1.next 0 3 (.exact 3), .slice h2.next 0 3 (.exact 3)]:=tab_at (Nat.lt_succ_self _) (AHeap.get_push_same h3 _) rfl (Nat.le_refl _)
 have g4:=Gro.push h3 (.cells [.slice h1.next 0 3 (.exact 3), .slice h2.next 0 3 (.exact 3)] true)
 simp (disch:=omega) only [RSe.down]
 generalize h3.push (.cells [.slice h1.next 0 3 (.exact 3), .slice h2.next 0 3 (.exact 3)] true) = h4 at p4 g4 ⊢
 have e5:∀ tm:List AV,nth tm 1 = .slice h3.next 0 2 (.exact 2) -> evalQ (.build [.int .i64 0, .nils] [(0,1, .lit (.int .i64 3)),(1,1, .tmp 1)]) tm h4 = some (.agg [.int .i64 3, .slice h3.next 0 2 (.exact 2)]):=fun tm a => by
  simp only [evalQ,fills,ev_tmp,ev_lit,a]; rfl
 rw [e5 _ rfl]
 have g14:=(g2.trans g3).trans g4
 have q4:h4.get h.next = some (.cells [.int .i64 0, .nils] true):=by rw [g14.same _ (by omega)]; exact q1
 have e6:stV 2 (.ptr h.next 0) (.agg [.int .i64 3, .slice h3.next 0 2 (.exact 2)]) h4 = some (aundef,h4.set h.next (.cells [.int .i64 3, .slice h3.next 0 2 (.exact 2)] true)):=stV_two q4 rfl rfl
 simp (disch:=omega) only [RSe.down,e6]
 refine ⟨(fun i hi => by cases hi), .agg [.int .i64 3, .slice h3.next 0 2 (.exact 2)],result_cell rfl (loadV_two (AHeap.get_set_same _ _ _)),_,rfl,?_,(g1.trans g14).set (Nat.le_refl _) _⟩
 have cg:Chg (fun j => j = h.next) h4 (h4.set h.next (.cells [.int .i64 3, .slice h3.next 0 2 (.exact 2)] true)):=Chg.set (F:=fun j => j = h.next) h4 rfl _
 have a1:=SlAt.chg (IAt.gro p2' g4) cg fun j hj e => by cases hj; omega
 have a2:=SlAt.chg (IAt.gro p3 g4) cg fun j hj e => by cases hj; omega
 have a3:=SlAt.chg p4 cg fun j hj e => by cases hj; omega
 refine ⟨_,a3,rfl,fun i a x hi hx => ?_⟩
 match i,hi,hx with
 | 0,hi,hx => cases hi; cases hx; exact a1
 | 1,hi,hx => cases hi; cases hx; exact a2
 | i + 2,hi,hx => simp at hi
end
end Go.AM
namespace Go.AM
open Go Go.GT
def PmB (h:AHeap) (v:AV) (p:Pm):Prop:=PmAt h v p /\ p.length <= 1000000
theorem PL.bd {h:AHeap} {v:AV} {c:List AV} {L:List Pm} (p:PL h v c L) (hb:∀ H ∈ L,H.length <= 1000000):LAt PmB h v L :=
 ⟨c,p.own.at,p.len,fun i a x hi hx => ⟨p.el i a x hi hx,hb x (List.mem_of_getElem? hx)⟩⟩
end Go.AM
namespace Go.AM
open Go Go.GT
theorem remN {e:EqK} {n d:Nat} (hd:0 < d) (hn:n <= 4611686018427387904):bin .rem e (.int .i64 (n:Int)) (.int .i64 (d:Int)) = some (.int .i64 ((n % d:Nat):Int)):=by
 rw [rem_pos (by omega) (by omega)]; rfl
theorem quoN {e:EqK} {n d:Nat} (hd:0 < d) (hn:n <= 4611686018427387904):bin .quo e (.int .i64 (n:Int)) (.int .i64 (d:Int)) = some (.int .i64 ((n / d:Nat):Int)):=by
 rw [quo_pos (by omega) (by omega) (by omega)]; rfl
end Go.AM
namespace Go.AM
open Go Go.GT
def lcmF (L:List Nat):Nat:=L.foldl Nat.lcm 1
theorem lcmF_snoc {L:List Nat} {x:Nat}:lcmF (L ++ [x]) = Nat.lcm (lcmF L) x:=by unfold lcmF; rw [List.foldl_append]; rfl
theorem lcmF_pos:∀ {L:List Nat},(∀ x ∈ L,0 < x) -> 0 < lcmF L:=fun {L} => by
 have key:∀ (L:List Nat) (a:Nat),0 < a -> (∀ x ∈ L,0 < x) -> 0 < L.foldl Nat.lcm a:=fun L => by
  induction L with
  | nil => intro a ha _; exact ha
  | cons x L ih => intro a ha h; exact ih _ (Nat.lcm_pos ha (h x (.head _))) fun y hy => h y (.tail _ hy)
 exact key L 1 (by decide)
theorem lcmF_dvd {L:List Nat}:∀ x ∈ L,x ∣ lcmF L:=by
 have key:∀ (L:List Nat) (a:Nat),a ∣ L.foldl Nat.lcm a /\ ∀ x ∈ L,x ∣ L.foldl Nat.lcm a:=fun L => by
  induction L with
  | nil => intro a; exact ⟨Nat.dvd_refl a,fun x hx => by cases hx⟩
  | cons x L ih =>
   intro a
   obtain ⟨h1,h2⟩:=ih (Nat.lcm a x)
   refine ⟨Nat.dvd_trans (Nat.dvd_lcm_left a x) h1,fun y hy => ?_⟩
   rcases List.mem_cons.1 hy with rfl | hy
   ·exact Nat.dvd_trans (Nat.dvd_lcm_right a y) h1
   ·exact h2 y hy
 exact (key L 1).2
theorem lcmF_le {L:List Nat}:lcmF L <= 2 ^ L.sum:=by
 have key:∀ (L:List Nat) (a s:Nat),a <= 2 ^ s -> L.foldl Nat.lcm a <= 2 ^ (s + L.sum):=fun L => by
  induction L with
  | nil => intro a s h; simpa using h
  | cons x L ih =>
   intro a s h
   rw [List.foldl_cons,List.sum_cons, <- Nat.add_assoc]
   refine ih _ _ ?_
   have h1:Nat.lcm a x <= a * x:=Nat.div_le_self _ _
   have h2:x <= 2 ^ x:=Nat.le_of_lt Nat.lt_two_pow_self
   exact Nat.le_trans h1 (by rw [Nat.pow_add]; exact Nat.mul_le_mul h h2)
 have:=key L 1 0 (by decide)
 rwa [Nat.zero_add] at this
theorem tmod_emod (e:Int) {m:Nat} (hm:0 < m):(e.tmod (m:Int) + m).tmod (m:Int) = e % (m:Int):=by
 have h0:(0:Int) < m:=by omega
 have h1:e.tmod m = e % m \/ e.tmod m = e % m - m:=by
  rw [Int.tmod_eq_emod]
  split
  ·left; omega
  ·right
   have:((m:Int).natAbs:Int) = m:=by omega
   omega
 have h2:=Int.emod_nonneg e (show (m:Int) ≠ 0 by omega)
 have h3:=Int.emod_lt_of_pos e h0
 rcases h1 with h1 | h1
 ·rw [h1,Int.tmod_eq_emod_of_nonneg (by omega),Int.add_emod_right,Int.emod_emod_of_dvd _ (Int.dvd_refl _)]
 ·rw [h1,show e % (m:Int) - m + m = e % m by omega,Int.tmod_eq_emod_of_nonneg h2,Int.emod_emod_of_dvd _ (Int.dvd_refl _)]
section
variable {I:Oracle} (hNo:NoI I) {h:AHeap}
include hNo
theorem order_spec {n : Nat} {va : AV} {a : Pm} (ha : PmAt h va a) (pa : PV n a) (hn : n <= 20) :
  ∃ m h',lim otab.get I (.fn 202) [va] h = some (.int .i64 ((m:Nat):Int),h') /\ 0 < m /\ m <= 1048576 /\ pw n a m = one n /\ Gro h h':=by
 obtain ⟨v,c,h2,f2,P,g2⟩:=cycles_spec hNo ha pa hn
 have hcyl:(cycL n a n).length = (bigL n a n).length:=by unfold cycL; rw [List.length_map]
 have hlen20:(cycL n a n).length <= 20:=by rw [hcyl]; exact Nat.le_trans (Nat.le_trans (List.length_filter_le _ _) (by rw [List.length_range]; exact Nat.le_refl _)) hn
 have hsum:((bigL n a n).map (clen n a)).sum <= 20:=Nat.le_trans (sum_bigL pa) hn
 have hsumk:∀ k,(((bigL n a n).map (clen n a)).take k).sum <= 20:=fun k => by
  have h1:(((bigL n a n).map (clen n a)).take k).sum + (((bigL n a n).map (clen n a)).drop k).sum = ((bigL n a n).map (clen n a)).sum:=by rw [<- List.sum_append_nat,List.take_append_drop]
  omega
 have hpow:∀ k,lcmF (((bigL n a n).map (clen n a)).take k) <= 1048576:=fun k => by
  refine Nat.le_trans lcmF_le ?_
  have:2 ^ (((bigL n a n).map (clen n a)).take k).sum <= 2 ^ 20:=Nat.pow_le_pow_right (by decide) (hsumk k)
  exact this
 have hpos:∀ k,0 < lcmF (((bigL n a n).map (clen n a)).take k):=fun k => lcmF_pos fun x hx => by
  obtain ⟨j,_,rfl⟩:=List.mem_map.1 (List.mem_of_mem_take hx)
  exact clen_pos
 refine (lim_walk_ex (T:=otab.get) (I:=I) (f:=202) (fn:=of202) rfl (a:=[va]) (h:=h) (P:=fun v h' => ∃ m:Nat,v = .int .i64 (m:Int) /\ 0 < m /\ m <= 1048576 /\ pw n a m = one n /\ Gro h h') (hNo.at _ _ (by decide) (by decide) (by decide)) ?_) |> fun ⟨v,h',e,m,q1,q2⟩ => ⟨m,h',by rw [e,q1],q2⟩
 show WK _ _ [] ⟨[va,aundef,aundef,aundef,aundef,aundef,aundef,aundef],h⟩ _
 dsimp only [of202,Z.t,Z.f,Z.i,Z.q,Z.m,Z.l,Z.b,Z.c,Z.w]
 simp (disch:=omega) only [RSf.down,f2,P.pms.len]
 refine WK_loopJ (fun k s => k <= (cycL n a n).length /\ ∃ y0 y1 y2 y5,s = ⟨[y0,y1,y2, .int .i64 (k:Int), .int .i64 ((lcmF (((bigL n a n).map (clen n a)).take k):Nat):Int),y5,v, .int .i64 ((cycL n a n).length:Int)],h2⟩) (cycL n a n).length
  ⟨Nat.zero_le _,_,_,_,_,rfl⟩ ?_
 rintro k hk _ ⟨_,y0,y1,y2,y5,rfl⟩ next
 by_cases hkl:k < (cycL n a n).length
 ·obtain ⟨j,hj⟩:=get_some (show k < (bigL n a n).length by omega)
  have hc:(cycL n a n)[k]? = some ((List.range (clen n a j)).map (itr a j)):=by unfold cycL; rw [List.getElem?_map,hj]; rfl
  obtain ⟨i1,b,i2,i3⟩:=P.pms.get hc
  have hb:lenV 1 b h2 = some (.int .i64 ((clen n a j:Nat):Int)):=by
   have:=i3.len (h':=h2)
   rwa [List.length_map,List.length_range] at this
  have ht:((bigL n a n).map (clen n a)).take (k + 1) = ((bigL n a n).map (clen n a)).take k ++ [clen n a j]:=take_succ_get (by rw [List.getElem?_map,hj]; rfl)
  have hl:=lcmF_snoc (L:=((bigL n a n).map (clen n a)).take k) (x:=clen n a j)
  have hp1:=hpow k
  have hp0:=hpos k
  have hcl:clen n a j <= 20:=Nat.le_trans (clen_spec pa (mem_bigL.1 (List.mem_of_getElem? hj)).1).2.1 hn
  generalize hlo:lcmF (((bigL n a n).map (clen n a)).take k) = lo at hl hp1 hp0
  generalize hcn:clen n a j = cn at hb ht hl hcl
  simp (disch:=omega) only [RSf.down,lssT,i1,i2,hb]
  refine WK_loopM (fun m s => ∃ g hh y2,s = ⟨[.int .i64 ((hh:Nat):Int), .int .i64 ((g:Nat):Int),y2, .int .i64 (k:Int), .int .i64 ((lo:Nat):Int),b,v, .int .i64 ((cycL n a n).length:Int)],h2⟩ /\ hh = m /\ Nat.gcd g hh = Nat.gcd lo cn /\ g <= 1048576 /\ hh <= 1048576) ?_ cn _ ⟨lo,cn,_,rfl,rfl,rfl,by omega,by omega⟩
  rintro m _ ⟨g,hh,y2,rfl,rfl,hgcd,hg1,hh1⟩ more
  by_cases hz:0 < hh
  ·have r1:=remN (e := .no) (n:=g) (d:=hh) hz (by omega)
   simp (disch:=omega) only [RSf.down,gtrT,r1]
   refine more (g % hh) _ (Nat.mod_lt _ hz) ⟨hh,g % hh,_,rfl,rfl,?_,hh1,by have:=Nat.mod_lt g hz; omega⟩
   rw [<- hgcd,Nat.gcd_comm g hh,Nat.gcd_rec hh g,Nat.gcd_comm]
  ·obtain rfl:hh = 0:=by omega
   rw [Nat.gcd_zero_right] at hgcd
   have hgp:0 < g:=by rw [hgcd]; exact Nat.gcd_pos_of_pos_left _ hp0
   have q1:=quoN (e := .no) (n:=lo) (d:=g) hgp (by omega)
   have hq:lo / g * cn = Nat.lcm lo cn:=by
    rw [hgcd]
    show lo / Nat.gcd lo cn * cn = lo * cn / Nat.gcd lo cn
    rw [Nat.div_mul_right_comm (Nat.gcd_dvd_left lo cn)]
   have hmul:lo / g * cn < 4611686018427387904:=by
    have h1:lo / g <= lo:=Nat.div_le_self _ _
    have h2:lo / g * cn <= 1048576 * 20:=Nat.mul_le_mul (by omega) hcl
    omega
   have m1:=mulN (e := .no) hmul
   simp (disch:=omega) only [RSf.down,gtrF,q1,hb,m1,add1N]
   rw [hq, <- hl, <- ht]
   exact next hkl _ ⟨by omega,_,_,_,_,rfl⟩
 ·obtain rfl:k = (cycL n a n).length:=by omega
  simp (disch:=omega) only [RSf.down,lssF]
  have ht:((bigL n a n).map (clen n a)).take (cycL n a n).length = (bigL n a n).map (clen n a):=List.take_of_length_le (by rw [List.length_map,hcyl]; exact Nat.le_refl _)
  have h1:=hpos (cycL n a n).length
  have h2':=hpow (cycL n a n).length
  rw [ht] at h1 h2' ⊢
  exact ⟨(fun i hi => by cases hi),_,rfl,_,rfl,h1,h2',pw_one_of pa fun j hj => lcmF_dvd _ (List.mem_map.2 ⟨j,hj,rfl⟩),g2⟩
theorem ppow_spec {n : Nat} {va : AV} {a : Pm} (ha : PmAt h va a) (pa : PV n a) (hn : n <= 20) (e : Int) :
  ∃ v h',lim otab.get I (.fn 138) [va, .int .i64 e] h = some (.tup [v, .int .i64 0],h') /\ NewPm h h' v (zpw n a e):=by
 refine (lim_walk_ex (T:=otab.get) (I:=I) (f:=138) (fn:=of138) rfl (a:=[va, .int .i64 e]) (h:=h) (P:=fun r h' => ∃ v,r = .tup [v, .int .i64 0] /\ NewPm h h' v (zpw n a e)) (hNo.at _ _ (by decide) (by decide) (by decide)) ?_) |> fun ⟨r,h',e,v,q1,q2⟩ => ⟨v,h',by rw [e,q1],q2⟩
 show WK _ _ [] ⟨[va, .int .i64 e,aundef,aundef,aundef],h⟩ _
 dsimp only [of138,Z.t,Z.f,Z.i,Z.q,Z.m,Z.l,Z.b,Z.c,Z.w]
 have fc:=pcheck hNo (h:=h) (PmAt.ints ha)
 rw [ok_of_perm pa hn] at fc
 obtain ⟨m,h2,f2,m0,m1,hpm,g2⟩:=order_spec hNo ha pa hn
 have hlen:∀ {h':AHeap},lenV 1 va h' = some (.int .i64 (n:Int)):=fun {h'} => by rw [ha.len,pa.len]
 obtain ⟨v3,h3,f3,n3⟩:=id_fn (I:=I) (h:=h2) (f:=203) (n:=n) rfl (fun _ _ => hNo.at _ _ (by decide) (by decide) (by decide)) (by omega)
 have e1:bin .rem .no (.int .i64 e) (.int .i64 (m:Int)) = some (.int .i64 (e.tmod (m:Int))):=rem_i64 (by omega)
 have hb1 : -(m:Int) < e.tmod m /\ e.tmod m < m:=by
  rw [Int.tmod_eq_emod]
  have h2:=Int.emod_nonneg e (show (m:Int) ≠ 0 by omega)
  have h3:=Int.emod_lt_of_pos e (show (0:Int) < m by omega)
  split <;> omega
 have e2:bin .add .no (.int .i64 (e.tmod (m:Int))) (.int .i64 (m:Int)) = some (.int .i64 (e.tmod (m:Int) + m)):=add_i64 (by omega) (by omega)
 have e3:bin .rem .no (.int .i64 (e.tmod (m:Int) + m)) (.int .i64 (m:Int)) = some (.int .i64 (((e % (m:Int)).toNat:Nat):Int)):=by
  rw [rem_i64 (by omega),tmod_emod e m0,Int.toNat_of_nonneg (Int.emod_nonneg _ (by omega))]
 have hz:=zpw_mod pa m0 hpm e
 have hr:(e % (m:Int)).toNat <= 1048576:=by
  have h3:=Int.emod_lt_of_pos e (show (0:Int) < m by omega)
  omega
 generalize (e % (m:Int)).toNat = r at e3 hz hr
 simp (disch:=omega) only [RSf.down,fc,neqF,f2,hlen,f3,e1,e2,e3]
 refine WK_loopJ (fun k s => k <= r /\ ∃ v2 y3 h',s = ⟨[va, .int .i64 (k:Int),v2,y3, .int .i64 (r:Int)],h'⟩ /\ Gro h h' /\ PmAt h' v2 (pw n a k) /\ ∃ i cap,v2 = .slice i 0 n cap /\ h.next <= i) r
  ⟨Nat.zero_le _,v3,_,h3,rfl,g2.trans n3.gro,n3.at_,by obtain ⟨i,cap,q1,q2⟩:=n3.new; exact ⟨i,cap,by rw [q1,(PV.one n).len],by have:=g2.le; omega⟩⟩ ?_
 rintro k hk _ ⟨_,v2,y3,h',rfl,g,p2,hn2⟩ next
 by_cases hkr:k < r
 ·obtain ⟨v4,h4,f4,n4⟩:=mul_fn (I:=I) (f:=174) rfl (fun _ _ => hNo.at _ _ (by decide) (by decide) (by decide)) p2 (PmAt.gro ha g) (pa.pw k) pa (by omega)
  simp (disch:=omega) only [RSf.down,lssT,f4,add1N]
  exact next hkr _ ⟨by omega,v4,_,h4,rfl,g.trans n4.gro,n4.at_,by obtain ⟨i,cap,q1,q2⟩:=n4.new; exact ⟨i,cap,by rw [q1,((pa.pw k).mul pa).len],by have:=g.le; omega⟩⟩
 ·obtain rfl:k = r:=by omega
  simp (disch:=omega) only [RSf.down,lssF]
  obtain ⟨i,cap,q1,q2⟩:=hn2
  exact ⟨(fun i hi => by cases hi),_,rfl,v2,rfl,by rw [hz]; exact p2,g,⟨i,cap,by rw [q1,(zpw_pv pa e).len],q2⟩⟩
end
end Go.AM
namespace Go.AM
open Go Go.GT
theorem LsAt.sc {h:AHeap} {v:AV} {ls:List (List Int)} (s:LsAt h v ls):v.scalar = true:=by
 obtain ⟨c,s1,_⟩:=s
 exact s1.scalar
theorem gs_one {h:AHeap} {d:Int} {vg:AV} {ls:List (List Int)} (hg:LsAt h vg ls):GsAt (h.push (.cells [.int .i64 d,vg] true)) (.slice h.next 0 1 (.exact 1)) [(d,vg,ls)] :=
 ⟨⟨h.next,rfl,Nat.lt_succ_self _,AHeap.get_push_same _ _⟩,fun g hm => by
  obtain rfl:=List.mem_singleton.1 hm
  exact ⟨hg.gro (Gro.push h _),hg.sc⟩⟩
theorem gs_two {h:AHeap} {d d2:Int} {vg vg2:AV} {ls ls2:List (List Int)} (hg:LsAt h vg ls) (hg2:LsAt h vg2 ls2):GsAt (h.push (.cells [.int .i64 d,vg, .int .i64 d2,vg2] true)) (.slice h.next 0 2 (.exact 2)) [(d,vg,ls),(d2,vg2,ls2)] :=
 ⟨⟨h.next,rfl,Nat.lt_succ_self _,AHeap.get_push_same _ _⟩,fun g hm => by
  rcases List.mem_cons.1 hm with rfl | hm
  ·exact ⟨hg.gro (Gro.push h _),hg.sc⟩
  ·obtain rfl:=List.mem_singleton.1 hm
   exact ⟨hg2.gro (Gro.push h _),hg2.sc⟩⟩
theorem ls_one {h:AHeap} {v:AV} {p:List Int} (hv:IAt h v p):LsAt (h.push (.cells [v] true)) (.slice h.next 0 1 (.exact 1)) [p] :=
 ⟨[v],tab_at (Nat.lt_succ_self _) (AHeap.get_push_same h _) rfl (Nat.le_refl _),rfl,fun i a x h1 h2 => by
  rcases i with _ | i
  ·cases h1; cases h2; exact SlAt.gro hv (Gro.push h _)
  ·cases h1⟩
theorem ls_nil {h:AHeap}:LsAt h .nils []:=⟨[], .inl ⟨rfl,rfl⟩,rfl,fun i a x h1 _ => by cases h1⟩
theorem ev_bs1 {d:Int} {vg:AV} {k:Nat} {h:AHeap} (tm:List AV) (e:nth tm k = .agg [.int .i64 d,vg]):evalA (.bslice 1 2 [.int .i64 0, .nils] [(0, .tmp k)]) tm h = some (.cells [.int .i64 d,vg] true, .slice h.next 0 1 (.exact 1)):=by
 simp only [evalA,fillsS,ev_tmp,e]; rfl
theorem ev_bs2 {d d2:Int} {vg vg2:AV} {k m:Nat} {h:AHeap} (tm:List AV) (e:nth tm k = .agg [.int .i64 d,vg]) (e2:nth tm m = .agg [.int .i64 d2,vg2]):evalA (.bslice 2 2 [.int .i64 0, .nils, .int .i64 0, .nils] [(0, .tmp k),(1, .tmp m)]) tm h = some (.cells [.int .i64 d,vg, .int .i64 d2,vg2] true, .slice h.next 0 2 (.exact 2)):=by
 simp only [evalA,fillsS,ev_tmp,e,e2]; rfl
def jE (d:Int) (ls:List (List Int)) (Ps:List (List Int)):Int:=if groupErr d ls ≠ 0 then groupErr d ls else firstE (fun i => genErr d (Ps.getD i [])) Ps.length
theorem chk_one {d:Int} {vg:AV} {ls Ps:List (List Int)}:chkE [(d,vg,ls)] Ps = jE d ls Ps:=by
 have e1:firstE (gE [(d,vg,ls)]) 1 = groupErr d ls:=rfl
 have e2:firstE (dgE [(d,vg,ls)]) 1 = 0:=by
  show dgE [(d,vg,ls)] 0 = 0
  unfold dgE; exact if_neg fun h => h rfl
 unfold chkE jE
 rw [show [(d,vg,ls)].length = 1 from rfl,e1,if_neg (show ¬ firstE (dgE [(d,vg,ls)]) 1 ≠ 0 from fun h => h e2)]
 rfl
theorem jE_nil {d:Int} {ls:List (List Int)}:jE d ls [] = groupErr d ls:=by
 unfold jE
 by_cases e:groupErr d ls = 0
 ·rw [if_neg fun h => h e,e]; rfl
 ·rw [if_pos e]
theorem jE_one {d:Int} {ls:List (List Int)} {p:List Int}:jE d ls [p] = if groupErr d ls ≠ 0 then groupErr d ls else genErr d p:=rfl
def jE2 (d:Int) (ls:List (List Int)) (d2:Int) (ls2:List (List Int)):Int:=if groupErr d ls ≠ 0 then groupErr d ls else if groupErr d2 ls2 ≠ 0 then groupErr d2 ls2 else if d2 ≠ d then 2 else 0
theorem chk_two {d d2:Int} {vg vg2:AV} {ls ls2:List (List Int)}:chkE [(d,vg,ls),(d2,vg2,ls2)] [] = jE2 d ls d2 ls2:=by
 have e1:firstE (gE [(d,vg,ls),(d2,vg2,ls2)]) 2 = if groupErr d ls ≠ 0 then groupErr d ls else groupErr d2 ls2:=rfl
 have e2:firstE (dgE [(d,vg,ls),(d2,vg2,ls2)]) 2 = if d2 ≠ d then 2 else 0:=by
  have e0:dgE [(d,vg,ls),(d2,vg2,ls2)] 0 = 0:=by unfold dgE; exact if_neg fun h => h rfl
  show (if dgE [(d,vg,ls),(d2,vg2,ls2)] 0 ≠ 0 then dgE [(d,vg,ls),(d2,vg2,ls2)] 0 else dgE [(d,vg,ls),(d2,vg2,ls2)] 1) = _
  rw [if_neg fun h => h e0]; rfl
 unfold chkE jE2
 rw [show [(d,vg,ls),(d2,vg2,ls2)].length = 2 from rfl,e1,e2]
 by_cases c1:groupErr d ls = 0
 ·rw [if_neg (show ¬ groupErr d ls ≠ 0 from fun h => h c1),if_neg (show ¬ groupErr d ls ≠ 0 from fun h => h c1)]
  by_cases c2:groupErr d2 ls2 = 0
  ·rw [if_neg (show ¬ groupErr d2 ls2 ≠ 0 from fun h => h c2),if_neg (show ¬ groupErr d2 ls2 ≠ 0 from fun h => h c2)]
   by_cases c3:d2 = d
   ·rw [if_neg (show ¬ d2 ≠ d from fun h => h c3),if_neg (fun h => h rfl)]; rfl
   ·rw [if_pos c3,if_pos (by decide)]
  ·rw [if_pos c2]; exact (if_pos c2).symm
 ·rw [if_pos c1]; rw [if_pos c1]; exact (if_pos c1).symm
theorem gen_pv {d:Int} {ls:List (List Int)} (hc:groupErr d ls = 0) {p:List Int} (hp:genErr d p = 0):p = zs (p.map Int.toNat) /\ PV d.toNat (p.map Int.toNat):=by
 have h0:degErr d = 0:=by
  by_cases e:degErr d = 0
  ·exact e
  ·unfold groupErr at hc; rw [if_pos e] at hc; exact hc
 have h1:groupErr d [p] = 0:=by
  unfold groupErr
  rw [if_neg fun h => h h0,if_neg (show ¬ 32 < [p].length from (by decide:¬ 32 < 1))]
  exact hp
 obtain ⟨n,rfl,_,_,h2,h3⟩:=group_of_ok h1
 refine ⟨?_,by rw [Int.toNat_natCast]; exact h3 _ (.head _)⟩
 have:[p] = [zs (p.map Int.toNat)]:=h2
 exact (List.cons.inj this).1
def HasEl (d:Int) (ls:List (List Int)):Prop:=groupErr d ls = 0 -> ∃ l,IsEl d.toNat (gS ls) l /\ l.length <= 5040
section
variable {I:Oracle} (hC:Cjc I) {h:AHeap}
include hC
theorem gClasses_spec {vg : AV} {ls : List (List Int)} (hg : LsAt h vg ls) (d : Int) (he : HasEl d ls) :
  ∃ v h',lim otab.get I (.fn 74) [.agg [.int .i64 d,vg]] h = some (.tup [v, .int .i64 (groupErr d ls)],h') /\ Gro h h' /\
   (groupErr d ls ≠ 0 -> v = .nils) /\ (groupErr d ls = 0 -> ∀ l,IsEl d.toNat (gS ls) l -> l.length <= 5040 -> ClsAt h' v l (reps l)):=by
 have hNo:=hC.srt.no
 refine (lim_walk_ex (T:=otab.get) (I:=I) (f:=74) (fn:=of74) rfl (a:=[.agg [.int .i64 d,vg]]) (h:=h) (P:=fun a h' => ∃ v,a = .tup [v, .int .i64 (groupErr d ls)] /\ Gro h h' /\ (groupErr d ls ≠ 0 -> v = .nils) /\ (groupErr d ls = 0 -> ∀ l,IsEl d.toNat (gS ls) l -> l.length <= 5040 -> ClsAt h' v l (reps l))) (hNo.at _ _ (by decide) (by decide) (by decide)) ?_) |> fun ⟨a,h',e,v,q1,q2⟩ => ⟨v,h',by rw [e,q1],q2⟩
 show WK _ _ [] ⟨[.agg [.int .i64 d,vg],aundef,aundef],h⟩ _
 dsimp only [of74,Z.t,Z.f,Z.i,Z.q,Z.m,Z.l,Z.b,Z.c,Z.w]
 have g1:=Gro.push h (.cells [.int .i64 d,vg] true)
 have ba:=fun {h'} (g:Gro _ h') => box_all (h:=h) (c:=[.int .i64 d,vg]) (r:=true) (h':=h') g (n:=2) rfl
 have b1:=ba (Gro.refl _)
 simp (disch:=omega) only [RSf.down,b1]
 generalize h.push (.cells [.int .i64 d,vg] true) = h1 at g1 ba b1 ⊢
 rw [ev_bs1 _ rfl]
 have G1:=gs_one (d:=d) (hg.gro g1)
 have g2:=Gro.push h1 (.cells [.int .i64 d,vg] true)
 simp (disch:=omega) only [RSf.down]
 generalize h1.push (.cells [.int .i64 d,vg] true) = h2 at G1 g2 ⊢
 obtain ⟨h4,f4,g4⟩:=jcheck_spec hNo G1 ls_nil (Nat.lt_succ_self 0) (show 1 <= 1000 by decide) (by decide) (fun g hm => by obtain rfl:=List.mem_singleton.1 hm; exact he)
 rw [chk_one,jE_nil] at f4
 by_cases hc:groupErr d ls = 0
 ·rw [hc] at f4 ⊢
  have b4:=ba (g2.trans g4)
  obtain ⟨l,hel,hl⟩:=he hc
  have gg:=g1.trans (g2.trans g4)
  obtain ⟨v5,c5,h5,f5,p5,g5,fr5⟩:=jelements_spec hNo hC.srt (hg.gro gg) hc hel hl
  obtain ⟨n,rfl,hn,_,_,hSv⟩:=group_of_ok hc
  rw [Int.toNat_natCast] at hel
  obtain ⟨v6,im,E,h6,f6,C6,_,_,g6,_⟩:=classes_spec hC hSv hel p5.pms hn hl
  simp (disch:=omega) only [RSf.down,f4,neqF,b4,f5,f6]
  refine ⟨(fun i hi => by cases hi),_,rfl,_,rfl,gg.trans (g5.trans g6),fun h => absurd rfl h,fun _ l' hl' hll => ?_⟩
  rw [Int.toNat_natCast] at hl'
  rw [hl'.unique hel]; exact C6
 ·simp (disch:=omega) only [RSf.down,f4,neqT hc]
  exact ⟨(fun i hi => by cases hi),_,rfl,_,rfl,g1.trans (g2.trans g4),fun _ => rfl,fun h => absurd h hc⟩
end
end Go.AM
namespace Go.AM
open Go Go.GT
theorem ClsAt.get {h:AHeap} {v:AV} {l R:List Pm} (s:ClsAt h v l R) {k:Nat} {r:Pm} (hi:R[k]? = some r):∃ i o a,(∀ q,iaddrV 2 v (.int q (k:Int)) = some (.ptr i o)) /\ loadV (some 2) (.ptr i o) h = some (.agg [a, .int .i64 ((ccl l r).length:Int)]) /\ loadV none (.ptr i o) h = some a /\ loadV none (.ptr i (o + 1)) h = some (.int .i64 ((ccl l r).length:Int)) /\ PmAt h a r:=by
 obtain ⟨c,o,e⟩:=s.ex
 obtain ⟨a,a1,a2,a3,_⟩:=e k r hi
 have hk:=(List.getElem?_eq_some_iff.1 hi).1
 have hcl:=o.length
 rcases o with ⟨_,e2,_⟩ | ⟨i,cap,rfl,_,_,e4,e5⟩
 ·omega
 ·refine ⟨i,0 + k * 2,a,fun q => iaddrV_ok hk,?_,loadV_get e5 (by rw [Nat.zero_add]; exact a1),loadV_get e5 (by rw [Nat.zero_add]; exact a2),a3⟩
  show (match cellsOf h i with | some c => fit (some 2) (0 + k * 2) c | none => none) = _
  rw [cellsOf_get e5,Nat.zero_add]
  show (match cut c (k * 2) 2 with | some l => some (AV.agg l) | none => none) = _
  have h1:=(List.getElem?_eq_some_iff.1 a1)
  have h2:=(List.getElem?_eq_some_iff.1 a2)
  obtain ⟨l1,g1⟩:=h1
  obtain ⟨l2,g2⟩:=h2
  rw [cut_some (by omega),List.drop_eq_getElem_cons l1,List.drop_eq_getElem_cons l2,g1,g2]
  rfl
section
variable {I:Oracle} (hC:Cjc I) {h:AHeap}
include hC
theorem gPow_spec {vg : AV} {ls : List (List Int)} (hg : LsAt h vg ls) (d ex : Int) (he : HasEl d ls) :
  ∃ v h',lim otab.get I (.fn 63) [.agg [.int .i64 d,vg], .int .i64 ex] h = some (.tup [v, .int .i64 (groupErr d ls)],h') /\ Gro h h' /\
   (groupErr d ls ≠ 0 -> v = .nils) /\ (groupErr d ls = 0 -> ∀ l,IsEl d.toNat (gS ls) l -> l.length <= 5040 -> PmAt h' v (pmp d.toNat l ex)):=by
 have hNo:=hC.srt.no
 refine (lim_walk_ex (T:=otab.get) (I:=I) (f:=63) (fn:=of63) rfl (a:=[.agg [.int .i64 d,vg], .int .i64 ex]) (h:=h) (P:=fun a h' => ∃ v,a = .tup [v, .int .i64 (groupErr d ls)] /\ Gro h h' /\ (groupErr d ls ≠ 0 -> v = .nils) /\ (groupErr d ls = 0 -> ∀ l,IsEl d.toNat (gS ls) l -> l.length <= 5040 -> PmAt h' v (pmp d.toNat l ex))) (hNo.at _ _ (by decide) (by decide) (by decide)) ?_) |> fun ⟨a,h',e,v,q1,q2⟩ => ⟨v,h',by rw [e,q1],q2⟩
 show WK _ _ [] ⟨[.agg [.int .i64 d,vg], .int .i64 ex,aundef,aundef,aundef,aundef,aundef,aundef,aundef],h⟩ _
 dsimp only [of63,Z.t,Z.f,Z.i,Z.q,Z.m,Z.l,Z.b,Z.c,Z.w]
 have g1:=Gro.push h (.cells [.int .i64 d,vg] true)
 have ba:=fun {h'} (g:Gro _ h') => box_all (h:=h) (c:=[.int .i64 d,vg]) (r:=true) (h':=h') g (n:=2) rfl
 have b1:=ba (Gro.refl _)
 simp (disch:=omega) only [RSf.down,b1]
 generalize h.push (.cells [.int .i64 d,vg] true) = h1 at g1 ba b1 ⊢
 rw [ev_bs1 _ rfl]
 have G1:=gs_one (d:=d) (hg.gro g1)
 have g2:=Gro.push h1 (.cells [.int .i64 d,vg] true)
 simp (disch:=omega) only [RSf.down]
 generalize h1.push (.cells [.int .i64 d,vg] true) = h2 at G1 g2 ⊢
 obtain ⟨h4,f4,g4⟩:=jcheck_spec hNo G1 ls_nil (Nat.lt_succ_self 0) (show 1 <= 1000 by decide) (by decide) (fun g hm => by obtain rfl:=List.mem_singleton.1 hm; exact he)
 rw [chk_one,jE_nil] at f4
 by_cases hc:groupErr d ls = 0
 ·rw [hc] at f4 ⊢
  have b4:=ba (g2.trans g4)
  obtain ⟨l,hel,hl⟩:=he hc
  have gg:=g1.trans (g2.trans g4)
  obtain ⟨v5,c5,h5,f5,p5,g5,fr5⟩:=jelements_spec hNo hC.srt (hg.gro gg) hc hel hl
  obtain ⟨n,rfl,hn,_,_,hSv⟩:=group_of_ok hc
  rw [Int.toNat_natCast] at hel
  obtain ⟨v6,im,E,h6,f6,C6,m6,i6,g6,hE⟩:=classes_spec hC hSv hel p5.pms hn hl
  simp (disch:=omega) only [RSf.down,f4,neqF,b4,f5,f6,C6.len]
  have gz:=gg.trans (g5.trans g6)
  have hrl:(reps l).length <= 5040:=Nat.le_trans reps_len hl
  have hpl:(pmp n l ex).length = (reps l).length:=pmp_len
  refine WK_loopJ (fun k s => k <= (reps l).length /\ ∃ y2 v3 y4 y5 h',s = ⟨[.int .i64 (k:Int), .int .i64 ex,y2,v3,y4,y5,v6, .map im, .int .i64 ((reps l).length:Int)],h'⟩ /\ Gro h6 h' /\ Own 1 h' v3 k (pc ((pmp n l ex).take k)) /\ ∀ j,oid v3 = some j -> h6.next <= j) (reps l).length
   ⟨Nat.zero_le _,_,_,_,_,h6,rfl,Gro.refl _,Own.nil,fun j hj => by cases hj⟩ ?_
  rintro k hk _ ⟨_,y2,v3,y4,y5,h',rfl,g',o3,fr3⟩ next
  by_cases hkl:k < (reps l).length
  ·obtain ⟨r,hr⟩:=get_some hkl
   obtain ⟨i1,o1,a,i2,i3,_,_,i5⟩:=(C6.gro g').get hr
   have prl:=(mem_reps.1 (List.mem_of_getElem? hr)).1
   have pr:=el_pv hSv hel prl
   have e7:stV 2 (.ptr h'.next 0) (.agg [a, .int .i64 ((ccl l r).length:Int)]) (h'.push (.cells [.nils, .int .i64 0] true)) = some (aundef,(h'.push (.cells [.nils, .int .i64 0] true)).set h'.next (.cells [a, .int .i64 ((ccl l r).length:Int)] true)):=stV_two (AHeap.get_push_same _ _) i5.scalar rfl
   have g7:Gro h' ((h'.push (.cells [.nils, .int .i64 0] true)).set h'.next (.cells [a, .int .i64 ((ccl l r).length:Int)] true)):=(Gro.push h' _).set (Nat.le_refl _) _
   have l7:loadV none (.ptr h'.next 0) ((h'.push (.cells [.nils, .int .i64 0] true)).set h'.next (.cells [a, .int .i64 ((ccl l r).length:Int)] true)) = some a:=loadV_get (AHeap.get_set_same _ _ _) rfl
   simp (disch:=omega) only [RSf.down,lssT,i2,i3,e7]
   generalize (h'.push (.cells [.nils, .int .i64 0] true)).set h'.next (.cells [a, .int .i64 ((ccl l r).length:Int)] true) = h7 at g7 l7 ⊢
   obtain ⟨v8,h8,f8,n8⟩:=ppow_spec hNo (i5.gro g7) pr hn ex
   obtain ⟨h9,f9,g9⟩:=jkey_spec hNo n8.at_ (zpw_pv pr ex) hn
   have g69:=g'.trans (g7.trans (n8.gro.trans g9))
   have g79:=g7.trans (n8.gro.trans g9)
   have hzl:=el_zpw hSv hel prl ex
   have m9:h9.get im = some (.map (smp E)):=by rw [g69.same _ i6]; exact m6
   have el:∀ tm:List AV,nth tm 7 = .map im -> nth tm 2 = .str (zpw n r ex) -> evalQ (.lookup (.one 2) (.int .i64 0) false (.tmp 7) (.tmp 2)) tm h9 = some (.int .i64 (cno l (zpw n r ex):Int)):=fun tm e1 e2 => lookup_val m9 (by rw [ev_tmp]; exact e1) (by rw [ev_tmp]; exact e2) (by rw [hE,if_pos hzl])
   obtain ⟨b',hA,kA,oA,cA,jA,xA⟩:=(o3.gro g79).app1 (bytes:=8) (c:=[.int .i64 ((cno l (zpw n r ex):Nat):Int)]) rfl rfl (by decide) (by omega)
   simp (disch:=omega) only [RSf.down,l7,f8,neqF,f9]
   rw [el _ rfl rfl]
   simp (disch:=omega) only [RSf.down,kA,add1N]
   refine next hkl _ ⟨by omega,_,_,_,_,hA,rfl,g69.chg_new cA fun j hj => fr3 j hj,?_,fun j hj => ?_⟩
   ·rw [take_succ_get (pmp_get hr ex), <- pc_app]; exact oA
   ·rw [jA] at hj; cases hj; have:=g69.le; omega
  ·obtain rfl:k = (reps l).length:=by omega
   simp (disch:=omega) only [RSf.down,lssF]
   rw [<- hpl,List.take_length] at o3
   refine ⟨(fun i hi => by cases hi),_,rfl,_,rfl,gz.trans g',fun h => absurd rfl h,fun _ l' hl' hll => ?_⟩
   rw [Int.toNat_natCast] at hl' ⊢
   rw [hl'.unique hel]
   exact o3.at
 ·simp (disch:=omega) only [RSf.down,f4,neqT hc]
  exact ⟨(fun i hi => by cases hi),_,rfl,_,rfl,g1.trans (g2.trans g4),fun _ => rfl,fun h => absurd h hc⟩
end
end Go.AM
namespace Go.AM
open Go Go.GT
theorem cen_closed {n:Nat} {S l A:List Pm} (hS:∀ s ∈ S,PV n s) (hel:IsEl n S l) (hA:∀ p ∈ A,PV n p):∀ p,Gen n (cenL l A) p -> p ∈ cenL l A:=fun p hg => by
 induction hg with
 | one => exact mem_cenL.2 ⟨el_one hel,fun q hq => by rw [(hA q hq).one_mul,(hA q hq).mul_one]⟩
 | mul hx hs ih =>
  rename_i x s
  obtain ⟨x1,x2⟩:=mem_cenL.1 ih
  obtain ⟨s1,s2⟩:=mem_cenL.1 hs
  have px:=el_pv hS hel x1
  have ps:=el_pv hS hel s1
  refine mem_cenL.2 ⟨el_mul hS hel x1 s1,fun q hq => ?_⟩
  have pq:=hA q hq
  rw [px.assoc ps pq,s2 q hq, <- px.assoc pq ps,x2 q hq,pq.assoc px ps]
section
variable {I:Oracle} (hNo:NoI I) {h:AHeap}
include hNo
theorem anyf_spec {g : Nat} {caps : List AV} {vS : AV} {S : List Pm} {f : Pm -> Bool} (hS : PmsAt h vS S) (hl : S.length <= 1000000)
  (hf:∀ (hx:AHeap) (a:AV) (p:Pm),Gro h hx -> p ∈ S -> PmAt hx a p -> ∃ hy,lim otab.get I (.fn g) (a :: caps) hx = some (.bool (f p),hy) /\ Gro hx hy) :
  ∃ h',lim otab.get I (.fn 206) [vS, .fn (.func g) [] caps] h = some (.bool (S.any f),h') /\ Gro h h':=by
 have key:∃ (z:Int) (h':AHeap),lim otab.get I (.fn 234) [vS, .fn (.func g) [] caps] h = some (.int .i64 z,h') /\ Gro h h' /\ (0 <= z ↔ S.any f = true):=by
  refine (lim_walk_ex (T:=otab.get) (I:=I) (f:=234) (fn:=of234) rfl (a:=[vS, .fn (.func g) [] caps]) (h:=h) (P:=fun v h' => ∃ z:Int,v = .int .i64 z /\ Gro h h' /\ (0 <= z ↔ S.any f = true)) (hNo.at _ _ (by decide) (by decide) (by decide)) ?_) |> fun ⟨v,h',e,z,q1,q2⟩ => ⟨z,h',by rw [e,q1],q2⟩
  show WK _ _ [] ⟨[vS, .fn (.func g) [] caps,aundef,aundef,aundef],h⟩ _
  dsimp only [of234,Z.t,Z.f,Z.i,Z.q,Z.m,Z.l,Z.b,Z.c,Z.w]
  simp (disch:=omega) only [RSe.down,hS.len]
  refine WK_loopJ (fun k s => k <= S.length /\ ∃ y3 h',s = ⟨[vS, .fn (.func g) [] caps, .int .i64 (k:Int),y3, .int .i64 (S.length:Int)],h'⟩ /\ Gro h h' /\ ∀ p ∈ S.take k,f p = false) S.length ⟨Nat.zero_le _,_,h,rfl,Gro.refl _,fun p hp => by simp at hp⟩ ?_
  rintro k hk _ ⟨_,y3,h',rfl,g',hno⟩ next
  by_cases hkn:k < S.length
  ·obtain ⟨p,hpk⟩:=get_some hkn
   obtain ⟨i1,a,i2,i3⟩:=(PmsAt.gro' hS g').get hpk
   have hm:=List.mem_of_getElem? hpk
   obtain ⟨h3,f3,g3⟩:=hf h' a p g' hm i3
   have f':lim otab.get I (.fn g) ([] ++ [a] ++ caps) h' = some (.bool (f p),h3):=f3
   have ec:∀ tm:List AV,nth tm 1 = .fn (.func g) [] caps -> nth tm 3 = a -> evalE (.call (.tmp 1) [.tmp 3]) (lim otab.get I) tm h' = some (.bool (f p),h3):=fun tm t1 t3 => by
    rw [evalE_callV (g:=g) (fs:=[]) (cs:=caps) (show ev tm (.tmp 1) = _ by rw [ev_tmp]; exact t1)]
    have:evs tm [.tmp 3] = [a]:=by show [ev tm (.tmp 3)] = _; rw [ev_tmp,t3]
    rw [this]; exact f'
   simp (disch:=omega) only [RSe.down,lssT,i1,i2]
   rw [ec _ rfl rfl]
   cases hfp:f p with
   | true =>
    simp (disch:=omega) only [RSe.down]
    exact ⟨(fun i hi => by cases hi),_,rfl,_,rfl,g'.trans g3,⟨fun _ => List.any_eq_true.2 ⟨p,hm,hfp⟩,fun _ => by omega⟩⟩
   | false =>
    simp (disch:=omega) only [RSe.down,add1N]
    refine next hkn _ ⟨by omega,_,h3,rfl,g'.trans g3,fun q hq => ?_⟩
    rw [take_succ_get hpk] at hq
    rcases List.mem_append.1 hq with hq | hq
    ·exact hno q hq
    ·rw [List.mem_singleton.1 hq]; exact hfp
  ·obtain rfl:k = S.length:=by omega
   simp (disch:=omega) only [RSe.down,lssF]
   rw [List.take_length] at hno
   exact ⟨(fun i hi => by cases hi),_,rfl,_,rfl,g',⟨fun h => by omega,fun h => by obtain ⟨q,hq,hq2⟩:=List.any_eq_true.1 h; rw [hno q hq] at hq2; cases hq2⟩⟩
 obtain ⟨z,h2,f2,g2,hz⟩:=key
 refine (lim_walk_ex (T:=otab.get) (I:=I) (f:=206) (fn:=of206) rfl (a:=[vS, .fn (.func g) [] caps]) (h:=h) (P:=fun v h' => v = .bool (S.any f) /\ Gro h h') (hNo.at _ _ (by decide) (by decide) (by decide)) ?_) |> fun ⟨v,h',e,q1,q2⟩ => ⟨h',by rw [e,q1],q2⟩
 show WK _ _ [] ⟨[vS, .fn (.func g) [] caps,aundef],h⟩ _
 dsimp only [of206,Z.t,Z.f,Z.i,Z.q,Z.m,Z.l,Z.b,Z.c,Z.w]
 cases ha:S.any f with
 | true =>
  have:0 <= z:=hz.2 ha
  simp (disch:=omega) only [RSe.down,f2,geqT]
  exact ⟨(fun i hi => by cases hi),_,rfl,rfl,g2⟩
 | false =>
  have:z < 0:=by
   rcases Int.lt_or_le z 0 with h | h
   ·exact h
   ·rw [hz.1 h] at ha; cases ha
  simp (disch:=omega) only [RSe.down,f2,geqF]
  exact ⟨(fun i hi => by cases hi),_,rfl,rfl,g2⟩
theorem com11_spec {n : Nat} (hn : n <= 20) {ib : Nat} {va vx : AV} {p x : Pm} (hib : ib < h.next) (hb : loadV none (.ptr ib 0) h = some vx) (ha : PmAt h va p) (hx : PmAt h vx x) (pp : PV n p) (px : PV n x) :
  ∃ h',lim otab.get I (.fn 207) [va, .ptr ib 0] h = some (.bool (!(mul x p == mul p x)),h') /\ Gro h h':=by
 refine (lim_walk_ex (T:=otab.get) (I:=I) (f:=207) (fn:=of207) rfl (a:=[va, .ptr ib 0]) (h:=h) (P:=fun v h' => v = .bool (!(mul x p == mul p x)) /\ Gro h h') (hNo.at _ _ (by decide) (by decide) (by decide)) ?_) |> fun ⟨v,h',e,q1,q2⟩ => ⟨h',by rw [e,q1],q2⟩
 show WK _ _ [] ⟨[va, .ptr ib 0,aundef,aundef],h⟩ _
 dsimp only [of207,Z.t,Z.f,Z.i,Z.q,Z.m,Z.l,Z.b,Z.c,Z.w]
 obtain ⟨v2,h2,f2,n2⟩:=mul_fn (I:=I) (f:=158) rfl (fun _ _ => hNo.at _ _ (by decide) (by decide) (by decide)) hx ha px pp (by omega)
 have hb2:loadV none (.ptr ib 0) h2 = some vx:=by rw [loadV_same (F:=fun _ => False) n2.gro.chg hib (fun hf => hf)]; exact hb
 obtain ⟨v3,h3,f3,n3⟩:=mul_fn (I:=I) (f:=158) rfl (fun _ _ => hNo.at _ _ (by decide) (by decide) (by decide)) (ha.gro n2.gro) (hx.gro n2.gro) pp px (by omega)
 have f4:=eq_pm hNo (n2.at_.gro n3.gro) n3.at_ (by rw [(px.mul pp).len]; omega)
 simp (disch:=omega) only [RSf.down,hb,hb2,WDV_succ,WDV_zero,f2,WDE_some,checks,lower,recheck,AOp.cls,AV.beq_refl,cond_true,true_and,f3,f4,not_bool,WDE_none]
 refine ⟨(fun i hi => by cases hi),_,rfl,?_,n2.gro.trans n3.gro⟩
 show AV.bool (!decide (mul x p = mul p x)) = _
 have:(mul x p == mul p x) = decide (mul x p = mul p x):=by
  by_cases e:mul x p = mul p x
  ·rw [decide_eq_true e]; exact beq_iff_eq.2 e
  ·rw [decide_eq_false e]; exact beq_eq_false_iff_ne.2 e
 rw [this]
theorem com1_spec {n : Nat} (hn : n <= 20) {ib : Nat} {vx vA : AV} {x : Pm} {A : List Pm} (hib : ib < h.next) (hb : loadV none (.ptr ib 0) h = some vA) (hx : PmAt h vx x) (px : PV n x) (hA : PmsAt h vA A) (pA : ∀ p ∈ A, PV n p) (hl : A.length <= 1000000) :
  ∃ h',lim otab.get I (.fn 205) [vx, .ptr ib 0] h = some (.bool (A.all fun p => mul x p == mul p x),h') /\ Gro h h':=by
 refine (lim_walk_ex (T:=otab.get) (I:=I) (f:=205) (fn:=of205) rfl (a:=[vx, .ptr ib 0]) (h:=h) (P:=fun v h' => v = .bool (A.all fun p => mul x p == mul p x) /\ Gro h h') (hNo.at _ _ (by decide) (by decide) (by decide)) ?_) |> fun ⟨v,h',e,q1,q2⟩ => ⟨h',by rw [e,q1],q2⟩
 show WK _ _ [] ⟨[vx, .ptr ib 0,aundef],h⟩ _
 dsimp only [of205,Z.t,Z.f,Z.i,Z.q,Z.m,Z.l,Z.b,Z.c,Z.w]
 have g1:=Gro.push h (.cells [vx] true)
 have l1:loadV none (.ptr ib 0) (h.push (.cells [vx] true)) = some vA:=by rw [loadV_same (F:=fun _ => False) g1.chg hib (fun hf => hf)]; exact hb
 have l2:∀ {h'},Gro (h.push (.cells [vx] true)) h' -> loadV none (.ptr h.next 0) h' = some vx:=fun g => box_ld g rfl
 have n1:h.next < (h.push (.cells [vx] true)).next:=Nat.lt_succ_self _
 have sx:=hx.scalar
 simp (disch:=omega) only [RSf.down,scalar_cells sx,l1]
 generalize h.push (.cells [vx] true) = h1 at g1 l1 l2 n1 ⊢
 obtain ⟨h2,f2,g2⟩:=anyf_spec hNo (caps:=[.ptr h.next 0]) (g:=207) (f:=fun p => !(mul x p == mul p x)) (hA.gro g1) hl (fun hx' a p g hp ha => com11_spec hNo hn (Nat.lt_of_lt_of_le n1 g.le) (l2 g) ha (hx.gro (g1.trans g)) (pA p hp) px)
 simp (disch:=omega) only [RSf.down,f2,not_bool]
 refine ⟨(fun i hi => by cases hi),_,rfl,?_,g1.trans g2⟩
 show AV.bool (!A.any fun p => !(mul x p == mul p x)) = _
 congr 1
 clear hA f2 hb pA l1 hl
 induction A with
 | nil => rfl
 | cons q A ih =>
  rw [List.any_cons,List.all_cons,Bool.not_or,Bool.not_not,ih]
end
section
variable {I:Oracle} (hS:Srt I) {h:AHeap}
include hS
theorem commuting_spec {n : Nat} {vg vA : AV} {ls : List (List Int)} {A l : List Pm} (hg : LsAt h vg ls) (hc : groupErr (n : Int) ls = 0) (hel : IsEl n (gS ls) l) (hl : l.length <= 5040) (hn : n <= 20) (hA : PmsAt h vA A) (pA : ∀ p ∈ A, PV n p) (hla : A.length <= 1000000) :
  ∃ v cb h',lim otab.get I (.fn 141) [.agg [.int .i64 (n:Int),vg],vA] h = some (.agg [.int .i64 (n:Int),v],h') /\ PL h' v cb (red n (cenL l A)) /\ Gro h h' /\ (∀ j,oid v = some j -> h.next <= j) /\ ∀ a ∈ cb, ∀ j,oid a = some j -> h.next <= j:=by
 have hNo:=hS.no
 obtain ⟨m,hm,_,_,_,hSv⟩:=group_of_ok hc
 obtain rfl:m = n:=by omega
 refine (lim_walk_ex (T:=otab.get) (I:=I) (f:=141) (fn:=of141) rfl (a:=[.agg [.int .i64 (m:Int),vg],vA]) (h:=h) (P:=fun a h' => ∃ v cb,a = .agg [.int .i64 (m:Int),v] /\ PL h' v cb (red m (cenL l A)) /\ Gro h h' /\ (∀ j,oid v = some j -> h.next <= j) /\ ∀ a ∈ cb, ∀ j,oid a = some j -> h.next <= j) (hNo.at _ _ (by decide) (by decide) (by decide)) ?_) |> fun ⟨a,h',e,v,cb,q1,q2⟩ => ⟨v,cb,h',by rw [e,q1],q2⟩
 show WK _ _ [] ⟨[.agg [.int .i64 (m:Int),vg],vA,aundef,aundef],h⟩ _
 dsimp only [of141,Z.t,Z.f,Z.i,Z.q,Z.m,Z.l,Z.b,Z.c,Z.w]
 have sA:vA.scalar = true:=by obtain ⟨c,s,_⟩:=hA; exact s.scalar
 have g1:=Gro.push h (.cells [.int .i64 (m:Int),vg] true)
 have g2:=Gro.push (h.push (.cells [.int .i64 (m:Int),vg] true)) (.cells [vA] true)
 have g3:=Gro.push ((h.push (.cells [.int .i64 (m:Int),vg] true)).push (.cells [vA] true)) (.cells [.int .i64 0, .nils] true)
 have ba:=fun {h'} (g:Gro _ h') => box_all (h:=h) (c:=[.int .i64 (m:Int),vg]) (r:=true) (h':=h') g (n:=2) rfl
 have bl:=fun {h'} (g:Gro _ h') => box_ld (h:=h) (c:=[.int .i64 (m:Int),vg]) (r:=true) (h':=h') g (o:=0) rfl
 have bv:=fun {h'} (g:Gro _ h') => box_ld (h:=h.push (.cells [.int .i64 (m:Int),vg] true)) (c:=[vA]) (r:=true) (h':=h') g (o:=0) rfl
 have x1:(h.push (.cells [.int .i64 (m:Int),vg] true)).next = h.next + 1:=rfl
 have x2:((h.push (.cells [.int .i64 (m:Int),vg] true)).push (.cells [vA] true)).next = h.next + 2:=rfl
 have r2:=AHeap.get_push_same ((h.push (.cells [.int .i64 (m:Int),vg] true)).push (.cells [vA] true)) (.cells [.int .i64 0, .nils] true)
 have x3:(((h.push (.cells [.int .i64 (m:Int),vg] true)).push (.cells [vA] true)).push (.cells [.int .i64 0, .nils] true)).next = h.next + 3:=rfl
 simp (disch:=omega) only [RSf.down,scalar_cells sA,x1,x2]
 rw [x1] at bv
 rw [x2] at r2
 generalize h.push (.cells [.int .i64 (m:Int),vg] true) = h1 at g1 g2 g3 ba bl bv x1 x2 x3 r2 ⊢
 generalize h1.push (.cells [vA] true) = h2 at g2 g3 bv x2 x3 r2 ⊢
 generalize h2.push (.cells [.int .i64 0, .nils] true) = h3 at g3 x3 r2 ⊢
 have gg:=g1.trans (g2.trans g3)
 obtain ⟨v5,c5,h5,f5,p5,g5,fr5⟩:=jelements_spec hNo hS (hg.gro gg) hc (by rw [Int.toNat_natCast]; exact hel) hl
 have e6:=filter_spec hNo (h:=h5) (va:=v5) (vf := .fn (.func 205) [] [.ptr (h.next + 1) 0]) p5.own.at.scalar rfl
 have g6:Gro h5 ((h5.push (.cells [v5] true)).push (.cells [.fn (.func 205) [] [.ptr (h.next + 1) 0]] true)):=(Gro.push h5 _).trans (Gro.push _ _)
 have l61:loadV none (.ptr h5.next 0) ((h5.push (.cells [v5] true)).push (.cells [.fn (.func 205) [] [.ptr (h.next + 1) 0]] true)) = some v5:=box_ld (Gro.push _ _) rfl
 have l62:loadV none (.ptr (h5.next + 1) 0) ((h5.push (.cells [v5] true)).push (.cells [.fn (.func 205) [] [.ptr (h.next + 1) 0]] true)) = some (.fn (.func 205) [] [.ptr (h.next + 1) 0]):=box_ld (h:=h5.push (.cells [v5] true)) (Gro.refl _) rfl
 have x6:((h5.push (.cells [v5] true)).push (.cells [.fn (.func 205) [] [.ptr (h.next + 1) 0]] true)).next = h5.next + 2:=rfl
 generalize (h5.push (.cells [v5] true)).push (.cells [.fn (.func 205) [] [.ptr (h.next + 1) 0]] true) = h6 at e6 g6 l61 l62 x6 ⊢
 have n2:h.next + 1 < h2.next:=by omega
 have g26:Gro h2 h6:=g3.trans (g5.trans g6)
 obtain ⟨v7,c7,h7,f7,p7,g7,fr7⟩:=collect_spec hNo (l:=l) (f:=fun x => A.all fun p => mul x p == mul p x) (by omega) (by omega) l61 l62 (p5.pms.gro g6) (by omega) (fun hx a p g hp ha => com1_spec hNo hn (Nat.lt_of_lt_of_le n2 (g26.trans g).le) (bv (g26.trans g)) ha (el_pv hSv hel hp) (hA.gro (g1.trans (g2.trans (g26.trans g)))) pA hla)
 obtain ⟨v8,c8,h8,f8,p8,g8,fr8,fc8⟩:=jreduced_spec hNo hn p7.pms (fun s hs => el_pv hSv hel (mem_cenL.1 hs).1) (cen_closed hSv hel pA) (Nat.le_trans (List.length_filter_le _ _) hl)
 have k3:=bl (g2.trans g3)
 have k3a:=ba (g2.trans g3)
 have k5:=bl (g2.trans (g3.trans g5))
 have k6:=bl (g2.trans (g3.trans (g5.trans g6)))
 have k7:=bl (g2.trans (g3.trans (g5.trans (g6.trans g7))))
 have g38:=g5.trans (g6.trans (g7.trans g8))
 have r8:h8.get (h.next + 2) = some (.cells [.int .i64 0, .nils] true):=by rw [g38.same _ (by omega)]; exact r2
 have s8:v8.scalar = true:=p8.own.at.scalar
 have e9:stV 2 (.ptr (h.next + 2) 0) (.agg [.int .i64 (m:Int),v8]) h8 = some (aundef,h8.set (h.next + 2) (.cells [.int .i64 (m:Int),v8] true)):=stV_two r8 rfl s8
 simp (disch:=omega) only [RSf.down,k3,k3a,k5,k6,k7,WDV_succ,WDV_zero,f5,e6,f7,f8,WDE_some,checks,lower,recheck,AOp.cls,AV.beq_refl,cond_true,true_and,WDE_none,e9]
 have ch:Chg (fun j => j = h.next + 2) h8 (h8.set (h.next + 2) (.cells [.int .i64 (m:Int),v8] true)):=Chg.set (F:=fun j => j = h.next + 2) h8 rfl _
 have l7:=(g5.trans (g6.trans g7)).le
 refine ⟨(fun i hi => by cases hi), .agg [.int .i64 (m:Int),v8],result_cell rfl (loadV_two (AHeap.get_set_same _ _ _)),v8,c8,rfl,⟨p8.own.chg ch fun i hi e => by have:=fr8 i hi; omega,p8.len,fun i x q hx hq => (p8.el i x q hx hq).chg ch fun j hj e => by have:=fc8 x (List.mem_of_getElem? hx) j hj; omega⟩,(gg.trans g38).set (by omega) _,fun j hj => by have:=fr8 j hj; omega,fun a ha j hj => by have:=fc8 a ha j hj; omega⟩
end
end Go.AM
namespace Go.AM
open Go Go.GT
theorem LsAt.pmsS {h:AHeap} {v:AV} {ls:List (List Int)} (s:LsAt h v ls) {d:Int} (hc:groupErr d ls = 0):PmsAt h v (gS ls):=by
 obtain ⟨_,_,_,_,e,_⟩:=group_of_ok hc
 exact s.pms e
theorem IAt.pm {h:AHeap} {v:AV} {p:List Int} (s:IAt h v p) (e:p = zs (p.map Int.toNat)):PmAt h v (p.map Int.toNat):=by
 unfold PmAt
 rw [pc_ic, <- e]; exact s
section
variable {I:Oracle} (hS:Srt I) {h:AHeap}
include hS
theorem gCen_fresh {vg vp : AV} {ls : List (List Int)} {p : List Int} (hg : LsAt h vg ls) (hv : IAt h vp p) (d : Int) (he : HasEl d ls) :
  ∃ (D:Int) (v:AV) (h':AHeap),lim otab.get I (.fn 66) [.agg [.int .i64 d,vg],vp] h = some (.tup [.agg [.int .i64 D,v], .int .i64 (jE d ls [p])],h') /\ Gro h h' /\
   (jE d ls [p] ≠ 0 -> D = 0 /\ v = .nils) /\ (jE d ls [p] = 0 -> D = d /\ ∀ l,IsEl d.toNat (gS ls) l -> l.length <= 5040 -> ∃ c,PL h' v c (red d.toNat (cenL l [p.map Int.toNat])) /\ (∀ j,oid v = some j -> h.next <= j) /\ ∀ a ∈ c, ∀ j,oid a = some j -> h.next <= j):=by
 have hNo:=hS.no
 refine (lim_walk_ex (T:=otab.get) (I:=I) (f:=66) (fn:=of66) rfl (a:=[.agg [.int .i64 d,vg],vp]) (h:=h) (P:=fun a h' => ∃ D v,a = .tup [.agg [.int .i64 D,v], .int .i64 (jE d ls [p])] /\ Gro h h' /\ (jE d ls [p] ≠ 0 -> D = 0 /\ v = .nils) /\ (jE d ls [p] = 0 -> D = d /\ ∀ l,IsEl d.toNat (gS ls) l -> l.length <= 5040 -> ∃ c,PL h' v c (red d.toNat (cenL l [p.map Int.toNat])) /\ (∀ j,oid v = some j -> h.next <= j) /\ ∀ a ∈ c, ∀ j,oid a = some j -> h.next <= j)) (hNo.at _ _ (by decide) (by decide) (by decide)) ?_) |> fun ⟨a,h',e,D,v,q1,q2⟩ => ⟨D,v,h',by rw [e,q1],q2⟩
 show WK _ _ [] ⟨[.agg [.int .i64 d,vg],vp,aundef,aundef,aundef],h⟩ _
 dsimp only [of66,Z.t,Z.f,Z.i,Z.q,Z.m,Z.l,Z.b,Z.c,Z.w]
 have g0:=Gro.push h (.cells [.int .i64 d,vg] true)
 have g1':=Gro.push (h.push (.cells [.int .i64 d,vg] true)) (.cells [.int .i64 0, .nils] true)
 have x0:(h.push (.cells [.int .i64 d,vg] true)).next = h.next + 1:=rfl
 have x1:((h.push (.cells [.int .i64 d,vg] true)).push (.cells [.int .i64 0, .nils] true)).next = h.next + 2:=rfl
 have r1:=AHeap.get_push_same (h.push (.cells [.int .i64 d,vg] true)) (.cells [.int .i64 0, .nils] true)
 rw [x0] at r1
 have ba:=fun {h'} (g:Gro _ h') => box_all (h:=h) (c:=[.int .i64 d,vg]) (r:=true) (h':=h') (g1'.trans g) (n:=2) rfl
 have b1:=ba (Gro.refl _)
 have bs:=hv.scalar
 have g1:=g0.trans g1'
 simp (disch:=omega) only [RSf.down,b1,x0]
 generalize (h.push (.cells [.int .i64 d,vg] true)).push (.cells [.int .i64 0, .nils] true) = h1 at g1 ba b1 x1 r1 ⊢
 rw [ev_bs1 _ rfl]
 have G1:=gs_one (d:=d) (hg.gro g1)
 have g2:=Gro.push h1 (.cells [.int .i64 d,vg] true)
 simp (disch:=omega) only [RSf.down]
 generalize h1.push (.cells [.int .i64 d,vg] true) = h2 at G1 g2 ⊢
 have L1:=ls_one (SlAt.gro (SlAt.gro hv g1) g2)
 simp (disch:=omega) only [RSf.down,bslV_sc bs]
 have g3:=Gro.push h2 (.cells [vp] true)
 generalize h2.push (.cells [vp] true) = h3 at L1 g3 ⊢
 obtain ⟨h4,f4,g4⟩:=jcheck_spec hNo (G1.gro g3) L1 (Nat.lt_succ_self 0) (show 1 <= 1000 by decide) (show 1 <= 1000 by decide) (fun g hm => by obtain rfl:=List.mem_singleton.1 hm; exact he)
 rw [chk_one] at f4
 have g24:=g2.trans (g3.trans g4)
 have r4:h4.get (h.next + 1) = some (.cells [.int .i64 0, .nils] true):=by rw [g24.same _ (by omega)]; exact r1
 by_cases e0:jE d ls [p] = 0
 ·rw [e0] at f4 ⊢
  have b4:=ba g24
  have hc:groupErr d ls = 0:=by
   by_cases hc:groupErr d ls = 0
   ·exact hc
   ·rw [jE_one,if_pos hc] at e0; exact absurd e0 hc
  have hpe:genErr d p = 0:=by rw [jE_one,if_neg fun h => h hc] at e0; exact e0
  obtain ⟨l,hel,hl⟩:=he hc
  have gg:=g1.trans g24
  have g5:=Gro.push h4 (.cells [vp] true)
  obtain ⟨n,rfl,hn,_,_,hSv⟩:=group_of_ok hc
  rw [Int.toNat_natCast] at hel
  obtain ⟨e1,pp⟩:=gen_pv hc hpe
  rw [Int.toNat_natCast] at pp
  have hvp:PmAt h4 vp (p.map Int.toNat):=IAt.pm (SlAt.gro hv gg) e1
  have x5:(h4.push (.cells [vp] true)).next = h4.next + 1:=rfl
  obtain ⟨v6,c6,h6,f6,p6,g6,fr6,fc6⟩:=commuting_spec hS ((hg.gro gg).gro g5) hc hel hl hn (PmsAt.one hvp) (fun q hq => by rw [List.mem_singleton.1 hq]; exact pp) (show 1 <= 1000000 by decide)
  have hg5:=g5.trans g6
  have r6:h6.get (h.next + 1) = some (.cells [.int .i64 0, .nils] true):=by rw [hg5.same _ (by have:=g24.le; omega)]; exact r4
  have e9:stV 2 (.ptr (h.next + 1) 0) (.agg [.int .i64 (n:Int),v6]) h6 = some (aundef,h6.set (h.next + 1) (.cells [.int .i64 (n:Int),v6] true)):=stV_two r6 rfl p6.own.at.scalar
  simp (disch:=omega) only [RSf.down,f4,neqF,b4,bslV_sc bs,f6,e9]
  have ch:Chg (fun j => j = h.next + 1) h6 (h6.set (h.next + 1) (.cells [.int .i64 (n:Int),v6] true)):=Chg.set (F:=fun j => j = h.next + 1) h6 rfl _
  have l4:=g24.le
  refine ⟨(fun i hi => by cases hi), .tup [.agg [.int .i64 (n:Int),v6], .int .i64 0],result_ct rfl (loadV_two (AHeap.get_set_same _ _ _)),_,_,rfl,(gg.trans hg5).set (by omega) _,fun h => absurd rfl h,fun _ => ⟨rfl,fun l' hl' hll => ⟨c6,?_,fun j hj => by have:=fr6 j hj; have:=gg.le; have:=g5.le; omega,fun a ha j hj => by have:=fc6 a ha j hj; have:=gg.le; have:=g5.le; omega⟩⟩⟩
  rw [Int.toNat_natCast] at hl' ⊢
  rw [hl'.unique hel]
  exact ⟨p6.own.chg ch fun i hi e => by have:=fr6 i hi; omega,p6.len,fun i x q hx hq => (p6.el i x q hx hq).chg ch fun j hj e => by have:=fc6 x (List.mem_of_getElem? hx) j hj; omega⟩
 ·have e9:stV 2 (.ptr (h.next + 1) 0) (.agg [.int .i64 0, .nils]) h4 = some (aundef,h4.set (h.next + 1) (.cells [.int .i64 0, .nils] true)):=stV_two r4 rfl rfl
  have eb:∀ tm:List AV,evalQ (.build [.int .i64 0, .nils] []) tm h4 = some (.agg [.int .i64 0, .nils]):=fun _ => rfl
  simp (disch:=omega) only [RSf.down,f4,neqT e0,eb,e9]
  exact ⟨(fun i hi => by cases hi), .tup [.agg [.int .i64 0, .nils], .int .i64 (jE d ls [p])],result_ct rfl (loadV_two (AHeap.get_set_same _ _ _)),_,_,rfl,(g1.trans g24).set (by omega) _,fun _ => ⟨rfl,rfl⟩,fun h => absurd h e0⟩
theorem gCen_spec {vg vp : AV} {ls : List (List Int)} {p : List Int} (hg : LsAt h vg ls) (hv : IAt h vp p) (d : Int) (he : HasEl d ls) :
  ∃ (D:Int) (v:AV) (h':AHeap),lim otab.get I (.fn 66) [.agg [.int .i64 d,vg],vp] h = some (.tup [.agg [.int .i64 D,v], .int .i64 (jE d ls [p])],h') /\ Gro h h' /\
   (jE d ls [p] ≠ 0 -> D = 0 /\ v = .nils) /\ (jE d ls [p] = 0 -> D = d /\ ∀ l,IsEl d.toNat (gS ls) l -> l.length <= 5040 -> ∃ c,PL h' v c (red d.toNat (cenL l [p.map Int.toNat]))):=by
 obtain ⟨D,v,h',f,g,e,k⟩:=gCen_fresh hS hg hv d he
 exact ⟨D,v,h',f,g,e,fun e0 => ⟨(k e0).1,fun l h1 h2 => by obtain ⟨c,P,_⟩:=(k e0).2 l h1 h2; exact ⟨c,P⟩⟩⟩
end
end Go.AM
namespace Go.AM
open Go Go.GT
def norG (l A m:List Pm):List Pm:=l.filter fun x => A.all fun s => decide (cj s x ∈ m)
theorem mem_norG {l A m:List Pm} {x:Pm}:x ∈ norG l A m ↔ x ∈ l /\ ∀ s ∈ A,cj s x ∈ m:=by
 unfold norG; rw [List.mem_filter,List.all_eq_true]; simp only [decide_eq_true_eq]
theorem gen_cj {n:Nat} {A m:List Pm} {y:Pm} (hA:∀ s ∈ A,PV n s) (hm:IsEl n A m) (py:PV n y) (h:∀ s ∈ A,cj s y ∈ m):∀ q ∈ m,cj q y ∈ m:=fun q hq => by
 have:=(hm.mem q).1 hq
 clear hq
 induction this with
 | one => rw [one_cj py]; exact el_one hm
 | mul hx hs ih =>
  rw [cj_hom (hx.pv hA) (hA _ hs) py]
  exact el_mul hA hm ih (h _ hs)
theorem nor_closed {n:Nat} {S A l m:List Pm} (hS:∀ s ∈ S,PV n s) (hA:∀ s ∈ A,PV n s) (hel:IsEl n S l) (hm:IsEl n A m):∀ p,Gen n (norG l A m) p -> p ∈ norG l A m:=fun p hg => by
 induction hg with
 | one => exact mem_norG.2 ⟨el_one hel,fun s hs => by rw [cj_one (hA s hs)]; exact (hm.mem s).2 (Gen.of hA hs)⟩
 | mul hx hs ih =>
  rename_i x y
  obtain ⟨x1,x2⟩:=mem_norG.1 ih
  obtain ⟨y1,y2⟩:=mem_norG.1 hs
  have px:=el_pv hS hel x1
  have py:=el_pv hS hel y1
  refine mem_norG.2 ⟨el_mul hS hel x1 y1,fun s hs => ?_⟩
  rw [cj_mul (hA s hs) px py]
  exact gen_cj hA hm py y2 _ (x2 s hs)
section
variable {I:Oracle} (hNo:NoI I) {h:AHeap}
include hNo
theorem takes1_spec {n : Nat} (hn : n <= 20) {b1 b2 im : Nat} {K : List Pm} {va vx : AV} {s x : Pm} (h1 : b1 < h.next) (l1 : loadV none (.ptr b1 0) h = some (.map im)) (l2 : loadV none (.ptr b2 0) h = some vx) (hg : h.get im = some (.map (kset K))) (him : im < h.next) (ha : PmAt h va s) (hx : PmAt h vx x) (ps : PV n s) (px : PV n x) :
  ∃ h',lim otab.get I (.fn 219) [va, .ptr b1 0, .ptr b2 0] h = some (.bool (!decide (cj s x ∈ K)),h') /\ Gro h h':=by
 refine (lim_walk_ex (T:=otab.get) (I:=I) (f:=219) (fn:=of219) rfl (a:=[va, .ptr b1 0, .ptr b2 0]) (h:=h) (P:=fun v h' => v = .bool (!decide (cj s x ∈ K)) /\ Gro h h') (hNo.at _ _ (by decide) (by decide) (by decide)) ?_) |> fun ⟨v,h',e,q1,q2⟩ => ⟨h',by rw [e,q1],q2⟩
 show WK _ _ [] ⟨[va, .ptr b1 0, .ptr b2 0,aundef],h⟩ _
 dsimp only [of219,Z.t,Z.f,Z.i,Z.q,Z.m,Z.l,Z.b,Z.c,Z.w]
 obtain ⟨v2,h2,f2,n2⟩:=conj_fn (I:=I) (f:=151) rfl (fun _ _ => hNo.at _ _ (by decide) (by decide) (by decide)) ha hx ps px (by omega)
 have l1':loadV none (.ptr b1 0) h2 = some (.map im):=by rw [loadV_same (F:=fun _ => False) n2.gro.chg h1 (fun hf => hf)]; exact l1
 have hg2:h2.get im = some (.map (kset K)):=by rw [n2.gro.same _ him]; exact hg
 obtain ⟨h3,f3,g3⟩:=shas_spec hNo hg2 (Nat.lt_of_lt_of_le him n2.gro.le) n2.at_ (PV.cj ps px) hn
 simp (disch:=omega) only [RSf.down,l1,l1',l2,WDV_succ,WDV_zero,f2,WDE_some,checks,lower,recheck,AOp.cls,AV.beq_refl,cond_true,true_and,f3,not_bool,WDE_none]
 exact ⟨(fun i hi => by cases hi),_,rfl,rfl,n2.gro.trans g3⟩
omit hNo in
theorem not_any {α:Type} {f:α -> Bool}:∀ {A:List α},(!A.any fun p => !f p) = A.all f
 | [] => rfl
 | q :: A => by rw [List.any_cons,List.all_cons,Bool.not_or,Bool.not_not,not_any]
theorem takes_spec {n : Nat} (hn : n <= 20) {im : Nat} {K A : List Pm} {vA vx : AV} {x : Pm} {d : Int} (hg : h.get im = some (.map (kset K))) (him : im < h.next) (hx : PmAt h vx x) (px : PV n x) (hA : PmsAt h vA A) (pA : ∀ p ∈ A, PV n p) (hl : A.length <= 1000000) :
  ∃ h',lim otab.get I (.fn 164) [.agg [.int .i64 d,vA],vx, .map im] h = some (.bool (A.all fun s => decide (cj s x ∈ K)),h') /\ Gro h h':=by
 refine (lim_walk_ex (T:=otab.get) (I:=I) (f:=164) (fn:=of164) rfl (a:=[.agg [.int .i64 d,vA],vx, .map im]) (h:=h) (P:=fun v h' => v = .bool (A.all fun s => decide (cj s x ∈ K)) /\ Gro h h') (hNo.at _ _ (by decide) (by decide) (by decide)) ?_) |> fun ⟨v,h',e,q1,q2⟩ => ⟨h',by rw [e,q1],q2⟩
 show WK _ _ [] ⟨[.agg [.int .i64 d,vA],vx, .map im,aundef],h⟩ _
 dsimp only [of164,Z.t,Z.f,Z.i,Z.q,Z.m,Z.l,Z.b,Z.c,Z.w]
 have ga:=Gro.push h (.cells [.int .i64 d,vA] true)
 have gb:=Gro.push (h.push (.cells [.int .i64 d,vA] true)) (.cells [vx] true)
 have gc:=Gro.push ((h.push (.cells [.int .i64 d,vA] true)).push (.cells [vx] true)) (.cells [.map im] true)
 have xa:(h.push (.cells [.int .i64 d,vA] true)).next = h.next + 1:=rfl
 have xb:((h.push (.cells [.int .i64 d,vA] true)).push (.cells [vx] true)).next = h.next + 2:=rfl
 have xc:(((h.push (.cells [.int .i64 d,vA] true)).push (.cells [vx] true)).push (.cells [.map im] true)).next = h.next + 3:=rfl
 have bl:=fun {h'} (g:Gro _ h') => box_ld (h:=h) (c:=[.int .i64 d,vA]) (r:=true) (h':=h') (gb.trans (gc.trans g)) (o:=1) rfl
 have bx:=fun {h'} (g:Gro _ h') => box_ld (h:=h.push (.cells [.int .i64 d,vA] true)) (c:=[vx]) (r:=true) (h':=h') (gc.trans g) (o:=0) rfl
 have bm:=fun {h'} (g:Gro _ h') => box_ld (h:=(h.push (.cells [.int .i64 d,vA] true)).push (.cells [vx] true)) (c:=[.map im]) (r:=true) (h':=h') g (o:=0) rfl
 rw [xa] at bx
 rw [xb] at bm
 have b1:=bl (Gro.refl _)
 have sx:=hx.scalar
 have sm:(AV.map im).cells = [.map im]:=rfl
 have g1:=ga.trans (gb.trans gc)
 simp (disch:=omega) only [RSf.down,b1,xa,xb,scalar_cells sx,sm]
 generalize ((h.push (.cells [.int .i64 d,vA] true)).push (.cells [vx] true)).push (.cells [.map im] true) = h1 at g1 bl bx bm b1 xc ⊢
 obtain ⟨h2,f2,g2⟩:=anyf_spec hNo (caps:=[.ptr (h.next + 2) 0, .ptr (h.next + 1) 0]) (g:=219) (f:=fun s => !decide (cj s x ∈ K)) (hA.gro g1) hl (fun hx' a p g hp ha => takes1_spec hNo hn (by have:=g.le; omega) (bm g) (bx g) (by rw [(g1.trans g).same _ him]; exact hg) (Nat.lt_of_lt_of_le him (g1.trans g).le) ha (hx.gro (g1.trans g)) (pA p hp) px)
 simp (disch:=omega) only [RSf.down,f2,not_bool]
 refine ⟨(fun i hi => by cases hi),_,rfl,?_,g1.trans g2⟩
 show AV.bool (!A.any fun s => !decide (cj s x ∈ K)) = _
 rw [not_any]
theorem nor1_spec {n : Nat} (hn : n <= 20) {b1 b2 im : Nat} {K A : List Pm} {vA vx : AV} {x : Pm} {d : Int} (l1 : loadV (some 2) (.ptr b1 0) h = some (.agg [.int .i64 d, vA])) (l2 : loadV none (.ptr b2 0) h = some (.map im)) (hg : h.get im = some (.map (kset K))) (him : im < h.next) (hx : PmAt h vx x) (px : PV n x) (hA : PmsAt h vA A) (pA : ∀ p ∈ A, PV n p) (hl : A.length <= 1000000) :
  ∃ h',lim otab.get I (.fn 210) [vx, .ptr b1 0, .ptr b2 0] h = some (.bool (A.all fun s => decide (cj s x ∈ K)),h') /\ Gro h h':=by
 refine (lim_walk_ex (T:=otab.get) (I:=I) (f:=210) (fn:=of210) rfl (a:=[vx, .ptr b1 0, .ptr b2 0]) (h:=h) (P:=fun v h' => v = .bool (A.all fun s => decide (cj s x ∈ K)) /\ Gro h h') (hNo.at _ _ (by decide) (by decide) (by decide)) ?_) |> fun ⟨v,h',e,q1,q2⟩ => ⟨h',by rw [e,q1],q2⟩
 show WK _ _ [] ⟨[vx, .ptr b1 0, .ptr b2 0,aundef],h⟩ _
 dsimp only [of210,Z.t,Z.f,Z.i,Z.q,Z.m,Z.l,Z.b,Z.c,Z.w]
 obtain ⟨h2,f2,g2⟩:=takes_spec hNo hn (d:=d) hg him hx px hA pA hl
 simp (disch:=omega) only [RSf.down,l1,l2,f2]
 exact ⟨(fun i hi => by cases hi),_,rfl,rfl,g2⟩
end
section
variable {I:Oracle} (hS:Srt I) {h:AHeap}
include hS
theorem normalizer_spec {n : Nat} {vg vg2 : AV} {ls ls2 : List (List Int)} {l m : List Pm} (hg : LsAt h vg ls) (hc : groupErr (n : Int) ls = 0) (hel : IsEl n (gS ls) l) (hl : l.length <= 5040) (hn : n <= 20) (hg2 : LsAt h vg2 ls2) (hc2 : groupErr (n : Int) ls2 = 0) (hel2 : IsEl n (gS ls2) m) (hl2 : m.length <= 5040) :
  ∃ v cb h',lim otab.get I (.fn 143) [.agg [.int .i64 (n:Int),vg], .agg [.int .i64 (n:Int),vg2]] h = some (v,h') /\ PL h' v cb (norG l (gS ls2) m) /\ Gro h h':=by
 have hNo:=hS.no
 obtain ⟨n1,e1,_,_,_,hSv⟩:=group_of_ok hc
 obtain rfl:n1 = n:=by omega
 obtain ⟨n2,e2,_,hl2',_,hSv2⟩:=group_of_ok hc2
 obtain rfl:n1 = n2:=by omega
 refine (lim_walk_ex (T:=otab.get) (I:=I) (f:=143) (fn:=of143) rfl (a:=[.agg [.int .i64 (n1:Int),vg], .agg [.int .i64 (n1:Int),vg2]]) (h:=h) (P:=fun v h' => ∃ cb,PL h' v cb (norG l (gS ls2) m) /\ Gro h h') (hNo.at _ _ (by decide) (by decide) (by decide)) ?_) |> fun ⟨v,h',e,cb,q2⟩ => ⟨v,cb,h',e,q2⟩
 show WK _ _ [] ⟨[.agg [.int .i64 (n1:Int),vg], .agg [.int .i64 (n1:Int),vg2],aundef,aundef],h⟩ _
 dsimp only [of143,Z.t,Z.f,Z.i,Z.q,Z.m,Z.l,Z.b,Z.c,Z.w]
 have ga:=Gro.push h (.cells [.int .i64 (n1:Int),vg] true)
 have gb:=Gro.push (h.push (.cells [.int .i64 (n1:Int),vg] true)) (.cells [.int .i64 (n1:Int),vg2] true)
 have xa:(h.push (.cells [.int .i64 (n1:Int),vg] true)).next = h.next + 1:=rfl
 have xb:((h.push (.cells [.int .i64 (n1:Int),vg] true)).push (.cells [.int .i64 (n1:Int),vg2] true)).next = h.next + 2:=rfl
 have ba:=fun {h'} (g:Gro _ h') => box_all (h:=h) (c:=[.int .i64 (n1:Int),vg]) (r:=true) (h':=h') (gb.trans g) (n:=2) rfl
 have bb:=fun {h'} (g:Gro _ h') => box_all (h:=h.push (.cells [.int .i64 (n1:Int),vg] true)) (c:=[.int .i64 (n1:Int),vg2]) (r:=true) (h':=h') g (n:=2) rfl
 rw [xa] at bb
 have b2:=bb (Gro.refl _)
 have g1:=ga.trans gb
 simp (disch:=omega) only [RSf.down,b2,xa,xb]
 generalize (h.push (.cells [.int .i64 (n1:Int),vg] true)).push (.cells [.int .i64 (n1:Int),vg2] true) = h1 at g1 ba bb b2 xb ⊢
 obtain ⟨v5,c5,h5,f5,p5,g5,fr5⟩:=jelements_spec hNo hS (hg2.gro g1) hc2 (by rw [Int.toNat_natCast]; exact hel2) hl2
 obtain ⟨K,h6,f6,m6,i6,g6,hK⟩:=setOf_spec hNo p5.pms (fun x hx => el_pv hSv2 hel2 hx) hn (by omega)
 have g7:=Gro.push h6 (.cells [.nilm] true)
 have r7:=AHeap.get_push_same h6 (.cells [.nilm] true)
 have e8:stV 1 (.ptr h6.next 0) (.map h5.next) (h6.push (.cells [.nilm] true)) = some (aundef,(h6.push (.cells [.nilm] true)).set h6.next (.cells [.map h5.next] true)):=stV_at (k:=0) r7 (by simp) rfl
 have g8:Gro h6 ((h6.push (.cells [.nilm] true)).set h6.next (.cells [.map h5.next] true)):=g7.set (Nat.le_refl _) _
 have r8:((h6.push (.cells [.nilm] true)).set h6.next (.cells [.map h5.next] true)).get h6.next = some (.cells [.map h5.next] true):=AHeap.get_set_same _ _ _
 have x8:((h6.push (.cells [.nilm] true)).set h6.next (.cells [.map h5.next] true)).next = h6.next + 1:=by rw [AHeap.next_set]; rfl
 have b8:=ba (g5.trans (g6.trans g8))
 simp (disch:=omega) only [RSf.down,f5,f6,e8,b8]
 generalize (h6.push (.cells [.nilm] true)).set h6.next (.cells [.map h5.next] true) = h8 at g8 r8 x8 ⊢
 have gg:=g1.trans (g5.trans (g6.trans g8))
 obtain ⟨v9,c9,h9,f9,p9,g9,fr9⟩:=jelements_spec hNo hS (hg.gro gg) hc (by rw [Int.toNat_natCast]; exact hel) hl
 have e10:=filter_spec hNo (h:=h9) (va:=v9) (vf := .fn (.func 210) [] [.ptr (h.next + 1) 0, .ptr h6.next 0]) p9.own.at.scalar rfl
 have g10:Gro h9 ((h9.push (.cells [v9] true)).push (.cells [.fn (.func 210) [] [.ptr (h.next + 1) 0, .ptr h6.next 0]] true)):=(Gro.push h9 _).trans (Gro.push _ _)
 have l1:loadV none (.ptr h9.next 0) ((h9.push (.cells [v9] true)).push (.cells [.fn (.func 210) [] [.ptr (h.next + 1) 0, .ptr h6.next 0]] true)) = some v9:=box_ld (Gro.push _ _) rfl
 have l2:loadV none (.ptr (h9.next + 1) 0) ((h9.push (.cells [v9] true)).push (.cells [.fn (.func 210) [] [.ptr (h.next + 1) 0, .ptr h6.next 0]] true)) = some (.fn (.func 210) [] [.ptr (h.next + 1) 0, .ptr h6.next 0]):=box_ld (h:=h9.push (.cells [v9] true)) (Gro.refl _) rfl
 have x10:((h9.push (.cells [v9] true)).push (.cells [.fn (.func 210) [] [.ptr (h.next + 1) 0, .ptr h6.next 0]] true)).next = h9.next + 2:=rfl
 generalize (h9.push (.cells [v9] true)).push (.cells [.fn (.func 210) [] [.ptr (h.next + 1) 0, .ptr h6.next 0]] true) = h10 at e10 g10 l1 l2 x10 ⊢
 have g8x:∀ {hx},Gro h10 hx -> Gro h8 hx:=fun g => g9.trans (g10.trans g)
 have g1x:∀ {hx},Gro h10 hx -> Gro h1 hx:=fun g => g5.trans (g6.trans (g8.trans (g8x g)))
 obtain ⟨v11,c11,h11,f11,p11,g11,fr11⟩:=collect_spec hNo (l:=l) (f:=fun x => (gS ls2).all fun s => decide (cj s x ∈ K)) (by omega) (by omega) l1 l2 (p9.pms.gro g10) (by omega) (fun hx a p g hp ha => nor1_spec hNo hn (bb (g1x g)) (loadV_get (by rw [(g8x g).same _ (by omega)]; exact r8) rfl) (by rw [(g8.trans (g8x g)).same _ i6]; exact m6) (Nat.lt_of_lt_of_le i6 (g8.trans (g8x g)).le) ha (el_pv hSv hel hp) ((hg2.pmsS hc2).gro (g1.trans (g1x g))) hSv2 (by unfold gS; rw [List.length_map]; omega))
 simp (disch:=omega) only [RSf.down,f9,e10,f11]
 refine ⟨(fun i hi => by cases hi),_,rfl,c11,?_,gg.trans (g9.trans (g10.trans g11))⟩
 have:norG l (gS ls2) m = l.filter fun x => (gS ls2).all fun s => decide (cj s x ∈ K):=by
  unfold norG
  congr 1; funext x; congr 1; funext s
  exact decide_eq_decide.2 (hK _).symm
 rw [this]; exact p11
theorem gNor_spec {vg vg2 : AV} {ls ls2 : List (List Int)} (hg : LsAt h vg ls) (hg2 : LsAt h vg2 ls2) (d d2 : Int) (he : HasEl d ls) (he2 : HasEl d2 ls2) :
  ∃ (D:Int) (v:AV) (h':AHeap),lim otab.get I (.fn 68) [.agg [.int .i64 d,vg], .agg [.int .i64 d2,vg2]] h = some (.tup [.agg [.int .i64 D,v], .int .i64 (jE2 d ls d2 ls2)],h') /\ Gro h h' /\
   (jE2 d ls d2 ls2 ≠ 0 -> D = 0 /\ v = .nils) /\ (jE2 d ls d2 ls2 = 0 -> D = d /\ ∀ l,IsEl d.toNat (gS ls) l -> l.length <= 5040 -> ∀ l2,IsEl d.toNat (gS ls2) l2 -> l2.length <= 5040 -> ∃ c,PL h' v c (red d.toNat (norG l (gS ls2) l2))):=by
 have hNo:=hS.no
 refine (lim_walk_ex (T:=otab.get) (I:=I) (f:=68) (fn:=of68) rfl (a:=[.agg [.int .i64 d,vg], .agg [.int .i64 d2,vg2]]) (h:=h) (P:=fun a h' => ∃ D v,a = .tup [.agg [.int .i64 D,v], .int .i64 (jE2 d ls d2 ls2)] /\ Gro h h' /\ (jE2 d ls d2 ls2 ≠ 0 -> D = 0 /\ v = .nils) /\ (jE2 d ls d2 ls2 = 0 -> D = d /\ ∀ l,IsEl d.toNat (gS ls) l -> l.length <= 5040 -> ∀ l2,IsEl d.toNat (gS ls2) l2 -> l2.length <= 5040 -> ∃ c,PL h' v c (red d.toNat (norG l (gS ls2) l2)))) (hNo.at _ _ (by decide) (by decide) (by decide)) ?_) |> fun ⟨a,h',e,D,v,q1,q2⟩ => ⟨D,v,h',by rw [e,q1],q2⟩
 show WK _ _ [] ⟨[.agg [.int .i64 d,vg], .agg [.int .i64 d2,vg2],aundef,aundef,aundef],h⟩ _
 dsimp only [of68,Z.t,Z.f,Z.i,Z.q,Z.m,Z.l,Z.b,Z.c,Z.w]
 have ga:=Gro.push h (.cells [.int .i64 d,vg] true)
 have gb:=Gro.push (h.push (.cells [.int .i64 d,vg] true)) (.cells [.int .i64 d2,vg2] true)
 have gc:=Gro.push ((h.push (.cells [.int .i64 d,vg] true)).push (.cells [.int .i64 d2,vg2] true)) (.cells [.int .i64 0, .nils] true)
 have xa:(h.push (.cells [.int .i64 d,vg] true)).next = h.next + 1:=rfl
 have xb:((h.push (.cells [.int .i64 d,vg] true)).push (.cells [.int .i64 d2,vg2] true)).next = h.next + 2:=rfl
 have xc:(((h.push (.cells [.int .i64 d,vg] true)).push (.cells [.int .i64 d2,vg2] true)).push (.cells [.int .i64 0, .nils] true)).next = h.next + 3:=rfl
 have r1:=AHeap.get_push_same ((h.push (.cells [.int .i64 d,vg] true)).push (.cells [.int .i64 d2,vg2] true)) (.cells [.int .i64 0, .nils] true)
 rw [xb] at r1
 have ba:=fun {h'} (g:Gro _ h') => box_all (h:=h) (c:=[.int .i64 d,vg]) (r:=true) (h':=h') (gb.trans (gc.trans g)) (n:=2) rfl
 have bb:=fun {h'} (g:Gro _ h') => box_all (h:=h.push (.cells [.int .i64 d,vg] true)) (c:=[.int .i64 d2,vg2]) (r:=true) (h':=h') (gc.trans g) (n:=2) rfl
 have bl:=fun {h'} (g:Gro _ h') => box_ld (h:=h) (c:=[.int .i64 d,vg]) (r:=true) (h':=h') (gb.trans (gc.trans g)) (o:=0) rfl
 rw [xa] at bb
 have b1:=ba (Gro.refl _)
 have b2:=bb (Gro.refl _)
 have g1:=ga.trans (gb.trans gc)
 simp (disch:=omega) only [RSf.down,b1,b2,xa,xb]
 generalize ((h.push (.cells [.int .i64 d,vg] true)).push (.cells [.int .i64 d2,vg2] true)).push (.cells [.int .i64 0, .nils] true) = h1 at g1 ba bb bl b1 b2 xc r1 ⊢
 rw [ev_bs2 _ rfl rfl]
 have G1:=gs_two (d:=d) (d2:=d2) (hg.gro g1) (hg2.gro g1)
 have g2:=Gro.push h1 (.cells [.int .i64 d,vg, .int .i64 d2,vg2] true)
 simp (disch:=omega) only [RSf.down]
 generalize h1.push (.cells [.int .i64 d,vg, .int .i64 d2,vg2] true) = h2 at G1 g2 ⊢
 obtain ⟨h4,f4,g4⟩:=jcheck_spec hNo G1 ls_nil (show 0 < 2 by decide) (show 2 <= 1000 by decide) (by decide) (fun g hm => by
  rcases List.mem_cons.1 hm with rfl | hm
  ·exact he
  ·obtain rfl:=List.mem_singleton.1 hm; exact he2)
 rw [chk_two] at f4
 have g24:=g2.trans g4
 have r4:h4.get (h.next + 2) = some (.cells [.int .i64 0, .nils] true):=by rw [g24.same _ (by omega)]; exact r1
 by_cases e0:jE2 d ls d2 ls2 = 0
 ·rw [e0] at f4 ⊢
  have b4:=ba g24
  have hc:groupErr d ls = 0:=by
   by_cases hc:groupErr d ls = 0
   ·exact hc
   ·unfold jE2 at e0; rw [if_pos hc] at e0; exact absurd e0 hc
  have hc2:groupErr d2 ls2 = 0:=by
   by_cases hc2:groupErr d2 ls2 = 0
   ·exact hc2
   ·unfold jE2 at e0; rw [if_neg fun h => h hc,if_pos hc2] at e0; exact absurd e0 hc2
  have hdd:d2 = d:=by
   by_cases e:d2 = d
   ·exact e
   ·unfold jE2 at e0; rw [if_neg fun h => h hc,if_neg fun h => h hc2,if_pos e] at e0; cases e0
  subst hdd
  obtain ⟨l,hel,hl⟩:=he hc
  have gg:=g1.trans g24
  obtain ⟨n,rfl,hn,_,_,hSv⟩:=group_of_ok hc
  obtain ⟨n2,e2,_,l2,_,hSv2⟩:=group_of_ok hc2
  obtain rfl:n = n2:=by omega
  rw [Int.toNat_natCast] at hel
  obtain ⟨m2,hel2,hl2⟩:=he2 hc2
  rw [Int.toNat_natCast] at hel2
  obtain ⟨v5,c5,h5,f5,p5,g5⟩:=normalizer_spec hS (hg.gro gg) hc hel hl hn (hg2.gro gg) hc2 hel2 hl2
  obtain ⟨v6,c6,h6,f6,p6,g6',fr6,fc6⟩:=jreduced_spec hNo hn p5.pms (fun s hs => el_pv hSv hel (mem_norG.1 hs).1) (nor_closed hSv hSv2 hel hel2) (Nat.le_trans (List.length_filter_le _ _) hl)
  have g6:=g5.trans g6'
  have l4:=bl g24
  have l5:=bl (g24.trans g5)
  have b5:=bb g24
  have r6:h6.get (h.next + 2) = some (.cells [.int .i64 0, .nils] true):=by rw [g6.same _ (by have:=g24.le; omega)]; exact r4
  have e9:stV 2 (.ptr (h.next + 2) 0) (.agg [.int .i64 (n:Int),v6]) h6 = some (aundef,h6.set (h.next + 2) (.cells [.int .i64 (n:Int),v6] true)):=stV_two r6 rfl p6.own.at.scalar
  simp (disch:=omega) only [RSf.down,f4,neqF,b4,b5,l4,l5,WDV_succ,WDV_zero,f5,f6,WDE_some,WDE_none,checks,lower,recheck,AOp.cls,AV.beq_refl,cond_true,true_and,e9]
  have ch:Chg (fun j => j = h.next + 2) h6 (h6.set (h.next + 2) (.cells [.int .i64 (n:Int),v6] true)):=Chg.set (F:=fun j => j = h.next + 2) h6 rfl _
  have l4:=g24.le
  have l46:=g5.le
  refine ⟨(fun i hi => by cases hi), .tup [.agg [.int .i64 (n:Int),v6], .int .i64 0],result_ct rfl (loadV_two (AHeap.get_set_same _ _ _)),_,_,rfl,(gg.trans g6).set (by omega) _,fun h => absurd rfl h,fun _ => ⟨rfl,fun l' hl' hll l2' hl2' hll2 => ⟨c6,?_⟩⟩⟩
  rw [Int.toNat_natCast] at hl' hl2' ⊢
  rw [hl'.unique hel,hl2'.unique hel2]
  exact ⟨p6.own.chg ch fun i hi e => by have:=fr6 i hi; omega,p6.len,fun i x q hx hq => (p6.el i x q hx hq).chg ch fun j hj e => by have:=fc6 x (List.mem_of_getElem? hx) j hj; omega⟩
 ·have e9:stV 2 (.ptr (h.next + 2) 0) (.agg [.int .i64 0, .nils]) h4 = some (aundef,h4.set (h.next + 2) (.cells [.int .i64 0, .nils] true)):=stV_two r4 rfl rfl
  have eb:∀ tm:List AV,evalQ (.build [.int .i64 0, .nils] []) tm h4 = some (.agg [.int .i64 0, .nils]):=fun _ => rfl
  simp (disch:=omega) only [RSf.down,f4,neqT e0,eb,e9]
  exact ⟨(fun i hi => by cases hi), .tup [.agg [.int .i64 0, .nils], .int .i64 (jE2 d ls d2 ls2)],result_ct rfl (loadV_two (AHeap.get_set_same _ _ _)),_,_,rfl,(g1.trans g24).set (by omega) _,fun _ => ⟨rfl,rfl⟩,fun h => absurd h e0⟩
end
end Go.AM
namespace Go.AM
open Go Go.GT
section
variable {I:Oracle} (hNo:NoI I) {h:AHeap}
include hNo
theorem equal_spec {n : Int} {va vb : AV} {ca cb : List AV} {S : List Pm} (ha : PL h va ca S) (hb : PL h vb cb S) (hs : ∀ p ∈ S, p.length <= 1000000) (hl : S.length <= 1000000) :
  ∃ h',lim otab.get I (.fn 48) [.agg [.int .i64 n,va], .agg [.int .i64 n,vb]] h = some (.bool true,h') /\ Gro h h':=by
 refine (lim_walk_ex (T:=otab.get) (I:=I) (f:=48) (fn:=of48) rfl (a:=[.agg [.int .i64 n,va], .agg [.int .i64 n,vb]]) (h:=h) (P:=fun a h' => a = .bool true /\ Gro h h') (hNo.at _ _ (by decide) (by decide) (by decide)) ?_) |> fun ⟨a,h',e,q1,q2⟩ => ⟨h',by rw [e,q1],q2⟩
 show WK _ _ [] ⟨[.agg [.int .i64 n,va], .agg [.int .i64 n,vb],aundef,aundef],h⟩ _
 dsimp only [of48,Z.t,Z.f,Z.i,Z.q,Z.m,Z.l,Z.b,Z.c,Z.w]
 have g1:Gro h ((h.push (.cells [.int .i64 n,va] true)).push (.cells [.int .i64 n,vb] true)):=(Gro.push h _).trans (Gro.push _ _)
 have r0:((h.push (.cells [.int .i64 n,va] true)).push (.cells [.int .i64 n,vb] true)).get h.next = some (.cells [.int .i64 n,va] true):=by
  rw [AHeap.get_push_lt _ _ (show h.next < h.next + 1 by omega),AHeap.get_push_same]
 have r1:((h.push (.cells [.int .i64 n,va] true)).push (.cells [.int .i64 n,vb] true)).get (h.next + 1) = some (.cells [.int .i64 n,vb] true):=AHeap.get_push_same (h.push _) _
 have a0:loadV none (.ptr h.next 0) ((h.push (.cells [.int .i64 n,va] true)).push (.cells [.int .i64 n,vb] true)) = some (.int .i64 n):=loadV_get r0 rfl
 have a1:loadV none (.ptr h.next 1) ((h.push (.cells [.int .i64 n,va] true)).push (.cells [.int .i64 n,vb] true)) = some va:=loadV_get r0 rfl
 have b0:loadV none (.ptr (h.next + 1) 0) ((h.push (.cells [.int .i64 n,va] true)).push (.cells [.int .i64 n,vb] true)) = some (.int .i64 n):=loadV_get r1 rfl
 have b1:loadV none (.ptr (h.next + 1) 1) ((h.push (.cells [.int .i64 n,va] true)).push (.cells [.int .i64 n,vb] true)) = some vb:=loadV_get r1 rfl
 have en:bin .eql .no (.int .i64 n) (.int .i64 n) = some (.bool true):=eqlT rfl
 have fs:lim otab.get I (.fn 82) [va,vb] ((h.push (.cells [.int .i64 n,va] true)).push (.cells [.int .i64 n,vb] true)) = some (.bool (decide (S = S)),_) :=
  lists_fn (P:=PmB) rfl (fun _ _ => hNo.at _ _ (by decide) (by decide) (by decide)) (fun _ _ _ _ h1 h2 => same_pm hNo h1.1 h2.1 h1.2) ((ha.gro g1).bd hs) ((hb.gro g1).bd hs) hl
 rw [decide_eq_true rfl] at fs
 simp (disch:=omega) only [RSf.down,AHeap.next_push,a0,b0,en,a1,b1,fs]
 exact ⟨(fun i hi => by cases hi),_,rfl,rfl,g1⟩
end
end Go.AM
namespace Go.AM
open Go Go.GT
theorem s3_reps:reps s3e = [[0,1,2], [0,2,1], [1,2,0]]:=by decide +kernel
theorem s3_c1:(ccl s3e [0,2,1]).length = 3:=by decide +kernel
theorem s3_c2:(ccl s3e [1,2,0]).length = 2:=by decide +kernel
theorem s3_pmp:pmp 3 s3e 2 = [0,0,2]:=by decide +kernel
theorem s3_cen:cenL s3e [[1,2,0]] = [[0,1,2], [1,2,0], [2,0,1]]:=by decide +kernel
theorem s3_nrm:norG s3e [[0,2,1]] [[0,1,2], [0,2,1]] = [[0,1,2], [0,2,1]]:=by decide +kernel
theorem gen_nil {n:Nat} {p:Pm} (h:Gen n [] p):p = one n:=by
 cases h with
 | one => rfl
 | mul _ hs => cases hs
theorem s3_redc:red 3 [[0,1,2], [1,2,0], [2,0,1]] = [[1,2,0]]:=by
 have a0:Gen 3 [] [0,1,2] := .one
 have a1:¬ Gen 3 [] [1,2,0]:=fun h => by have:=gen_nil h; revert this; decide
 have a2:Gen 3 [[1,2,0]] [1,2,0] := .mul (a:=[0,1,2]) (s:=[1,2,0]) .one (by decide)
 have a3:Gen 3 [[1,2,0]] [2,0,1] := .mul (a:=[1,2,0]) (s:=[1,2,0]) a2 (by decide)
 unfold red
 rw [List.foldl_cons,redS_in a0,List.foldl_cons,redS_out a1,List.nil_append,List.foldl_cons,redS_in a3]; rfl
theorem s3_redn:red 3 [[0,1,2], [0,2,1]] = [[0,2,1]]:=by
 have a0:Gen 3 [] [0,1,2] := .one
 have a1:¬ Gen 3 [] [0,2,1]:=fun h => by have:=gen_nil h; revert this; decide
 unfold red
 rw [List.foldl_cons,redS_in a0,List.foldl_cons,redS_out a1]; rfl
theorem s3_two:IsEl 3 [[0,2,1]] [[0,1,2], [0,2,1]]:=by
 refine ⟨by unfold Asc; decide,fun p => ⟨fun hp => ?_,fun hp => ?_⟩⟩
 ·have g0:Gen 3 [[0,2,1]] [0,1,2] := .one
  have g2:Gen 3 [[0,2,1]] [0,2,1] := .mul (a:=[0,1,2]) (s:=[0,2,1]) g0 (by decide)
  simp only [List.mem_cons,List.not_mem_nil,or_false] at hp
  rcases hp with rfl | rfl <;> assumption
 ·induction hp with
  | one => decide
  | @mul a s h hs ih => exact (by decide:∀ a ∈ [[0,1,2], [0,2,1]], ∀ s ∈ [[0,2,1]],mul a s ∈ [[0,1,2], [0,2,1]]) a ih s hs
theorem s3_err:groupErr 3 [[1,0,2], [1,2,0]] = 0:=by decide
theorem s3_he:HasEl 3 [[1,0,2], [1,2,0]]:=fun _ => ⟨s3e,s3_el,by decide⟩
theorem s3_he2:HasEl 3 [[0,2,1]]:=fun _ => ⟨_,s3_two,by decide⟩
theorem ClsAt.getG {h:AHeap} {v:AV} {l R:List Pm} (s:ClsAt h v l R) {k:Nat} {r:Pm} (hi:R[k]? = some r):∃ i o a,(∀ q,iaddrV 2 v (.int q (k:Int)) = some (.ptr i o)) /\ (∀ h',Gro h h' -> loadV none (.ptr i o) h' = some a /\ loadV none (.ptr i (o + 1)) h' = some (.int .i64 ((ccl l r).length:Int))) /\ PmAt h a r:=by
 obtain ⟨c,o,e⟩:=s.ex
 obtain ⟨a,a1,a2,a3,_⟩:=e k r hi
 have hk:=(List.getElem?_eq_some_iff.1 hi).1
 rcases o with ⟨_,e2,_⟩ | ⟨i,cap,rfl,_,_,e4,e5⟩
 ·omega
 ·refine ⟨i,0 + k * 2,a,fun q => iaddrV_ok hk,fun h' g => ⟨loadV_get (by rw [g.same _ e4]; exact e5) (by rw [Nat.zero_add]; exact a1),loadV_get (by rw [g.same _ e4]; exact e5) (by rw [Nat.zero_add]; exact a2)⟩,a3⟩
section
variable {I:Oracle} (hC:Cjc I) {h:AHeap}
include hC
theorem awake25_spec:∃ h',lim otab.get I (.fn 61) [] h = some (.bool true,h') /\ Gro h h':=by
 have hNo:=hC.srt.no
 have h3:∀ {h:AHeap}, ∃ vg h',lim otab.get I (.fn 134) [] h = some (.agg [.int .i64 3,vg],h') /\ LsAt h' vg [[1,0,2], [1,2,0]] /\ Gro h h':=fun {h} => three_fn (f:=134) rfl (fun _ _ => hNo.at _ _ (by decide) (by decide) (by decide))
 refine (lim_walk_ex (T:=otab.get) (I:=I) (f:=61) (fn:=of61) rfl (a:=[]) (h:=h) (P:=fun a h' => a = .bool true /\ Gro h h') (hNo.at _ _ (by decide) (by decide) (by decide)) ?_) |> fun ⟨a,h',e,q1,q2⟩ => ⟨h',by rw [e,q1],q2⟩
 show WK _ _ [] ⟨[aundef,aundef,aundef,aundef,aundef,aundef,aundef,aundef,aundef,aundef],h⟩ _
 dsimp only [of61,Z.t,Z.f,Z.i,Z.q,Z.m,Z.l,Z.b,Z.c,Z.w]
 have bA:∀ (tm:List AV) (hh:AHeap),evalA (.bslice 3 1 [.int .i64 0, .int .i64 0, .int .i64 0] [(0, .lit (.int .i64 1)),(1, .lit (.int .i64 2)),(2, .lit (.int .i64 0))]) tm hh = some (.cells (pc [1,2,0]) true, .slice hh.next 0 3 (.exact 3)):=fun _ _ => rfl
 have bB:∀ (tm:List AV) (hh:AHeap),evalA (.bslice 3 1 [.int .i64 0, .int .i64 0, .int .i64 0] [(0, .lit (.int .i64 0)),(1, .lit (.int .i64 2)),(2, .lit (.int .i64 1))]) tm hh = some (.cells (pc [0,2,1]) true, .slice hh.next 0 3 (.exact 3)):=fun _ _ => rfl
 have bC:∀ (tm:List AV) (hh:AHeap),evalA (.bslice 3 1 [.int .i64 0, .int .i64 0, .int .i64 0] [(0, .lit (.int .i64 0)),(1, .lit (.int .i64 0)),(2, .lit (.int .i64 2))]) tm hh = some (.cells (pc [0,0,2]) true, .slice hh.next 0 3 (.exact 3)):=fun _ _ => rfl
 obtain ⟨va,h1,f1,q1,g1⟩:=h3 (h:=h)
 obtain ⟨v2,h2,f2,g2,_,C2⟩:=gClasses_spec hC q1 3 s3_he
 have C2:=C2 s3_err s3e s3_el (by decide)
 rw [s3_err] at f2
 rw [s3_reps] at C2
 obtain ⟨vb,h3',f3,q3,g3⟩:=h3 (h:=h2)
 obtain ⟨v4,h4,f4,g4,_,P4⟩:=gPow_spec hC q3 3 2 s3_he
 have P4:PmAt h4 v4 [0,0,2]:=by have:=P4 s3_err s3e s3_el (by decide); rw [<- s3_pmp]; exact this
 rw [s3_err] at f4
 obtain ⟨vc,h5,f5,q5,g5⟩:=h3 (h:=h4)
 simp (disch:=omega) only [RSf.down,f1,f2,f3,f4,f5]
 rw [bA]
 have k1:PmAt (h5.push (.cells (pc [1,2,0]) true)) (.slice h5.next 0 3 (.exact 3)) [1,2,0]:=pm_push h5 [1,2,0]
 have q5':=q5.gro (Gro.push h5 (.cells (pc [1,2,0]) true))
 have g6:=Gro.push h5 (.cells (pc [1,2,0]) true)
 simp (disch:=omega) only [RSf.down]
 generalize h5.push (.cells (pc [1,2,0]) true) = h6 at k1 q5' g6 ⊢
 obtain ⟨D7,v7,h7,f7,g7,_,C7⟩:=gCen_spec hC.srt q5' (p:=[1,2,0]) k1.ints 3 s3_he
 have e7:jE 3 [[1,0,2], [1,2,0]] [[1,2,0]] = 0:=by decide
 obtain ⟨eD,C7'⟩:=C7 e7
 subst eD
 rw [e7] at f7
 obtain ⟨c7,p7⟩:=C7' s3e s3_el (by decide)
 have p7:PL h7 v7 c7 [[1,2,0]]:=by rw [<- s3_redc, <- s3_cen]; exact p7
 have e8:stV 2 (.ptr h7.next 0) (.agg [.int .i64 3,v7]) (h7.push (.cells [.int .i64 0, .nils] true)) = some (aundef,(h7.push (.cells [.int .i64 0, .nils] true)).set h7.next (.cells [.int .i64 3,v7] true)):=stV_two (AHeap.get_push_same _ _) rfl p7.own.at.scalar
 have g8:Gro h7 ((h7.push (.cells [.int .i64 0, .nils] true)).set h7.next (.cells [.int .i64 3,v7] true)):=(Gro.push h7 _).set (Nat.le_refl _) _
 have r8:((h7.push (.cells [.int .i64 0, .nils] true)).set h7.next (.cells [.int .i64 3,v7] true)).get h7.next = some (.cells [.int .i64 3,v7] true):=AHeap.get_set_same _ _ _
 have x8:((h7.push (.cells [.int .i64 0, .nils] true)).set h7.next (.cells [.int .i64 3,v7] true)).next = h7.next + 1:=by rw [AHeap.next_set]; rfl
 simp (disch:=omega) only [RSf.down,f7,e8]
 generalize (h7.push (.cells [.int .i64 0, .nils] true)).set h7.next (.cells [.int .i64 3,v7] true) = h8 at g8 r8 x8 ⊢
 obtain ⟨vd,h9,f9,q9,g9⟩:=h3 (h:=h8)
 simp (disch:=omega) only [RSf.down,f9]
 rw [bB]
 have k2:PmAt (h9.push (.cells (pc [0,2,1]) true)) (.slice h9.next 0 3 (.exact 3)) [0,2,1]:=pm_push h9 [0,2,1]
 have g10:=Gro.push h9 (.cells (pc [0,2,1]) true)
 simp (disch:=omega) only [RSf.down]
 generalize h9.push (.cells (pc [0,2,1]) true) = h10 at k2 g10 ⊢
 simp (disch:=omega) only [RSf.down,bslV_sc (show (AV.slice h9.next 0 3 (.exact 3)).scalar = true from rfl)]
 have k3:=ls_one (p:=[0,2,1]) k2.ints
 have g11:=Gro.push h10 (.cells [.slice h9.next 0 3 (.exact 3)] true)
 generalize h10.push (.cells [.slice h9.next 0 3 (.exact 3)] true) = h11 at k3 g11 ⊢
 have eb:∀ tm:List AV,nth tm 3 = .slice h10.next 0 1 (.exact 1) -> ∀ hh,evalQ (.build [.int .i64 0, .nils] [(0,1, .lit (.int .i64 3)),(1,1, .tmp 3)]) tm hh = some (.agg [.int .i64 3, .slice h10.next 0 1 (.exact 1)]):=fun tm a hh => by
  simp only [evalQ,fills,ev_tmp,ev_lit,a]; rfl
 rw [eb _ rfl]
 obtain ⟨D12,v12,h12,f12,g12,_,C12⟩:=gNor_spec hC.srt (q9.gro (g10.trans g11)) k3 3 3 s3_he s3_he2
 have e12:jE2 3 [[1,0,2], [1,2,0]] 3 [[0,2,1]] = 0:=by decide
 obtain ⟨eD,C12'⟩:=C12 e12
 subst eD
 rw [e12] at f12
 obtain ⟨c12,p12⟩:=C12' s3e s3_el (by decide) _ s3_two (by decide)
 have p12:PL h12 v12 c12 [[0,2,1]]:=by rw [<- s3_redn, <- s3_nrm]; exact p12
 have e13:stV 2 (.ptr h12.next 0) (.agg [.int .i64 3,v12]) (h12.push (.cells [.int .i64 0, .nils] true)) = some (aundef,(h12.push (.cells [.int .i64 0, .nils] true)).set h12.next (.cells [.int .i64 3,v12] true)):=stV_two (AHeap.get_push_same _ _) rfl p12.own.at.scalar
 have g13:Gro h12 ((h12.push (.cells [.int .i64 0, .nils] true)).set h12.next (.cells [.int .i64 3,v12] true)):=(Gro.push h12 _).set (Nat.le_refl _) _
 have r13:((h12.push (.cells [.int .i64 0, .nils] true)).set h12.next (.cells [.int .i64 3,v12] true)).get h12.next = some (.cells [.int .i64 3,v12] true):=AHeap.get_set_same _ _ _
 have x13:((h12.push (.cells [.int .i64 0, .nils] true)).set h12.next (.cells [.int .i64 3,v12] true)).next = h12.next + 1:=by rw [AHeap.next_set]; rfl
 have G2:=g3.trans (g4.trans (g5.trans (g6.trans (g7.trans (g8.trans (g9.trans (g10.trans (g11.trans (g12.trans g13)))))))))
 have G4:=g5.trans (g6.trans (g7.trans (g8.trans (g9.trans (g10.trans (g11.trans (g12.trans g13)))))))
 have G8:=g9.trans (g10.trans (g11.trans (g12.trans g13)))
 have C13:=C2.gro G2
 have P13:=P4.gro G4
 obtain ⟨i1,o1,a1,j1,l1,k11⟩:=C13.getG (k:=1) (r:=[0,2,1]) rfl
 obtain ⟨i2,o2,a2,j2,lq,_⟩:=C13.getG (k:=2) (r:=[1,2,0]) rfl
 rw [s3_c1] at l1
 rw [s3_c2] at lq
 have j1':=j1 .i64
 have j2':=j2 .i64
 simp (disch:=omega) only [RSf.down,f12,e13]
 generalize (h12.push (.cells [.int .i64 0, .nils] true)).set h12.next (.cells [.int .i64 3,v12] true) = h13 at g13 r13 x13 G2 G4 G8 C13 P13 l1 lq k11 ⊢
 have j1'':iaddrV 2 v2 (.int .i64 1) = some (.ptr i1 o1):=j1'
 have j2'':iaddrV 2 v2 (.int .i64 2) = some (.ptr i2 o2):=j2'
 have hln':∀ {h':AHeap},lenV 1 v2 h' = some (.int .i64 3):=fun {h'} => C13.len
 have l11':loadV none (.ptr i1 (o1 + 1)) h13 = some (.int .i64 3):=(l1 _ (Gro.refl _)).2
 have l21':loadV none (.ptr i2 (o2 + 1)) h13 = some (.int .i64 2):=(lq _ (Gro.refl _)).2
 simp (disch:=omega) only [RSf.down,hln',neqF,j1'',j2'',l11',l21']
 rw [bC]
 have k14:=pm_push h13 [0,0,2]
 have g14:=Gro.push h13 (.cells (pc [0,0,2]) true)
 have f14:=same_pm hNo (P13.gro g14) k14 (by decide)
 rw [decide_eq_true rfl] at f14
 have f14':lim otab.get I (.fn 31) [v4, .slice h13.next 0 3 (.exact 3)] (h13.push (.cells (pc [0,0,2]) true)) = some (.bool true,h13.push (.cells (pc [0,0,2]) true)):=f14
 have l10':loadV none (.ptr i1 o1) (h13.push (.cells (pc [0,0,2]) true)) = some a1:=(l1 _ g14).1
 simp (disch:=omega) only [RSf.down,f14',not_bool,Bool.not_true,j1'',l10']
 generalize h13.push (.cells (pc [0,0,2]) true) = h14 at g14 ⊢
 rw [bB]
 have k15:PmAt (h14.push (.cells (pc [0,2,1]) true)) (.slice h14.next 0 3 (.exact 3)) [0,2,1]:=pm_push h14 [0,2,1]
 have g15:=Gro.push h14 (.cells (pc [0,2,1]) true)
 have f15:=same_pm hNo ((k11.gro g14).gro g15) k15 (by decide)
 rw [decide_eq_true rfl] at f15
 have G15:=g14.trans g15
 have l2:loadV (some 2) (.ptr h7.next 0) (h14.push (.cells (pc [0,2,1]) true)) = some (.agg [.int .i64 3,v7]):=loadV_two (by rw [((g9.trans (g10.trans (g11.trans (g12.trans g13)))).trans G15).same _ (by omega)]; exact r8)
 simp (disch:=omega) only [RSf.down,f15,l2]
 generalize h14.push (.cells (pc [0,2,1]) true) = h15 at G15 ⊢
 rw [bA]
 have k16:PmAt (h15.push (.cells (pc [1,2,0]) true)) (.slice h15.next 0 3 (.exact 3)) [1,2,0]:=pm_push h15 [1,2,0]
 have g16:=Gro.push h15 (.cells (pc [1,2,0]) true)
 simp (disch:=omega) only [RSf.down,bslV_sc (show (AV.slice h15.next 0 3 (.exact 3)).scalar = true from rfl)]
 generalize h15.push (.cells (pc [1,2,0]) true) = h16 at k16 g16 ⊢
 have k17:=PL.one k16
 have g17:=Gro.push h16 (.cells [.slice h15.next 0 3 (.exact 3)] true)
 generalize h16.push (.cells [.slice h15.next 0 3 (.exact 3)] true) = h17 at k17 g17 ⊢
 have eb2:∀ tm:List AV,nth tm 2 = .slice h16.next 0 1 (.exact 1) -> ∀ hh,evalQ (.build [.int .i64 0, .nils] [(0,1, .lit (.int .i64 3)),(1,1, .tmp 2)]) tm hh = some (.agg [.int .i64 3, .slice h16.next 0 1 (.exact 1)]):=fun tm a hh => by
  simp only [evalQ,fills,ev_tmp,ev_lit,a]; rfl
 rw [eb2 _ rfl]
 have G17:=G15.trans (g16.trans g17)
 obtain ⟨h18,f18,g18⟩:=equal_spec hNo (n:=3) (p7.gro (g8.trans (G8.trans G17))) k17 (by decide) (by decide)
 have G18:=G17.trans g18
 have l3:loadV (some 2) (.ptr h12.next 0) h18 = some (.agg [.int .i64 3,v12]):=loadV_two (by rw [G18.same _ (by omega)]; exact r13)
 simp (disch:=omega) only [RSf.down,f18,l3]
 rw [bB]
 have k19:PmAt (h18.push (.cells (pc [0,2,1]) true)) (.slice h18.next 0 3 (.exact 3)) [0,2,1]:=pm_push h18 [0,2,1]
 have g19:=Gro.push h18 (.cells (pc [0,2,1]) true)
 simp (disch:=omega) only [RSf.down,bslV_sc (show (AV.slice h18.next 0 3 (.exact 3)).scalar = true from rfl)]
 generalize h18.push (.cells (pc [0,2,1]) true) = h19 at k19 g19 ⊢
 have k20:=PL.one k19
 have g20:=Gro.push h19 (.cells [.slice h18.next 0 3 (.exact 3)] true)
 generalize h19.push (.cells [.slice h18.next 0 3 (.exact 3)] true) = h20 at k20 g20 ⊢
 have eb3:∀ tm:List AV,nth tm 2 = .slice h19.next 0 1 (.exact 1) -> ∀ hh,evalQ (.build [.int .i64 0, .nils] [(0,1, .lit (.int .i64 3)),(1,1, .tmp 2)]) tm hh = some (.agg [.int .i64 3, .slice h19.next 0 1 (.exact 1)]):=fun tm a hh => by
  simp only [evalQ,fills,ev_tmp,ev_lit,a]; rfl
 rw [eb3 _ rfl]
 have G20:=G18.trans (g19.trans g20)
 obtain ⟨h21,f21,g21⟩:=equal_spec hNo (n:=3) (p12.gro (g13.trans G20)) k20 (by decide) (by decide)
 simp (disch:=omega) only [RSf.down,f21]
 exact ⟨(fun i hi => by cases hi),_,rfl,rfl,g1.trans (g2.trans (G2.trans (G20.trans g21)))⟩
end
end Go.AM
namespace Go.AM
open Go Go.GT
section
variable {I:Oracle} (hNo:NoI I) {h:AHeap}
include hNo
def Lrg (d:Int) (ls:List (List Int)):Prop:=¬ FewL ls \/ (groupErr d ls = 0 /\ ¬ SmallG d ls)
noncomputable instance (d:Int) (ls:List (List Int)):Decidable (Lrg d ls):=Classical.propDecidable _
end
end Go.AM
namespace Go.AM
open Go Go.GT
theorem gen_zs {n:Nat} {p:Pm} (pp:PV n p) (hn:n <= 20):genErr (n:Int) (zs p) = 0:=by
 unfold genErr
 rw [ok_of_perm pp hn,zs_len,pp.len]
 simp
end Go.AM
namespace Go.AM
open Go Go.GT
def fcj (l:List Pm) (a b:Pm):Option Pm:=l.find? fun x => decide (cj a x = b)
theorem fcj_at {l:List Pm} {a b x:Pm} {k:Nat} (hx:l[k]? = some x) (h0:∀ y ∈ l.take k,cj a y ≠ b) (h1:cj a x = b):fcj l a b = some x:=by
 have e:l = l.take k ++ x :: l.drop (k + 1):=by
  obtain ⟨hk,rfl⟩:=List.getElem?_eq_some_iff.1 hx
  rw [<- List.drop_eq_getElem_cons hk,List.take_append_drop]
 unfold fcj
 rw [e,List.find?_append,List.find?_eq_none.2 fun y hy => by simpa using h0 y hy,List.find?_cons,decide_eq_true h1]; rfl
theorem fcj_none {l:List Pm} {a b:Pm} (h0:∀ y ∈ l,cj a y ≠ b):fcj l a b = none:=List.find?_eq_none.2 fun y hy => by simpa using h0 y hy
section
variable {I:Oracle} (hNo:NoI I) {h:AHeap}
include hNo
theorem conj1_spec {n : Nat} (hn : n <= 20) {b1 b2 : Nat} {vx va vb : AV} {x a b : Pm} (h2 : b2 < h.next) (l1 : loadV none (.ptr b1 0) h = some va) (l2 : loadV none (.ptr b2 0) h = some vb) (hx : PmAt h vx x) (ha : PmAt h va a) (hb : PmAt h vb b) (px : PV n x) (pa : PV n a) :
  ∃ h',lim otab.get I (.fn 149) [vx, .ptr b1 0, .ptr b2 0] h = some (.bool (decide (cj a x = b)),h') /\ Gro h h':=by
 refine (lim_walk_ex (T:=otab.get) (I:=I) (f:=149) (fn:=of149) rfl (a:=[vx, .ptr b1 0, .ptr b2 0]) (h:=h) (P:=fun v h' => v = .bool (decide (cj a x = b)) /\ Gro h h') (hNo.at _ _ (by decide) (by decide) (by decide)) ?_) |> fun ⟨v,h',e,q1,q2⟩ => ⟨h',by rw [e,q1],q2⟩
 show WK _ _ [] ⟨[vx, .ptr b1 0, .ptr b2 0,aundef],h⟩ _
 dsimp only [of149,Z.t,Z.f,Z.i,Z.q,Z.m,Z.l,Z.b,Z.c,Z.w]
 obtain ⟨v3,h3,f3,n3⟩:=conj_fn (I:=I) (f:=151) rfl (fun _ _ => hNo.at _ _ (by decide) (by decide) (by decide)) ha hx pa px (by omega)
 have l2':loadV none (.ptr b2 0) h3 = some vb:=by rw [loadV_same (F:=fun _ => False) n3.gro.chg h2 (fun hf => hf)]; exact l2
 have f4:=eq_pm hNo n3.at_ (hb.gro n3.gro) (by rw [(PV.cj pa px).len]; omega)
 simp (disch:=omega) only [RSf.down,l1,l2,l2',WDV_succ,WDV_zero,f3,WDE_some,checks,lower,recheck,AOp.cls,AV.beq_refl,cond_true,true_and,f4,WDE_none]
 exact ⟨(fun i hi => by cases hi),_,rfl,rfl,n3.gro⟩
theorem conj_range {n : Nat} (hn : n ≤ 20) {i6 i7 ib1 ib2 b1 b2 : Nat} {x0 x1 x2 x3 x4 x5 x8 x9 x10 x11 x12 x13 x14 x15 x16 x17 x18 x19 x20 x21 x22 x23 x24 x25 vl va vb : AV} {TM : List AV} {A B : ACode} {l : List Pm} {a b : Pm}
    (hT:TM = [x0,x1,x2,x3,x4,x5, .ptr i6 0, .ptr i7 0,x8,x9,x10,x11,x12,x13,x14,x15,x16,x17,x18,x19,x20,x21,x22,x23,x24,x25])
    (hA:(ACode.ops [⟨some 9, .mov (.tmp 23),none⟩]) = A) (hB:(ACode.block 1 (.seq (.ops [⟨some 24, .mov (.tmp 9),none⟩,⟨some 25, .call (.lit (.fn (.func 152) [] [])) [.tmp 24],none⟩,⟨none, .store 1 (.tmp 6) (.tmp 25),none⟩,⟨none, .store 1 (.tmp 7) (.lit (.int .i64 0)),none⟩]) .ret)) = B)
    (h6:i6 < h.next) (h7:i7 < h.next) (hne:i6 ≠ i7) (r6:h.get i6 = some (.cells [.nils] true)) (r7:h.get i7 = some (.cells [.int .i64 0] true))
    (k1:ib1 < h.next) (k2:ib2 < h.next) (l1:loadV none (.ptr ib1 0) h = some vl) (l2:loadV none (.ptr ib2 0) h = some (.fn (.func 149) [] [.ptr b1 0, .ptr b2 0]))
    (hb1:b1 < h.next) (hb2:b2 < h.next) (m1:loadV none (.ptr b1 0) h = some va) (m2:loadV none (.ptr b2 0) h = some vb) (hl:PmsAt h vl l) (hva:PmAt h va a) (hvb:PmAt h vb b) (pv:∀ x ∈ l,PV n x) (pa:PV n a) (hL:l.length ≤ 5040) :
    ∃ v h',lim otab.get I (.fn 213) [.fn (.yield h.next) [] [], .ptr ib1 0, .ptr ib2 0] (h.push (.loop 0 TM [23] A B 0 none)) = some (v,h') ∧
      ((Gro h h' ∧ h'.get h.next = some (.loop 0 TM [23] A B 0 none) ∧ fcj l a b = none) ∨
       ∃ x vx,fcj l a b = some x ∧ h'.get h.next = some (.loop 0 TM [23] A B 2 (some .ret)) ∧ h'.get i6 = some (.cells [vx] true) ∧ h'.get i7 = some (.cells [.int .i64 0] true) ∧ PmAt h' vx x ∧ h.next < h'.next ∧ Chg (fun j => j = i6 ∨ j = i7) h h' ∧ (x ≠ [] → ∀ j,oid vx = some j → h.next < j)):=by
  obtain ⟨cV,s1,s2,s3⟩:=hl
  have hrng:=filter1_spec hNo (h:=h.push (.loop 0 TM [23] A B 0 none)) (lp:=h.next) (ib1:=ib1) (ib2:=ib2) (g:=149) (vl:=vl) (caps:=[.ptr b1 0, .ptr b2 0]) (cV:=cV)
    (J:=fun k hk => Gro h hk ∧ h.next < hk.next ∧ hk.get h.next = some (.loop 0 TM [23] A B 0 none) ∧ ∀ y ∈ l.take k,cj a y ≠ b)
    (D:=fun h' => ∃ x vx,fcj l a b = some x ∧ h'.get h.next = some (.loop 0 TM [23] A B 2 (some .ret)) ∧ h'.get i6 = some (.cells [vx] true) ∧ h'.get i7 = some (.cells [.int .i64 0] true) ∧ PmAt h' vx x ∧ h.next < h'.next ∧ Chg (fun j => j = i6 ∨ j = i7) h h' ∧ (x ≠ [] → ∀ j,oid vx = some j → h.next < j)) (by omega)
    ⟨Gro.push h _,Nat.lt_succ_self _,AHeap.get_push_same h _,fun y hy => by simp at hy⟩
    (fun k hk hJ => by
      obtain ⟨g0,_⟩:=hJ
      exact ⟨by rw [loadV_same (F:=fun _ => False) g0.chg k1 (fun hf => hf)]; exact l1,by rw [loadV_same (F:=fun _ => False) g0.chg k2 (fun hf => hf)]; exact l2,s1.gro g0⟩)
    (fun k hk z hz hJ => by
      obtain ⟨g0,x0',r0,hno⟩:=hJ
      have hkl:k < l.length:=by rw [← s2]; exact (List.getElem?_eq_some_iff.1 hz).1
      obtain ⟨p,hp⟩:=get_some hkl
      have hpm:=List.mem_of_getElem? hp
      have pz:=s3 k z p hz hp
      obtain ⟨hy,fy,gy⟩:=conj1_spec hNo hn (Nat.lt_of_lt_of_le hb2 g0.le) (by rw [loadV_same (F:=fun _ => False) g0.chg hb1 (fun hf => hf)]; exact m1) (by rw [loadV_same (F:=fun _ => False) g0.chg hb2 (fun hf => hf)]; exact m2) (pz.gro g0) (hva.gro g0) (hvb.gro g0) (pv p hpm) pa
      have gyy:=g0.trans gy
      have xy:h.next < hy.next:=by have:=gy.le; omega
      have rl:hy.get h.next = some (.loop 0 TM [23] A B 0 none):=by rw [gy.same _ x0']; exact r0
      refine ⟨_,hy,fy,fun hf => ?_,fun hf => ?_⟩
      · refine ⟨gyy,xy,rl,fun y hy' => ?_⟩
        rw [take_succ_get hp] at hy'
        rcases List.mem_append.1 hy' with hy' | hy'
        · exact hno y hy'
        · rw [List.mem_singleton.1 hy']; exact of_decide_eq_false hf
      · have heq:=of_decide_eq_true hf
        have hfc:=fcj_at hp hno heq
        have gs:Gro h (hy.set h.next (.loop 0 TM [23] A B 1 none)):=gyy.set (Nat.le_refl _) _
        have rs:(hy.set h.next (.loop 0 TM [23] A B 1 none)).get h.next = some (.loop 0 TM [23] A B 1 none):=AHeap.get_set_same _ _ _
        have xs:h.next < (hy.set h.next (.loop 0 TM [23] A B 1 none)).next:=xy
        obtain ⟨vc,h8,f8,a8,g8,fr8⟩:=clone_fn (I:=I) (f:=152) rfl (fun _ _ => hNo.at _ _ (by decide) (by decide) (by decide)) (pz.gro gs) (by rw [(pv p hpm).len]; omega)
        have g08:=gs.trans g8
        have q6:h8.get i6 = some (.cells [.nils] true):=by rw [g08.same _ h6]; exact r6
        have q7:h8.get i7 = some (.cells [.int .i64 0] true):=by rw [g08.same _ h7]; exact r7
        have ql:h8.get h.next = some (.loop 0 TM [23] A B 1 none):=by rw [g8.same _ xs]; exact rs
        have e6:stV 1 (.ptr i6 0) vc h8 = some (aundef,h8.set i6 (.cells [vc] true)):=stV_at (k:=0) q6 (by simp) a8.scalar
        have q7':(h8.set i6 (.cells [vc] true)).get i7 = some (.cells [.int .i64 0] true):=by rw [AHeap.get_set_ne _ _ (Ne.symm hne)]; exact q7
        have e7:stV 1 (.ptr i7 0) (.int .i64 0) (h8.set i6 (.cells [vc] true)) = some (aundef,(h8.set i6 (.cells [vc] true)).set i7 (.cells [.int .i64 0] true)):=stV_at (k:=0) q7' (by simp) rfl
        have ql2:((h8.set i6 (.cells [vc] true)).set i7 (.cells [.int .i64 0] true)).get h.next = some (.loop 0 TM [23] A B 1 none):=by rw [AHeap.get_set_ne _ _ (by omega),AHeap.get_set_ne _ _ (by omega)]; exact ql
        have hw:=lim_yield_walk (T:=otab.get) (I:=I) rl (args:=[z]) rfl (Pst:=fun r h' => r = .bool false ∧ h' = ((h8.set i6 (.cells [vc] true)).set i7 (.cells [.int .i64 0] true)).set h.next (.loop 0 TM [23] A B 2 (some .ret))) (by
          subst hT
          subst hA
          subst hB
          show WK _ _ [] ⟨[x0,x1,x2,x3,x4,x5, .ptr i6 0, .ptr i7 0,x8,x9,x10,x11,x12,x13,x14,x15,x16,x17,x18,x19,x20,x21,x22,z,x24,x25],hy⟩ _
          simp (disch:=omega) only [RSf.down]
          refine ⟨trivial,0,_, [23],_,_,none,rl,?_⟩
          simp (disch:=omega) only [RSf.down,f8,e6,e7]
          exact ⟨_,_,endRound_ret ql2,rfl,rfl⟩)
        obtain ⟨r,h',e,rfl,rfl⟩:=hw
        refine ⟨false,_,e,(fun e => by cases e),fun _ => ⟨p,vc,hfc,AHeap.get_set_same _ _ _,?_,?_,?_,?_,?_,?_⟩⟩
        · rw [AHeap.get_set_ne _ _ (by omega),AHeap.get_set_ne _ _ hne,AHeap.get_set_same]
        · rw [AHeap.get_set_ne _ _ (by omega),AHeap.get_set_same]
        · have c1 : Chg (fun j => j = i6 ∨ j = i7 ∨ j = h.next) h8 (((h8.set i6 (.cells [vc] true)).set i7 (.cells [.int .i64 0] true)).set h.next (.loop 0 TM [23] A B 2 (some .ret))) :=
            ((Chg.set (F:=fun j => j = i6 ∨ j = i7 ∨ j = h.next) h8 (.inl rfl) _).trans (Chg.set (F:=fun j => j = i6 ∨ j = i7 ∨ j = h.next) _ (.inr (.inl rfl)) _) fun _ _ hj => hj).trans (Chg.set (F:=fun j => j = i6 ∨ j = i7 ∨ j = h.next) _ (.inr (.inr rfl)) _) fun _ _ hj => hj
          by_cases hp0:p = []
          · subst hp0; exact a8.nil_any c1.le
          · refine a8.chg c1 fun j hj e => ?_
            obtain ⟨i,cap,e1,e2⟩:=fr8 hp0
            rw [e1] at hj; cases hj; have:=gs.le; omega
        · show h.next < h8.next
          have:=g8.le; omega
        · exact ⟨by show h.next ≤ h8.next; have := g8.le; omega, fun j hj hF => by
            rw [AHeap.get_set_ne _ _ (by omega),AHeap.get_set_ne _ _ (fun e => hF (.inr e)),AHeap.get_set_ne _ _ (fun e => hF (.inl e)),g08.same _ hj]⟩
        · intro hp0 j hj
          obtain ⟨i,cap,e1,e2⟩:=fr8 hp0
          rw [e1] at hj; cases hj; exact Nat.lt_of_lt_of_le xs e2)
  obtain ⟨v,h',e,hJ⟩:=hrng
  refine ⟨v,h',e,?_⟩
  rcases hJ with ⟨g0,x0',r0,hno⟩ | hD
  · rw [s2,List.take_length] at hno
    exact .inl ⟨g0,r0,fcj_none hno⟩
  · exact .inr hD
end
end Go.AM
namespace Go.AM
open Go Go.GT
theorem result_cc {tm:List AV} {h:AHeap} {k m i o i2 o2:Nat} {n n2:Option Nat} {v w:AV} (e:nth tm k = .ptr i o) (hl:loadV n (.ptr i o) h = some v) (e2:nth tm m = .ptr i2 o2) (hl2:loadV n2 (.ptr i2 o2) h = some w):result [.cell k n, .cell m n2] tm h = some (.tup [v,w]):=by
 have h1:resOf tm h (.cell k n) = some v:=by
  show (match nth tm k with | .ptr i o => (match cellsOf h i with | some c => fit n o c | none => none) | _ => none) = _
  rw [e]; exact hl
 have h2:resOf tm h (.cell m n2) = some w:=by
  show (match nth tm m with | .ptr i o => (match cellsOf h i with | some c => fit n2 o c | none => none) | _ => none) = _
  rw [e2]; exact hl2
 have h3:resOfs tm h [.cell k n, .cell m n2] = some [v,w]:=by
  show (match resOf tm h (.cell k n),(match resOf tm h (.cell m n2),(some []:Option (List AV)) with | some v,some vs => some (v :: vs) | _,_ => none) with | some v,some vs => some (v :: vs) | _,_ => none) = _
  rw [h1,h2]
 unfold result
 rw [h3]
theorem jE_two {d:Int} {ls:List (List Int)} {p q:List Int}:jE d ls [p,q] = if groupErr d ls ≠ 0 then groupErr d ls else if genErr d p ≠ 0 then genErr d p else genErr d q:=rfl
theorem ls_two {h:AHeap} {v w:AV} {p q:List Int} (hv:IAt h v p) (hw:IAt h w q):LsAt (h.push (.cells [v,w] true)) (.slice h.next 0 2 (.exact 2)) [p,q] :=
 ⟨[v,w],tab_at (Nat.lt_succ_self _) (AHeap.get_push_same h _) rfl (Nat.le_refl _),rfl,fun i a x h1 h2 => by
  rcases i with _ | i
  ·cases h1; cases h2; exact SlAt.gro hv (Gro.push h _)
  ·rcases i with _ | i
   ·cases h1; cases h2; exact SlAt.gro hw (Gro.push h _)
   ·cases h1⟩
section
variable {I:Oracle} (hNo:NoI I) {h:AHeap}
include hNo
theorem conj_step {K : List Fr} {Q : AX -> St -> Prop} {n : Nat} (hn : n <= 20) {i6 i7 ib1 ib2 b1 b2 : Nat} {x0 x1 x2 x3 x4 x5 x8 x9 x10 x11 x12 x13 x14 x15 x16 x17 x18 x19 x20 x21 x23 x24 x25 vl va vb : AV} {l : List Pm} {a b : Pm}
  (h6:i6 < h.next) (h7:i7 < h.next) (hne:i6 ≠ i7) (r6:h.get i6 = some (.cells [.nils] true)) (r7:h.get i7 = some (.cells [.int .i64 0] true))
  (k1:ib1 < h.next) (k2:ib2 < h.next) (l1:loadV none (.ptr ib1 0) h = some vl) (l2:loadV none (.ptr ib2 0) h = some (.fn (.func 149) [] [.ptr b1 0, .ptr b2 0]))
  (hb1:b1 < h.next) (hb2:b2 < h.next) (m1:loadV none (.ptr b1 0) h = some va) (m2:loadV none (.ptr b2 0) h = some vb) (hl:PmsAt h vl l) (hva:PmAt h va a) (hvb:PmAt h vb b) (pv:∀ x ∈ l,PV n x) (pa:PV n a) (hL:l.length <= 5040)
  (c1:∀ h',Gro h h' -> fcj l a b = none -> WX (lim otab.get I) .normal K ⟨[x0,x1,x2,x3,x4,x5, .ptr i6 0, .ptr i7 0,x8,x9,x10,x11,x12,x13,x14,x15,x16,x17,x18,x19,x20,x21, .fn (.func 213) [] [.ptr ib1 0, .ptr ib2 0],x23,x24,x25],h'⟩ Q)
  (c2:∀ h' x vx,fcj l a b = some x -> h'.get i6 = some (.cells [vx] true) -> h'.get i7 = some (.cells [.int .i64 0] true) -> PmAt h' vx x -> Chg (fun j => j = i6 \/ j = i7) h h' -> WX (lim otab.get I) .ret K ⟨[x0,x1,x2,x3,x4,x5, .ptr i6 0, .ptr i7 0,x8,x9,x10,x11,x12,x13,x14,x15,x16,x17,x18,x19,x20,x21, .fn (.func 213) [] [.ptr ib1 0, .ptr ib2 0],x23,x24,x25],h'⟩ Q) :
  WK (lim otab.get I) (.rangeFunc (.tmp 22) [23] (.ops [⟨some 9, .mov (.tmp 23),none⟩]) (.block 1 (.seq (.ops [⟨some 24, .mov (.tmp 9),none⟩,⟨some 25, .call (.lit (.fn (.func 152) [] [])) [.tmp 24],none⟩,⟨none, .store 1 (.tmp 6) (.tmp 25),none⟩,⟨none, .store 1 (.tmp 7) (.lit (.int .i64 0)),none⟩]) .ret))) K ⟨[x0,x1,x2,x3,x4,x5, .ptr i6 0, .ptr i7 0,x8,x9,x10,x11,x12,x13,x14,x15,x16,x17,x18,x19,x20,x21, .fn (.func 213) [] [.ptr ib1 0, .ptr ib2 0],x23,x24,x25],h⟩ Q:=by
 obtain ⟨v,h',e,r⟩:=conj_range hNo hn (x0:=x0) (x1:=x1) (x2:=x2) (x3:=x3) (x4:=x4) (x5:=x5) (x8:=x8) (x9:=x9) (x10:=x10) (x11:=x11) (x12:=x12) (x13:=x13) (x14:=x14) (x15:=x15) (x16:=x16) (x17:=x17) (x18:=x18) (x19:=x19) (x20:=x20) (x21:=x21) (x22 := .fn (.func 213) [] [.ptr ib1 0, .ptr ib2 0]) (x23:=x23) (x24:=x24) (x25:=x25) rfl rfl rfl h6 h7 hne r6 r7 k1 k2 l1 l2 hb1 hb2 m1 m2 hl hva hvb pv pa hL
 rcases r with ⟨g,rl,hf⟩ | ⟨x,vx,hf,rl,q6,q7,px,hx,ch,fr⟩
 ·exact WK_range (f := .tmp 22) (g:=213) (first:=[]) (cap:=[.ptr ib1 0, .ptr ib2 0]) rfl e (endRange_all rl) (c1 _ (g.set (Nat.le_refl _) _) hf)
 ·refine WK_range (f := .tmp 22) (g:=213) (first:=[]) (cap:=[.ptr ib1 0, .ptr ib2 0]) rfl e (endRange_ret rl) (c2 _ x vx hf (by rw [AHeap.get_set_ne _ _ (by omega)]; exact q6) (by rw [AHeap.get_set_ne _ _ (by omega)]; exact q7) ?_ ⟨ch.le,fun j hj hF => by rw [AHeap.get_set_ne _ _ (by omega)]; exact ch.same j hj hF⟩)
  by_cases hp0:x = []
  ·subst hp0; exact px.nil_any (Nat.le_refl _)
  ·exact px.chg (Chg.set (F:=fun j => j = h.next) h' rfl _) fun j hj e => by have:=fr hp0 j hj; omega
end
section
variable {I:Oracle} (hS:Srt I) {h:AHeap}
include hS
theorem gConj_spec {vg va vb : AV} {ls : List (List Int)} {p q : List Int} (hg : LsAt h vg ls) (hp : IAt h va p) (hq : IAt h vb q) (d : Int) (he : HasEl d ls) :
  ∃ (v:AV) (w:Int) (h':AHeap),lim otab.get I (.fn 77) [.agg [.int .i64 d,vg],va,vb] h = some (.tup [v, .int .i64 w],h') /\ Gro h h' /\
   (jE d ls [p,q] ≠ 0 -> v = .nils /\ w = jE d ls [p,q]) /\ (jE d ls [p,q] = 0 -> ∀ l,IsEl d.toNat (gS ls) l -> l.length <= 5040 -> (∃ x,fcj l (p.map Int.toNat) (q.map Int.toNat) = some x /\ PmAt h' v x /\ w = 0) \/ (fcj l (p.map Int.toNat) (q.map Int.toNat) = none /\ v = .nils /\ w = 10)):=by
 have hNo:=hS.no
 refine (lim_walk_ex (T := otab.get) (I := I) (f := 77) (fn := of77) rfl (a := [.agg [.int .i64 d, vg], va, vb]) (h := h) (P := fun a h' => ∃ v w, a = .tup [v, .int .i64 w] /\ Gro h h' /\
   (jE d ls [p,q] ≠ 0 -> v = .nils /\ w = jE d ls [p,q]) /\ (jE d ls [p,q] = 0 -> ∀ l,IsEl d.toNat (gS ls) l -> l.length <= 5040 -> (∃ x,fcj l (p.map Int.toNat) (q.map Int.toNat) = some x /\ PmAt h' v x /\ w = 0) \/ (fcj l (p.map Int.toNat) (q.map Int.toNat) = none /\ v = .nils /\ w = 10))) (hNo.at _ _ (by decide) (by decide) (by decide)) ?_) |> fun ⟨a,h',e,v,w,q1,q2⟩ => ⟨v,w,h',by rw [e,q1],q2⟩
 show WK _ _ [] ⟨[.agg [.int .i64 d,vg],va,vb,aundef,aundef,aundef,aundef,aundef,aundef,aundef,aundef,aundef,aundef,aundef,aundef,aundef,aundef,aundef,aundef,aundef,aundef,aundef,aundef,aundef,aundef,aundef],h⟩ _
 dsimp only [of77,af77,Z.t,Z.q,Z.l,Z.m,Z.b,Z.c,Z.f,Z.i]
 have sa:=hp.scalar
 have sb:=hq.scalar
 have y1:=Gro.push h (.cells [.int .i64 d,vg] true)
 have y2:=Gro.push (h.push (.cells [.int .i64 d,vg] true)) (.cells [va] true)
 have y3:=Gro.push ((h.push (.cells [.int .i64 d,vg] true)).push (.cells [va] true)) (.cells [vb] true)
 have y4:=Gro.push (((h.push (.cells [.int .i64 d,vg] true)).push (.cells [va] true)).push (.cells [vb] true)) (.cells [.nils] true)
 have y5:=Gro.push ((((h.push (.cells [.int .i64 d,vg] true)).push (.cells [va] true)).push (.cells [vb] true)).push (.cells [.nils] true)) (.cells [.int .i64 0] true)
 have x1:(h.push (.cells [.int .i64 d,vg] true)).next = h.next + 1:=rfl
 have x2:((h.push (.cells [.int .i64 d,vg] true)).push (.cells [va] true)).next = h.next + 2:=rfl
 have x3:(((h.push (.cells [.int .i64 d,vg] true)).push (.cells [va] true)).push (.cells [vb] true)).next = h.next + 3:=rfl
 have x4:((((h.push (.cells [.int .i64 d,vg] true)).push (.cells [va] true)).push (.cells [vb] true)).push (.cells [.nils] true)).next = h.next + 4:=rfl
 have x5:(((((h.push (.cells [.int .i64 d,vg] true)).push (.cells [va] true)).push (.cells [vb] true)).push (.cells [.nils] true)).push (.cells [.int .i64 0] true)).next = h.next + 5:=rfl
 have ba:=fun {h'} (g:Gro _ h') => box_all (h:=h) (c:=[.int .i64 d,vg]) (r:=true) (h':=h') (y2.trans (y3.trans (y4.trans (y5.trans g)))) (n:=2) rfl
 have la:=fun {h'} (g:Gro _ h') => box_ld (h:=h.push (.cells [.int .i64 d,vg] true)) (c:=[va]) (r:=true) (h':=h') (y3.trans (y4.trans (y5.trans g))) (o:=0) rfl
 have lb:=fun {h'} (g:Gro _ h') => box_ld (h:=(h.push (.cells [.int .i64 d,vg] true)).push (.cells [va] true)) (c:=[vb]) (r:=true) (h':=h') (y4.trans (y5.trans g)) (o:=0) rfl
 have r6:=AHeap.get_push_same (((h.push (.cells [.int .i64 d,vg] true)).push (.cells [va] true)).push (.cells [vb] true)) (.cells [.nils] true)
 have r7:=AHeap.get_push_same ((((h.push (.cells [.int .i64 d,vg] true)).push (.cells [va] true)).push (.cells [vb] true)).push (.cells [.nils] true)) (.cells [.int .i64 0] true)
 rw [x3] at r6
 rw [x4] at r7
 rw [x1] at la
 rw [x2] at lb
 have r6':(((((h.push (.cells [.int .i64 d,vg] true)).push (.cells [va] true)).push (.cells [vb] true)).push (.cells [.nils] true)).push (.cells [.int .i64 0] true)).get (h.next + 3) = some (.cells [.nils] true):=by rw [AHeap.get_push_lt _ _ (by omega)]; exact r6
 have g1:=y1.trans (y2.trans (y3.trans (y4.trans y5)))
 have b1:=ba (Gro.refl _)
 have la1:=la (Gro.refl _)
 have lb1:=lb (Gro.refl _)
 simp (disch:=omega) only [RSf.down,b1,scalar_cells sa,scalar_cells sb,x1,x2,x3,x4]
 generalize ((((h.push (.cells [.int .i64 d,vg] true)).push (.cells [va] true)).push (.cells [vb] true)).push (.cells [.nils] true)).push (.cells [.int .i64 0] true) = h1 at g1 ba la lb b1 la1 lb1 r6' r7 x5 ⊢
 rw [ev_bs1 _ rfl]
 have G1:=gs_one (d:=d) (hg.gro g1)
 have g2:=Gro.push h1 (.cells [.int .i64 d,vg] true)
 have la2:=la g2
 have lb2:=lb g2
 simp (disch:=omega) only [RSf.down,la2,lb2]
 generalize h1.push (.cells [.int .i64 d,vg] true) = h2 at G1 g2 la2 lb2 ⊢
 have L1:=ls_two (SlAt.gro (SlAt.gro hp g1) g2) (SlAt.gro (SlAt.gro hq g1) g2)
 have eb:∀ tm:List AV,nth tm 12 = va -> nth tm 13 = vb -> evalA (.bslice 2 1 [.nils, .nils] [(0, .tmp 12),(1, .tmp 13)]) tm h2 = some (.cells [va,vb] true, .slice h2.next 0 2 (.exact 2)):=fun tm e1 e2 => by
  simp only [evalA,fillsS,ev_tmp,e1,e2,scalar_cells sa,scalar_cells sb]; rfl
 rw [eb _ rfl rfl]
 have g3:=Gro.push h2 (.cells [va,vb] true)
 simp (disch:=omega) only [RSf.down]
 generalize h2.push (.cells [va,vb] true) = h3 at L1 g3 ⊢
 obtain ⟨h4,f4,g4⟩:=jcheck_spec hNo (G1.gro g3) L1 (Nat.lt_succ_self 0) (show 1 <= 1000 by decide) (show 2 <= 1000 by decide) (fun g hm => by obtain rfl:=List.mem_singleton.1 hm; exact he)
 rw [chk_one] at f4
 have g24:=g2.trans (g3.trans g4)
 have q6:∀ {h'},Gro h1 h' -> h'.get (h.next + 3) = some (.cells [.nils] true):=fun g => by rw [g.same _ (by omega)]; exact r6'
 have q7:∀ {h'},Gro h1 h' -> h'.get (h.next + 4) = some (.cells [.int .i64 0] true):=fun g => by rw [g.same _ (by omega)]; exact r7
 by_cases e0:jE d ls [p,q] = 0
 ·rw [e0] at f4 ⊢
  have hc:groupErr d ls = 0:=by
   by_cases hc:groupErr d ls = 0
   ·exact hc
   ·rw [jE_two,if_pos hc] at e0; exact absurd e0 hc
  have hpe:genErr d p = 0:=by
   by_cases hpe:genErr d p = 0
   ·exact hpe
   ·rw [jE_two,if_neg fun h => h hc,if_pos hpe] at e0; exact absurd e0 hpe
  have hqe:genErr d q = 0:=by rw [jE_two,if_neg fun h => h hc,if_neg fun h => h hpe] at e0; exact e0
  obtain ⟨l,hel,hl⟩:=he hc
  have b4:=ba g24
  have gg:=g1.trans g24
  obtain ⟨v5,c5,h5,f5,p5,g5,fr5⟩:=jelements_spec hNo hS (hg.gro gg) hc hel hl
  obtain ⟨n,rfl,hn,_,_,hSv⟩:=group_of_ok hc
  rw [Int.toNat_natCast] at hel
  obtain ⟨e1,pp⟩:=gen_pv hc hpe
  obtain ⟨e2,pq⟩:=gen_pv hc hqe
  rw [Int.toNat_natCast] at pp pq
  have e6:=filter_spec hNo (h:=h5) (va:=v5) (vf := .fn (.func 149) [] [.ptr (h.next + 1) 0, .ptr (h.next + 2) 0]) p5.own.at.scalar rfl
  have g6:Gro h5 ((h5.push (.cells [v5] true)).push (.cells [.fn (.func 149) [] [.ptr (h.next + 1) 0, .ptr (h.next + 2) 0]] true)):=(Gro.push h5 _).trans (Gro.push _ _)
  have l61:loadV none (.ptr h5.next 0) ((h5.push (.cells [v5] true)).push (.cells [.fn (.func 149) [] [.ptr (h.next + 1) 0, .ptr (h.next + 2) 0]] true)) = some v5:=box_ld (Gro.push _ _) rfl
  have l62:loadV none (.ptr (h5.next + 1) 0) ((h5.push (.cells [v5] true)).push (.cells [.fn (.func 149) [] [.ptr (h.next + 1) 0, .ptr (h.next + 2) 0]] true)) = some (.fn (.func 149) [] [.ptr (h.next + 1) 0, .ptr (h.next + 2) 0]):=box_ld (h:=h5.push (.cells [v5] true)) (Gro.refl _) rfl
  have x6:((h5.push (.cells [v5] true)).push (.cells [.fn (.func 149) [] [.ptr (h.next + 1) 0, .ptr (h.next + 2) 0]] true)).next = h5.next + 2:=rfl
  simp (disch:=omega) only [RSf.down,f4,neqF,b4,f5,e6]
  generalize (h5.push (.cells [v5] true)).push (.cells [.fn (.func 149) [] [.ptr (h.next + 1) 0, .ptr (h.next + 2) 0]] true) = h6 at e6 g6 l61 l62 x6 ⊢
  have g16:=g24.trans (g5.trans g6)
  have l16:=g16.le
  have g06:=g1.trans g16
  refine conj_step hNo hn (i6:=h.next + 3) (i7:=h.next + 4) (l:=l) (a:=p.map Int.toNat) (b:=q.map Int.toNat) (va:=va) (vb:=vb) (vl:=v5) (by omega) (by omega) (by omega) (q6 g16) (q7 g16) (by omega) (by omega) l61 l62 (by omega) (by omega) (la g16) (lb g16) (p5.pms.gro g6) (IAt.pm (SlAt.gro hp g06) e1) (IAt.pm (SlAt.gro hq g06) e2) (fun x hx => el_pv hSv hel hx) pp hl ?_ ?_
  ·intro h' g' hf
   have G':=g16.trans g'
   have w6:stV 1 (.ptr (h.next + 3) 0) .nils h' = some (aundef,h'.set (h.next + 3) (.cells [.nils] true)):=stV_at (k:=0) (q6 G') (by simp) rfl
   have w7':(h'.set (h.next + 3) (.cells [.nils] true)).get (h.next + 4) = some (.cells [.int .i64 0] true):=by rw [AHeap.get_set_ne _ _ (by omega)]; exact q7 G'
   have w7:stV 1 (.ptr (h.next + 4) 0) (.int .i64 10) (h'.set (h.next + 3) (.cells [.nils] true)) = some (aundef,(h'.set (h.next + 3) (.cells [.nils] true)).set (h.next + 4) (.cells [.int .i64 10] true)):=stV_at (k:=0) w7' (by simp) rfl
   simp (disch:=omega) only [RSf.down,w6,w7]
   refine ⟨(fun i hi => by cases hi), .tup [.nils, .int .i64 10],result_cc rfl (loadV_get (by rw [AHeap.get_set_ne _ _ (by omega),AHeap.get_set_same]) rfl) rfl (loadV_get (AHeap.get_set_same _ _ _) rfl),_,_,rfl,((g06.trans g').set (by omega) _).set (by omega) _,fun h => absurd rfl h,fun _ l' hl' hll => .inr ⟨?_,rfl,rfl⟩⟩
   rw [Int.toNat_natCast] at hl'
   rw [hl'.unique hel]; exact hf
  ·intro h' x vx hf z6 z7 px ch
   simp (disch:=omega) only [RSf.down]
   refine ⟨(fun i hi => by cases hi), .tup [vx, .int .i64 0],result_cc rfl (loadV_get z6 rfl) rfl (loadV_get z7 rfl),_,_,rfl,g06.chg_new ch fun j hj => by omega,fun h => absurd rfl h,fun _ l' hl' hll => .inl ⟨x,?_,px,rfl⟩⟩
   rw [Int.toNat_natCast] at hl'
   rw [hl'.unique hel]; exact hf
 ·have w6:stV 1 (.ptr (h.next + 3) 0) .nils h4 = some (aundef,h4.set (h.next + 3) (.cells [.nils] true)):=stV_at (k:=0) (q6 g24) (by simp) rfl
  have w7':(h4.set (h.next + 3) (.cells [.nils] true)).get (h.next + 4) = some (.cells [.int .i64 0] true):=by rw [AHeap.get_set_ne _ _ (by omega)]; exact q7 g24
  have w7:stV 1 (.ptr (h.next + 4) 0) (.int .i64 (jE d ls [p,q])) (h4.set (h.next + 3) (.cells [.nils] true)) = some (aundef,(h4.set (h.next + 3) (.cells [.nils] true)).set (h.next + 4) (.cells [.int .i64 (jE d ls [p,q])] true)):=stV_at (k:=0) w7' (by simp) rfl
  simp (disch:=omega) only [RSf.down,f4,neqT e0,w6,w7]
  exact ⟨(fun i hi => by cases hi), .tup [.nils, .int .i64 (jE d ls [p,q])],result_cc rfl (loadV_get (by rw [AHeap.get_set_ne _ _ (by omega),AHeap.get_set_same]) rfl) rfl (loadV_get (AHeap.get_set_same _ _ _) rfl),_,_,rfl,((g1.trans g24).set (by omega) _).set (by omega) _,fun _ => ⟨rfl,rfl⟩,fun h => absurd h e0⟩
end
end Go.AM
namespace Go.AM
open Go Go.GT
noncomputable def isLdr (a:Pm) (j:Nat):Bool:=open Classical in decide (Ldr a j)
theorem isLdr_iff {a:Pm} {j:Nat}:isLdr a j = true ↔ Ldr a j:=by unfold isLdr; simp
noncomputable def ldrL (n:Nat) (a:Pm):List Nat:=(List.range n).filter (isLdr a)
theorem mem_ldrL {n:Nat} {a:Pm} {j:Nat}:j ∈ ldrL n a ↔ j < n /\ Ldr a j:=by
 unfold ldrL; rw [List.mem_filter,List.mem_range,isLdr_iff]
theorem ldrL_nd {n:Nat} {a:Pm}:(ldrL n a).Nodup:=List.nodup_range.filter _
def fixL (n:Nat) (a:Pm):List Nat:=(List.range n).filter fun i => i == ap a i
theorem mem_fixL {n:Nat} {a:Pm} {i:Nat}:i ∈ fixL n a ↔ i < n /\ i = ap a i:=by
 unfold fixL; rw [List.mem_filter,List.mem_range,beq_iff_eq]
noncomputable def typL (n:Nat) (a:Pm):List Nat:=(bigL n a n).map (clen n a) ++ (fixL n a).map fun _ => 1
section
variable {n:Nat} {a b x:Pm}
theorem itr_fix {i:Nat} (h:i = ap a i):∀ k,itr a i k = i
 | 0 => rfl
 | k + 1 => by show ap a (itr a i k) = i; rw [itr_fix h k]; exact h.symm
theorem clen_fix (ha:PV n a) {i:Nat} (hi:i < n):clen n a i = 1 ↔ i = ap a i:=by
 constructor
 ·intro e
  have:=(clen_spec ha hi).1
  rw [e] at this
  exact this.symm
 ·intro e
  have h1:=clen_pos (n:=n) (a:=a) (i:=i)
  have h2:=(clen_spec ha hi).2.2 1 (by omega)
  rcases Nat.lt_or_ge 1 (clen n a i) with h3 | h3
  ·exact absurd e.symm (h2 h3)
  ·omega
theorem ldr_fix (ha:PV n a) {i:Nat} (hi:i < n) (h:i = ap a i):Ldr a i:=fun j hj hc => by
 have hjn:j < n:=by omega
 obtain ⟨k,hk⟩:=hc.symm ha hjn
 rw [itr_fix h k] at hk
 omega
theorem typL_perm (ha:PV n a):(typL n a).Perm ((ldrL n a).map (clen n a)):=by
 have h1:bigL n a n = (ldrL n a).filter fun j => decide (2 <= clen n a j):=by
  unfold bigL ldrL
  rw [List.filter_filter]
  refine List.filter_congr fun j _ => ?_
  rw [Bool.eq_iff_iff,isBig_iff,Bool.and_eq_true,isLdr_iff,decide_eq_true_iff]
  exact And.comm
 have h2:fixL n a = (ldrL n a).filter fun j => !decide (2 <= clen n a j):=by
  unfold fixL ldrL
  rw [List.filter_filter]
  refine List.filter_congr fun j hj => ?_
  have hjn:=List.mem_range.1 hj
  have hp:=clen_pos (n:=n) (a:=a) (i:=j)
  rw [Bool.eq_iff_iff,Bool.and_eq_true,isLdr_iff,Bool.not_eq_true',decide_eq_false_iff_not,beq_iff_eq, <- clen_fix ha hjn]
  constructor
  ·intro e; exact ⟨by omega,ldr_fix ha hjn ((clen_fix ha hjn).1 e)⟩
  ·rintro ⟨e,_⟩; omega
 have h3:(fixL n a).map (fun _ => 1) = (fixL n a).map (clen n a):=List.map_congr_left fun j hj => by
  obtain ⟨j1,j2⟩:=mem_fixL.1 hj
  exact ((clen_fix ha j1).2 j2).symm
 unfold typL
 rw [h3, <- List.map_append,h1,h2]
 exact (List.filter_append_perm _ _).map _
theorem itr_cj (ha:PV n a) (hx:PV n x) {i:Nat} (hi:i < n):∀ k,itr (cj a x) (ap x i) k = ap x (itr a i k)
 | 0 => rfl
 | k + 1 => by
  show ap (cj a x) (itr (cj a x) (ap x i) k) = ap x (ap a (itr a i k))
  rw [itr_cj ha hx hi k,ap_cj ha hx (itr_lt ha hi k)]
theorem cyd_cj (ha:PV n a) (hx:PV n x) {i j:Nat} (hi:i < n) (hj:j < n):Cyd (cj a x) (ap x i) (ap x j) ↔ Cyd a i j:=by
 constructor
 ·rintro ⟨k,e⟩
  rw [itr_cj ha hx hi k] at e
  exact ⟨k,hx.inj (itr_lt ha hi k) hj e⟩
 ·rintro ⟨k,rfl⟩
  exact ⟨k,itr_cj ha hx hi k⟩
theorem clen_cj (ha:PV n a) (hx:PV n x) {i:Nat} (hi:i < n):clen n (cj a x) (ap x i) = clen n a i:=by
 have hb:=PV.cj ha hx
 have hxi:=hx.ap_lt hi
 have s1:=clen_spec ha hi
 have s2:=clen_spec hb hxi
 have p1:=clen_pos (n:=n) (a:=a) (i:=i)
 have p2:=clen_pos (n:=n) (a:=cj a x) (i:=ap x i)
 rcases Nat.lt_trichotomy (clen n (cj a x) (ap x i)) (clen n a i) with h | h | h
 ·have:=s1.2.2 _ p2 h
  have e:=s2.1
  rw [itr_cj ha hx hi] at e
  exact absurd (hx.inj (itr_lt ha hi _) hi e) this
 ·exact h
 ·have:=s2.2.2 _ p1 h
  rw [itr_cj ha hx hi,s1.1] at this
  exact absurd rfl this
noncomputable def ldrOf (a:Pm) (i:Nat):Nat:=Classical.choose (exists_ldr (a:=a) i)
theorem ldrOf_spec (a:Pm) (i:Nat):ldrOf a i <= i /\ Ldr a (ldrOf a i) /\ Cyd a (ldrOf a i) i:=Classical.choose_spec (exists_ldr (a:=a) i)
theorem ldr_cj_perm (ha:PV n a) (hx:PV n x):((ldrL n (cj a x)).map (clen n (cj a x))).Perm ((ldrL n a).map (clen n a)):=by
 have hb:=PV.cj ha hx
 have hphi:∀ i,i < n -> ldrOf (cj a x) (ap x i) < n /\ Ldr (cj a x) (ldrOf (cj a x) (ap x i)) /\ Cyd (cj a x) (ldrOf (cj a x) (ap x i)) (ap x i):=fun i hi => by
  obtain ⟨h1,h2,h3⟩:=ldrOf_spec (cj a x) (ap x i)
  have:=hx.ap_lt hi
  exact ⟨by omega,h2,h3⟩
 have hmap:((ldrL n a).map fun i => ldrOf (cj a x) (ap x i)).Perm (ldrL n (cj a x)):=by
  refine (List.perm_ext_iff_of_nodup ?_ ldrL_nd).2 fun j => ?_
  ·refine nodup_map ldrL_nd fun i hi j hj e => ?_
   obtain ⟨i1,i2⟩:=mem_ldrL.1 hi
   obtain ⟨j1,j2⟩:=mem_ldrL.1 hj
   obtain ⟨k1,_,k3⟩:=hphi i i1
   obtain ⟨_,_,m3⟩:=hphi j j1
   rw [<- e] at m3
   have:=(k3.symm hb k1).trans m3
   exact ldr_unique ha i1 i2 j2 ((cyd_cj ha hx i1 j1).1 this)
  ·rw [List.mem_map,mem_ldrL]
   constructor
   ·rintro ⟨i,hi,rfl⟩
    obtain ⟨i1,_⟩:=mem_ldrL.1 hi
    obtain ⟨k1,k2,_⟩:=hphi i i1
    exact ⟨k1,k2⟩
   ·rintro ⟨j1,j2⟩
    obtain ⟨p,hp,rfl⟩:=hx.surj j1
    obtain ⟨q1,q2,q3⟩:=ldrOf_spec a p
    have hq:ldrOf a p < n:=by omega
    refine ⟨ldrOf a p,mem_ldrL.2 ⟨hq,q2⟩,?_⟩
    obtain ⟨k1,k2,k3⟩:=hphi _ hq
    exact ldr_unique hb k1 k2 j2 (k3.trans ((cyd_cj ha hx hq hp).2 q3))
 refine (hmap.symm.map (clen n (cj a x))).trans (List.Perm.of_eq ?_)
 rw [List.map_map]
 refine List.map_congr_left fun i hi => ?_
 obtain ⟨i1,_⟩:=mem_ldrL.1 hi
 obtain ⟨k1,_,k3⟩:=hphi i i1
 show clen n (cj a x) (ldrOf (cj a x) (ap x i)) = clen n a i
 rw [<- Cyd.clen hb k1 k3,clen_cj ha hx i1]
theorem typ_cj (ha:PV n a) (hx:PV n x):(typL n (cj a x)).Perm (typL n a) :=
 (typL_perm (PV.cj ha hx)).trans ((ldr_cj_perm ha hx).trans (typL_perm ha).symm)
theorem perm_lift {α β:Type} [DecidableEq α] {g:α -> β}:∀ {M:List β} {L:List α},(L.map g).Perm M -> ∃ L':List α,L'.Perm L /\ L'.map g = M
 | [],L,h => by
  have:=h.length_eq
  rw [List.length_map] at this
  obtain rfl:=List.eq_nil_of_length_eq_zero this
  exact ⟨[], .nil,rfl⟩
 | m :: M,L,h => by
  obtain ⟨y,hy,rfl⟩:=List.mem_map.1 (h.mem_iff.2 (.head _))
  have h1:=List.perm_cons_erase hy
  have h2:((L.erase y).map g).Perm M:=by
   have:=(h1.map g).symm.trans h
   rw [List.map_cons] at this
   exact (List.perm_cons _).1 this
  obtain ⟨L',k1,k2⟩:=perm_lift h2
  exact ⟨y :: L',(k1.cons y).trans h1.symm,by rw [List.map_cons,k2]⟩
def cyp (n:Nat) (a:Pm) (i:Nat):List Nat:=(List.range (clen n a i)).map (itr a i)
theorem cyp_len {i:Nat}:(cyp n a i).length = clen n a i:=by unfold cyp; rw [List.length_map,List.length_range]
theorem cyp_get {i k:Nat} (h:k < clen n a i):(cyp n a i)[k]? = some (itr a i k):=by
 unfold cyp; rw [List.getElem?_map,List.getElem?_range h]; rfl
theorem cyps_pv (ha:PV n a) {L:List Nat} (hL:L.Perm (ldrL n a)):PV n (L.flatMap (cyp n a)):=by
 have hmem:∀ j ∈ L,j < n /\ Ldr a j:=fun j hj => mem_ldrL.1 (hL.mem_iff.1 hj)
 have h1:(L.flatMap (cyp n a)).Nodup:=by
  refine List.pairwise_flatMap.2 ⟨fun j hj => ?_,?_⟩
  ·have hjn:=(hmem j hj).1
   refine List.pairwise_iff_getElem.2 fun x y hx hy hxy e => ?_
   unfold cyp at e hx hy
   rw [List.getElem_map,List.getElem_map,List.getElem_range,List.getElem_range] at e
   rw [List.length_map,List.length_range] at hx hy
   have:=itr_diff ha hjn hx hy e
   omega
  ·have hb:L.Nodup:=hL.nodup_iff.2 ldrL_nd
   refine (List.Pairwise.and_mem.1 hb).imp ?_
   rintro i j ⟨hi,hj,hne⟩ x hx y hy exy
   subst exy
   obtain ⟨k,_,e1⟩:=List.mem_map.1 hx
   obtain ⟨m,_,e2⟩:=List.mem_map.1 hy
   obtain ⟨i1,i2⟩:=hmem i hi
   obtain ⟨j1,j2⟩:=hmem j hj
   have c1:Cyd a i x:=⟨k,e1⟩
   have c2:Cyd a j x:=⟨m,e2⟩
   exact hne (ldr_unique ha i1 i2 j2 (c1.trans (c2.symm ha j1)))
 have h2:∀ x ∈ L.flatMap (cyp n a),x < n:=fun x hx => by
  obtain ⟨j,hj,hx⟩:=List.mem_flatMap.1 hx
  obtain ⟨k,_,rfl⟩:=List.mem_map.1 hx
  exact itr_lt ha (hmem j hj).1 k
 refine ⟨?_,h2,h1⟩
 have h3:(L.flatMap (cyp n a)).Perm (List.range n):=(List.perm_ext_iff_of_nodup h1 List.nodup_range).2 fun x => by
  rw [List.mem_range]
  refine ⟨h2 x,fun hx => ?_⟩
  obtain ⟨j1,j2,k,hk⟩:=ldrOf_spec a x
  have hj:ldrOf a x < n:=by omega
  rw [List.mem_flatMap]
  refine ⟨ldrOf a x,hL.mem_iff.2 (mem_ldrL.2 ⟨hj,j2⟩),List.mem_map.2 ⟨k % clen n a (ldrOf a x),List.mem_range.2 (Nat.mod_lt _ clen_pos),?_⟩⟩
  rw [<- itr_mod ha hj k,hk]
 rw [h3.length_eq,List.length_range]
theorem cyps_step (ha : PV n a) (hb : PV n b) : ∀ {L M : List Nat}, (∀ j ∈ L, j < n) -> (∀ j ∈ M, j < n) -> L.map (clen n a) = M.map (clen n b) -> ∀ k, k < (L.flatMap (cyp n a)).length ->
  ∃ i y k':Nat,(L.flatMap (cyp n a))[k]? = some i /\ (M.flatMap (cyp n b))[k]? = some y /\ (L.flatMap (cyp n a))[k']? = some (ap a i) /\ (M.flatMap (cyp n b))[k']? = some (ap b y)
 | [],M,_,_,h,k,hk => by cases hk
 | i :: L, [],_,_,h,k,hk => by cases h
 | i :: L,j :: M,hL,hM,h,k,hk => by
  rw [List.map_cons,List.map_cons] at h
  injection h with e1 e2
  have hi:=hL i (.head _)
  have hj:=hM j (.head _)
  rw [List.flatMap_cons,List.flatMap_cons]
  rw [List.flatMap_cons,List.length_append,cyp_len] at hk
  have hp:=clen_pos (n:=n) (a:=a) (i:=i)
  by_cases hk1:k < clen n a i
  ·refine ⟨itr a i k,itr b j k,(k + 1) % clen n a i,?_,?_,?_,?_⟩
   ·rw [List.getElem?_append_left (by rw [cyp_len]; exact hk1),cyp_get hk1]
   ·rw [List.getElem?_append_left (by rw [cyp_len, <- e1]; exact hk1),cyp_get (by rw [<- e1]; exact hk1)]
   ·have hm:=Nat.mod_lt (k + 1) hp
    rw [List.getElem?_append_left (by rw [cyp_len]; exact hm),cyp_get hm, <- itr_mod ha hi]; rfl
   ·have hm:=Nat.mod_lt (k + 1) hp
    rw [List.getElem?_append_left (by rw [cyp_len, <- e1]; exact hm),cyp_get (by rw [<- e1]; exact hm),e1, <- itr_mod hb hj]; rfl
  ·obtain ⟨u,y,k',r1,r2,r3,r4⟩:=cyps_step ha hb (L:=L) (M:=M) (fun j hj => hL j (.tail _ hj)) (fun j hj => hM j (.tail _ hj)) e2 (k - clen n a i) (by omega)
   refine ⟨u,y,clen n a i + k',?_,?_,?_,?_⟩
   ·rw [List.getElem?_append_right (by rw [cyp_len]; omega),cyp_len]; exact r1
   ·rw [List.getElem?_append_right (by rw [cyp_len, <- e1]; omega),cyp_len, <- e1]; exact r2
   ·rw [List.getElem?_append_right (by rw [cyp_len]; omega),cyp_len,Nat.add_sub_cancel_left]; exact r3
   ·rw [List.getElem?_append_right (by rw [cyp_len, <- e1]; omega),cyp_len, <- e1,Nat.add_sub_cancel_left]; exact r4
theorem cj_of_typ (ha:PV n a) (hb:PV n b) (h:(typL n a).Perm (typL n b)):∃ x,PV n x /\ cj a x = b:=by
 have h1:((ldrL n b).map (clen n b)).Perm ((ldrL n a).map (clen n a)):=((typL_perm hb).symm.trans h.symm).trans (typL_perm ha)
 obtain ⟨M,k1,k2⟩:=perm_lift h1
 have hP:=cyps_pv ha (List.Perm.refl (ldrL n a))
 have hQ:=cyps_pv hb k1
 have hL:∀ j ∈ ldrL n a,j < n:=fun j hj => (mem_ldrL.1 hj).1
 have hM:∀ j ∈ M,j < n:=fun j hj => (mem_ldrL.1 (k1.mem_iff.1 hj)).1
 have hst:=cyps_step ha hb hL hM k2.symm
 generalize (ldrL n a).flatMap (cyp n a) = P at hP hst
 generalize M.flatMap (cyp n b) = Q at hQ hst
 have hx:=hP.inv.mul hQ
 have key:∀ {k i y:Nat},P[k]? = some i -> Q[k]? = some y -> ap (mul (inv P) Q) i = y:=fun {k i y} e1 e2 => by
  have hk:k < n:=by rw [<- hP.len]; exact (List.getElem?_eq_some_iff.1 e1).1
  rw [<- ap_get? e1,hP.inv.ap_mul (hP.ap_lt hk),hP.ap_inv hk,ap_get? e2]
 refine ⟨mul (inv P) Q,hx,cj_ext (PV.cj ha hx) hb hx fun i hi => ?_⟩
 obtain ⟨k,hk,rfl⟩:=hP.surj hi
 obtain ⟨i,y,k',r1,r2,r3,r4⟩:=hst k (by rw [hP.len]; exact hk)
 rw [ap_cj ha hx (hP.ap_lt hk),ap_get? r1,key r1 r2,key r3 r4]
theorem typ_iff (ha:PV n a) (hb:PV n b):(typL n a).Perm (typL n b) ↔ ∃ x,PV n x /\ cj a x = b :=
 ⟨cj_of_typ ha hb,fun ⟨_,hx,e⟩ => e ▸ (typ_cj ha hx).symm⟩
end
end Go.AM
namespace Go.AM
open Go Go.GT
theorem ap_rm {n j:Nat} {f:Nat -> Nat} (hj:j < n):ap ((List.range n).map f) j = f j:=by
 refine ap_get? ?_
 rw [List.getElem?_map,List.getElem?_range hj]; rfl
def trp (n k:Nat):Pm:=(List.range n).map fun j => if j = k then k + 1 else if j = k + 1 then k else j
def cyc (n:Nat):Pm:=(List.range n).map fun j => (j + 1) % n
theorem ap_trp {n k j:Nat} (hj:j < n):ap (trp n k) j = if j = k then k + 1 else if j = k + 1 then k else j:=ap_rm hj
theorem ap_cyc {n j:Nat} (hj:j < n):ap (cyc n) j = (j + 1) % n:=ap_rm hj
theorem trp_pv {n k:Nat} (hk:k + 1 < n):PV n (trp n k) :=
 PV.mk' (by unfold trp; rw [List.length_map,List.length_range]) (fun i hi => by rw [ap_trp hi]; split <;> (try split) <;> omega) fun i j hi hj e => by
  rw [ap_trp hi,ap_trp hj] at e
  split at e <;> split at e <;> (try split at e) <;> (try split at e) <;> omega
theorem cyc_succ {n j:Nat} (h:j + 1 < n):(j + 1) % n = j + 1:=Nat.mod_eq_of_lt h
theorem cyc_last {n j:Nat} (h:j + 1 = n):(j + 1) % n = 0:=by rw [h,Nat.mod_self]
theorem cyc_pv {n:Nat}:PV n (cyc n) :=
 PV.mk' (by unfold cyc; rw [List.length_map,List.length_range]) (fun i hi => by rw [ap_cyc hi]; exact Nat.mod_lt _ (by omega)) fun i j hi hj e => by
  rw [ap_cyc hi,ap_cyc hj] at e
  by_cases h1:i + 1 < n
  ·rw [cyc_succ h1] at e
   by_cases h2:j + 1 < n
   ·rw [cyc_succ h2] at e; omega
   ·rw [cyc_last (by omega)] at e; omega
  ·rw [cyc_last (by omega)] at e
   by_cases h2:j + 1 < n
   ·rw [cyc_succ h2] at e; omega
   ·omega
theorem trp_cj {n k:Nat} (hk:k + 2 < n):cj (trp n k) (cyc n) = trp n (k + 1):=by
 have p1:=trp_pv (n:=n) (k:=k) (by omega)
 have p2:=trp_pv (n:=n) (k:=k + 1) (by omega)
 refine cj_ext (PV.cj p1 cyc_pv) p2 cyc_pv fun i hi => ?_
 rw [ap_cj p1 cyc_pv hi,ap_trp hi,ap_cyc hi]
 by_cases h1:i = k
 ·subst h1
  rw [if_pos rfl,ap_cyc (by omega),cyc_succ (by omega),cyc_succ (by omega),ap_trp (by omega),if_pos rfl]
 ·by_cases h2:i = k + 1
  ·subst h2
   rw [if_neg (by omega),if_pos rfl,ap_cyc (by omega),cyc_succ (by omega),cyc_succ (by omega),ap_trp (by omega),if_neg (by omega),if_pos rfl]
  ·rw [if_neg h1,if_neg h2,ap_cyc hi]
   by_cases h3:i + 1 < n
   ·rw [cyc_succ h3,ap_trp h3,if_neg (by omega),if_neg (by omega)]
   ·rw [cyc_last (by omega),ap_trp (by omega),if_neg (by omega),if_neg (by omega)]
def symG (n:Nat):List Pm:=(if 2 <= n then [trp n 0] else []) ++ if 3 <= n then [cyc n] else []
theorem symG_pv {n:Nat}:∀ s ∈ symG n,PV n s:=fun s hs => by
 unfold symG at hs
 rcases List.mem_append.1 hs with h | h
 ·split at h
  ·rw [List.mem_singleton.1 h]; exact trp_pv (by omega)
  ·cases h
 ·split at h
  ·rw [List.mem_singleton.1 h]; exact cyc_pv
  ·cases h
theorem symG_len {n:Nat}:(symG n).length <= 2:=by
 unfold symG
 split <;> split <;> simp
theorem gen_trp {n:Nat}:∀ {k:Nat},k + 1 < n -> Gen n (symG n) (trp n k)
 | 0,h => Gen.of symG_pv (by unfold symG; rw [if_pos (by omega)]; exact List.mem_append_left _ (.head _))
 | k + 1,h => by
  have ih:=gen_trp (n:=n) (k:=k) (by omega)
  have hc:Gen n (symG n) (cyc n):=Gen.of symG_pv (by unfold symG; rw [if_pos (show 3 <= n by omega)]; exact List.mem_append_right _ (.head _))
  rw [<- trp_cj (by omega)]
  exact Gen.mul' symG_pv (Gen.mul' symG_pv (Gen.inv symG_pv hc) ih) hc
theorem trp_trp {n k:Nat} (hk:k + 1 < n) {p:Pm} (hp:PV n p):mul (mul p (trp n k)) (trp n k) = p:=by
 have ht:=trp_pv hk
 refine ((hp.mul ht).mul ht).ext hp fun i hi => ?_
 have h1:=hp.ap_lt hi
 have h2:(if ap p i = k then k + 1 else if ap p i = k + 1 then k else ap p i) < n:=by split <;> (try split) <;> omega
 rw [(hp.mul ht).ap_mul hi,hp.ap_mul hi,ap_trp h1,ap_trp h2]
 split <;> rename_i e1
 ·rw [if_neg (by omega),if_pos rfl,e1]
 ·split <;> rename_i e2
  ·rw [if_pos rfl,e2]
  ·rfl
theorem gen_sym {n:Nat}:∀ (k:Nat),k <= n -> ∀ p:Pm,PV n p -> (∀ i,k <= i -> i < n -> ap p i = i) -> Gen n (symG n) p
 | 0,_,p,hp,hf => by
  have:p = GT.one n:=hp.ext (PV.one n) fun i hi => by rw [hf i (Nat.zero_le _) hi,ap_one hi]
  rw [this]; exact .one
 | k + 1,hk,p,hp,hf => by
  have key:∀ (d:Nat) (p:Pm),PV n p -> (∀ i,k + 1 <= i -> i < n -> ap p i = i) -> ap p k + d = k -> Gen n (symG n) p:=fun d => by
   induction d with
   | zero =>
    intro p hp hf hd
    refine gen_sym k (by omega) p hp fun i hi hin => ?_
    by_cases e:i = k
    ·subst e; omega
    ·exact hf i (by omega) hin
   | succ d ih =>
    intro p hp hf hd
    have ht:=trp_pv (n:=n) (k:=ap p k) (by omega)
    rw [<- trp_trp (n:=n) (k:=ap p k) (by omega) hp]
    refine Gen.mul' symG_pv (ih _ (hp.mul ht) (fun i hi hin => ?_) ?_) (gen_trp (by omega))
    ·rw [hp.ap_mul hin,hf i hi hin,ap_trp hin,if_neg (by omega),if_neg (by omega)]
    ·rw [hp.ap_mul (by omega),ap_trp (by omega),if_pos rfl]; omega
  have hle:ap p k <= k:=by
   refine Nat.le_of_not_lt fun h => ?_
   have h1:=hp.ap_lt (show k < n by omega)
   have h2:=hf _ h h1
   have:=hp.inj h1 (by omega) h2
   omega
  exact key (k - ap p k) p hp hf (by omega)
theorem gen_all {n:Nat} {p:Pm} (hp:PV n p):Gen n (symG n) p:=gen_sym n (Nat.le_refl _) p hp fun i h1 h2 => by omega
def prmL:Nat -> List Nat -> List (List Nat)
 | 0,_ => [[]]
 | k + 1,L => L.flatMap fun x => (prmL k (L.erase x)).map (x :: ·)
theorem mem_prmL:∀ {k:Nat} {L p:List Nat},p.Perm L -> L.length = k -> p ∈ prmL k L
 | 0,L,p,h,hl => by
  have:=h.length_eq
  rw [hl] at this
  rw [List.eq_nil_of_length_eq_zero this]; exact .head _
 | k + 1,L, [],h,hl => by
  have:=h.length_eq
  rw [hl] at this; cases this
 | k + 1,L,x :: p,h,hl => by
  have hx:x ∈ L:=h.mem_iff.1 (.head _)
  unfold prmL
  rw [List.mem_flatMap]
  refine ⟨x,hx,List.mem_map.2 ⟨p,mem_prmL (List.cons_perm_iff_perm_erase.1 h).2 ?_,rfl⟩⟩
  rw [List.length_erase_of_mem hx,hl]; rfl
theorem pv_prmL {n:Nat} {p:Pm} (hp:PV n p):p ∈ prmL n (List.range n) :=
 mem_prmL ((List.perm_ext_iff_of_nodup hp.nd List.nodup_range).2 fun x => by rw [List.mem_range]; exact ⟨hp.lt x,hp.mem⟩) List.length_range
theorem prmL_few:∀ {n:Nat},n <= 7 -> (prmL n (List.range n)).length <= 5040
 | 0,_ => by decide +kernel
 | 1,_ => by decide +kernel
 | 2,_ => by decide +kernel
 | 3,_ => by decide +kernel
 | 4,_ => by decide +kernel
 | 5,_ => by decide +kernel
 | 6,_ => by decide +kernel
 | 7,_ => by decide +kernel
 | n + 8,h => by omega
theorem sym_el {n:Nat} (hn:n <= 7):∃ l,IsEl n (symG n) l /\ l.length <= 5040:=by
 have hm:∀ q,q ∈ (prmL n (List.range n)).foldl addP [] ↔ q ∈ prmL n (List.range n):=fun q => by rw [mem_foldP]; simp
 have ha:Asc ((prmL n (List.range n)).foldl addP []):=asc_foldP List.Pairwise.nil
 refine ⟨((prmL n (List.range n)).foldl addP []).filter fun q => open Classical in decide (Gen n (symG n) q),⟨List.Pairwise.sublist List.filter_sublist ha,fun q => ?_⟩,?_⟩
 ·rw [List.mem_filter,hm]
  simp only [decide_eq_true_eq]
  exact ⟨fun h => h.2,fun h => ⟨pv_prmL (h.pv symG_pv),h⟩⟩
 ·refine Nat.le_trans (List.length_filter_le _ _) (Nat.le_trans (nodup_le ha.nodup fun q hq => (hm q).1 hq) (prmL_few hn))
def nxtf (l:List Nat) (j:Nat):Nat:=if l.idxOf j < l.length then l.getD ((l.idxOf j + 1) % l.length) 0 else j
theorem idx_one {n j:Nat} (hj:j < n):(one n).idxOf j = j:=by
 have h:=(PV.one n).ap_inv hj
 rw [ap_one hj] at h
 have h2:ap (inv (one n)) j = (one n).idxOf j:=by
  unfold inv
  exact ap_rm (by rw [(PV.one n).len]; exact hj)
 rw [<- h2]; exact h
theorem nxt_cyc {n:Nat}:(List.range n).map (nxtf (one n)) = cyc n:=by
 refine List.map_congr_left fun j hj => ?_
 have hjn:=List.mem_range.1 hj
 unfold nxtf
 rw [idx_one hjn,if_pos (by rw [(PV.one n).len]; exact hjn),(PV.one n).len]
 exact ap_one (Nat.mod_lt _ (by omega))
theorem nxt_trp {n:Nat}:(List.range n).map (nxtf [0,1]) = trp n 0:=by
 refine List.map_congr_left fun j _ => ?_
 rcases j with _ | _ | j
 ·rfl
 ·rfl
 ·unfold nxtf
  have:[0,1].idxOf (j + 1 + 1) = 2:=by
   rw [List.idxOf_cons,List.idxOf_cons,List.idxOf_nil]
   simp
  rw [this,if_neg (by decide),if_neg (by omega),if_neg (by omega)]
end Go.AM
namespace Go.AM
open Go Go.GT
theorem PL.other' {F:Nat -> Prop} {h h':AHeap} {v:AV} {c:List AV} {ps:List Pm} (s:PL h v c ps) (k:Chg F h h') (ho:∀ i,oid v = some i -> ¬ F i) (hc:∀ b ∈ c, ∀ j,oid b = some j -> ¬ F j):PL h' v c ps :=
 ⟨s.own.chg k ho,s.len,fun i a p ha hp => (s.el i a p ha hp).chg k fun j hj => hc a (List.mem_of_getElem? ha) j hj⟩
section
variable {I:Oracle} (hNo:NoI I) {h:AHeap}
include hNo
theorem id_new {n:Nat} (hn:n <= 1000):∃ h',lim otab.get I (.fn 168) [.int .i64 (n:Int)] h = some (.slice h.next 0 n (.exact n),h') /\ Gro h h' /\ h.next < h'.next /\ h'.get h.next = some (.cells (tn n fun j => j) true):=by
 refine (lim_walk_ex (T:=otab.get) (I:=I) (f:=168) (fn:=of168) rfl (a:=[.int .i64 (n:Int)]) (h:=h) (P:=fun v h' => v = .slice h.next 0 n (.exact n) /\ Gro h h' /\ h.next < h'.next /\ h'.get h.next = some (.cells (tn n fun j => j) true)) (hNo.at _ _ (by decide) (by decide) (by decide)) ?_) |> fun ⟨v,h',e,q1,q2⟩ => ⟨h',by rw [e,q1],q2⟩
 show WK _ _ [] ⟨[.int .i64 (n:Int),aundef,aundef,aundef],h⟩ _
 dsimp only [of168,Z.t,Z.f,Z.i,Z.q,Z.m,Z.l,Z.b,Z.c,Z.w]
 simp (disch:=omega) only [RSe.down,mkslV_nat,len_sl]
 refine WK_loopJ (fun k s => ∃ y1 h',s = ⟨[.int .i64 (k:Int),y1, .slice h.next 0 n (.exact n), .int .i64 (n:Int)],h'⟩ /\ Gro h h' /\ h.next < h'.next /\ h'.get h.next = some (.cells (tn n fun j => if j < k then j else 0) true)) n
  ⟨_,_,rfl,Gro.push _ _,Nat.lt_succ_self _,by rw [AHeap.get_push_same,tn_zero]; rfl⟩ ?_
 rintro k hk _ ⟨y1,h',rfl,g,hlt,hg⟩ next
 by_cases hkn:k < n
 ·have h5:=stV_up (F:=fun j => j) hg hkn rfl
  simp (disch:=omega) only [RSe.down,iaddrS,h5]
  exact next hkn _ ⟨_,_,rfl,g.set (Nat.le_refl _) _,hlt,by rw [AHeap.get_set_same]⟩
 ·obtain rfl:k = n:=by omega
  simp (disch:=omega) only [RSe.down]
  exact ⟨(fun i hi => by cases hi),_,rfl,rfl,g,hlt,by rw [hg,tn_congr fun i hi => if_pos hi]⟩
theorem cycle_spec {n:Nat} (hn:n <= 1000) {vl:AV} {l:List Nat} (hl:PmAt h vl l) (hlt:∀ x ∈ l,x < n) (nd:l.Nodup) (hL:l.length <= 1000):∃ v h',lim otab.get I (.fn 167) [.int .i64 (n:Int),vl] h = some (v,h') /\ NewPm h h' v ((List.range n).map (nxtf l)):=by
 refine lim_walk_ex (T:=otab.get) (I:=I) (f:=167) (fn:=of167) rfl (a:=[.int .i64 (n:Int),vl]) (h:=h) (P:=fun v h' => NewPm h h' v ((List.range n).map (nxtf l))) (hNo.at _ _ (by decide) (by decide) (by decide)) ?_
 show WK _ _ [] ⟨[.int .i64 (n:Int),vl,aundef,aundef,aundef,aundef,aundef],h⟩ _
 dsimp only [of167,Z.t,Z.f,Z.i,Z.q,Z.m,Z.l,Z.b,Z.c,Z.w]
 obtain ⟨h1,f1,g1,lt1,r1⟩:=id_new hNo (h:=h) hn
 have hll:∀ {h':AHeap},lenV 1 vl h' = some (.int .i64 (l.length:Int)):=fun {h'} => hl.len
 simp (disch:=omega) only [RSf.down,f1,hll]
 refine WK_loopJ (fun k s => k <= l.length /\ ∃ y2 y3 y4 h',s = ⟨[.int .i64 (k:Int),vl,y2,y3,y4, .slice h.next 0 n (.exact n), .int .i64 (l.length:Int)],h'⟩ /\ Gro h h' /\ h.next < h'.next /\ h'.get h.next = some (.cells (tn n fun j => if l.idxOf j < k then nxtf l j else j) true)) l.length
  ⟨Nat.zero_le _,_,_,_,h1,rfl,g1,lt1,by rw [r1,tn_congr fun i _ => (if_neg (Nat.not_lt_zero _)).symm]⟩ ?_
 rintro k hk _ ⟨_,y2,y3,y4,h',rfl,g,hlt',hg⟩ next
 by_cases hkl:k < l.length
 ·have i1:=hl.iaddr (q := .i64) hkl
  have i2:=(PmAt.gro hl g).load hkl
  have hpos:0 < l.length:=by omega
  have hm:=Nat.mod_lt (k + 1) hpos
  have j1:=hl.iaddr (q := .i64) hm
  have j2:=(PmAt.gro hl g).load hm
  have hx:ap l k < n:=hlt _ (ap_mem hkl)
  have hix:l.idxOf (ap l k) = k:=by
   have e1:ap l k = l[k]:=ap_lt_len hkl
   rw [e1]; exact List.Nodup.idxOf_getElem nd k hkl
  have hnx:nxtf l (ap l k) = ap l ((k + 1) % l.length):=by
   unfold nxtf; rw [hix,if_pos hkl]; rfl
  have h5:=stV_tn (v:=ap l ((k + 1) % l.length)) (fun j => if l.idxOf j < k + 1 then nxtf l j else j) hg hx (by rw [hix,if_pos (Nat.lt_succ_self k)]; exact hnx) fun j hj hne => by
   by_cases e:l.idxOf j < k
   ·rw [if_pos e,if_pos (by omega)]
   ·by_cases e2:l.idxOf j = k
    ·exfalso
     apply hne
     have h3:l.idxOf j < l.length:=by omega
     have h4:=List.getElem_idxOf h3
     rw [ap_lt_len hkl]
     rw [<- h4]; congr 1
    ·rw [if_neg e,if_neg (by omega)]
  have hr:=remN (e := .no) (n:=k + 1) hpos (by omega)
  simp (disch:=omega) only [RSf.down,lssT,i1,i2,add1N,hll,hr,j1,j2,iaddrS,h5]
  exact next hkl _ ⟨by omega,_,_,_,_,rfl,g.set (Nat.le_refl _) _,hlt',AHeap.get_set_same _ _ _⟩
 ·obtain rfl:k = l.length:=by omega
  simp (disch:=omega) only [RSf.down,lssF]
  refine ⟨(fun i hi => by cases hi),_,rfl,NewPm.of (by rw [List.length_map,List.length_range]) g hlt' (Nat.le_refl _) hg fun j hj => ?_⟩
  rw [ap_rm hj]
  split
  ·rfl
  ·rename_i e
   unfold nxtf; rw [if_neg e]
theorem gens_spec {n ib:Nat} (hn:n <= 20) (hl:loadV none (.ptr ib 0) h = some (.int .i64 (n:Int))) (hib:ib < h.next):∃ v c h',lim otab.get I (.fn 166) [.ptr ib 0] h = some (v,h') /\ PL h' v c (symG n) /\ Gro h h' /\ (∀ j,oid v = some j -> h.next <= j) /\ ∀ a ∈ c, ∀ j,oid a = some j -> h.next <= j:=by
 refine (lim_walk_ex (T:=otab.get) (I:=I) (f:=166) (fn:=of166) rfl (a:=[.ptr ib 0]) (h:=h) (P:=fun v h' => ∃ c,PL h' v c (symG n) /\ Gro h h' /\ (∀ j,oid v = some j -> h.next <= j) /\ ∀ a ∈ c, ∀ j,oid a = some j -> h.next <= j) (hNo.at _ _ (by decide) (by decide) (by decide)) ?_) |> fun ⟨v,h',e,c,q⟩ => ⟨v,c,h',e,q⟩
 show WK _ _ [] ⟨[.ptr ib 0,aundef,aundef,aundef],h⟩ _
 dsimp only [of166,Z.t,Z.f,Z.i,Z.q,Z.m,Z.l,Z.b,Z.c,Z.w]
 have ld:∀ {h'},Gro h h' -> loadV none (.ptr ib 0) h' = some (.int .i64 (n:Int)):=fun g => by rw [loadV_same (F:=fun _ => False) g.chg hib (fun hf => hf)]; exact hl
 by_cases h2:2 <= n
 ·have e1:∀ tm:List AV,evalA (.bslice 2 1 [.int .i64 0, .int .i64 0] [(0, .lit (.int .i64 0)),(1, .lit (.int .i64 1))]) tm h = some (.cells [.int .i64 0, .int .i64 1] true, .slice h.next 0 2 (.exact 2)):=fun tm => rfl
  have g1:=Gro.push h (.cells [.int .i64 0, .int .i64 1] true)
  have p1:PmAt (h.push (.cells [.int .i64 0, .int .i64 1] true)) (.slice h.next 0 2 (.exact 2)) [0,1]:=tab_at (Nat.lt_succ_self _) (AHeap.get_push_same h _) rfl (Nat.le_refl _)
  obtain ⟨v2,h3,f3,n3⟩:=cycle_spec hNo (n:=n) (by omega) p1 (fun x hx => (List.mem_cons.1 hx).elim (fun e => by omega) fun e => by rw [List.mem_singleton.1 e]; omega) (by decide) (by decide)
  rw [nxt_trp] at n3
  have g3:=g1.trans n3.gro
  have fr2:∀ j,oid v2 = some j -> h.next <= j:=fun j hj => by
   obtain ⟨i,cap,e,hi⟩:=n3.new
   rw [e] at hj; cases hj
   have:=g1.le; omega
  obtain ⟨k0,v4,h4,k1,k2,k3,k4,k5⟩:=(PL.nil (h:=h3)).app n3.at_ (by decide)
  have g4:Gro h h4:=g3.chg_new k3 fun j hj => by cases hj
  have l4:=ld g4
  by_cases h3':3 <= n
  ·obtain ⟨vi,h5,f5,n5⟩:=bid hNo (h:=h4) (n:=n) (by omega)
   obtain ⟨v6,h6,f6,n6⟩:=cycle_spec hNo (n:=n) (by omega) n5.at_ (fun x hx => List.mem_range.1 hx) List.nodup_range (by rw [(PV.one n).len]; omega)
   rw [nxt_cyc] at n6
   have g46:=n5.gro.trans n6.gro
   obtain ⟨m0,v7,h7,m1,m2,m3,m4,m5⟩:=(k2.gro g46).app n6.at_ (by simp)
   have l5:=ld (g4.trans n5.gro)
   have l6:=ld (g4.trans g46)
   have es:[] ++ [trp n 0] ++ [cyc n] = symG n:=by unfold symG; rw [if_pos h2,if_pos h3']; rfl
   simp (disch:=omega) only [RSf.down,hl,geqT]
   rw [e1]
   simp (disch:=omega) only [RSf.down,f3,k0,k1,l4,geqT,WDV_succ,WDV_zero,l5,l6,f5,f6,WDE_some,WDE_none,checks,lower,recheck,AOp.cls,AV.beq_refl,cond_true,true_and,WDs_bslice0]
   rw [m0,WDA_some]
   simp (disch:=omega) only [RSf.down,WDs_append,m1,WDE_none,WDs_mov,evalQ_mov,WDV_zero]
   rw [es] at m2
   have le3:=g3.le
   have le4:=g46.le
   refine ⟨(fun i hi => by cases hi),v7,rfl,_,m2,(g4.trans g46).chg_new m3 fun j hj => ?_,fun j hj => by rw [m4] at hj; cases hj; omega,fun a ha j hj => ?_⟩
   ·rw [k4] at hj; cases hj; omega
   ·rcases List.mem_append.1 ha with ha | ha
    ·rw [List.mem_singleton.1 ha] at hj; have:=fr2 j hj; omega
    ·rw [List.mem_singleton.1 ha] at hj
     obtain ⟨i,cap,e,hi⟩:=n6.new
     rw [e] at hj; cases hj
     have:=n5.gro.le; omega
  ·have es:[] ++ [trp n 0] = symG n:=by unfold symG; rw [if_pos h2,if_neg h3']; rfl
   simp (disch:=omega) only [RSf.down,hl,geqT]
   rw [e1]
   simp (disch:=omega) only [RSf.down,f3,k0,k1,l4,geqF]
   rw [es] at k2
   have le3:=g3.le
   exact ⟨(fun i hi => by cases hi),v4,rfl,_,k2,g4,fun j hj => by rw [k4] at hj; cases hj; omega,fun a ha j hj => by rw [List.mem_singleton.1 ha] at hj; exact fr2 j hj⟩
 ·have es:[] = symG n:=by unfold symG; rw [if_neg h2,if_neg (by omega)]; rfl
  simp (disch:=omega) only [RSf.down,hl,geqF]
  refine ⟨(fun i hi => by cases hi),_,rfl, [],?_,Gro.refl h,(fun j hj => by cases hj),(fun a ha => by cases ha)⟩
  rw [<- es]; exact PL.nil
theorem named_spec {n ib:Nat} (hn:n <= 20) (hl:loadV none (.ptr ib 0) h = some (.int .i64 (n:Int))) (hib:ib < h.next):∃ v c h',lim otab.get I (.fn 165) [.int .i64 (n:Int), .fn (.func 166) [] [.ptr ib 0]] h = some (.tup [.agg [.int .i64 (n:Int),v], .int .i64 0],h') /\ PL h' v c (symG n) /\ Gro h h' /\ (∀ j,oid v = some j -> h.next <= j) /\ ∀ a ∈ c, ∀ j,oid a = some j -> h.next <= j:=by
 refine (lim_walk_ex (T:=otab.get) (I:=I) (f:=165) (fn:=of165) rfl (a:=[.int .i64 (n:Int), .fn (.func 166) [] [.ptr ib 0]]) (h:=h) (P:=fun r h' => ∃ v c,r = .tup [.agg [.int .i64 (n:Int),v], .int .i64 0] /\ PL h' v c (symG n) /\ Gro h h' /\ (∀ j,oid v = some j -> h.next <= j) /\ ∀ a ∈ c, ∀ j,oid a = some j -> h.next <= j) (hNo.at _ _ (by decide) (by decide) (by decide)) ?_) |> fun ⟨r,h',e,v,c,q1,q2⟩ => ⟨v,c,h',by rw [e,q1],q2⟩
 show WK _ _ [] ⟨[.int .i64 (n:Int), .fn (.func 166) [] [.ptr ib 0],aundef,aundef,aundef],h⟩ _
 dsimp only [of165,Z.t,Z.f,Z.i,Z.q,Z.m,Z.l,Z.b,Z.c,Z.w]
 have g1:=Gro.push h (.cells [.int .i64 0, .nils] true)
 have r1:=AHeap.get_push_same h (.cells [.int .i64 0, .nils] true)
 have fp:lim otab.get I (.fn 220) [.int .i64 (n:Int)] (h.push (.cells [.int .i64 0, .nils] true)) = some (.int .i64 0,h.push (.cells [.int .i64 0, .nils] true)):=by
  refine lim_walk (T:=otab.get) (I:=I) (f:=220) (fn:=of220) rfl (hNo.at _ _ (by decide) (by decide) (by decide)) ?_
  show WK _ _ [] ⟨[.int .i64 (n:Int),aundef],_⟩ _
  dsimp only [of220,Z.t,Z.f,Z.i,Z.q,Z.m,Z.l,Z.b,Z.c,Z.w]
  simp (disch:=omega) only [RSf.down,lssF,gtrF]
  exact ⟨(fun i hi => by cases hi),rfl,trivial⟩
 simp (disch:=omega) only [RSf.down,fp,neqF]
 have x1:(h.push (.cells [.int .i64 0, .nils] true)).next = h.next + 1:=rfl
 generalize h.push (.cells [.int .i64 0, .nils] true) = h1 at g1 r1 x1 ⊢
 obtain ⟨v,c,h2,f2,p2,g2,fr,fc⟩:=gens_spec hNo hn (h:=h1) (ib:=ib) (by rw [loadV_same (F:=fun _ => False) g1.chg hib (fun hf => hf)]; exact hl) (by omega)
 have ec:∀ tm:List AV,nth tm 1 = .fn (.func 166) [] [.ptr ib 0] -> evalE (.call (.tmp 1) []) (lim otab.get I) tm h1 = some (v,h2):=fun tm e => by
  rw [evalE_callV (g:=166) (fs:=[]) (cs:=[.ptr ib 0]) (by rw [ev_tmp]; exact e)]
  exact f2
 rw [ec _ rfl]
 have sv:=p2.own.at.scalar
 have eb:∀ tm:List AV, ∀ hh,nth tm 0 = .int .i64 (n:Int) -> nth tm 1 = v -> evalQ (.build [.int .i64 0, .nils] [(0,(1, .tmp 0)),(1,(1, .tmp 1))]) tm hh = some (.agg [.int .i64 (n:Int),v]):=fun tm hh e1 e2 => by
  rw [evalQ_build]; simp only [fills,ev_tmp,e1,e2,scalar_cells sv]; rfl
 have r2:h2.get h.next = some (.cells [.int .i64 0, .nils] true):=by rw [g2.same _ (by omega)]; exact r1
 have e3:stV 2 (.ptr h.next 0) (.agg [.int .i64 (n:Int),v]) h2 = some (aundef,h2.set h.next (.cells [.int .i64 (n:Int),v] true)):=stV_two r2 rfl sv
 simp (disch:=omega) only [RSf.down]
 rw [eb _ _ rfl rfl]
 simp (disch:=omega) only [RSf.down,e3]
 have ch:Chg (fun j => j = h.next) h2 (h2.set h.next (.cells [.int .i64 (n:Int),v] true)):=Chg.set (F:=fun j => j = h.next) h2 rfl _
 exact ⟨(fun i hi => by cases hi), .tup [.agg [.int .i64 (n:Int),v], .int .i64 0],result_ct rfl (loadV_two (AHeap.get_set_same _ _ _)),v,c,rfl,p2.other' ch (fun j hj e => by have:=fr j hj; omega) (fun b hb j hj e => by have:=fc b hb j hj; omega),(g1.trans g2).set (Nat.le_refl _) _,fun j hj => by have:=fr j hj; omega,fun a ha j hj => by have:=fc a ha j hj; omega⟩
theorem sym_spec {n:Nat} (hn:n <= 20):∃ v c h',lim otab.get I (.fn 92) [.int .i64 (n:Int)] h = some (.tup [.agg [.int .i64 (n:Int),v], .int .i64 0],h') /\ PL h' v c (symG n) /\ Gro h h':=by
 refine (lim_walk_ex (T:=otab.get) (I:=I) (f:=92) (fn:=of92) rfl (a:=[.int .i64 (n:Int)]) (h:=h) (P:=fun r h' => ∃ v c,r = .tup [.agg [.int .i64 (n:Int),v], .int .i64 0] /\ PL h' v c (symG n) /\ Gro h h') (hNo.at _ _ (by decide) (by decide) (by decide)) ?_) |> fun ⟨r,h',e,v,c,q1,q2⟩ => ⟨v,c,h',by rw [e,q1],q2⟩
 show WK _ _ [] ⟨[.int .i64 (n:Int),aundef,aundef],h⟩ _
 dsimp only [of92,Z.t,Z.f,Z.i,Z.q,Z.m,Z.l,Z.b,Z.c,Z.w]
 have ga:=Gro.push h (.cells [.int .i64 (n:Int)] true)
 have gb:=Gro.push (h.push (.cells [.int .i64 (n:Int)] true)) (.cells [.int .i64 0, .nils] true)
 have xa:(h.push (.cells [.int .i64 (n:Int)] true)).next = h.next + 1:=rfl
 have xb:((h.push (.cells [.int .i64 (n:Int)] true)).push (.cells [.int .i64 0, .nils] true)).next = h.next + 2:=rfl
 have l0:=box_ld (h:=h) (c:=[.int .i64 (n:Int)]) (r:=true) gb (o:=0) (x := .int .i64 (n:Int)) rfl
 have r1:=AHeap.get_push_same (h.push (.cells [.int .i64 (n:Int)] true)) (.cells [.int .i64 0, .nils] true)
 rw [xa] at r1
 have si:(AV.int .i64 (n:Int)).cells = [.int .i64 (n:Int)]:=rfl
 have g1:=ga.trans gb
 simp (disch:=omega) only [RSf.down,si,xa,l0]
 generalize (h.push (.cells [.int .i64 (n:Int)] true)).push (.cells [.int .i64 0, .nils] true) = h1 at g1 l0 r1 xb ⊢
 obtain ⟨v,c,h2,f2,p2,g2,fr,fc⟩:=named_spec hNo hn l0 (by omega)
 have r2:h2.get (h.next + 1) = some (.cells [.int .i64 0, .nils] true):=by rw [g2.same _ (by omega)]; exact r1
 have e3:stV 2 (.ptr (h.next + 1) 0) (.agg [.int .i64 (n:Int),v]) h2 = some (aundef,h2.set (h.next + 1) (.cells [.int .i64 (n:Int),v] true)):=stV_two r2 rfl p2.own.at.scalar
 have ch:Chg (fun j => j = h.next + 1) h2 (h2.set (h.next + 1) (.cells [.int .i64 (n:Int),v] true)):=Chg.set (F:=fun j => j = h.next + 1) h2 rfl _
 simp (disch:=omega) only [RSf.down,f2,e3]
 exact ⟨(fun i hi => by cases hi), .tup [.agg [.int .i64 (n:Int),v], .int .i64 0],result_ct rfl (loadV_two (AHeap.get_set_same _ _ _)),v,c,rfl,p2.other' ch (fun j hj e => by have:=fr j hj; omega) (fun b hb j hj e => by have:=fc b hb j hj; omega),(g1.trans g2).set (by omega) _⟩
end
end Go.AM
namespace Go.AM
open Go Go.GT
def sd (L:List Nat):List Nat:=L.mergeSort fun x y => decide (y <= x)
theorem sd_perm (L:List Nat):(sd L).Perm L:=List.mergeSort_perm _ _
theorem sd_pw (L:List Nat):(sd L).Pairwise fun x y => y <= x:=by
 have:=List.pairwise_mergeSort (le:=fun x y:Nat => decide (y <= x)) (fun a b c h1 h2 => by simp only [decide_eq_true_eq] at h1 h2 ⊢; omega) (fun a b => by simp only [Bool.or_eq_true,decide_eq_true_eq]; omega) L
 exact this.imp fun h => of_decide_eq_true h
theorem sd_eq {L M:List Nat}:sd L = sd M ↔ L.Perm M:=by
 constructor
 ·intro e
  exact (sd_perm L).symm.trans (e ▸ sd_perm M)
 ·intro h
  exact List.Perm.eq_of_pairwise (fun a b _ _ h1 h2 => Nat.le_antisymm h2 h1) (sd_pw L) (sd_pw M) ((sd_perm L).trans (h.trans (sd_perm M).symm))
theorem dcmp_spec {hr:AHeap} {x y:Nat} (hx:x <= 1000000) (hy:y <= 1000000):lim otab.get I0 (.fn 172) [.int .i64 (x:Int), .int .i64 (y:Int)] hr = some (.int .i64 ((y:Int) - (x:Int)),hr):=by
 refine lim_walk (T:=otab.get) (I:=I0) (f:=172) (fn:=of172) rfl rfl ?_
 show WK _ _ [] ⟨[.int .i64 (x:Int), .int .i64 (y:Int),aundef],hr⟩ _
 dsimp only [of172,Z.t,Z.f,Z.i,Z.q,Z.m,Z.l,Z.b,Z.c,Z.w]
 simp (disch:=omega) only [RSe.down,sub_i64]
 exact ⟨(fun i hi => by cases hi),rfl,trivial⟩
section
variable {I:Oracle} (hS:Srt I) {h:AHeap}
include hS
theorem isort_spec {i : Nat} {cap : ACap} {L : List Nat} (hg : h.get i = some (.cells (pc L) true)) (h0 : 0 < L.length) (hL : L.length <= 1000000) (hx : ∀ x ∈ L, x <= 1000000) :
  lim otab.get I (.fn 171) [.slice i 0 L.length cap, .fn (.func 172) [] []] h = some (.tup [],h.set i (.cells (pc (sd L)) true)):=by
 refine lim_oracle ?_
 rw [hS.ints]
 have hrow:((pc L).drop 0).take L.length = pc L:=by rw [List.drop_zero, <- pc_len,List.take_length]
 have hmem:∀ a ∈ pc L, ∃ x ∈ L,a = .int .i64 (x:Int):=fun a ha => by
  obtain ⟨x,hx,e⟩:=List.mem_map.1 ha; exact ⟨x,hx,e.symm⟩
 have hz:∀ x ∈ L, ∀ y ∈ L,cmpZ otab.get I0 172 [] (roH h i) (.int .i64 (x:Int)) (.int .i64 (y:Int)) = (y:Int) - (x:Int):=fun x h1 y h2 => by
  have e:=dcmp_spec (hr:=roH h i) (hx x h1) (hx y h2)
  unfold cmpZ; rw [e]
 have hSd:SortedAs otab.get I0 172 [] (roH h i) (pc L) (pc (sd L)):=by
  refine ⟨(sd_perm L).map _,?_⟩
  show List.Pairwise _ ((sd L).map fun x:Nat => AV.int .i64 (x:Int))
  rw [List.pairwise_map]
  refine (List.Pairwise.and_mem.1 (sd_pw L)).imp ?_
  rintro a b ⟨ha,hb,e⟩
  rw [hz b ((sd_perm L).mem_iff.1 hb) a ((sd_perm L).mem_iff.1 ha)]
  omega
 have hA:SortAt tab.get otab.get I0 h i 0 L.length 172 [] (pc L):=by
  refine ⟨h0,by omega,by rw [pc_len]; omega,⟨_,rfl⟩,?_,?_⟩
  ·rw [hrow]
   refine ⟨fun a ha => ?_,fun a ha b hb => ?_,fun a ha => ?_,fun a ha b hb c hc h1 h2 => ?_,fun a ha b hb h1 h2 => ?_⟩
   ·obtain ⟨x,_,rfl⟩:=hmem a ha; rfl
   ·obtain ⟨x,h1,rfl⟩:=hmem a ha
    obtain ⟨y,h2,rfl⟩:=hmem b hb
    rw [hz x h1 y h2]; exact ⟨_,dcmp_spec (hx x h1) (hx y h2)⟩
   ·obtain ⟨x,h1,rfl⟩:=hmem a ha
    rw [hz x h1 x h1]; omega
   ·obtain ⟨x,hx',rfl⟩:=hmem a ha
    obtain ⟨y,hy,rfl⟩:=hmem b hb
    obtain ⟨z,hz',rfl⟩:=hmem c hc
    rw [hz x hx' y hy] at h1
    rw [hz y hy z hz'] at h2
    rw [hz x hx' z hz']; omega
   ·obtain ⟨x,hx',rfl⟩:=hmem a ha
    obtain ⟨y,hy,rfl⟩:=hmem b hb
    rw [hz x hx' y hy] at h1
    rw [hz y hy x hx'] at h2
    rw [show x = y by omega]
  ·rw [hrow]; exact ⟨_,hSd⟩
 have key:=sortJ_eq (cap:=cap) hg hA (by rw [hrow]; exact hSd)
 rw [key]
 have e1:(pc L).take 0 ++ (pc (sd L) ++ (pc L).drop (0 + L.length)) = pc (sd L):=by
  rw [Nat.zero_add,List.drop_eq_nil_of_le (by rw [pc_len]; exact Nat.le_refl _),List.append_nil]; rfl
 rw [e1]
theorem nsort_spec:lim otab.get I (.fn 171) [.nils, .fn (.func 172) [] []] h = some (.tup [],h):=by
 have hNo:=hS.no
 have f1:lim otab.get I (.fn 246) [.int .u64 0] h = some (.int .i64 0,h):=by
  refine lim_walk (T:=otab.get) (I:=I) (f:=246) (fn:=of246) rfl (hNo.at _ _ (by decide) (by decide) (by decide)) ?_
  show WK _ _ [] ⟨[.int .u64 0,aundef,aundef],h⟩ _
  dsimp only [of246,Z.t,Z.f,Z.i,Z.q,Z.m,Z.l,Z.b,Z.c,Z.w]
  have a1:bin .geq .no (.int .u64 0) (.int .u64 4294967296) = some (.bool false):=rfl
  have a2:bin .geq .no (.int .u64 0) (.int .u64 65536) = some (.bool false):=rfl
  have a3:bin .geq .no (.int .u64 0) (.int .u64 256) = some (.bool false):=rfl
  have a4:toIntV .u8 (.int .u64 0) = some (.int .u8 0):=rfl
  have a5:toIntV .i64 (.int .u8 0) = some (.int .i64 0):=rfl
  have a6:bin .add .no (.int .i64 0) (.int .i64 0) = some (.int .i64 0):=rfl
  simp (disch:=omega) only [RSf.down,a1,a2,a3,a4]
  have a7:∀ s:List Nat,s[0]? = some 0 -> indexSV (.str s) (.int .u8 0) = some (.int .u8 0):=fun s e => by
   cases s with
   | nil => cases e
   | cons a s =>
    simp at e; subst e
    rfl
  rw [a7 _ rfl]
  simp (disch:=omega) only [RSf.down,a5,a6]
  exact ⟨(fun i hi => by cases hi),rfl,trivial⟩
 have f2:lim otab.get I (.fn 217) [.int .u64 0] h = some (.int .i64 0,h):=by
  refine lim_walk (T:=otab.get) (I:=I) (f:=217) (fn:=of217) rfl (hNo.at _ _ (by decide) (by decide) (by decide)) ?_
  show WK _ _ [] ⟨[.int .u64 0,aundef],h⟩ _
  dsimp only [of217,Z.t,Z.f,Z.i,Z.q,Z.m,Z.l,Z.b,Z.c,Z.w]
  simp (disch:=omega) only [RSf.down,f1]
  exact ⟨(fun i hi => by cases hi),rfl,trivial⟩
 have f3:lim otab.get I (.fn 249) [.nils, .int .i64 0, .int .i64 0, .fn (.func 172) [] []] h = some (.tup [],h):=by
  refine lim_walk (T:=otab.get) (I:=I) (f:=249) (fn:=of249) rfl (hNo.at _ _ (by decide) (by decide) (by decide)) ?_
  show WK _ _ [] ⟨[.nils, .int .i64 0, .int .i64 0, .fn (.func 172) [] [],aundef,aundef,aundef,aundef,aundef,aundef,aundef],h⟩ _
  dsimp only [of249,Z.t,Z.f,Z.i,Z.q,Z.m,Z.l,Z.b,Z.c,Z.w]
  have a1:bin .add .no (.int .i64 0) (.int .i64 1) = some (.int .i64 1):=rfl
  have a2:bin .lss .no (.int .i64 1) (.int .i64 0) = some (.bool false):=rfl
  simp (disch:=omega) only [RSf.down,a1]
  refine WK_loop ?_
  simp (disch:=omega) only [RSf.down,a2]
  exact ⟨(fun i hi => by cases hi),rfl,trivial⟩
 have f4:lim otab.get I (.fn 222) [.nils, .int .i64 0, .int .i64 0, .int .i64 0, .fn (.func 172) [] []] h = some (.tup [],h):=by
  refine lim_walk (T:=otab.get) (I:=I) (f:=222) (fn:=of222) rfl (hNo.at _ _ (by decide) (by decide) (by decide)) ?_
  show WK _ _ [] ⟨[.nils, .int .i64 0, .int .i64 0, .int .i64 0, .fn (.func 172) [] [],aundef,aundef,aundef,aundef,aundef,aundef,aundef,aundef,aundef],h⟩ _
  dsimp only [of222,Z.t,Z.f,Z.i,Z.q,Z.m,Z.l,Z.b,Z.c,Z.w]
  have a1:bin .sub .no (.int .i64 0) (.int .i64 0) = some (.int .i64 0):=rfl
  have a2:bin .leq .no (.int .i64 0) (.int .i64 12) = some (.bool true):=rfl
  simp (disch:=omega) only [RSf.down]
  refine WK_loop ?_
  simp (disch:=omega) only [RSf.down,a1,a2,f3]
  exact ⟨(fun i hi => by cases hi),rfl,trivial⟩
 refine lim_walk (T:=otab.get) (I:=I) (f:=171) (fn:=of171) rfl (by rw [hS.ints]; rfl) ?_
 show WK _ _ [] ⟨[.nils, .fn (.func 172) [] [],aundef,aundef],h⟩ _
 dsimp only [of171,Z.t,Z.f,Z.i,Z.q,Z.m,Z.l,Z.b,Z.c,Z.w]
 have a0:lenV 1 .nils h = some (.int .i64 0):=rfl
 have a1:toIntV .u64 (.int .i64 0) = some (.int .u64 0):=rfl
 simp (disch:=omega) only [RSf.down,a0,a1,f2,f4]
 exact ⟨(fun i hi => by cases hi),rfl,trivial⟩
theorem type_spec {n:Nat} (hn:n <= 20) {va:AV} {a:Pm} (ha:PmAt h va a) (pa:PV n a):∃ v h',lim otab.get I (.fn 93) [va] h = some (.tup [v, .int .i64 0],h') /\ PmAt h' v (sd (typL n a)) /\ Gro h h':=by
 have hNo:=hS.no
 refine (lim_walk_ex (T:=otab.get) (I:=I) (f:=93) (fn:=of93) rfl (a:=[va]) (h:=h) (P:=fun r h' => ∃ v,r = .tup [v, .int .i64 0] /\ PmAt h' v (sd (typL n a)) /\ Gro h h') (hNo.at _ _ (by decide) (by decide) (by decide)) ?_) |> fun ⟨r,h',e,v,q1,q2⟩ => ⟨v,h',by rw [e,q1],q2⟩
 show WK _ _ [] ⟨[va,aundef,aundef,aundef,aundef,aundef],h⟩ _
 dsimp only [of93,Z.t,Z.f,Z.i,Z.q,Z.m,Z.l,Z.b,Z.c,Z.w]
 have fc:=pcheck hNo ha.ints
 rw [ok_of_perm pa hn] at fc
 obtain ⟨v4,c4,h4,f4,p4,g4⟩:=cycles_spec hNo ha pa hn
 have hbl:(bigL n a n).length <= n:=by
  have:=List.length_filter_le (isBig n a) (List.range n)
  rw [List.length_range] at this; exact this
 have hcl:(cycL n a n).length = (bigL n a n).length:=by unfold cycL; rw [List.length_map]
 have hcm:(cycL n a n).map List.length = (bigL n a n).map (clen n a):=by
  unfold cycL
  rw [List.map_map]
  exact List.map_congr_left fun j _ => by show (((List.range (clen n a j)).map (itr a j)).length) = _; rw [List.length_map,List.length_range]
 have hlenA:∀ {h':AHeap},lenV 1 va h' = some (.int .i64 (n:Int)):=fun {h'} => by rw [ha.len,pa.len]
 simp (disch:=omega) only [RSf.down,fc,neqF,f4,p4.pms.len]
 refine WK_loopJ (fun k s => k <= (cycL n a n).length /\ ∃ y3 v2 h',s = ⟨[va, .int .i64 (k:Int),v2,y3,v4, .int .i64 ((cycL n a n).length:Int)],h'⟩ /\ Gro h4 h' /\ Own 1 h' v2 k (pc (((cycL n a n).take k).map List.length)) /\ (v2 = .nils \/ 0 < k) /\ ∀ j,oid v2 = some j -> h4.next <= j) (cycL n a n).length
  ⟨Nat.zero_le _,_, .nils,h4,rfl,Gro.refl _,Own.nil, .inl rfl,fun j hj => by cases hj⟩ ?_
 rintro k hk _ ⟨_,y3,v2,h',rfl,g,ow,nz,fr⟩ next
 by_cases hkl:k < (cycL n a n).length
 ·obtain ⟨q,hq⟩:=get_some hkl
  obtain ⟨i1,b,i2,i3⟩:=(p4.gro g).pms.get hq
  have lq:∀ {h':AHeap},lenV 1 b h' = some (.int .i64 (q.length:Int)):=fun {h'} => i3.len
  have eb:∀ tm:List AV, ∀ hh:AHeap,nth tm 3 = .int .i64 (q.length:Int) -> evalA (.bslice 1 1 [.int .i64 0] [(0, .tmp 3)]) tm hh = some (.cells [.int .i64 (q.length:Int)] true, .slice hh.next 0 1 (.exact 1)):=fun tm hh e => by
   simp only [evalA,fillsS,ev_tmp,e]; rfl
  obtain ⟨v2',h5,k1,k2,k3,k4,k5⟩:=ow.app1 (bytes:=8) (c:=[.int .i64 (q.length:Int)]) rfl rfl (by decide) (by omega)
  simp (disch:=omega) only [RSf.down,lssT,i1,i2,lq]
  first
  | (rw [eb _ _ rfl]; simp (disch:=omega) only [RSf.down,k1,add1N])
  | simp (disch:=omega) only [RSf.down,k1,add1N]
  have e5:pc (((cycL n a n).take (k + 1)).map List.length) = pc (((cycL n a n).take k).map List.length) ++ [.int .i64 (q.length:Int)]:=by
   have:(cycL n a n).take (k + 1) = (cycL n a n).take k ++ [q]:=by rw [List.take_add_one,hq]; rfl
   rw [this,List.map_append]; unfold pc; rw [List.map_append]; rfl
  exact next hkl _ ⟨by omega,_,v2',h5,rfl,g.chg_new k3 fun j hj => fr j hj,by rw [e5]; exact k2, .inr (by omega),fun j hj => by rw [k4] at hj; cases hj; have:=g.le; omega⟩
 obtain rfl:k = (cycL n a n).length:=by omega
 rw [List.take_length,hcm] at ow
 rw [hcl] at ow ⊢
 simp (disch:=omega) only [RSf.down,lssF,hlenA]
 refine WK_loopJ (fun k s => k <= n /\ ∃ y3 y5 v2 h',s = ⟨[va, .int .i64 (k:Int),v2,y3, .int .i64 (n:Int),y5],h'⟩ /\ Gro h4 h' /\ Own 1 h' v2 ((bigL n a n).length + (((List.range n).take k).filter fun i => i == ap a i).length) (pc ((bigL n a n).map (clen n a) ++ (((List.range n).take k).filter fun i => i == ap a i).map fun _ => 1)) /\ (v2 = .nils \/ 0 < (bigL n a n).length + (((List.range n).take k).filter fun i => i == ap a i).length) /\ ∀ j,oid v2 = some j -> h4.next <= j) n
  ⟨Nat.zero_le _,_,_,v2,h',rfl,g,by rw [List.take_zero]; simpa using ow,nz.imp id fun h => by omega,fr⟩ ?_
 clear ow fr g nz
 rintro k hk _ ⟨_,y3,y5,v2,h',rfl,g,ow,nz,fr⟩ next
 by_cases hkn:k < n
 ·have i1:=ha.iaddr (q := .i64) (k:=k) (by rw [pa.len]; exact hkn)
  have i2:=(PmAt.gro ha (g4.trans g)).load (k:=k) (by rw [pa.len]; exact hkn)
  have hr:(List.range n)[k]? = some k:=List.getElem?_range hkn
  have e4:(List.range n).take (k + 1) = (List.range n).take k ++ [k]:=by rw [List.take_add_one,hr]; rfl
  have hfl:(((List.range n).take k).filter fun i => i == ap a i).length <= n:=by
   have h1:=List.length_filter_le (fun i => i == ap a i) ((List.range n).take k)
   rw [List.length_take,List.length_range] at h1; omega
  by_cases e:k = ap a k
  ·have e':(k:Int) = ((ap a k:Nat):Int):=by omega
   have eb:∀ tm:List AV, ∀ hh:AHeap,evalA (.bslice 1 1 [.int .i64 0] [(0, .lit (.int .i64 1))]) tm hh = some (.cells [.int .i64 1] true, .slice hh.next 0 1 (.exact 1)):=fun tm hh => rfl
   obtain ⟨v2',h5,k1,k2,k3,k4,k5⟩:=ow.app1 (bytes:=8) (c:=[.int .i64 1]) rfl rfl (by decide) (by omega)
   have ef:((List.range n).take (k + 1)).filter (fun i => i == ap a i) = ((List.range n).take k).filter (fun i => i == ap a i) ++ [k]:=by
    rw [e4,List.filter_append,List.filter_cons,if_pos (beq_iff_eq.2 e),List.filter_nil]
   simp (disch:=omega) only [RSf.down,lssT,i1,i2,eqlT e']
   first
   | (rw [eb]; simp (disch:=omega) only [RSf.down,k1,add1N])
   | simp (disch:=omega) only [RSf.down,k1,add1N]
   have e5:pc ((bigL n a n).map (clen n a) ++ (((List.range n).take (k + 1)).filter fun i => i == ap a i).map fun _ => 1) = pc ((bigL n a n).map (clen n a) ++ (((List.range n).take k).filter fun i => i == ap a i).map fun _ => 1) ++ [.int .i64 1]:=by
    rw [ef,List.map_append, <- List.append_assoc]; unfold pc; rw [List.map_append]; rfl
   refine next hkn _ ⟨by omega,_,_,v2',h5,rfl,g.chg_new k3 fun j hj => fr j hj,?_, .inr (by rw [ef,List.length_append,List.length_singleton]; omega),fun j hj => by rw [k4] at hj; cases hj; have:=g.le; omega⟩
   rw [e5,ef,List.length_append,List.length_singleton, <- Nat.add_assoc]; exact k2
  ·have e':(k:Int) ≠ ((ap a k:Nat):Int):=by omega
   have ef:((List.range n).take (k + 1)).filter (fun i => i == ap a i) = ((List.range n).take k).filter (fun i => i == ap a i):=by
    rw [e4,List.filter_append,List.filter_cons,if_neg (by rw [beq_iff_eq]; exact e),List.filter_nil,List.append_nil]
   simp (disch:=omega) only [RSf.down,lssT,i1,i2,eqlF e',add1N]
   refine next hkn _ ⟨by omega,_,_,v2,h',rfl,g,?_,by rw [ef]; exact nz,fr⟩
   rw [ef]; exact ow
 obtain rfl:k = n:=by omega
 have et:(List.range k).take k = List.range k:=List.take_of_length_le (by rw [List.length_range]; exact Nat.le_refl _)
 rw [et] at ow nz
 have ow2:Own 1 h' v2 (typL k a).length (pc (typL k a)):=by
  have hl:(typL k a).length = (bigL k a k).length + ((List.range k).filter fun i => i == ap a i).length:=by
   unfold typL fixL; rw [List.length_append,List.length_map,List.length_map]
  rw [hl]; exact ow
 have hle:(typL k a).length <= 1000:=by
  unfold typL fixL
  rw [List.length_append,List.length_map,List.length_map]
  have:=List.length_filter_le (fun i => i == ap a i) (List.range k)
  rw [List.length_range] at this; omega
 have hxs:∀ x ∈ typL k a,x <= 1000000:=fun x hx => by
  unfold typL at hx
  rcases List.mem_append.1 hx with hx | hx
  ·obtain ⟨j,hj,rfl⟩:=List.mem_map.1 hx
   have:=(clen_spec pa (mem_bigL.1 hj).1).2.1; omega
  ·obtain ⟨j,_,rfl⟩:=List.mem_map.1 hx; omega
 rcases ow2 with ⟨rfl,e0,e1⟩ | ⟨i,cap,rfl,hcap,hcl',hi,hgi⟩
 ·have et0:typL k a = []:=List.eq_nil_of_length_eq_zero e0
  have f5:=nsort_spec hS (h:=h')
  simp (disch:=omega) only [RSf.down,lssF,f5]
  refine ⟨(fun i hi => by cases hi),_,rfl,_,rfl,?_,g4.trans g⟩
  rw [et0]; exact .inl ⟨rfl,by unfold sd; rw [List.mergeSort_nil]; rfl⟩
 ·by_cases h0:0 < (typL k a).length
  ·have f5:=isort_spec hS (cap:=cap) hgi h0 (by omega) hxs
   have g5:Gro h4 (h'.set i (.cells (pc (sd (typL k a))) true)):=g.set (fr i rfl) _
   simp (disch:=omega) only [RSf.down,lssF,f5]
   refine ⟨(fun i hi => by cases hi),_,rfl,_,rfl,?_,g4.trans g5⟩
   have hlen:(sd (typL k a)).length = (typL k a).length:=(sd_perm _).length_eq
   have ow3:Own 1 (h'.set i (.cells (pc (sd (typL k a))) true)) (.slice i 0 (typL k a).length cap) (typL k a).length (pc (sd (typL k a))) := .inr ⟨i,cap,rfl,hcap,by rw [pc_len,hlen,Nat.mul_one],hi,AHeap.get_set_same _ _ _⟩
   exact ow3.at
  ·exfalso
   rcases nz with e | e
   ·cases e
   ·apply h0
    unfold typL fixL
    rw [List.length_append,List.length_map,List.length_map]; exact e
end
end Go.AM
namespace Go.AM
open Go Go.GT
def twoE (p q:List Int):Int:=if permErr p ≠ 0 then permErr p else if permErr q ≠ 0 then permErr q else if p.length ≠ q.length then 2 else 0
section
variable {I:Oracle} (hNo:NoI I) {h:AHeap}
include hNo
theorem rtwop_spec {va vb:AV} {p q:List Int} (hp:IAt h va p) (hq:IAt h vb q):lim otab.get I (.fn 91) [va,vb] h = some (.int .i64 (twoE p q),h):=by
 refine lim_walk (T:=otab.get) (I:=I) (f:=91) (fn:=of91) rfl (hNo.at _ _ (by decide) (by decide) (by decide)) ?_
 show WK _ _ [] ⟨[va,vb,aundef,aundef],h⟩ _
 dsimp only [of91,Z.t,Z.f,Z.i,Z.q,Z.m,Z.l,Z.b,Z.c,Z.w]
 have f1:=rcheck hNo hp
 have f2:=rcheck hNo hq
 have lp:∀ {h':AHeap},lenV 1 va h' = some (.int .i64 (p.length:Int)):=fun {h'} => hp.len
 have lq:∀ {h':AHeap},lenV 1 vb h' = some (.int .i64 (q.length:Int)):=fun {h'} => hq.len
 unfold twoE
 by_cases e1:permErr p = 0
 ·rw [e1] at f1
  rw [if_neg (show ¬ permErr p ≠ 0 from fun h => h e1)]
  by_cases e2:permErr q = 0
  ·rw [e2] at f2
   rw [if_neg (show ¬ permErr q ≠ 0 from fun h => h e2)]
   by_cases e3:p.length = q.length
   ·rw [if_neg (show ¬ p.length ≠ q.length from fun h => h e3)]
    simp (disch:=omega) only [RSf.down,f1,f2,neqF,lp,lq]
    exact ⟨(fun i hi => by cases hi),rfl,trivial⟩
   ·have e3':(p.length:Int) ≠ (q.length:Int):=by omega
    rw [if_pos e3]
    simp (disch:=omega) only [RSf.down,f1,f2,neqF,lp,lq,neqT e3']
    exact ⟨(fun i hi => by cases hi),rfl,trivial⟩
  ·rw [if_pos e2]
   simp (disch:=omega) only [RSf.down,f1,neqF,f2,neqT e2]
   exact ⟨(fun i hi => by cases hi),rfl,trivial⟩
 ·rw [if_pos e1]
  simp (disch:=omega) only [RSf.down,f1,neqT e1]
  exact ⟨(fun i hi => by cases hi),rfl,trivial⟩
theorem conjp_spec {n:Nat} (hn:n <= 20) {va vx:AV} {a x:Pm} (ha:PmAt h va a) (hx:PmAt h vx x) (pa:PV n a) (px:PV n x):∃ v h',lim otab.get I (.fn 94) [va,vx] h = some (.tup [v, .int .i64 0],h') /\ PmAt h' v (cj a x) /\ Gro h h':=by
 have f0:lim otab.get I (.fn 173) [va,vx] h = some (.int .i64 0,h):=by
  refine lim_walk (T:=otab.get) (I:=I) (f:=173) (fn:=of173) rfl (hNo.at _ _ (by decide) (by decide) (by decide)) ?_
  show WK _ _ [] ⟨[va,vx,aundef,aundef],h⟩ _
  dsimp only [of173,Z.t,Z.f,Z.i,Z.q,Z.m,Z.l,Z.b,Z.c,Z.w]
  have f1:=pcheck hNo ha.ints
  rw [ok_of_perm pa hn] at f1
  have f2:=pcheck hNo hx.ints
  rw [ok_of_perm px hn] at f2
  have lp:∀ {h':AHeap},lenV 1 va h' = some (.int .i64 (n:Int)):=fun {h'} => by rw [ha.len,pa.len]
  have lq:∀ {h':AHeap},lenV 1 vx h' = some (.int .i64 (n:Int)):=fun {h'} => by rw [hx.len,px.len]
  simp (disch:=omega) only [RSf.down,f1,f2,neqF,lp,lq]
  exact ⟨(fun i hi => by cases hi),rfl,trivial⟩
 obtain ⟨v1,h1,f1,n1⟩:=inv_fn (I:=I) (f:=175) rfl (fun _ _ => hNo.at _ _ (by decide) (by decide) (by decide)) hx px (by omega)
 obtain ⟨v2,h2,f2,n2⟩:=mul_fn (I:=I) (f:=174) rfl (fun _ _ => hNo.at _ _ (by decide) (by decide) (by decide)) n1.at_ (ha.gro n1.gro) px.inv pa (by omega)
 have g12:=n1.gro.trans n2.gro
 obtain ⟨v3,h3,f3,n3⟩:=mul_fn (I:=I) (f:=174) rfl (fun _ _ => hNo.at _ _ (by decide) (by decide) (by decide)) n2.at_ (hx.gro g12) (px.inv.mul pa) px (by omega)
 refine (lim_walk_ex (T:=otab.get) (I:=I) (f:=94) (fn:=of94) rfl (a:=[va,vx]) (h:=h) (P:=fun r h' => r = .tup [v3, .int .i64 0] /\ h' = h3) (hNo.at _ _ (by decide) (by decide) (by decide)) ?_) |> fun ⟨r,h',e,q1,q2⟩ => ⟨v3,h3,by rw [e,q1,q2],n3.at_,g12.trans n3.gro⟩
 show WK _ _ [] ⟨[va,vx,aundef,aundef],h⟩ _
 dsimp only [of94,Z.t,Z.f,Z.i,Z.q,Z.m,Z.l,Z.b,Z.c,Z.w]
 simp (disch:=omega) only [RSf.down,f0,neqF,f1,f2,f3]
 exact ⟨(fun i hi => by cases hi),_,rfl,rfl,trivial⟩
end
section
variable {I:Oracle} (hC:Cjc I) {h:AHeap}
include hC
theorem lawTyp_spec {va vb:AV} {p q:List Int} (hp:IAt h va p) (hq:IAt h vb q):∃ h',lim otab.get I (.fn 19) [va,vb] h = some (.bool true,h') /\ Gro h h':=by
 have hNo:=hC.srt.no
 refine (lim_walk_ex (T:=otab.get) (I:=I) (f:=19) (fn:=of19) rfl (a:=[va,vb]) (h:=h) (P:=fun a h' => a = .bool true /\ Gro h h') (hNo.at _ _ (by decide) (by decide) (by decide)) ?_) |> fun ⟨a,h',e,q1,q2⟩ => ⟨h',by rw [e,q1],q2⟩
 show WK _ _ [] ⟨[va,vb,aundef,aundef,aundef,aundef,aundef,aundef,aundef,aundef],h⟩ _
 dsimp only [of19,Z.t,Z.f,Z.i,Z.q,Z.m,Z.l,Z.b,Z.c,Z.w]
 obtain ⟨h2,f2,g2⟩:=awake25_spec hC (h:=h)
 have lp:∀ {h':AHeap},lenV 1 va h' = some (.int .i64 (p.length:Int)):=fun {h'} => hp.len
 have lq:∀ {h':AHeap},lenV 1 vb h' = some (.int .i64 (q.length:Int)):=fun {h'} => hq.len
 have ln:∀ {h':AHeap},lenV 1 .nils h' = some (.int .i64 0):=fun {h'} => rfl
 by_cases hpl:7 < p.length
 ·obtain ⟨h3,f3,g3⟩:=awake25_spec hC (h:=h2)
  simp (disch:=omega) only [RSf.down,f2,not_bool,Bool.not_true,lp,gtrT,f3]
  exact ⟨(fun i hi => by cases hi),_,rfl,rfl,g2.trans g3⟩
 by_cases hql:7 < q.length
 ·obtain ⟨h3,f3,g3⟩:=awake25_spec hC (h:=h2)
  simp (disch:=omega) only [RSf.down,f2,not_bool,Bool.not_true,lp,gtrF,lq,gtrT,f3]
  exact ⟨(fun i hi => by cases hi),_,rfl,rfl,g2.trans g3⟩
 have fT:=rtwop_spec hNo (SlAt.gro hp g2:IAt _ va p) (SlAt.gro hq g2:IAt _ vb q)
 by_cases hT:twoE p q = 0
 case neg =>
  obtain ⟨h3,f3,g3⟩:=awake25_spec hC (h:=h2)
  simp (disch:=omega) only [RSf.down,f2,not_bool,Bool.not_true,lp,gtrF,lq,fT,neqT hT,f3]
  exact ⟨(fun i hi => by cases hi),_,rfl,rfl,g2.trans g3⟩
 rw [hT] at fT
 have hpe:permErr p = 0:=by
  by_cases e:permErr p = 0
  ·exact e
  ·unfold twoE at hT; rw [if_pos e] at hT; exact absurd hT e
 have hqe:permErr q = 0:=by
  by_cases e:permErr q = 0
  ·exact e
  ·unfold twoE at hT; rw [if_neg (fun h => h hpe),if_pos e] at hT; exact absurd hT e
 have hlen:p.length = q.length:=by
  by_cases e:p.length = q.length
  ·exact e
  ·unfold twoE at hT; rw [if_neg (fun h => h hpe),if_neg (fun h => h hqe),if_pos e] at hT; cases hT
 obtain ⟨hp20,a,pa,rfl⟩:=perm_of_ok hpe
 obtain ⟨hq20,b,pb,rfl⟩:=perm_of_ok hqe
 rw [zs_len] at pa pb lp lq hpl hql
 rw [zs_len,zs_len] at hlen
 generalize hnn:a.length = n at pa lp hpl hlen
 rw [<- hlen] at pb lq hql
 have hn:n <= 20:=by omega
 have aP:PmAt h va a:=by have:=hp; unfold IAt at this; rw [<- pc_ic] at this; exact this
 have bP:PmAt h vb b:=by have:=hq; unfold IAt at this; rw [<- pc_ic] at this; exact this
 obtain ⟨vS,cS,h3,f3,pS,g3⟩:=sym_spec hNo (h:=h2) hn
 have e4:stV 2 (.ptr h3.next 0) (.agg [.int .i64 (n:Int),vS]) (h3.push (.cells [.int .i64 0, .nils] true)) = some (aundef,(h3.push (.cells [.int .i64 0, .nils] true)).set h3.next (.cells [.int .i64 (n:Int),vS] true)):=stV_two (AHeap.get_push_same h3 _) rfl pS.own.at.scalar
 have g4:Gro h3 ((h3.push (.cells [.int .i64 0, .nils] true)).set h3.next (.cells [.int .i64 (n:Int),vS] true)):=(Gro.push h3 _).set (Nat.le_refl _) _
 have r4:loadV (some 2) (.ptr h3.next 0) ((h3.push (.cells [.int .i64 0, .nils] true)).set h3.next (.cells [.int .i64 (n:Int),vS] true)) = some (.agg [.int .i64 (n:Int),vS]):=loadV_two (AHeap.get_set_same _ _ _)
 simp (disch:=omega) only [RSf.down,f2,not_bool,Bool.not_true,lp,gtrF,lq,fT,neqF,f3,e4]
 generalize (h3.push (.cells [.int .i64 0, .nils] true)).set h3.next (.cells [.int .i64 (n:Int),vS] true) = h4 at e4 g4 r4 ⊢
 have G4:=g2.trans (g3.trans g4)
 have pS4:=pS.gro g4
 obtain ⟨l,hel,hl⟩:=sym_el (n:=n) (by omega)
 have hc:=err_zero hn (Nat.le_trans (symG_len (n:=n)) (by decide)) symG_pv
 have he:HasEl (n:Int) ((symG n).map zs):=fun _ => ⟨l,by rw [Int.toNat_natCast,gS_zs]; exact hel,hl⟩
 have ej:jE (n:Int) ((symG n).map zs) [zs a,zs b] = 0:=by
  rw [jE_two,if_neg fun h => h hc,gen_zs pa hn,if_neg (fun h => h rfl),gen_zs pb hn]
 obtain ⟨v5,w5,h5,f5,g5,_,c5⟩:=gConj_spec hC.srt pS4.lsAt (aP.gro G4).ints (bP.gro G4).ints (n:Int) he
 have c5':=c5 ej l (by rw [Int.toNat_natCast,gS_zs]; exact hel) hl
 rw [zs_ns,zs_ns] at c5'
 have G5:=G4.trans g5
 obtain ⟨v6,h6,f6,p6,g6⟩:=type_spec hC.srt hn (aP.gro G5) pa
 have G6:=G5.trans g6
 obtain ⟨v7,h7,f7,p7,g7⟩:=type_spec hC.srt hn (bP.gro G6) pb
 have G7:=G6.trans g7
 have hsl:∀ {c:Pm},PV n c -> (sd (typL n c)).length <= 1000000:=fun {c} pc' => by
  rw [(sd_perm _).length_eq]
  unfold typL fixL bigL
  rw [List.length_append,List.length_map,List.length_map]
  have h1:=List.length_filter_le (isBig n c) (List.range n)
  have h2:=List.length_filter_le (fun i => i == ap c i) (List.range n)
  rw [List.length_range] at h1 h2; omega
 have f8:=same_pm hNo (p6.gro g7) p7 (hsl pa)
 by_cases hty:sd (typL n a) = sd (typL n b)
 ·rw [decide_eq_true hty] at f8
  obtain ⟨y,py,hy⟩:=(typ_iff pa pb).1 (sd_eq.1 hty)
  have hyl:y ∈ l:=(hel.mem y).2 (gen_all py)
  rcases c5' with ⟨x,u1,u2,rfl⟩ | ⟨u1,_,_⟩
  ·have hxl:=List.mem_of_find?_eq_some u1
   have px:PV n x:=el_pv symG_pv hel hxl
   have hxe:cj a x = b:=of_decide_eq_true (List.find?_some (p:=fun x => decide (cj a x = b)) u1)
   obtain ⟨v9,h9,f9,p9,g9⟩:=conjp_spec hNo hn (aP.gro G7) (u2.gro (g6.trans g7)) pa px
   have f10:=same_pm hNo p9 (bP.gro (G7.trans g9)) (by rw [(PV.cj pa px).len]; omega)
   rw [decide_eq_true hxe] at f10
   simp (disch:=omega) only [RSf.down,r4,f5,f6,f7,neqF,f8,not_bool,Bool.not_true,f9,eqlT,f10]
   exact ⟨(fun i hi => by cases hi),_,rfl,rfl,G7.trans g9⟩
  ·have:=List.find?_eq_none.1 u1 y hyl
   rw [decide_eq_true_iff] at this
   exact absurd hy this
 ·rw [decide_eq_false hty] at f8
  rcases c5' with ⟨x,u1,_,_⟩ | ⟨_,rfl,rfl⟩
  ·have hxl:=List.mem_of_find?_eq_some u1
   have px:PV n x:=el_pv symG_pv hel hxl
   have hxe:cj a x = b:=of_decide_eq_true (List.find?_some (p:=fun x => decide (cj a x = b)) u1)
   exact absurd (sd_eq.2 ((typ_iff pa pb).2 ⟨x,px,hxe⟩)) hty
  ·simp (disch:=omega) only [RSf.down,r4,f5,f6,f7,neqF,f8,not_bool,Bool.not_false,eqlT,ln]
   exact ⟨(fun i hi => by cases hi),_,rfl,rfl,G7⟩
end
end Go.AM
