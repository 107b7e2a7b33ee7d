/- Lemmas of this proof (texts TwA TwB TwC TwD TwF TwJ TwL Cpy TwM Mki Mkj TwK TwG TwH TwI U16). -/
import Derived.Test.YtcbnhebiagdbiaaGreatDoorPkM1
import Derived.Test.YtcbnhebiagdbiaaGreatDoorPkG1
import Derived.Test.YtcbnhebiagdbiaaGreatDoorPkG2
import Derived.Test.YtcbnhebiagdbiaaGreatDoorPkI1
import Derived.Test.YtcbnhebiagdbiaaGreatDoorPkA1
import Derived.Test.YtcbnhebiagdbiaaGreatDoorPkH1
import Derived.Test.YtcbnhebiagdbiaaGreatDoorPkS1
import Derived.Test.YtcbnhebiagdbiaaGreatDoorPkC1
import Derived.Laws.Externs
namespace Go.Proofs.YtcbnhebiagdbiaaGreatDoor
set_option maxHeartbeats 64000000
section
theorem Both.sub {a b:Prt} {wa wb:List Way} {oa ga ob gb:Nat->List dV} {da db:Nat->Nat} (h:Both a b wa wb oa ga ob gb da db) (c:Nat):List.Sublist (gb c) (oa c):=by
 obtain ⟨hA,tA,hB,tB,⟨d1,c1⟩,_⟩:=h
 obtain ⟨E,P,e1,e2,e3,e4⟩:=c1 c
 have hg:List.Sublist (gb c) (E++frm c (hA.take b.rcv)):=e1 ▸ List.sublist_append_left _ _
 have ht:List.Sublist (frm c (hA.take b.rcv)) (frm c hA):=by
  have:=cG c hA b.rcv
  rw [<-this];exact List.sublist_append_left _ _
 by_cases hl:Lkd a b
 ·obtain ⟨P0,q1,q2,_⟩:=e3 hl
  have hk:a.cT=hA.drop a.snd.aG:=(d1.lnk hl.1 hl.2).cT
  rw [e2,q1,hk]
  have e:(P0++frm c (hA.take a.snd.aG))++(frm c (hA.drop a.snd.aG)++a.aX.getD c [])=P0++(frm c hA++a.aX.getD c []):=by
   rw [<-cG c hA a.snd.aG]
   simp only [List.append_assoc]
  rw [e]
  exact hg.trans (q2.append (ht.trans (List.sublist_append_left _ _)))
 ·obtain ⟨q1,_⟩:=e4 hl
  rw [e2]
  exact hg.trans (((List.Sublist.refl E).append ht).trans (q1.trans (List.sublist_append_left _ _)))
abbrev LPred:=(Nat->List dV)->(Nat->List dV)->(Nat->Nat)->(Nat->Nat)->Prop
def Lk.FullQ (L:Lk) (N:Nat) (P:LPred):Prop:=
 ∃wl wr oa ga pa ob gb pb da db,L.Inv N wl wr oa ga ob gb da db/\L.l.Book oa ga pa/\L.r.Book ob gb pb/\P pa pb da db
theorem Lnd.restart_done {x:Lnd} {b:Prt} {N:Nat} {ws:List (Nat × Option Way)} {wx wy:List Way} {o g p ob gb:Nat->List dV} {da db:Nat->Nat} (h:x.Inv N ws) (hN:200<=N) (k:x.Book o g p) (bo:Both x.prt b wx wy o g ob gb da db) (hr:x.restart.1=0) :
  x.restart.2.Inv N ws/\x.restart.2.Book o (fun _=>[]) (fun c=>x.cF.getD c [])/\Both x.restart.2.prt b wx wy o (fun _=>[]) ob gb (fun c=>(o c).length) (fun c=>(ob c).length):=by
 unfold Lnd.restart Prt.restart at hr ⊢
 by_cases hc:((x.inc:Int)+1<=x.prt.inc\/1099511627775 < (x.inc:Int)+1)
 ·rw [if_pos hc,if_neg (by show ¬(2:Nat)=0;omega)] at hr
  exact absurd hr (by show ¬(2:Nat)=0;omega)
 ·rw [if_neg hc,if_pos rfl]
  have hi:=h.inc
  have e:((x.inc:Int)+1).toNat=x.inc+1:=by omega
  refine ⟨⟨?_,h.cab,h.wire,rfl,?_,?_,?_,h.tk,h.se,h.lo,Nat.zero_le _,h.ob,h.tb,h.fb⟩,⟨k.ol,k.tl,k.off,fun c=>by rw [List.append_nil]⟩,bo.restart (by omega) _ _ _ _⟩
  ·refine Prt.Ok.mono ?_ hN
   dsimp only
   exact newPrt_ok h.ok.n1 h.ok.n4 h.ok.rm (by omega) (by omega) h.ok.w1 h.ok.w2 h.ok.t1 h.ok.t2 h.ok.d1 h.ok.d2
  ·show ((x.inc:Int)+1).toNat=x.inc+1;exact e
  ·refine (new_cons _ _ _ _ _).congr fun j _=>?_
   show 0=(List.replicate x.aE.length 0).getD j 0
   rw [List.getD,List.getElem?_replicate]
   split <;> rfl
  ·show (List.replicate x.aE.length 0).length=_;rw [List.length_replicate];exact h.sl
section
variable {L:Lk} {N:Nat} {P Q:LPred}
theorem Lk.FullQ.mono (h:L.FullQ N P) {M:Nat} (hm:N<=M) (k:∀pa pb da db,P pa pb da db->Q pa pb da db):L.FullQ M Q:=by
 obtain ⟨wl,wr,oa,ga,pa,ob,gb,pb,da,db,i,k1,k2,z⟩:=h
 exact ⟨wl,wr,oa,ga,pa,ob,gb,pb,da,db,i.mono hm,k1,k2,k _ _ _ _ z⟩
theorem Lk.FullQ.full (h:L.FullQ N P):L.Full N False:=by
 obtain ⟨wl,wr,oa,ga,pa,ob,gb,pb,da,db,i,k1,k2,z⟩:=h
 exact ⟨wl,wr,oa,ga,pa,ob,gb,pb,da,db,i,k1,k2,False.elim⟩
theorem Lk.FullQ.swap (h:L.FullQ N P):(⟨L.r,L.l⟩:Lk).FullQ N fun a b c d=>P b a d c:=by
 obtain ⟨wl,wr,oa,ga,pa,ob,gb,pb,da,db,i,k1,k2,z⟩:=h
 exact ⟨wr,wl,ob,gb,pb,oa,ga,pa,db,da,i.swap,k2,k1,z⟩
theorem Lk.FullQ.cR (h:L.FullQ N P):L.cR.FullQ (N+13000) P:=by
 obtain ⟨wl,wr,oa,ga,pa,ob,gb,pb,da,db,i,k1,k2,z⟩:=h
 obtain ⟨wl',wr',i'⟩:=i.tick_any
 exact ⟨wl',wr',oa,ga,pa,ob,gb,pb,da,db,i',k1.ticked _,k2.ticked _,z⟩
theorem Lk.FullQ.empty (h:L.FullQ N P):L.empty.FullQ (N+256) P:=by
 obtain ⟨wl,wr,oa,ga,pa,ob,gb,pb,da,db,i,k1,k2,z⟩:=h
 obtain ⟨ga',gb',i',k1',k2'⟩:=i.empty k1 k2
 exact ⟨wl,wr,oa,ga',pa,ob,gb',pb,da,db,i',k1',k2',z⟩
theorem drain_q {X:Lk} (h:X.FullQ N P):∀m,(X.drain m).FullQ (N+13256*m) P
 |0=>h
 |m+1=>((drain_q h m).empty.cR).mono (by rw [Nat.mul_succ,Nat.add_assoc,Nat.add_assoc];exact Nat.le_refl _) fun _ _ _ _ z=>z
theorem Lk.FullQ.actL (h:L.FullQ N P) (e:Evt) (he:e.kind=1\/e.kind=2):(⟨(L.l.act e).2,L.r⟩:Lk).FullQ (N+65) P:=by
 obtain ⟨wl,wr,oa,ga,pa,ob,gb,pb,da,db,i,k1,k2,z⟩:=h
 have ir:L.r.Inv (N+65) wr:=i.r.mono (by omega)
 unfold Lnd.act
 by_cases h1:e.kind=1
 ·rw [if_pos h1]
  obtain ⟨o',a1,a2,a3⟩:=Lnd.offer_inv i.l k1 i.both e.cls e.data
  exact ⟨wl,wr,o',ga,pa,ob,gb,pb,da,db,⟨a1,ir,a3,due_offer i.dl,i.dr,kno_offer i.kn⟩,a2,k2,z⟩
 ·rw [if_neg h1,if_pos (he.resolve_left h1)]
  obtain ⟨g',a1,a2,a3⟩:=Lnd.take_inv i.l k1 i.both e.cls
  exact ⟨wl,wr,oa,g',pa,ob,gb,pb,da,db,⟨a1.mono (by omega),ir,a3,due_take i.dl,i.dr,kno_take i.kn⟩,a2,k2,z⟩
theorem Lk.FullQ.act (h:L.FullQ N P) (e:Evt) (he:e.kind≠5):(L.act e).2.FullQ (N+65) P:=by
 have hm:=h.mono (show N<=N+65 by omega) fun _ _ _ _ z=>z
 unfold Lk.act
 by_cases h3:e.kind=3
 ·rw [if_pos h3]
  obtain ⟨wl,wr,oa,ga,pa,ob,gb,pb,da,db,i,k1,k2,z⟩:=h
  exact ⟨[],[],oa,ga,pa,ob,gb,pb,da,db,⟨cut_inv i.l,cut_inv i.r,i.both.ways (fun _ hp=>by cases hp) .nil (fun _ hp=>by cases hp) .nil,cut_due _,cut_due _,i.kn.ways (fun _ hp=>by cases hp) fun _ hp=>by cases hp⟩,⟨k1.ol,k1.tl,k1.off,k1.tak⟩,⟨k2.ol,k2.tl,k2.off,k2.tak⟩,z⟩
 ·rw [if_neg h3]
  by_cases h4:e.kind=4
  ·rw [if_pos h4]
   obtain ⟨wl,wr,oa,ga,pa,ob,gb,pb,da,db,i,k1,k2,z⟩:=hm
   exact ⟨wl,wr,oa,ga,pa,ob,gb,pb,da,db,⟨mend_inv i.l,mend_inv i.r,i.both,i.dl,i.dr,i.kn⟩,⟨k1.ol,k1.tl,k1.off,k1.tak⟩,⟨k2.ol,k2.tl,k2.off,k2.tak⟩,z⟩
  ·rw [if_neg h4]
   by_cases h5:e.kind≠1/\e.kind≠2/\e.kind≠5
   ·rw [if_pos h5];exact hm
   ·rw [if_neg h5]
    have hk:e.kind=1\/e.kind=2:=by omega
    by_cases s0:e.cS=0
    ·rw [if_pos s0];exact h.actL e hk
    ·rw [if_neg s0]
     by_cases s1:e.cS=1
     ·rw [if_pos s1];exact (h.swap.actL e hk).swap
     ·rw [if_neg s1];exact hm
theorem Lk.FullQ.restartL (h:L.FullQ N P) (hN:200<=N) (hr:L.l.restart.1=0):(⟨L.l.restart.2,L.r⟩:Lk).FullQ N fun pa pb da db=>
  (∀c,pa c=L.l.cF.getD c [])/\(∃pa' da' db',P pa' pb da' db')/\(∀c,da c=(L.l.aV.getD c []).length)/\∀c,db c=(L.r.aV.getD c []).length:=by
 obtain ⟨wl,wr,oa,ga,pa,ob,gb,pb,da,db,i,k1,k2,z⟩:=h
 obtain ⟨a1,a2,a3⟩:=Lnd.restart_done i.l hN k1 i.both hr
 exact ⟨wl,wr,oa,_,_,ob,gb,pb,_,_,⟨a1,i.r,a3,due_restart i.dl,i.dr,kno_restart i.l.inc i.kn i.both⟩,a2,k2,fun _=>rfl,⟨_,_,_,z⟩,fun c=>by rw [k1.off],fun c=>by rw [k2.off]⟩
theorem Lk.FullQ.track (h:L.FullQ N P):∃pa pb da db,P pa pb da db/\(∀c,∃g,L.r.cF.getD c []=pb c++g/\List.Sublist g (L.l.aV.getD c []))/\((∀c,da c=0)->∀c,∃g,L.r.cF.getD c []=pb c++g/\g <+: L.l.aV.getD c []):=by
 obtain ⟨wl,wr,oa,ga,pa,ob,gb,pb,da,db,i,k1,k2,z⟩:=h
 exact ⟨pa,pb,da,db,z,fun c=>⟨gb c,k2.tak c,by rw [k1.off];exact i.both.sub c⟩,fun hd c=>⟨gb c,k2.tak c,by rw [k1.off];exact i.both.front hd c⟩⟩
theorem Lk.FullQ.last (h:L.FullQ N P) (q:L.Quiet) {c:Nat} (hc:c < L.l.prt.aZ.length) (hc2:c < L.r.prt.aZ.length):∃pa pb da db,P pa pb da db/\∀off0 want,L.l.aV.getD c []=off0++want->da c<=off0.length->∃pre,L.r.cF.getD c []=pb c++(pre++want):=by
 have F:=quiet_full h.full q
 obtain ⟨wl,wr,oa,ga,pa,ob,gb,pb,da,db,i,k1,k2,z⟩:=h
 obtain ⟨E,P0,f,g1,g2,g3,g4,_⟩:=i.both.full F hc hc2
 refine ⟨pa,pb,da,db,z,fun off0 want ho hn=>?_⟩
 rw [k1.off,g2] at ho
 have hle:P0.length<=off0.length:=by omega
 obtain ⟨r,hr⟩:=List.prefix_of_prefix_length_le (List.prefix_append P0 f) (by rw [ho];exact List.prefix_append off0 want) hle
 have hf:f=r++want:=by
  rw [<-hr,List.append_assoc] at ho
  exact List.append_cancel_left ho
 exact ⟨E++r,by rw [k2.tak,g1,hf];simp only [List.append_assoc]⟩
end
end

section
theorem getD_app_l {α : Type} (l m:List α) (d : α) {i:Nat} (h:i < l.length):(l++m).getD i d=l.getD i d:=by rw [List.getD_eq_getElem?_getD,List.getD_eq_getElem?_getD,List.getElem?_append_left h]
theorem getD_app_r {α : Type} (l m:List α) (d : α) {i:Nat} (h:l.length<=i):(l++m).getD i d=m.getD (i - l.length) d:=by rw [List.getD_eq_getElem?_getD,List.getD_eq_getElem?_getD,List.getElem?_append_right h]
def lab (s c n:Nat):dV:=[BitVec.ofNat 8 s,BitVec.ofNat 8 c,BitVec.ofNat 8 (n / 256),BitVec.ofNat 8 n]
def numOf (b:dV):Nat:=(b.getD 2 0).toNat*256+(b.getD 3 0).toNat
theorem numOf_lab (s c:Nat) {n:Nat} (h:n < 65536):numOf (lab s c n)=n:=by
 unfold numOf lab
 show (BitVec.ofNat 8 (n / 256)).toNat*256+(BitVec.ofNat 8 n).toNat=n
 rw [BitVec.toNat_ofNat,BitVec.toNat_ofNat]
 omega
def labs (s c n:Nat):List dV:=(List.range n).map (lab s c)
theorem labs_succ (s c n:Nat):labs s c (n+1)=labs s c n++[lab s c n]:=by unfold labs;rw [List.range_succ,List.map_append];rfl
theorem labs_length (s c n:Nat):(labs s c n).length=n:=by unfold labs;rw [List.length_map,List.length_range]
def lastAt (t:List dV) (k m:Nat):Int:=if m<=k then -1 else (numOf (t.getD (m - 1) []):Nat)
theorem lastAt_append (t u:List dV) (k:Nat) {m:Nat} (hm:m<=t.length):lastAt (t++u) k m=lastAt t k m:=by
 unfold lastAt
 split
 ·rfl
 ·rw [getD_app_l _ _ _ (by omega)]
structure Trk (t:List dV) (k s c n:Nat) (front:Prop):Prop where
 le:k<=t.length
 at':∀m,k<=m->m < t.length->∃v:Nat,t[m]? = some (lab s c v)/\v < n/\lastAt t k m < (v:Int)/\(front->(v:Int)=lastAt t k m+1)/\lastAt t k (m+1)=(v:Int)
theorem getD_right {p g:List dV} (j:Nat):(p++g).getD (p.length+j) []=g.getD j []:=by
 rw [getD_app_r _ _ _ (Nat.le_add_right _ _),Nat.add_sub_cancel_left]
theorem trk_of {p g:List dV} {s c n:Nat} {front:Prop} {l:List Nat} (hn:n<=60000) (hg:g=l.map (lab s c)) (hl:l.Pairwise (· < ·)) (hlt:∀v ∈ l,v < n) (hf:front->l=List.range l.length):Trk (p++g) p.length s c n front:=by
 refine ⟨by rw [List.length_append];omega,fun m h1 h2=>?_⟩
 obtain ⟨j,rfl⟩:=Nat.exists_eq_add_of_le h1
 rw [List.length_append] at h2
 have hjl:j < l.length:=by rw [hg,List.length_map] at h2;omega
 have hge:∀i,(hi:i < l.length)->g.getD i []=lab s c l[i]:=fun i hi=>by
  rw [hg,List.getD_eq_getElem?_getD,List.getElem?_map,List.getElem?_eq_getElem hi];rfl
 have hv:=hlt l[j] (List.getElem_mem hjl)
 have hlast:lastAt (p++g) p.length (p.length+j+1)=(l[j]:Nat):=by
  unfold lastAt
  rw [if_neg (by omega),Nat.add_sub_cancel,getD_right,hge j hjl,numOf_lab _ _ (by omega)]
 have hprev:∀i,(hi:i < l.length)->i+1=j->lastAt (p++g) p.length (p.length+j)=(l[i]:Nat):=fun i hi e=>by
  unfold lastAt
  rw [if_neg (by omega),show p.length+j - 1=p.length+i by omega,getD_right,hge i hi,numOf_lab _ _ (by have:=hlt l[i] (List.getElem_mem hi);omega)]
 refine ⟨l[j],?_,hv,?_,fun fr=>?_,hlast⟩
 ·rw [List.getElem?_append_right (by omega),Nat.add_sub_cancel_left,hg,List.getElem?_map,List.getElem?_eq_getElem hjl];rfl
 ·match j,hjl,hprev with
  |0,_,_=>
   unfold lastAt
   rw [if_pos (by omega)]
   omega
  |i+1,hjl,hprev=>
   rw [hprev i (by omega) rfl]
   have:=List.pairwise_iff_getElem.1 hl i (i+1) (by omega) hjl (by omega)
   omega
 ·have hr:=hf fr
  have hget:∀i,(hi:i < l.length)->l[i]=i:=fun i hi=>by
   have h1:l[i]? = (List.range l.length)[i]?:=by rw [<-hr]
   rw [List.getElem?_eq_getElem hi,List.getElem?_range hi] at h1
   exact Option.some.inj h1
  match j,hjl,hprev with
  |0,hjl,_=>
   unfold lastAt
   rw [if_pos (by omega),hget 0 hjl]
   rfl
  |i+1,hjl,hprev=>
   rw [hprev i (by omega) rfl,hget _ hjl,hget i (by omega)]
   omega
structure Wit where
 k:Nat->Nat->Nat
 n:Nat->Nat->Nat
 sn:Nat->Nat->Nat
 rst:Bool
def Lk.tk (L:Lk) (i c:Nat):List dV:=(L.nd i).cF.getD c []
def Lk.of (L:Lk) (i c:Nat):List dV:=(L.nd i).aV.getD c []
theorem cls_tak (L:Lk) {n:Nat} (hn:n < 2) (c:Nat):clsOf (L.tak (n:Int)) (c:Int)=L.tk n c:=by
 unfold clsOf Lk.tk
 rw [if_pos (by omega),Int.toNat_natCast]
 obtain rfl|rfl:n=0\/n=1:=by omega
 ·rfl
 ·rfl
structure Wit.Ok (w:Wit) (L:Lk) (N:Nat):Prop where
 full:L.FullQ N fun pa pb da db=>∀c,(pa c).length=w.k 0 c/\(pb c).length=w.k 1 c/\da c<=w.sn 0 c/\db c<=w.sn 1 c
 off:∀i c,i < 2->L.of i c=labs i c (w.n i c)
 zero:w.rst=false->∀i c,i < 2->w.k i c=0/\w.sn i c=0
section
variable {w:Wit} {L:Lk} {N:Nat}
theorem sub_labs {g:List dV} {s c n:Nat} (h:List.Sublist g (labs s c n)):∃l:List Nat,g=l.map (lab s c)/\l.Pairwise (· < ·)/\∀v ∈ l,v < n:=by
 obtain ⟨l,h1,h2⟩:=List.sublist_map_iff.1 h
 exact ⟨l,h2,List.pairwise_lt_range.sublist h1,fun v hv=>List.mem_range.1 (h1.subset hv)⟩
theorem prefix_labs {g:List dV} {s c n:Nat} (h:g <+: labs s c n):g=(List.range g.length).map (lab s c)/\g.length<=n:=by
 have hl:=h.length_le
 rw [labs_length] at hl
 refine ⟨?_,hl⟩
 have h1:=List.prefix_iff_eq_take.1 h
 have h2:(labs s c n).take g.length=(List.range g.length).map (lab s c):=by
  unfold labs
  rw [<-List.map_take,List.take_range,Nat.min_eq_left hl]
 rw [<-h2];exact h1
theorem track1 {P:LPred} (h:L.FullQ N P) {n k sn:Nat->Nat} {front:Prop} (hk:∀pa pb da db,P pa pb da db->∀c,(pb c).length=k c/\da c<=sn c) (hn:∀c,n c<=60000) (hz:front->∀c,sn c=0) (s:Nat) (hs:∀c,L.l.aV.getD c []=labs s c (n c)) (c:Nat) :
  Trk (L.r.cF.getD c []) (k c) s c (n c) front:=by
 obtain ⟨pa,pb,da,db,z,h1,h2⟩:=h.track
 have hkz:=hk _ _ _ _ z
 by_cases fr:front
 ·obtain ⟨g,e,hg⟩:=h2 (fun c=>by have:=(hkz c).2;rw [hz fr c] at this;omega) c
  rw [hs c] at hg
  obtain ⟨g1,g2⟩:=prefix_labs hg
  rw [e,<-(hkz c).1]
  exact trk_of (hn c) g1 List.pairwise_lt_range (fun v hv=>by have:=List.mem_range.1 hv;omega) fun _=>by rw [List.length_range]
 ·obtain ⟨g,e,hg⟩:=h1 c
  rw [hs c] at hg
  obtain ⟨l,g1,g2,g3⟩:=sub_labs hg
  rw [e,<-(hkz c).1]
  exact trk_of (hn c) g1 g2 g3 fun x=>absurd x fr
end
end

section
section
variable {w:Wit} {L:Lk} {N:Nat}
theorem Wit.Ok.trk (h:w.Ok L N) (hn:∀i c,w.n i c<=60000) {i:Nat} (hi:i < 2) (c:Nat):Trk (L.tk i c) (w.k i c) (1 - i) c (w.n (1 - i) c) (w.rst=false):=by
 obtain rfl|rfl:i=0\/i=1:=by omega
 ·exact track1 (n:=w.n 1) (k:=w.k 0) (sn:=w.sn 1) h.full.swap (fun pa pb da db z c=>⟨(z c).1,(z c).2.2.2⟩) (fun c=>hn 1 c) (fun fr c=>(h.zero fr 1 c (by decide)).2) 1 (fun c=>h.off 1 c (by decide)) c
 ·exact track1 (n:=w.n 0) (k:=w.k 1) (sn:=w.sn 0) h.full (fun pa pb da db z c=>⟨(z c).2.1,(z c).2.2.1⟩) (fun c=>hn 0 c) (fun fr c=>(h.zero fr 0 c (by decide)).2) 0 (fun c=>h.off 0 c (by decide)) c
theorem Wit.Ok.mono (h:w.Ok L N) {M:Nat} (hm:N<=M):w.Ok L M:=⟨h.full.mono hm fun _ _ _ _ z=>z,h.off,h.zero⟩
theorem nd_tick (L:Lk) (i:Nat):(L.cR.nd i).cF=(L.nd i).cF/\(L.cR.nd i).aV=(L.nd i).aV:=by
 refine ⟨?_,nd_off_tick L i⟩
 unfold Lk.nd
 split
 ·exact (Lnd.send_same _ _).cF
 ·exact (Lnd.send_same _ _).cF
theorem tk_tick (L:Lk) (i c:Nat):L.cR.tk i c=L.tk i c:=by unfold Lk.tk;rw [(nd_tick L i).1]
theorem of_tick (L:Lk) (i c:Nat):L.cR.of i c=L.of i c:=by unfold Lk.of;rw [(nd_tick L i).2]
theorem Wit.Ok.cR (h:w.Ok L N):w.Ok L.cR (N+13000):=⟨h.full.cR,fun i c hi=>by rw [of_tick];exact h.off i c hi,h.zero⟩
theorem act_nd (L:Lk) {s:Nat} (hs:s < 2) (e:Evt) (hk:e.kind=1\/e.kind=2\/e.kind=5) (he:e.cS=(s:Int)):(L.act e).1=((L.nd s).act e).1/\(L.act e).2.nd s=((L.nd s).act e).2/\∀i,i < 2->i≠s->(L.act e).2.nd i=L.nd i:=by
 unfold Lk.act
 rw [if_neg (by omega),if_neg (by omega),if_neg (by omega)]
 obtain rfl|rfl:s=0\/s=1:=by omega
 ·rw [if_pos (by simpa using he)]
  refine ⟨rfl,rfl,fun i hi hne=>?_⟩
  obtain rfl:i=1:=by omega
  rfl
 ·rw [if_neg (by omega),if_pos (by simpa using he)]
  refine ⟨rfl,rfl,fun i hi hne=>?_⟩
  obtain rfl:i=0:=by omega
  rfl
theorem offer_tk (x:Lnd) (c:Int) (d:dV):(x.dQ c d).2.cF=x.cF:=by unfold Lnd.dQ;split <;> rfl
theorem restart_tk (x:Lnd):x.restart.2.cF=x.cF/\x.restart.2.aV=x.aV:=by unfold Lnd.restart;split <;> exact ⟨rfl,rfl⟩
theorem take_of (x:Lnd) (c:Int):(x.take c).2.aV=x.aV:=by unfold Lnd.take;split <;> rfl
theorem take_tk (x:Lnd) (c:Int) (j:Nat):∃u,(x.take c).2.cF.getD j []=x.cF.getD j []++u:=by
 unfold Lnd.take
 split
 ·exact ⟨[],(List.append_nil _).symm⟩
 ·rename_i d p _
  show ∃u,(x.cF.set c.toNat (x.cF.getD c.toNat []++[d])).getD j []=_
  rw [getD_set']
  split
  ·rename_i h;rw [h.1];exact ⟨[d],rfl⟩
  ·exact ⟨[],(List.append_nil _).symm⟩
theorem lnd_tk (x:Lnd) (e:Evt) (j:Nat):∃u,(x.act e).2.cF.getD j []=x.cF.getD j []++u:=by
 unfold Lnd.act
 split
 ·exact ⟨[],by rw [offer_tk,List.append_nil]⟩
 ·split
  ·exact take_tk x _ j
  ·exact ⟨[],by rw [(restart_tk x).1,List.append_nil]⟩
theorem act_tk (L:Lk) (e:Evt) (i c:Nat):∃u,(L.act e).2.tk i c=L.tk i c++u:=by
 have h0:∃u,L.tk i c=L.tk i c++u:=⟨[],(List.append_nil _).symm⟩
 unfold Lk.act
 split
 ·unfold Lk.tk Lk.nd;split <;> exact ⟨[],(List.append_nil _).symm⟩
 ·split
  ·unfold Lk.tk Lk.nd;split <;> exact ⟨[],(List.append_nil _).symm⟩
  ·split
   ·exact h0
   ·split
    ·unfold Lk.tk Lk.nd
     split
     ·exact lnd_tk L.l e c
     ·exact ⟨[],(List.append_nil _).symm⟩
    ·split
     ·unfold Lk.tk Lk.nd
      split
      ·exact ⟨[],(List.append_nil _).symm⟩
      ·exact lnd_tk L.r e c
     ·exact h0
theorem takes_tk (x:Lnd):∀(cs:List Nat) (j:Nat),∃u,(x.takes cs).cF.getD j []=x.cF.getD j []++u:=by
 intro cs
 induction cs generalizing x with
 |nil=>intro j;exact ⟨[],(List.append_nil _).symm⟩
 |cons c cs ih=>
  intro j
  obtain ⟨u,hu⟩:=take_tk x c j
  obtain ⟨v,hv⟩:=ih (x.take c).2 j
  exact ⟨u++v,by rw [<-List.append_assoc,<-hu];exact hv⟩
theorem drain_tk (X:Lk) (m i c:Nat):∃u,(X.drain (m+1)).tk i c=(X.drain m).tk i c++u:=by
 show ∃u,(X.drain m).empty.cR.tk i c=_
 rw [tk_tick]
 generalize X.drain m=Y
 unfold Lk.tk Lk.nd
 split
 ·exact takes_tk Y.l _ c
 ·exact takes_tk Y.r _ c
theorem Wit.Ok.other (h:w.Ok L N) (e:Evt) (h1:e.kind≠1) (h5:e.kind≠5):w.Ok (L.act e).2 (N+65):=by
 refine ⟨h.full.act e h5,fun i c hi=>?_,h.zero⟩
 rw [<-h.off i c hi]
 unfold Lk.of
 by_cases hk:e.kind=2/\(e.cS=0\/e.cS=1)
 ·obtain ⟨s,hs,hes⟩:∃s:Nat,s < 2/\e.cS=(s:Int):=by
   rcases hk.2 with h|h
   ·exact ⟨0,by decide,h⟩
   ·exact ⟨1,by decide,h⟩
  obtain ⟨_,q2,q3⟩:=act_nd L hs e (.inr (.inl hk.1)) hes
  by_cases his:i=s
  ·subst his
   rw [q2]
   unfold Lnd.act
   rw [if_neg h1,if_pos hk.1,take_of]
  ·rw [q3 i hi his]
 ·unfold Lk.act
  split
  ·unfold Lk.nd;split <;> rfl
  ·split
   ·unfold Lk.nd;split <;> rfl
   ·split
    ·rfl
    ·rename_i hh
     have hk2:e.kind=2:=by omega
     rw [if_neg fun x=>hk ⟨hk2,.inl x⟩,if_neg fun x=>hk ⟨hk2,.inr x⟩]
def Wit.dQ (w:Wit) (s c:Nat):Wit:={ w with n:=fun i j=>if i=s/\j=c then w.n s c+1 else w.n i j }
theorem Wit.Ok.dQ (h:w.Ok L N) {s c:Nat} (hs:s < 2) (hc:c < (L.nd s).aV.length) (d:dV) (hd:d=lab s c (w.n s c)) :
  ((L.act ⟨1,(s:Int),(c:Int),d⟩).1=0->(w.dQ s c).Ok (L.act ⟨1,(s:Int),(c:Int),d⟩).2 (N+65))/\((L.act ⟨1,(s:Int),(c:Int),d⟩).1≠0->w.Ok (L.act ⟨1,(s:Int),(c:Int),d⟩).2 (N+65)):=by
 obtain ⟨q1,q2,q3⟩:=act_nd L hs ⟨1,(s:Int),(c:Int),d⟩ (.inl rfl) rfl
 have hf:=h.full.act ⟨1,(s:Int),(c:Int),d⟩ (by show (1:Int)≠5;decide)
 have e0:(L.nd s).act ⟨1,(s:Int),(c:Int),d⟩=(L.nd s).dQ (c:Int) d:=by unfold Lnd.act;rw [if_pos rfl]
 rw [e0] at q1 q2
 rw [q1]
 generalize (L.act ⟨1,(s:Int),(c:Int),d⟩).2=K at *
 unfold Lnd.dQ at q2 ⊢
 by_cases h0:((L.nd s).prt.dQ (c:Int) d).1=0
 ·rw [if_pos h0] at q2 ⊢
  refine ⟨fun _=>⟨hf,fun i j hi=>?_,h.zero⟩,fun x=>absurd rfl x⟩
  by_cases his:i=s
  ·subst his
   show (K.nd i).aV.getD j []=labs i j (if i=i/\j=c then _ else _)
   rw [q2]
   show ((L.nd i).aV.set (c:Int).toNat _).getD j []=_
   rw [Int.toNat_natCast,getD_set']
   by_cases hj:c=j
   ·subst hj
    rw [if_pos ⟨rfl,hc⟩,if_pos ⟨rfl,rfl⟩,labs_succ,hd]
    have:=h.off i c hi
    unfold Lk.of at this
    rw [this]
   ·rw [if_neg fun x=>hj x.1,if_neg fun x=>hj x.2.symm]
    exact h.off i j hi
  ·show (K.nd i).aV.getD j []=labs i j (if i=s/\j=c then _ else _)
   rw [q3 i hi his,if_neg fun x=>his x.1]
   exact h.off i j hi
 ·rw [if_neg h0] at q2 ⊢
  refine ⟨fun x=>absurd x h0,fun _=>⟨hf,fun i j hi=>?_,h.zero⟩⟩
  show (K.nd i).aV.getD j []=_
  by_cases his:i=s
  ·subst his;rw [q2];exact h.off i j hi
  ·rw [q3 i hi his];exact h.off i j hi
def Wit.restart (w:Wit) (L:Lk) (s:Nat):Wit:={ w with k:=fun i j=>if i=s then (L.tk s j).length else w.k i j,sn:=w.n,rst:=true }
theorem Wit.Ok.restart (h:w.Ok L N) (hN:200<=N) {s:Nat} (hs:s < 2) (e:Evt) (he:e.kind=5) (hes:e.cS=(s:Int)) :
  ((L.act e).1=0->(w.restart L s).Ok (L.act e).2 (N+65))/\((L.act e).1≠0->w.Ok (L.act e).2 (N+65)):=by
 obtain ⟨q1,q2,q3⟩:=act_nd L hs e (.inr (.inr he)) hes
 have e0:(L.nd s).act e=(L.nd s).restart:=by unfold Lnd.act;rw [if_neg (by omega),if_neg (by omega)]
 rw [e0] at q1 q2
 rw [q1]
 have hof:∀i j,i < 2->((L.act e).2.nd i).aV.getD j []=labs i j (w.n i j):=fun i j hi=>by
  by_cases his:i=s
  ·subst his;rw [q2,(restart_tk _).2];exact h.off i j hi
  ·rw [q3 i hi his];exact h.off i j hi
 have hlen:∀i j,i < 2->((L.nd i).aV.getD j []).length=w.n i j:=fun i j hi=>by
  have:=h.off i j hi
  unfold Lk.of at this
  rw [this,labs_length]
 refine ⟨fun h0=>⟨?_,hof,fun x=>Bool.noConfusion x⟩,fun h0=>⟨?_,hof,h.zero⟩⟩
 ·obtain rfl|rfl:s=0\/s=1:=by omega
  ·have hq:=(h.full.restartL hN h0).mono (show N<=N+65 by omega) (Q:=fun pa pb da db=>∀c,(pa c).length=(w.restart L 0).k 0 c/\(pb c).length=(w.restart L 0).k 1 c/\da c<=(w.restart L 0).sn 0 c/\db c<=(w.restart L 0).sn 1 c) fun pa pb da db z c=>by
    obtain ⟨z1,⟨pa',da',db',z2⟩,z3,z4⟩:=z
    refine ⟨by rw [z1];rfl,(z2 c).2.1,by rw [z3];exact Nat.le_of_eq (hlen 0 c (by decide)),by rw [z4];exact Nat.le_of_eq (hlen 1 c (by decide))⟩
   have ek:(L.act e).2=⟨L.l.restart.2,L.r⟩:=by
    have a1:(L.act e).2.l=L.l.restart.2:=q2
    have a2:(L.act e).2.r=L.r:=q3 1 (by decide) (by decide)
    rw [<-a1,<-a2]
   rw [ek];exact hq
  ·have hq:=((h.full.swap.restartL hN h0).mono (show N<=N+65 by omega) fun _ _ _ _ z=>z).swap.mono (Nat.le_refl _) (Q:=fun pa pb da db=>∀c,(pa c).length=(w.restart L 1).k 0 c/\(pb c).length=(w.restart L 1).k 1 c/\da c<=(w.restart L 1).sn 0 c/\db c<=(w.restart L 1).sn 1 c) fun pa pb da db z c=>by
    obtain ⟨z1,⟨pa',da',db',z2⟩,z3,z4⟩:=z
    refine ⟨(z2 c).1,by rw [z1];rfl,by rw [z4];exact Nat.le_of_eq (hlen 0 c (by decide)),by rw [z3];exact Nat.le_of_eq (hlen 1 c (by decide))⟩
   have ek:(L.act e).2=⟨L.l,L.r.restart.2⟩:=by
    have a1:(L.act e).2.r=L.r.restart.2:=q2
    have a2:(L.act e).2.l=L.l:=q3 0 (by decide) (by decide)
    rw [<-a1,<-a2]
   rw [ek];exact hq
 ·have hsame:(L.nd s).restart.2=L.nd s:=by
   unfold Lnd.restart at h0 ⊢
   split
   ·rename_i hx;rw [if_pos hx] at h0;exact absurd rfl h0
   ·rfl
  have ek:(L.act e).2=L:=by
   obtain rfl|rfl:s=0\/s=1:=by omega
   ·have a1:(L.act e).2.l=L.l:=q2.trans hsame
    have a2:(L.act e).2.r=L.r:=q3 1 (by decide) (by decide)
    cases L;cases hk:(Lk.act _ e).2;rw [hk] at a1 a2;simp only at a1 a2;rw [a1,a2]
   ·have a1:(L.act e).2.r=L.r:=q2.trans hsame
    have a2:(L.act e).2.l=L.l:=q3 0 (by decide) (by decide)
    cases L;cases hk:(Lk.act _ e).2;rw [hk] at a1 a2;simp only at a1 a2;rw [a1,a2]
  rw [ek]
  exact h.full.mono (by omega) fun _ _ _ _ z=>z
theorem Wit.Ok.drain (h:w.Ok L N) (m:Nat):w.Ok (L.drain m) (N+13256*m):=
 ⟨drain_q h.full m,fun i c hi=>by unfold Lk.of;rw [nd_off_drain];exact h.off i c hi,h.zero⟩
end
end

section
def Wit.Pre (w:Wit) (L:Lk) (R:Nat) (S A:Nat->Nat->Int):Prop:=∀i c,i < 2->c < R->∃m:Nat,S i c=(m:Int)/\w.k i c<=m/\m<=(L.tk i c).length/\A i c=lastAt (L.tk i c) (w.k i c) m
def Wit.Post (w:Wit) (L:Lk) (R:Nat) (S A:Nat->Nat->Int):Prop:=∀i c,i < 2->c < R->S i c=((L.tk i c).length:Int)/\A i c=lastAt (L.tk i c) (w.k i c) (L.tk i c).length
section
variable {w v:Wit} {L K:Lk} {N R:Nat} {S A:Nat->Nat->Int}
theorem Wit.Post.next (h:w.Post L R S A) (hk:∀i c,v.k i c=w.k i c) (ho:∀i c,i < 2->w.k i c<=(L.tk i c).length) (hu:∀i c,∃u,K.tk i c=L.tk i c++u):v.Pre K R S A:=fun i c hi hc=>by
 obtain ⟨h1,h2⟩:=h i c hi hc
 obtain ⟨u,e⟩:=hu i c
 exact ⟨_,h1,by rw [hk];exact ho i c hi,by rw [e,List.length_append];omega,by rw [h2,hk,e,lastAt_append _ _ _ (Nat.le_refl _)]⟩
theorem Wit.Post.restart (h:w.Post L R S A) (s:Nat) (ho:∀i c,i < 2->w.k i c<=(L.tk i c).length) (hu:∀i c,K.tk i c=L.tk i c):(w.restart L s).Pre K R S (fun i c=>if i=s then -1 else A i c):=fun i c hi hc=>by
 obtain ⟨h1,h2⟩:=h i c hi hc
 refine ⟨_,h1,?_,by rw [hu];exact Nat.le_refl _,?_⟩
 ·show (if i=s then (L.tk s c).length else w.k i c)<=_
  by_cases e:i=s
  ·subst e;rw [if_pos rfl];exact Nat.le_refl _
  ·rw [if_neg e];exact ho i c hi
 ·show (if i=s then (-1:Int) else A i c)=lastAt _ (if i=s then (L.tk s c).length else w.k i c) _
  by_cases e:i=s
  ·subst e
   rw [if_pos rfl,if_pos rfl]
   unfold lastAt
   rw [if_pos (Nat.le_refl _)]
  ·rw [if_neg e,if_neg e,h2,hu]
theorem Wit.Ok.kle (h:w.Ok L N) (hn:∀i c,w.n i c<=60000):∀i c,i < 2->w.k i c<=(L.tk i c).length:=fun _ c hi=>(h.trk hn hi c).le
theorem restart_tks (L:Lk) {s:Nat} (hs:s < 2) (e:Evt) (he:e.kind=5) (hes:e.cS=(s:Int)) (i c:Nat):(L.act e).2.cR.tk i c=L.tk i c:=by
 obtain ⟨_,q2,q3⟩:=act_nd L hs e (.inr (.inr he)) hes
 rw [tk_tick]
 unfold Lk.tk
 have e0:(L.nd s).act e=(L.nd s).restart:=by unfold Lnd.act;rw [if_neg (by omega),if_neg (by omega)]
 rw [e0] at q2
 by_cases his:i=s
 ·subst his;rw [q2,(restart_tk _).1]
 ·by_cases hi:i < 2
  ·rw [q3 i hi his]
  ·by_cases s1:s=1
   ·have:(L.act e).2.nd i=(L.act e).2.nd 1:=by unfold Lk.nd;rw [if_neg (by omega),if_neg (by decide)]
    have h2:L.nd i=L.nd 1:=by unfold Lk.nd;rw [if_neg (by omega),if_neg (by decide)]
    subst s1
    rw [this,h2,q2,(restart_tk _).1]
   ·have:(L.act e).2.nd i=(L.act e).2.nd 1:=by unfold Lk.nd;rw [if_neg (by omega),if_neg (by decide)]
    have h2:L.nd i=L.nd 1:=by unfold Lk.nd;rw [if_neg (by omega),if_neg (by decide)]
    rw [this,h2,q3 1 (by decide) fun x=>s1 x.symm]
theorem step_tk (L:Lk) (es:List Evt) (he:es.length<=1) (i c:Nat):∃u,(L.step es).tk i c=L.tk i c++u:=by
 show ∃u,(L.acts es).2.cR.tk i c=_
 rw [tk_tick]
 match es,he with
 |[],_=>exact ⟨[],(List.append_nil _).symm⟩
 |[e],_=>exact act_tk L e i c
 |_::_::_,he=>simp at he
theorem last_one {t p pre:List dV} {x:dV} {k:Nat} (ht:t=p++(pre++[x])) (hp:p.length=k):lastAt t k t.length=(numOf x:Nat):=by
 have hl:t.length=p.length+(pre.length+1):=by rw [ht,List.length_append,List.length_append];rfl
 unfold lastAt
 rw [if_neg (by omega),show t.length - 1=p.length+pre.length by omega,ht,getD_right]
 have:(pre++[x]).getD pre.length []=x:=by
  rw [getD_app_r _ _ _ (Nat.le_refl _),Nat.sub_self];rfl
 rw [this]
theorem Wit.Ok.done (h:w.Ok L N) (q:L.Quiet) (hn:∀i c,w.n i c<=60000) (hl:L.l.prt.aZ.length=R) (hr:L.r.prt.aZ.length=R) {i c:Nat} (hi:i < 2) (hc:c < R) (hs:w.sn (1 - i) c < w.n (1 - i) c) :
  lastAt (L.tk i c) (w.k i c) (L.tk i c).length=(w.n (1 - i) c:Int) - 1:=by
 obtain rfl|rfl:i=0\/i=1:=by omega
 ·obtain ⟨pa,pb,da,db,z,hlast⟩:=h.full.swap.last ⟨q.2,q.1⟩ (c:=c) (by show c < L.r.prt.aZ.length;omega) (by show c < L.l.prt.aZ.length;omega)
  obtain ⟨z1,z2,z3,z4⟩:=z c
  have hs1:w.sn 1 c < w.n 1 c:=hs
  obtain ⟨m,hm⟩:∃m,w.n 1 c=m+1:=⟨w.n 1 c - 1,by omega⟩
  have ho:=h.off 1 c (by decide)
  rw [hm,labs_succ] at ho
  obtain ⟨pre,e⟩:=hlast _ _ ho (by rw [labs_length];omega)
  have hnm:=hn 1 c
  rw [last_one (show L.tk 0 c=pb c++(pre++[lab 1 c m]) from e) z1,numOf_lab _ _ (by omega)]
  show (m:Int)=(w.n 1 c:Int) - 1
  omega
 ·obtain ⟨pa,pb,da,db,z,hlast⟩:=h.full.last q (c:=c) (by omega) (by omega)
  obtain ⟨z1,z2,z3,z4⟩:=z c
  have hs1:w.sn 0 c < w.n 0 c:=hs
  obtain ⟨m,hm⟩:∃m,w.n 0 c=m+1:=⟨w.n 0 c - 1,by omega⟩
  have ho:=h.off 0 c (by decide)
  rw [hm,labs_succ] at ho
  obtain ⟨pre,e⟩:=hlast _ _ ho (by rw [labs_length];omega)
  have hnm:=hn 0 c
  rw [last_one (show L.tk 1 c=pb c++(pre++[lab 0 c m]) from e) z2,numOf_lab _ _ (by omega)]
  show (m:Int)=(w.n 0 c:Int) - 1
  omega
def wit0:Wit:=⟨fun _ _=>0,fun _ _=>0,fun _ _=>0,false⟩
theorem wit0_ok (h:L.Full N True) (ho:∀i c,L.of i c=[]):wit0.Ok L N:=by
 refine ⟨?_,fun i c _=>by rw [ho];rfl,fun _ _ _ _=>⟨rfl,rfl⟩⟩
 obtain ⟨wl,wr,oa,ga,pa,ob,gb,pb,da,db,i,k1,k2,z⟩:=h
 obtain ⟨z1,z2,z3,z4⟩:=z trivial
 exact ⟨wl,wr,oa,ga,pa,ob,gb,pb,da,db,i,k1,k2,fun c=>⟨by rw [z1];rfl,by rw [z2];rfl,Nat.le_of_eq (z3 c),Nat.le_of_eq (z4 c)⟩⟩
theorem newLk_of (a b:Cfg) (d:Nat) (there back:List Flt) (i c:Nat):(newLk a b d there back).of i c=[]/\(newLk a b d there back).tk i c=[]:=by
 unfold Lk.of Lk.tk Lk.nd
 split
 ·exact ⟨getD_nils _ _,getD_nils _ _⟩
 ·exact ⟨getD_nils _ _,getD_nils _ _⟩
end
end

set_option maxRecDepth 100000
section
open Go.RowKit
theorem pure_int:Pure (eInt .i64) (fun n=>[.int .i64 n]):=fun _ _ _ _ _=>Iff.rfl
theorem int_cell {T:TypeId} {w:World} {F Z:BS} {b off n cap:Nat} {xs:List Int} (h:Sq (eInt .i64) T w F Z (.slice (some ⟨b,off,none⟩) n cap) xs) {i:Nat} {x:Int} (hi:xs[i]? = some x):w.cell? ⟨b,off+i,none⟩=some (.int .i64 x):=by
 have:=pure_cell pure_int h hi (j:=0) rfl
 simpa [eInt] using this
def rowT (R:Nat) (f:Nat->Int):List Int:=(List.range R).map f
theorem rowT_length (R:Nat) (f:Nat->Int):(rowT R f).length=R:=by unfold rowT;rw [List.length_map,List.length_range]
theorem rowT_get {R c:Nat} (f:Nat->Int) (hc:c < R):(rowT R f)[c]? = some (f c):=by unfold rowT;rw [List.getElem?_map,List.getElem?_range hc];rfl
theorem rowT_set (R c:Nat) (f:Nat->Int) (y:Int):(rowT R f).set c y=rowT R (fun k=>if k=c then y else f k):=by
 apply List.ext_getElem?
 intro k
 rw [List.getElem?_set,rowT_length]
 by_cases hk:k < R
 ·rw [rowT_get _ hk,rowT_get _ hk]
  by_cases e:c=k
  ·subst e;rw [if_pos rfl,if_pos hk,if_pos rfl]
  ·rw [if_neg e,if_neg fun x=>e x.symm]
 ·rw [List.getElem?_eq_none (l:=rowT R f) (by rw [rowT_length];omega),List.getElem?_eq_none (l:=rowT R fun k=>if k=c then y else f k) (by rw [rowT_length];omega)]
  split
  ·rw [if_neg (by omega)]
  ·rfl
def upd2 (A:Nat->Nat->Int) (i c:Nat) (y:Int):Nat->Nat->Int:=fun i' c'=>if i'=i/\c'=c then y else A i' c'
abbrev tabThs (b R:Nat) (A:Nat->Nat->Int) (v:Value × Value):List Th:=[dJ b (.cells #[v.1,v.2] 35),tSq (eInt .i64) 3 v.1 (rowT R (A 0)),tSq (eInt .i64) 3 v.2 (rowT R (A 1))]
def tTab (b R:Nat) (A:Nat->Nat->Int):Th:=tEx (tabThs b R A)
theorem upd2_row (A:Nat->Nat->Int) (R i c:Nat) (y:Int):(rowT R (A i)).set c y=rowT R (upd2 A i c y i):=by
 rw [rowT_set]
 unfold rowT upd2
 exact List.map_congr_left fun k _=>by simp
theorem upd2_other (A:Nat->Nat->Int) (R:Nat) {i j:Nat} (c:Nat) (y:Int) (h:j≠i):rowT R (A j)=rowT R (upd2 A i c y j):=by
 unfold rowT upd2
 exact List.map_congr_left fun k _=>by simp [h]
section
variable {F Z:BS} {W w:World} {ts:List Th} {b R:Nat} {A B:Nat->Nat->Int}
theorem dY.tab_mk {v0 v1:Value} (h:dY F Z W (dJ b (.cells #[v0,v1] 35)::tSq (eInt .i64) 3 v0 (rowT R (A 0))::tSq (eInt .i64) 3 v1 (rowT R (A 1))::ts) w):dY F Z W (tTab b R A::ts) w:=
 dY.shut (f:=tabThs b R A) (i:=(v0,v1)) h
theorem tab_at (h:dY F Z W ts w) (j:Nat) (hj:ts[j]? = some (tTab b R A)) {i c:Nat} (hi:i < 2) (hc:c < R) :
  ∃g off cap,w.cell? ⟨b,i,none⟩=some (.slice (some ⟨g,off,none⟩) R cap)/\R<=cap/\w.cell? ⟨g,off+c,none⟩=some (.int .i64 (A i c))/\(∀k,w.frozen? ⟨g,k,none⟩=false) /\
   ∀y,dY F Z W (ts.set j (tTab b R (upd2 A i c y))) (w.setCell ⟨g,off+c,none⟩ (.int .i64 y)):=by
 obtain ⟨G,Y,hon,hd,_,_,hback⟩:=h.use j hj
 obtain ⟨⟨v0,v1⟩,hst⟩:=dY.opens (dY.start1 hon hd)
 have hrow:=hst.blk 0 rfl
 have back:∀ {w':World} {A':Nat->Nat->Int},dY G Y w (tabThs b R A' (v0,v1)) w'->dY F Z W (ts.set j (tTab b R A')) w':=fun {w' A'} hh=>by
  have:=hback w' _ [] (dY.shut (f:=tabThs b R A') (i:=(v0,v1)) (ts:=[]) (by simpa using hh)).did
  rwa [List.append_nil] at this
 obtain rfl|rfl:i=0\/i=1:=by omega
 ·obtain ⟨_,_,hs⟩:=hst.get 1 rfl
  have hs:Sq (eInt .i64) 3 w _ _ v0 (rowT R (A 0)):=hs
  obtain ⟨g,off,cap,e,m1,_⟩:=bR hs (by rw [rowT_length];omega)
  subst e
  rw [rowT_length] at m1
  have hcell:=int_cell hs (rowT_get (A 0) hc)
  refine ⟨g,off,cap,(aJ hrow rfl).trans (by rw [rowT_length];rfl),m1,hcell,hs.free.2.2.2,fun y=>back ?_⟩
  have hp:=hst.put pure_int 1 rfl (c:=c) (j:=0) (a:=A 0 c) (a':=y) (u:=.int .i64 y) (rowT_get (A 0) hc) (by decide) rfl
  rw [upd2_row A R 0 c y] at hp
  have hp:dY G Y w [dJ b (.cells #[.slice (some ⟨g,off,none⟩) (rowT R (A 0)).length cap,v1] 35),tSq (eInt .i64) 3 (.slice (some ⟨g,off,none⟩) (rowT R (A 0)).length cap) (rowT R (upd2 A 0 c y 0)),tSq (eInt .i64) 3 v1 (rowT R (A 1))] (w.setCell ⟨g,off+(c*1+0),none⟩ (.int .i64 y)):=hp
  rw [upd2_other A R c y (show 1≠0 by decide),Nat.mul_one,Nat.add_zero] at hp
  exact hp
 ·obtain ⟨_,_,hs⟩:=hst.get 2 rfl
  have hs:Sq (eInt .i64) 3 w _ _ v1 (rowT R (A 1)):=hs
  obtain ⟨g,off,cap,e,m1,_⟩:=bR hs (by rw [rowT_length];omega)
  subst e
  rw [rowT_length] at m1
  have hcell:=int_cell hs (rowT_get (A 1) hc)
  refine ⟨g,off,cap,(aJ hrow rfl).trans (by rw [rowT_length];rfl),m1,hcell,hs.free.2.2.2,fun y=>back ?_⟩
  have hp:=hst.put pure_int 2 rfl (c:=c) (j:=0) (a:=A 1 c) (a':=y) (u:=.int .i64 y) (rowT_get (A 1) hc) (by decide) rfl
  rw [upd2_row A R 1 c y] at hp
  have hp:dY G Y w [dJ b (.cells #[v0,.slice (some ⟨g,off,none⟩) (rowT R (A 1)).length cap] 35),tSq (eInt .i64) 3 v0 (rowT R (A 0)),tSq (eInt .i64) 3 (.slice (some ⟨g,off,none⟩) (rowT R (A 1)).length cap) (rowT R (upd2 A 1 c y 1))] (w.setCell ⟨g,off+(c*1+0),none⟩ (.int .i64 y)):=hp
  rw [upd2_other A R c y (show 0≠1 by decide),Nat.mul_one,Nat.add_zero] at hp
  exact hp
theorem tTab_congr (h:∀i c,i < 2->c < R->A i c=B i c):tTab b R A=tTab b R B:=by
 have h0:rowT R (A 0)=rowT R (B 0):=List.map_congr_left fun k hk=>h 0 k (by decide) (List.mem_range.1 hk)
 have h1:rowT R (A 1)=rowT R (B 1):=List.map_congr_left fun k hk=>h 1 k (by decide) (List.mem_range.1 hk)
 unfold tTab tabThs
 rw [h0,h1]
end
def clr (A:Nat->Nat->Int) (s j:Nat):Nat->Nat->Int:=fun i c=>if i=s/\c < j then -1 else A i c
theorem clr_zero (A:Nat->Nat->Int) (s:Nat):clr A s 0=A:=by funext i c;unfold clr;rw [if_neg (by omega)]
theorem clr_succ (A:Nat->Nat->Int) (s j:Nat):upd2 (clr A s j) s j (-1)=clr A s (j+1):=by
 funext i c
 unfold upd2 clr
 by_cases h:i=s/\c=j
 ·rw [if_pos h,if_pos ⟨h.1,by omega⟩]
 ·rw [if_neg h]
  by_cases h2:i=s/\c < j
  ·rw [if_pos h2,if_pos ⟨h2.1,by omega⟩]
  ·rw [if_neg h2,if_neg (by omega)]
abbrev nO (R:Nat):Obj:=.cells #[.int .i64 (R:Int)] 3
theorem clear_c {F Z:BS} {W w:World} {ts:List Th} {b7 b10 R s:Nat} {A:Nat->Nat->Int} (hs:s < 2) (hR:R<=4) (h:dY F Z W (tTab b10 R A::dJ b7 (nO R)::ts) w) :
  Calls Tryz.prog 11 #[.int .i64 (s:Int),.pointer (some ⟨b7,0,none⟩),.pointer (some ⟨b10,0,none⟩)] w fun e w'=>e=.returned (.tuple #[])/\dY F Z W (tTab b10 R (clr A s R)::dJ b7 (nO R)::ts) w':=by
 have H0:=aQ (show dY F Z W (tTab b10 R (clr A s 0)::dJ b7 (nO R)::ts) w by rw [clr_zero];exact h)
 have c7:=aJ (i:=0) (h.blk 1 rfl) rfl
 clear h
 go_enter Tryz.func11,Tryz.ntmps11
 go_wp2_with fail
 clear c7
 go_loopw [6] (fun u wr=>∃j:Nat,j<=R/\u=.int .i64 (j:Int)/\Hid (dY F Z W (tTab b10 R (clr A s j)::dJ b7 (nO R)::ts) wr)) (fun u _=>R - (intOf u).toNat)
 case atStart=>exact ⟨0,by omega,rfl,H0⟩
 case round=>
  clear H0
  obtain ⟨j,hj,rfl,HK⟩:=hrel
  by_cases hlt:j < R
  ·obtain ⟨g,off,cap,hc,hcap,_,hf,hb⟩:=tab_at HK.out 0 rfl hs hlt
   have H1:=aQ (show dY F Z W (tTab b10 R (clr A s (j+1))::dJ b7 (nO R)::ts) (wr.setCell ⟨g,off+j,none⟩ (.int .i64 (-1))) by rw [<-clr_succ];exact hb (-1))
   clear hb HK
   go_wp2_with fail
   go_roundw
   case rel=>exact ⟨j+1,by omega,by go_num,H1⟩
   case measure=>simp [intOf];omega
  ·obtain rfl:R=j:=by omega
   go_wp2_with fail
   go_end0
   exact ⟨rfl,HK.out⟩
end

set_option maxRecDepth 100000
section
open Go.RowKit Go.ChangeShapes Go.WideShapes Go.ChangeAt
theorem opensWire {H:Type} {enc:TypeId × Value->H} {W:World}:Opens enc Tryz.prog W 27 rSet:=
 opens_map (opens_struct Tryz.underlying27 (by kernel_rfl)
  (.cons opensCfg rfl (.cons opensCfg rfl (.cons (cN Tryz.underlying3 (by kernel_rfl)) rfl (.cons opensFlts rfl (.one opensFlts rfl)))))) _
theorem open_isWire {H:Type} {enc:TypeId × Value->H} {W:World} {v:Value} {d:DataW H} {ps:List MemPlace} {q:Reach} {base:Nat} (hval:Value.okWide Tryz.prog W q base 27 v) (hd:DataW.Trod enc Tryz.prog W 0 (fun _=>true) true 27 v d ps):IsSet W v:=by
 obtain ⟨cs,rfl,_⟩:=okWide_struct Tryz.underlying27 hval
 exact isSet_of (open_isR opensWire hd)
section
variable {w:World} {Z:BS}
theorem mod1_c (f:Flt) (w:World):Calls Tryz.prog 41 #[.agg #[.int .i64 f.at',.int .i64 f.kind,.int .i64 f.arg]] w fun r w'=>r=.returned (.bool (lateF f))/\Below w.heap.size w w':=by
 have hrow:=heap_alloc_new w (.cells #[.int .i64 f.at',.int .i64 f.kind,.int .i64 f.arg] 107)
 have x0:=aJ (i:=0) hrow rfl
 have hx:decide ((f.at':Int)>=200)=lateF f:=rfl
 clear hrow
 go_enter Tryz.func41,Tryz.ntmps41
 go_wp2_with fail
 go_ret
 exact ⟨rfl,aK w _⟩
theorem idxM_c (v:Value) (fs:List Flt) (h:RdS eFlt w Z v fs) :
  Calls Tryz.prog 82 #[v,.func (.func 41) #[] #[]] w fun r w'=>∃k:Int,r=.returned (.int .i64 k)/\decide (0<=k)=fs.any lateF/\Below w.heap.size w w':=by
 obtain ⟨a,c,rfl,hc1,hc2⟩:=h.shape
 have H:=aQ h
 clear h
 unfold maxLen at hc2
 go_enter Tryz.func82,Tryz.ntmps82
 go_wp2_with fail
 go_loopw [8] (fun i wr=>∃j:Nat,j<=fs.length/\i=.int .i64 (j:Int)/\Hid ((fs.take j).any lateF=false)/\Hid (Below w.heap.size w wr)) (fun i _=>fs.length - (intOf i).toNat)
 case atStart=>exact ⟨0,by omega,by go_num,aQ rfl,aQ (Below.refl _ _)⟩
 case round=>
  obtain ⟨j,hj,rfl,HA,HB⟩:=hrel
  by_cases hlt:j < fs.length
  ·obtain ⟨e,he⟩:∃e,fs[j]? = some e:=⟨fs[j],List.getElem?_eq_getElem hlt⟩
   obtain ⟨b,off,rfl,c0,c1,c2,_⟩:=flt_at (H.out.below HB.out) he
   have HE:=aQ he
   clear he
   have HC:=aQ (mod1_c e wr)
   cases hpe:lateF e with
   |true=>
    have HX:=aQ (show fs.any lateF=true from any_at HE.out hpe)
    rw [hpe] at HC
    clear hpe
    go_wp2_with fail
    refine HC.out.mono ?_
    rintro r w1 ⟨rfl,hb⟩
    have HB1:=aQ (HB.out.trans (hb.mono HB.out.size))
    clear hb
    go_wp2_with fail
    go_ret
    exact ⟨_,rfl,by rw [HX.out];exact decide_eq_true (by omega),HB1.out⟩
   |false=>
    have HX:=aQ (any_take HA.out HE.out hpe)
    rw [hpe] at HC
    clear hpe
    go_wp2_with fail
    refine HC.out.mono ?_
    rintro r w1 ⟨rfl,hb⟩
    have HB1:=aQ (HB.out.trans (hb.mono HB.out.size))
    clear hb
    go_wp2_with fail
    go_roundw
    case rel=>exact ⟨j+1,by omega,by go_num,HX,HB1⟩
    case measure=>simp [intOf];omega
  ·obtain rfl:fs.length=j:=by omega
   have HX:=aQ (show fs.any lateF=false by have:=HA.out;rwa [List.take_length] at this)
   go_wp2_with fail
   go_ret
   exact ⟨_,rfl,by rw [HX.out];rfl,HB.out⟩
theorem hasM_c (v:Value) (fs:List Flt) (h:RdS eFlt w Z v fs) :
  Calls Tryz.prog 42 #[v,.func (.func 41) #[] #[]] w fun r w'=>r=.returned (.bool (fs.any lateF))/\Below w.heap.size w w':=by
 have HC:=aQ (idxM_c v fs h)
 clear h
 go_enter Tryz.func42,Tryz.ntmps42
 go_wp2_with fail
 refine HC.out.mono ?_
 rintro r w1 ⟨k,rfl,hk,hb⟩
 have HK:=aQ hk
 have HB1:=aQ hb
 clear hb hk
 go_wp2_with fail
 go_ret
 exact ⟨by rw [<-HK.out];rfl,HB1.out⟩
end
def RCfg.M (c:RCfg):Prop:=c.inc<=1000/\c.w<=16/\c.t<=20/\3<=c.d
def Moder (s:RSet):Prop:=s.a.M/\s.b.M/\s.a.aZ.length=s.b.aZ.length/\s.cB<=4/\s.there.length<=200/\s.back.length<=200/\s.there.any lateF=false/\s.back.any lateF=false
abbrev wireO (s:RSet) (aa:Option Addr) (ak:Nat) (ba:Option Addr) (bk:Nat) (ta:Option Addr) (tk:Nat) (ya:Option Addr) (yk:Nat):Obj:=
 .cells #[.int .i64 s.a.inc,.slice aa s.a.aZ.length ak,.int .i64 s.a.w,.int .i64 s.a.t,.int .i64 s.a.d,.int .i64 s.b.inc,.slice ba s.b.aZ.length bk,.int .i64 s.b.w,.int .i64 s.b.t,.int .i64 s.b.d,
  .int .i64 s.cB,.slice ta s.there.length tk,.slice ya s.back.length yk] 27
theorem ten_cells {w:World} {p:Nat} {u0 u1 u2 u3 u4 u5 u6 u7 u8 u9:Value} {T:TypeId} (h:w.heap[p]? = some (.cells #[u0,u1,u2,u3,u4,u5,u6,u7,u8,u9] T)) :
  (w.cell? ⟨p,0,none⟩=some u0/\w.cell? ⟨p,1,none⟩=some u1/\w.cell? ⟨p,2,none⟩=some u2/\w.cell? ⟨p,3,none⟩=some u3/\w.cell? ⟨p,4,none⟩=some u4)/\w.cell? ⟨p,5,none⟩=some u5/\w.cell? ⟨p,6,none⟩=some u6/\w.cell? ⟨p,7,none⟩=some u7/\w.cell? ⟨p,8,none⟩=some u8/\w.cell? ⟨p,9,none⟩=some u9:=
 ⟨⟨aJ h rfl,aJ h rfl,aJ h rfl,aJ h rfl,aJ h rfl⟩,aJ h rfl,aJ h rfl,aJ h rfl,aJ h rfl,aJ h rfl⟩
def ModP (s:RSet) (w:World) (e:Ending) (w':World):Prop:=∃m,e=.returned (.bool m)/\(m=true->Moder s)/\Below w.heap.size w w'
theorem modP_no {s:RSet} {w w':World} (hb:Below w.heap.size w w'):ModP s w (.returned (.bool false)) w':=⟨false,rfl,fun h=>Bool.noConfusion h,hb⟩
theorem modP_is {s:RSet} {w w':World} (m:Bool) (hm:m=true->Moder s) (hb:Below w.heap.size w w'):ModP s w (.returned (.bool m)) w':=⟨m,rfl,hm,hb⟩
section
variable {Z:BS} {W w:World} {ts:List Th} {j:Nat} {s:RSet} {aa ba ta ya:Option Addr} {ak bk tk yk:Nat}
theorem moderate_c (q:SetAt ts j s aa ak ba bk ta tk ya yk) (h:dY (fun _=>False) Z W ts w):Calls Tryz.prog 9 #[setV s aa ak ba bk ta tk ya yk] w (ModP s w):=by
 have hb0:=aK w (wireO s aa ak ba bk ta tk ya yk)
 obtain ⟨w1,hw1⟩:∃w1,w1=(w.alloc (wireO s aa ak ba bk ta tk ya yk)).alloc (.cells #[.int .i64 s.a.inc,.slice aa s.a.aZ.length ak,.int .i64 s.a.w,.int .i64 s.a.t,.int .i64 s.a.d,.int .i64 s.b.inc,.slice ba s.b.aZ.length bk,.int .i64 s.b.w,.int .i64 s.b.t,.int .i64 s.b.d] 24):=⟨_,rfl⟩
 have HW1:=aQ hw1
 have HB1:=aQ (show Below w.heap.size w w1 by rw [hw1];(with_reducible (repeat (first|exact Below.refl _ _|refine Bw.alloc ?_ _|refine Bw.drewN ?_ _|refine Bw.drew ?_))))
 have HR0:=aQ (show w1.heap[w.heap.size]? = some (wireO s aa ak ba bk ta tk ya yk) by rw [hw1];exact (Below.heap_alloc _ _ _ (by simp)).trans (heap_alloc_new w _))
 have HR1:=aQ (show w1.heap[w.heap.size+1]? = some (.cells #[.int .i64 s.a.inc,.slice aa s.a.aZ.length ak,.int .i64 s.a.w,.int .i64 s.a.t,.int .i64 s.a.d,.int .i64 s.b.inc,.slice ba s.b.aZ.length bk,.int .i64 s.b.w,.int .i64 s.b.t,.int .i64 s.b.d] 24) by
  rw [hw1]
  have h:=heap_alloc_new (w.alloc (wireO s aa ak ba bk ta tk ya yk)) (.cells #[.int .i64 s.a.inc,.slice aa s.a.aZ.length ak,.int .i64 s.a.w,.int .i64 s.a.t,.int .i64 s.a.d,.int .i64 s.b.inc,.slice ba s.b.aZ.length bk,.int .i64 s.b.w,.int .i64 s.b.t,.int .i64 s.b.d] 24)
  rw [World.size_alloc] at h
  exact h)
 obtain ⟨_,_,ht⟩:=h.get _ q.t
 obtain ⟨_,_,hy⟩:=h.get _ q.y
 have hb1:Below w.heap.size w w1:=HB1.out
 have HT:=aQ (RdS.below (show RdS eFlt w _ (.slice ta s.there.length tk) s.there from ht) hb1)
 have HY:=aQ (RdS.below (show RdS eFlt w _ (.slice ya s.back.length yk) s.back from hy) hb1)
 clear hw1 hb0 hb1 ht hy h q
 go_enter Tryz.func9,Tryz.ntmps9
 go_wp2_with fail
 rw [<-HW1.out]
 go_loopw [12] (fun u wr=>∃k:Nat,k<=2/\u=.int .i64 (k:Int)/\Hid ((0 < k->s.a.M)/\(1 < k->s.b.M))/\Hid (Below w1.heap.size w1 wr)) (fun u _=>2 - (intOf u).toNat)
 case atStart=>exact ⟨0,by omega,rfl,aQ ⟨fun h=>absurd h (by omega),fun h=>absurd h (by omega)⟩,aQ (Below.refl _ _)⟩
 case round=>
  obtain ⟨k,hk,rfl,HM,HB⟩:=hrel
  have hr0:=(HB.out.block _ (lt_of_block HR0.out)).trans HR0.out
  have hr1:=(HB.out.block _ (lt_of_block HR1.out)).trans HR1.out
  have HBW:=aQ (HB1.out.trans (HB.out.mono HB1.out.size))
  have h3:k=0\/k=1\/k=2:=by omega
  rcases h3 with rfl|rfl|rfl
  ·obtain ⟨⟨x0,x1,x2,x3,x4⟩,x5,x6,x7,x8,x9⟩:=ten_cells hr1
   clear hr0 hr1
   by_cases g1:1000 < s.a.inc
   ·go_wp2_with fail
    go_ret
    exact modP_no (by have hh:=HBW.out;(with_reducible (repeat (first|exact hh|refine Bw.alloc ?_ _|refine Bw.drewN ?_ _|refine Bw.drew ?_))))
   by_cases g2:16 < s.a.w
   ·go_wp2_with fail
    go_ret
    exact modP_no (by have hh:=HBW.out;(with_reducible (repeat (first|exact hh|refine Bw.alloc ?_ _|refine Bw.drewN ?_ _|refine Bw.drew ?_))))
   by_cases g3:20 < s.a.t
   ·go_wp2_with fail
    go_ret
    exact modP_no (by have hh:=HBW.out;(with_reducible (repeat (first|exact hh|refine Bw.alloc ?_ _|refine Bw.drewN ?_ _|refine Bw.drew ?_))))
   by_cases g4:s.a.d < 3
   ·go_wp2_with fail
    go_ret
    exact modP_no (by have hh:=HBW.out;(with_reducible (repeat (first|exact hh|refine Bw.alloc ?_ _|refine Bw.drewN ?_ _|refine Bw.drew ?_))))
   have HC:=aQ (show s.a.M from ⟨by omega,by omega,by omega,by omega⟩)
   go_wp2_with fail
   go_roundw
   case rel=>exact ⟨1,by omega,by go_num,aQ ⟨fun _=>HC.out,fun h=>absurd h (by omega)⟩,aQ (HB.out.alloc HB.out.size _)⟩
   case measure=>simp [intOf]
  ·obtain ⟨⟨x0,x1,x2,x3,x4⟩,x5,x6,x7,x8,x9⟩:=ten_cells hr1
   clear hr0 hr1
   by_cases g1:1000 < s.b.inc
   ·go_wp2_with fail
    go_ret
    exact modP_no (by have hh:=HBW.out;(with_reducible (repeat (first|exact hh|refine Bw.alloc ?_ _|refine Bw.drewN ?_ _|refine Bw.drew ?_))))
   by_cases g2:16 < s.b.w
   ·go_wp2_with fail
    go_ret
    exact modP_no (by have hh:=HBW.out;(with_reducible (repeat (first|exact hh|refine Bw.alloc ?_ _|refine Bw.drewN ?_ _|refine Bw.drew ?_))))
   by_cases g3:20 < s.b.t
   ·go_wp2_with fail
    go_ret
    exact modP_no (by have hh:=HBW.out;(with_reducible (repeat (first|exact hh|refine Bw.alloc ?_ _|refine Bw.drewN ?_ _|refine Bw.drew ?_))))
   by_cases g4:s.b.d < 3
   ·go_wp2_with fail
    go_ret
    exact modP_no (by have hh:=HBW.out;(with_reducible (repeat (first|exact hh|refine Bw.alloc ?_ _|refine Bw.drewN ?_ _|refine Bw.drew ?_))))
   have HC:=aQ (show s.b.M from ⟨by omega,by omega,by omega,by omega⟩)
   go_wp2_with fail
   go_roundw
   case rel=>exact ⟨2,by omega,by go_num,aQ ⟨fun _=>HM.out.1 (by decide),fun _=>HC.out⟩,aQ (HB.out.alloc HB.out.size _)⟩
   case measure=>simp [intOf]
  ·obtain ⟨x0,x1,x2,x3,x4,x5,x6,x7,x8,x9,x10,x11,x12⟩:=aC hr0
   clear hr0 hr1
   by_cases f1:¬s.a.aZ.length=s.b.aZ.length
   ·go_wp2_with fail
    go_ret
    exact modP_no HBW.out
   by_cases f2:4 < s.cB
   ·go_wp2_with fail
    go_ret
    exact modP_no HBW.out
   by_cases f3:200 < s.there.length
   ·go_wp2_with fail
    go_ret
    exact modP_no HBW.out
   by_cases f4:200 < s.back.length
   ·go_wp2_with fail
    go_ret
    exact modP_no HBW.out
   have hlt:=aQ (hasM_c _ _ (HT.out.below HB.out))
   have hly:=aQ (fun w' hb=>hasM_c (w:=w') _ _ ((HY.out.below HB.out).below hb))
   have HF1:=aQ (show s.a.aZ.length=s.b.aZ.length/\s.cB<=4/\s.there.length<=200/\s.back.length<=200 by omega)
   go_wp2_with fail
   refine hlt.out.mono ?_
   rintro e w5 ⟨rfl,hb⟩
   have HB5:=aQ (HBW.out.trans (hb.mono HBW.out.size))
   have HL2:=aQ (hly.out _ hb)
   have hq0:=(hb.block _ (World.block_lt_of_cell? _ _ x0)).trans (show wr.heap[w.heap.size]? = _ from (HB.out.block _ (lt_of_block HR0.out)).trans HR0.out)
   have HA:=aQ HM.out
   clear x0 x1 x2 x3 x4 x5 x6 x7 x8 x9 x10 x11 x12 hb hlt hly
   obtain ⟨_,_,_,_,_,_,_,_,_,_,_,x11,x12⟩:=aC hq0
   clear hq0
   obtain ⟨m1,hm1⟩:∃m,m=s.there.any lateF:=⟨_,rfl⟩
   have HM1:=aQ hm1
   rw [<-hm1]
   clear hm1
   cases m1 with
   |true=>
    go_wp2_with fail
    go_ret
    exact modP_no HB5.out
   |false=>
    go_wp2_with fail
    refine HL2.out.mono ?_
    rintro e w6 ⟨rfl,hb⟩
    have HB6:=aQ (HB5.out.trans (hb.mono HB5.out.size))
    clear hb HL2
    go_wp2_with fail
    go_ret
    exact modP_is _ (fun h=>⟨HA.out.1 (by decide),HA.out.2 (by decide),HF1.out.1,HF1.out.2.1,HF1.out.2.2.1,HF1.out.2.2.2,HM1.out.symm,by simpa using h⟩) HB6.out
end
end

set_option maxRecDepth 100000
section
theorem q_small2 {n T D:Nat} (hn:n<=40) (hT:T<=20) (hD:D<=4):202+7*D+(n+1)*(T+1)+n*(4*D+2)<=3000:=by
 have h1:=Nat.mul_le_mul (show n+1<=41 by omega) (show T+1<=21 by omega)
 have h2:=Nat.mul_le_mul hn (show 4*D+2<=18 by omega)
 omega
theorem q_fine2 {N q:Nat} (hN:N<=600000) (hq:q<=3000):N+13065+13256*q<=400000000:=by
 have:=Nat.mul_le_mul_left 13256 hq
 omega
theorem mend_quiet2 {L X:Lk} {N n T D:Nat} {Z:Prop} (k:L.Kin X) (hX:X.Full N Z) (h2:200<=N) (hN:N<=600000) (ht:X.Tots n) (hn:n<=40) (hr:L.l.prt.aZ.length=L.r.prt.aZ.length) (hD:L.l.cD.cB=D) (hD':L.r.cD.cB=D) (hD6:D<=4)
  (el:Early L.l.cD.bZ 200) (er:Early L.r.cD.bZ 200) (dl:2<=L.l.prt.dead) (dr:2<=L.r.prt.dead) (tl:L.l.prt.aN<=T) (tr:L.r.prt.aN<=T) (hT:T<=20) :
  ∃q,q<=3000/\((X.step [⟨4,0,0,[]⟩]).drain q).Quiet:=by
 have hn':X.noff<=40:=Nat.le_trans ht.n hn
 have k2:=k.trans (step_kin X [⟨4,0,0,[]⟩])
 have hY:(X.step [⟨4,0,0,[]⟩]).Full (N+13065) False:=(hX.step h2 [⟨4,0,0,[]⟩]).mono (by simp) False.elim
 have tY:(X.step [⟨4,0,0,[]⟩]).l.Fits/\(X.step [⟨4,0,0,[]⟩]).r.Fits/\(X.step [⟨4,0,0,[]⟩]).l.aV=X.l.aV/\(X.step [⟨4,0,0,[]⟩]).r.aV=X.r.aV:=by
  have:=ht.step [⟨4,0,0,[]⟩]
  obtain ⟨_,_,h3,h4⟩:=tick_since (X.acts [⟨4,0,0,[]⟩]).2
  exact ⟨this.l,this.r,h3.trans rfl,h4.trans rfl⟩
 have oY:(X.step [⟨4,0,0,[]⟩]).l.aV.length=(X.step [⟨4,0,0,[]⟩]).l.prt.aZ.length/\(X.step [⟨4,0,0,[]⟩]).r.aV.length=(X.step [⟨4,0,0,[]⟩]).r.prt.aZ.length:=by
  obtain ⟨wl,wr,oa,ga,pa,ob,gb,pb,da,db,i,k1,k2,_⟩:=hY
  exact ⟨k1.ol,k2.ol⟩
 have u:=mend_up X
 have hq:=q_small2 hn' hT hD6
 refine ⟨_,hq,drain_quiet hY ⟨Nat.le_trans hD6 (by decide),by rw [k2.al];exact hD,by rw [k2.ar];exact hD',u.1,u.2⟩ (by rw [k2.fl];exact el) (by rw [k2.fr];exact er) (by rw [k2.dl];exact dl) (by rw [k2.dr];exact dr) (t:=T) (M:=X.noff) (by rw [k2.tl];exact tl) (by rw [k2.tr];exact tr) (by rw [k2.rl,k2.rr];exact hr) ?_ ?_ (by omega) (Nat.le_refl _) (q_fine2 hN hq)⟩
 ·refine Nat.le_trans (some_le tY.1 oY.1) ?_
  rw [tY.2.2.1];unfold Lk.noff;omega
 ·refine Nat.le_trans (some_le tY.2.1 oY.2) ?_
  rw [tY.2.2.2];unfold Lk.noff;omega
theorem moder_early {l:List Flt} (h:l.any lateF=false):Early l 200:=(not_late (a:=l) (b:=[]) (by rw [List.append_nil];exact h)).1
theorem moder_quiet {s:RSet} (hm:Moder s) (_hva:s.a.V) (_hvb:s.b.V) (hd:1<=s.cB) {X:Lk} {N n:Nat} {Z:Prop} (k:s.lk.Kin X) (hX:X.Full N Z) (h2:200<=N) (hN:N<=600000) (ht:X.Tots n) (hn:n<=40) :
  ∃q,q<=3000/\((X.step [⟨4,0,0,[]⟩]).drain q).Quiet:=by
 obtain ⟨⟨a1,a2,a3,a4⟩,⟨b1,b2,b3,b4⟩,m3,m4,_,_,m7,m8⟩:=hm
 refine mend_quiet2 (T:=max s.a.t.toNat s.b.t.toNat) (L:=s.lk) k hX h2 hN ht hn ?_ rfl rfl (by show s.cB.toNat<=4;omega) (moder_early m8) (moder_early m7) (by show 2<=s.a.d.toNat;omega) (by show 2<=s.b.d.toNat;omega) (Nat.le_max_left ..) (Nat.le_max_right ..) (Nat.max_le.2 ⟨by omega,by omega⟩)
 show s.a.cfg.aZ.length=s.b.cfg.aZ.length
 unfold RCfg.cfg
 rw [List.length_map,List.length_map];exact m3
theorem moder_full {s:RSet} (hm:Moder s) (hva:s.a.V) (hvb:s.b.V) (hd:1<=s.cB) (h1:okF (-1) s.there=true) (h2:okF (-1) s.back=true):s.lk.Full 200 True:=by
 obtain ⟨_,_,_,m4,m5,m6,_⟩:=hm
 exact newLk_full hva.ok hvb.ok (by omega) (by omega) h1 h2 (by omega) (by omega)
structure WSt (s:RSet) (k:Nat) (v:Wit) (L:Lk):Prop where
 ok:v.Ok L (200+13100*k)
 short:L.Short
 n:∀i c,v.n i c<=k
 kin:s.lk.Kin L
 tots:L.Tots k
section
variable {s:RSet} {k:Nat} {v:Wit} {L K:Lk} {R:Nat} {S A B:Nat->Nat->Int}
theorem wst0 (h:s.lk.Full 200 True):WSt s 0 wit0 s.lk:=
 ⟨wit0_ok (h.mono (by omega) id) fun i c=>(newLk_of _ _ _ _ _ i c).1,s.lk_short,fun _ _=>Nat.le_refl _,Lk.Kin.refl _,newLk_tots _ _ _ _ _⟩
theorem post0:wit0.Post s.lk R (fun _ _=>0) (fun _ _ => -1):=fun i c _ _=>by
 have:=(newLk_of s.a.cfg s.b.cfg s.cB.toNat s.there s.back i c).2
 rw [show s.lk.tk i c=[] from this]
 exact ⟨rfl,rfl⟩
theorem WSt.full (h:WSt s k v L):L.Full (200+13100*k) False:=h.ok.full.full
theorem WSt.kle (h:WSt s k v L) (hk:k<=200):∀i c,i < 2->v.k i c<=(L.tk i c).length:=h.ok.kle fun i c=>Nat.le_trans (h.n i c) (by omega)
theorem Wit.Post.same (h:v.Post L R S A) (hu:∀i c,K.tk i c=L.tk i c):v.Post K R S A:=fun i c hi hc=>by rw [hu];exact h i c hi hc
theorem Wit.Pre.congr (h:v.Pre L R S A) (e:∀i c,i < 2->c < R->A i c=B i c):v.Pre L R S B:=fun i c hi hc=>by
 obtain ⟨m,h1,h2,h3,h4⟩:=h i c hi hc
 exact ⟨m,h1,h2,h3,by rw [<-e i c hi hc];exact h4⟩
theorem WSt.to (h:WSt s k v L) {w:Wit} {es:List Evt} (he:es.length<=1) (ho:w.Ok (L.acts es).2 (200+13100*k+65)) (hn:∀i c,w.n i c<=k+1):WSt s (k+1) w (L.step es):=
 ⟨ho.cR.mono (by omega),h.short.step h.full (by omega) es,hn,h.kin.trans (step_kin L es),by
  have:=h.tots.step es
  exact ⟨⟨this.l,this.r,Nat.le_trans this.n (by omega)⟩,this.ll,this.lr⟩⟩
theorem WSt.next (h:WSt s k v L) (hk:k<=200) {w:Wit} (hw:∀i c,w.k i c=v.k i c) {es:List Evt} (he:es.length<=1) (hP:v.Post L R S A):w.Pre (L.step es) R S A:=
 hP.next hw (h.kle hk) fun i c=>step_tk L es he i c
theorem WSt.none (h:WSt s k v L) (hk:k<=200) (hP:v.Post L R S A):WSt s (k+1) v (L.step [])/\v.Pre (L.step []) R S A:=
 ⟨h.to (by decide) (h.ok.mono (by omega)) fun i c=>Nat.le_succ_of_le (h.n i c),h.next hk (fun _ _=>rfl) (by decide) hP⟩
theorem WSt.other (h:WSt s k v L) (hk:k<=200) (hP:v.Post L R S A) (e:Evt) (h1:e.kind≠1) (h5:e.kind≠5):WSt s (k+1) v (L.step [e])/\v.Pre (L.step [e]) R S A:=
 ⟨h.to (Nat.le_refl 1) (h.ok.other e h1 h5) fun i c=>Nat.le_succ_of_le (h.n i c),h.next hk (fun _ _=>rfl) (Nat.le_refl 1) hP⟩
theorem WSt.dQ (h:WSt s k v L) (hk:k<=200) (hP:v.Post L R S A) {i c:Nat} (hi:i < 2) (hc:c < (L.nd i).aV.length) :
  ((L.act ⟨1,(i:Int),(c:Int),lab i c (v.n i c)⟩).1=0->WSt s (k+1) (v.dQ i c) (L.step [⟨1,(i:Int),(c:Int),lab i c (v.n i c)⟩])/\(v.dQ i c).Pre (L.step [⟨1,(i:Int),(c:Int),lab i c (v.n i c)⟩]) R S A) /\
  ((L.act ⟨1,(i:Int),(c:Int),lab i c (v.n i c)⟩).1≠0->WSt s (k+1) v (L.step [⟨1,(i:Int),(c:Int),lab i c (v.n i c)⟩])/\v.Pre (L.step [⟨1,(i:Int),(c:Int),lab i c (v.n i c)⟩]) R S A):=by
 obtain ⟨q1,q2⟩:=h.ok.dQ hi hc (lab i c (v.n i c)) rfl
 refine ⟨fun e=>⟨h.to (Nat.le_refl 1) (q1 e) fun i' c'=>?_,h.next hk (fun _ _=>rfl) (Nat.le_refl 1) hP⟩,fun e=>⟨h.to (Nat.le_refl 1) (q2 e) fun i c=>Nat.le_succ_of_le (h.n i c),h.next hk (fun _ _=>rfl) (Nat.le_refl 1) hP⟩⟩
 show (if i'=i/\c'=c then v.n i c+1 else v.n i' c')<=k+1
 have h1:=h.n i c
 have h2:=h.n i' c'
 split <;> omega
theorem WSt.restart (h:WSt s k v L) (hk:k<=200) (hP:v.Post L R S A) {i:Nat} (hi:i < 2) (x:Int) :
  ((L.act ⟨5,(i:Int),x,[]⟩).1=0->WSt s (k+1) (v.restart L i) (L.step [⟨5,(i:Int),x,[]⟩])/\(v.restart L i).Pre (L.step [⟨5,(i:Int),x,[]⟩]) R S (clr A i R)) /\
  ((L.act ⟨5,(i:Int),x,[]⟩).1≠0->WSt s (k+1) v (L.step [⟨5,(i:Int),x,[]⟩])/\v.Pre (L.step [⟨5,(i:Int),x,[]⟩]) R S A):=by
 obtain ⟨q1,q2⟩:=h.ok.restart (by omega) hi ⟨5,(i:Int),x,[]⟩ rfl rfl
 refine ⟨fun e=>⟨h.to (Nat.le_refl 1) (q1 e) fun i' c'=>Nat.le_succ_of_le (h.n i' c'),?_⟩,fun e=>⟨h.to (Nat.le_refl 1) (q2 e) fun i c=>Nat.le_succ_of_le (h.n i c),h.next hk (fun _ _=>rfl) (Nat.le_refl 1) hP⟩⟩
 refine (hP.restart i (h.kle hk) fun i' c'=>restart_tks L hi ⟨5,(i:Int),x,[]⟩ rfl rfl i' c').congr fun i' c' _ hc=>?_
 unfold clr
 by_cases e:i'=i
 ·rw [if_pos e,if_pos ⟨e,hc⟩]
 ·rw [if_neg e,if_neg fun h=>e h.1]
theorem clr_both (A:Nat->Nat->Int) (R:Nat):∀i c,i < 2->c < R->clr (clr A 0 R) 1 R i c = -1:=fun i c hi hc=>by
 unfold clr
 obtain rfl|rfl:i=0\/i=1:=by omega
 ·rw [if_neg (by omega),if_pos ⟨rfl,hc⟩]
 ·rw [if_pos ⟨rfl,hc⟩]
theorem mend_tk (L:Lk) (i c:Nat):(L.step [⟨4,0,0,[]⟩]).tk i c=L.tk i c:=by
 show (L.act ⟨4,0,0,[]⟩).2.cR.tk i c=_
 rw [tk_tick]
 unfold Lk.tk Lk.nd
 split <;> rfl
end
end

section
open Go.RowKit
section
variable {P:Program}
theorem run_copy_k {t e:TypeId} {z:Value} {size bytes:Nat} (S:SlT P t e z size bytes) (w:World) (ty:TypeId) (g o dLen dCap:Nat) (a:Addr) (sLen sCap:Nat) (cur:Array Value) (cs:List Value)
  (hg:w.heap[g]? = some (.cells cur e (0,0))) (hn:cs.length=Nat.min sLen dLen*size) (hsrc:∀j v,cs[j]? = some v->w.cell? (a.add j)=some v) (hfit:o+cs.length<=cur.size) (h1:∀v ∈ cs,v.oneCell'=true) :
  (Builtin.copy_ #[t,t] ty #[.slice (some ⟨g,o,none⟩) dLen dCap,.slice (some a) sLen sCap]).run P w=.ok (goInt (Nat.min sLen dLen)) (wOver w g cur o cs):=by
 obtain ⟨i,hi,hz,rfl,hby⟩:=S.info
 have hl:=run_loadCells_list (P:=P) w a cs hsrc
 have hst:=run_storeCells_at P g o e cs 0 cur w hg (by simpa using hfit) h1
 rw [hn] at hl
 simp only [Nat.add_zero] at hst
 simp [Builtin.copy_,run_underlying S.under,Builtin.lenOf,Builtin.firstCells,sizeOf,typeInfo,hi,hl,hst,wOver,over]
theorem wpList_copy_k {t e:TypeId} {z:Value} {size bytes:Nat} (S:SlT P t e z size bytes) {w:World} {ops:Array Oper} {rest:List Oper} {o:Oper} {a:Act} {Q:Exit->Act->World->Prop}
  (hg:o.guard=none) (d s:Operand) (hop:o.op=Op.call { callee:=Callee.builtin Builtin.copy,args := #[d,s],argTypes := #[t,t] })
  (g off dLen dCap:Nat) (ad:Addr) (sLen sCap:Nat) (hd:a.eval d=.slice (some ⟨g,off,none⟩) dLen dCap) (hs:a.eval s=.slice (some ad) sLen sCap) (cur:Array Value) (cs:List Value)
  (hrow:w.heap[g]? = some (.cells cur e (0,0))) (hn:cs.length=Nat.min sLen dLen*size) (hsrc:∀j v,cs[j]? = some v->w.cell? (ad.add j)=some v) (hfit:off+cs.length<=cur.size) (h1:∀v ∈ cs,v.oneCell'=true)
  (hK:wpList P ops Q rest (a.put o.dst (goInt (Nat.min sLen dLen))) (wOver w g cur off cs)):wpList P ops Q (o::rest) a w:=by
 refine wpList_plain hg fun K hK'=>?_
 have hrun:=run_copy_k S w o.type g off dLen dCap ad sLen sCap cur cs hrow hn hsrc hfit h1
 unfold Oper.wp execOp
 simp only [hop,resolve,invoke,builtin,Sem.run_bind,Sem.run_pure,Result.andThen_ok,List.map_toArray,List.map_cons,List.map_nil,hd,hs,hrun]
 exact hK' _ _ hK
end
end

set_option maxRecDepth 100000
section
open Go.RowKit
def EvOk (v:Wit) (sd cl:Nat) (es:List Evt):Prop:=
 es=[]\/es=[⟨1,(sd:Int),(cl:Int),lab sd cl (v.n sd cl)⟩]\/es=[⟨5,(sd:Int),0,[]⟩]\/∃k x y:Int,es=[⟨k,x,y,[]⟩]/\2<=k/\k<=4
theorem EvOk.len {v:Wit} {sd cl:Nat} {es:List Evt} (h:EvOk v sd cl es):es.length<=1:=by
 rcases h with rfl|rfl|rfl|⟨_,_,_,rfl,_⟩ <;> simp
theorem EvOk.data {v:Wit} {sd cl:Nat} {es:List Evt} (h:EvOk v sd cl es):∀e ∈ es,e.data.length<=1000000:=by
 intro e he
 rcases h with rfl|rfl|rfl|⟨_,_,_,rfl,_⟩
 ·cases he
 ·rw [List.mem_singleton.1 he];show 4<=1000000;decide
 ·rw [List.mem_singleton.1 he];exact Nat.zero_le _
 ·rw [List.mem_singleton.1 he];exact Nat.zero_le _
theorem upd_offer (v:Wit) (s c:Nat):upd2 (fun i j=>(v.n i j:Int)) s c ((v.n s c+1:Nat):Int)=fun i j=>((v.dQ s c).n i j:Int):=by
 funext i j
 show (if i=s/\j=c then _ else _)=(((if i=s/\j=c then v.n s c+1 else v.n i j):Nat):Int)
 split <;> rfl
theorem WSt.idle {s:RSet} {k R sd cl:Nat} {v:Wit} {L:Lk} {S A:Nat->Nat->Int} (h:WSt s k v L) (hk:k<=200) (hP:v.Post L R S A) (hsd:sd < 2) (hcl:cl < (L.nd sd).aV.length) {e:Evt} (he:EvOk v sd cl [e]) (hr:(L.act e).1≠0\/(e.kind≠1/\e.kind≠5)) :
  WSt s (k+1) v (L.step [e])/\v.Pre (L.step [e]) R S A:=by
 rcases he with h0|h0|h0|⟨kk,_,_,h0,h2,h4⟩
 ·cases h0
 ·obtain rfl:=(List.cons.inj h0).1
  exact (h.dQ hk hP hsd hcl).2 (hr.resolve_right fun q=>q.1 rfl)
 ·obtain rfl:=(List.cons.inj h0).1
  exact (h.restart hk hP hsd 0).2 (hr.resolve_right fun q=>q.2 rfl)
 ·obtain rfl:=(List.cons.inj h0).1
  exact h.other hk hP _ (show kk≠1 by omega) (show kk≠5 by omega)
def rowSet (A:Nat->Nat->Int) (i:Nat) (f:Nat->Int):Nat->Nat->Int:=fun i' c'=>if i'=i then f c' else A i' c'
theorem wd_num {k m:Nat} (hk:k<=40) (hm:m<=3000):200<=200+13100*k+65+13000+13256*m/\200+13100*k+65+13000+13256*m<=60000000:=by
 have:=Nat.mul_le_mul_left 13256 hm
 omega
theorem WSt.drains {s:RSet} {k R:Nat} {v:Wit} {L:Lk} (h:WSt s k v L) (hk:k<=40) (hroom:s.a.aZ.length=s.b.aZ.length) (hR:R=s.a.aZ.length):∀m,m<=3000 ->
  ∃N,200<=N/\N<=60000000/\v.Ok ((L.step [⟨4,0,0,[]⟩]).drain m) N/\((L.step [⟨4,0,0,[]⟩]).drain m).Short/\((L.step [⟨4,0,0,[]⟩]).drain m).l.prt.aZ.length=R/\((L.step [⟨4,0,0,[]⟩]).drain m).r.prt.aZ.length=R:=fun m hm=>by
 have hX:v.Ok (L.step [⟨4,0,0,[]⟩]) (200+13100*k+65+13000):=(h.ok.other ⟨4,0,0,[]⟩ (by show (4:Int)≠1;decide) (by show (4:Int)≠5;decide)).cR
 have hl:=set_len (h.kin.trans (step_kin L [⟨4,0,0,[]⟩])) hroom
 rw [<-hR] at hl
 have hS:=h.short.step h.full (by omega) [⟨4,0,0,[]⟩]
 generalize L.step [⟨4,0,0,[]⟩]=X at *
 have a:=drain_alike X m
 obtain ⟨n1,n2⟩:=wd_num hk hm
 exact ⟨_,n1,n2,hX.drain m,drain_short hX.full.full hS (by omega) hl.1 hl.2 m,by rw [a.rl];exact hl.1,by rw [a.rr];exact hl.2⟩
theorem row_next {R:Nat} (v:Wit) (i:Nat):∀i' c,i' < 2->c < R->(fun i' c=>if i' < i+1 then (v.n i' c:Int) else (v.sn i' c:Int)) i' c=rowSet (fun i' c=>if i' < i then (v.n i' c:Int) else (v.sn i' c:Int)) i (fun c=>(v.n i c:Int)) i' c:=fun i' c _ _=>by
 unfold rowSet
 dsimp only
 by_cases e:i'=i
 ·subst e;rw [if_pos (Nat.lt_succ_self _),if_pos rfl]
 ·rw [if_neg e]
  by_cases h:i' < i
  ·rw [if_pos h,if_pos (by omega)]
  ·rw [if_neg h,if_neg (by omega)]
abbrev intsV (xs:List Int):List Value:=xs.map (Value.int .i64)
section
variable {F Z:BS} {W w:World} {ts:List Th} {b R:Nat} {A:Nat->Nat->Int}
theorem els_ints {w':World} {Y:BS}:∀(ys:List Int),Els (eInt .i64) w' (fun _=>False) Y (intsV ys) ys
 |[]=>rfl
 |y::ys=>⟨[.int .i64 y],intsV ys,fun _=>False,fun _=>False,rfl,fun _ f=>f,fun _ f=>f,fun _ f=>f.elim,rfl,els_ints ys⟩
theorem dY.ints_put (h:dY F Z W ts w) (i:Nat) {v:Value} {xs:List Int} (hi:ts[i]? = some (tSq (eInt .i64) 3 v xs)) (hn:0 < xs.length) :
  ∃g off cap cur,v=.slice (some ⟨g,off,none⟩) xs.length cap/\w.heap[g]? = some (.cells cur 3 (0,0))/\off+xs.length<=cur.size/\∀ys:List Int,ys.length=xs.length->dY F Z W (ts.set i (tSq (eInt .i64) 3 v ys)) (wOver w g cur off (intsV ys)):=by
 obtain ⟨G,Y,hon⟩:=h.get i hi
 obtain ⟨K,D,us,hKD,hdj,hKs,⟨hl,⟨_,h0⟩|⟨g,off,cap,cur,rfl,hKg,hrow,h1,h2,h3,h4⟩⟩,hel⟩:=(show Sq (eInt .i64) 3 w G Y v xs from hon)
 ·omega
 ·have hE:(eInt .i64).size=1:=rfl
  rw [hE] at h3 hl h4
  have hfit:off+xs.length<=cur.size:=by omega
  refine ⟨g,off,cap,cur,rfl,hrow,hfit,fun ys hy=>?_⟩
  refine h.upd i hi fun G' Y' hon' hd'=>?_
  obtain ⟨K2,D2,us2,hKD2,hdj2,hKs2,⟨hl2,⟨h0,_⟩|⟨g2,off2,cap2,cur2,e2,hKg2,hrow2,q1,q2,q3,q4⟩⟩,hel2⟩:=(show Sq (eInt .i64) 3 w G' Y' (.slice (some ⟨g,off,none⟩) xs.length cap) xs from hon')
  ·cases h0
  ·obtain ⟨⟨rfl,rfl⟩,rfl⟩:(g=g2/\off=off2)/\cap=cap2:=by simpa using e2
   rw [hrow] at hrow2
   obtain rfl:cur=cur2:=by simpa using hrow2
   have hrl:(intsV ys).length=xs.length:=by rw [List.length_map,hy]
   have hcl:cur.toList.length=cur.size:=by simp
   refine ⟨?_,(over_fr cur off _).mono fun k hk=>by subst hk;exact hKD2 _ (.inl hKg2)⟩
   refine ⟨K2,fun _=>False,intsV ys,fun k hk=>hk.elim (fun h=>hKD2 k (.inl h)) False.elim,fun _ _ f=>f,fun k hk=>Nat.lt_of_lt_of_le (hKs2 k hk) (over_fr cur off _).size,?_,els_ints ys⟩
   rw [hy]
   refine ⟨by rw [hrl,hE];omega,.inr ⟨g,off,cap,_,rfl,hKg2,over_row hrow off _,q1,q2,?_,?_⟩⟩
   ·rw [List.size_toArray,over_length (by rw [hrl,hcl];exact hfit),hcl,hE];exact h3
   ·have:=over_same (cur:=cur.toList) (news:=intsV ys) (o:=off) (by rw [hrl,hcl];exact hfit)
    rw [hrl] at this
    rw [hE,Nat.mul_one]
    simpa using this
theorem tab_put (h:dY F Z W ts w) (j:Nat) (hj:ts[j]? = some (tTab b R A)) {i:Nat} (hi:i < 2) (hR:0 < R) :
  ∃g off cap cur,w.cell? ⟨b,i,none⟩=some (.slice (some ⟨g,off,none⟩) R cap)/\w.heap[g]? = some (.cells cur 3 (0,0))/\off+R<=cur.size/\∀f:Nat->Int,dY F Z W (ts.set j (tTab b R (rowSet A i f))) (wOver w g cur off (intsV (rowT R f))):=by
 obtain ⟨G,Y,hon,hd,_,_,hback⟩:=h.use j hj
 obtain ⟨⟨v0,v1⟩,hst⟩:=dY.opens (dY.start1 hon hd)
 have hrow:=hst.blk 0 rfl
 have back:∀ {w':World} {A':Nat->Nat->Int},dY G Y w (tabThs b R A' (v0,v1)) w'->dY F Z W (ts.set j (tTab b R A')) w':=fun {w' A'} hh=>by
  have:=hback w' _ [] (dY.shut (f:=tabThs b R A') (i:=(v0,v1)) (ts:=[]) (by simpa using hh)).did
  rwa [List.append_nil] at this
 have hl:∀f:Nat->Int,(rowT R f).length=R:=rowT_length R
 obtain rfl|rfl:i=0\/i=1:=by omega
 ·obtain ⟨g,off,cap,cur,e,q1,q2,q3⟩:=hst.ints_put 1 (xs:=rowT R (A 0)) rfl (by rw [hl];exact hR)
  have e:v0=_:=e
  subst e
  rw [hl] at q2
  refine ⟨g,off,cap,cur,(aJ hrow rfl).trans (by rw [hl];rfl),q1,q2,fun f=>back ?_⟩
  have:=q3 (rowT R f) (by rw [hl,hl])
  have e0:rowT R f=rowT R (rowSet A 0 f 0):=List.map_congr_left fun k _=>by unfold rowSet;rw [if_pos rfl]
  have e1:rowT R (A 1)=rowT R (rowSet A 0 f 1):=List.map_congr_left fun k _=>by unfold rowSet;rw [if_neg (by decide)]
  have this:dY G Y w [dJ b (.cells #[.slice (some ⟨g,off,none⟩) (rowT R (A 0)).length cap,v1] 35),tSq (eInt .i64) 3 (.slice (some ⟨g,off,none⟩) (rowT R (A 0)).length cap) (rowT R f),tSq (eInt .i64) 3 v1 (rowT R (A 1))] _:=this
  rw [e1] at this
  have hf:tSq (eInt .i64) 3 (.slice (some ⟨g,off,none⟩) (rowT R (A 0)).length cap) (rowT R f)=tSq (eInt .i64) 3 (.slice (some ⟨g,off,none⟩) (rowT R (A 0)).length cap) (rowT R (rowSet A 0 f 0)):=by rw [<-e0]
  rw [hf] at this
  exact this
 ·obtain ⟨g,off,cap,cur,e,q1,q2,q3⟩:=hst.ints_put 2 (xs:=rowT R (A 1)) rfl (by rw [hl];exact hR)
  have e:v1=_:=e
  subst e
  rw [hl] at q2
  refine ⟨g,off,cap,cur,(aJ hrow rfl).trans (by rw [hl];rfl),q1,q2,fun f=>back ?_⟩
  have:=q3 (rowT R f) (by rw [hl,hl])
  have e0:rowT R f=rowT R (rowSet A 1 f 1):=List.map_congr_left fun k _=>by unfold rowSet;rw [if_pos rfl]
  have e1:rowT R (A 0)=rowT R (rowSet A 1 f 0):=List.map_congr_left fun k _=>by unfold rowSet;rw [if_neg (by decide)]
  have this:dY G Y w [dJ b (.cells #[v0,.slice (some ⟨g,off,none⟩) (rowT R (A 1)).length cap] 35),tSq (eInt .i64) 3 v0 (rowT R (A 0)),tSq (eInt .i64) 3 (.slice (some ⟨g,off,none⟩) (rowT R (A 1)).length cap) (rowT R f)] _:=this
  rw [e1] at this
  have hf:tSq (eInt .i64) 3 (.slice (some ⟨g,off,none⟩) (rowT R (A 1)).length cap) (rowT R f)=tSq (eInt .i64) 3 (.slice (some ⟨g,off,none⟩) (rowT R (A 1)).length cap) (rowT R (rowSet A 1 f 1)):=by rw [<-e0]
  rw [hf] at this
  exact this
theorem tab_src (h:dY F Z W ts w) (j:Nat) (hj:ts[j]? = some (tTab b R A)) {i:Nat} (hi:i < 2) (hR:0 < R) :
  ∃g off cap,w.cell? ⟨b,i,none⟩=some (.slice (some ⟨g,off,none⟩) R cap)/\∀k u,(intsV (rowT R (A i)))[k]? = some u->w.cell? ((⟨g,off,none⟩:Addr).add k)=some u:=by
 obtain ⟨g,off,cap,h1,_,_,_,_⟩:=tab_at h j hj hi hR
 refine ⟨g,off,cap,h1,fun k u hk=>?_⟩
 have hkR:k < R:=by
  rcases Nat.lt_or_ge k R with h|h
  ·exact h
  ·rw [List.getElem?_eq_none (by rw [List.length_map,rowT_length];exact h)] at hk;cases hk
 rw [List.getElem?_map,rowT_get _ hkR] at hk
 obtain rfl:=Option.some.inj hk
 obtain ⟨g2,o2,c2,k1,_,k3,_,_⟩:=tab_at h j hj hi hkR
 rw [h1] at k1
 obtain ⟨⟨rfl,rfl⟩,_⟩:(g=g2/\off=o2)/\cap=c2:=by simpa using k1
 rw [show (⟨g,off,none⟩:Addr).add k=⟨g,off+k,none⟩ by simp [Addr.add]]
 exact k3
end
end

set_option maxRecDepth 100000
section
open Go.RowKit
section
variable {P:Program} {ops:Array Oper} {Q:Exit->Act->World->Prop} {md:Region.Mode} {S:World->Prop}
def lowOK (md:Region.Mode) (ops:Array Oper):Bool:=(List.range ops.size).all fun i=>match ops[i]? with|some o=>o.after.all fun e => !Region.binds md e || decide (e.on < i)|none=>true
theorem ready_all (hlow:lowOK md ops=true) {listed:Array Bool} (hsz:listed.size=ops.size) (h:Region.ready md ops listed=[]):∀j,j < ops.size->listed.getD j false=true:=by
 intro j
 induction j using Nat.strongRecOn with
 |_ j ih=>
  intro hj
  cases hl:listed.getD j false with
  |true=>rfl
  |false=>
   have hm:j ∈ Region.ready md ops listed:=mem_ready.2 ⟨by
    rw [Array.getD_eq_getD_getElem?,Array.getElem?_eq_getElem (by omega)] at hl ⊢
    exact hl,ops[j],Array.getElem?_eq_getElem hj,fun e he hb=>by
     unfold lowOK at hlow
     have:=List.all_eq_true.1 hlow j (List.mem_range.2 hj)
     rw [Array.getElem?_eq_getElem hj] at this
     have:=(Array.all_eq_true_iff_forall_mem.1 this) e he
     rw [hb] at this
     have hlt:e.on < j:=by simpa using this
     exact ih e.on hlt (by omega)⟩
   rw [h] at hm
   cases hm
theorem len_le:∀(l js:List Nat),l.Nodup->(∀j ∈ l,j ∈ js)->l.length<=js.length
 |[],_,_,_=>Nat.zero_le _
 |x::l,js,h,hs=>by
  have h1:=List.nodup_cons.1 h
  have h2:=len_le l (js.erase x) h1.2 fun j hj=>(List.mem_erase_of_ne fun e=>h1.1 (by rw [<-e];exact hj)).2 (hs j (List.mem_cons_of_mem _ hj))
  have hx:=hs x List.mem_cons_self
  rw [List.length_erase_of_mem hx] at h2
  have:=List.length_pos_of_mem hx
  rw [List.length_cons];omega
def setAll (l:List Nat) (listed:Array Bool):Array Bool:=l.foldl (fun l j=>l.setIfInBounds j true) listed
def putAll (Dst:Nat->Option Nat) (val:Nat->Value) (l:List Nat) (a:Act):Act:=l.foldl (fun a j=>a.put (Dst j) (val j)) a
def updV (val:Nat->Value) (i:Nat) (v:Value):Nat->Value:=fun j=>if j=i then v else val j
theorem setAll_size (l:List Nat):∀listed,(setAll l listed).size=listed.size:=by
 induction l with
 |nil=>intro _;rfl
 |cons x l ih=>intro listed;exact (ih _).trans (by simp)
theorem setAll_get (l:List Nat):∀(listed:Array Bool) (j:Nat) (d:Bool),(setAll l listed).getD j d=if j ∈ l/\j < listed.size then true else listed.getD j d:=by
 induction l with
 |nil=>intro listed j d;rw [if_neg (by simp)];rfl
 |cons x l ih=>
  intro listed j d
  have h0:setAll (x::l) listed=setAll l (listed.setIfInBounds x true):=rfl
  rw [h0,ih,Array.size_setIfInBounds]
  by_cases hj:j < listed.size
  ·by_cases hl:j ∈ l
   ·rw [if_pos ⟨hl,hj⟩,if_pos ⟨List.mem_cons_of_mem _ hl,hj⟩]
   ·rw [if_neg fun h=>hl h.1]
    by_cases hx:x=j
    ·subst hx
     rw [if_pos ⟨List.mem_cons_self,hj⟩,Array.getD_eq_getD_getElem?,Array.getElem?_setIfInBounds_self_of_lt hj]
     rfl
    ·rw [if_neg fun h=>by rcases List.mem_cons.1 h.1 with e|e;exact hx e.symm;exact hl e]
     rw [Array.getD_eq_getD_getElem?,Array.getD_eq_getD_getElem?,Array.getElem?_setIfInBounds_ne hx]
  ·rw [if_neg fun h=>hj h.2,if_neg fun h=>hj h.2,Array.getD_eq_getD_getElem?,Array.getD_eq_getD_getElem?,Array.getElem?_eq_none (by simp;omega),Array.getElem?_eq_none (by omega)]
theorem putAll_other (Dst:Nat->Option Nat) (val:Nat->Value) (t:Nat) (l:List Nat):∀a:Act,(∀j ∈ l,Dst j≠some t)->(putAll Dst val l a).eval (.tmp t)=a.eval (.tmp t):=by
 induction l with
 |nil=>intro _ _;rfl
 |cons x l ih=>
  intro a h
  refine (ih _ fun j hj=>h j (List.mem_cons_of_mem _ hj)).trans ?_
  show (a.put (Dst x) (val x)).eval _=_
  have hxt:=h x List.mem_cons_self
  cases hx:Dst x with
  |none=>rfl
  |some d=>exact eval_put fun e=>hxt (by rw [hx,e])
theorem putAll_at (Dst:Nat->Option Nat) (val:Nat->Value) (l:List Nat):∀a:Act,l.Nodup->(∀i ∈ l,∀j ∈ l,∀t,Dst i=some t->Dst j=some t->i=j)->∀j ∈ l,∀t,Dst j=some t->t < a.tmps.size->(putAll Dst val l a).eval (.tmp t)=val j:=by
 induction l with
 |nil=>intro _ _ _ j hj;cases hj
 |cons x l ih=>
  intro a hnd hD j hj t ht hlt
  have hsz:(a.put (Dst x) (val x)).tmps.size=a.tmps.size:=by unfold Act.put;split <;> simp
  rcases List.mem_cons.1 hj with rfl|hj
  ·refine (putAll_other Dst val t l _ fun i hi e=>?_).trans ?_
   ·have:=hD i (List.mem_cons_of_mem _ hi) j List.mem_cons_self t e ht
    subst this
    exact (List.nodup_cons.1 hnd).1 hi
   ·show (a.put (Dst j) (val j)).eval _=_
    rw [ht]
    unfold Act.put Act.eval
    dsimp only
    rw [Array.getD_eq_getD_getElem?,Array.getElem?_setIfInBounds_self_of_lt hlt]
    rfl
  ·exact ih _ (List.nodup_cons.1 hnd).2 (fun i hi j hj=>hD i (List.mem_cons_of_mem _ hi) j (List.mem_cons_of_mem _ hj)) j hj t ht (by rw [hsz];exact hlt)
theorem putAll_congr (Dst:Nat->Option Nat) {val val':Nat->Value} {l:List Nat} (h:∀j ∈ l,val j=val' j) (a:Act):putAll Dst val l a=putAll Dst val' l a:=foldl_cong fun j hj c=>by rw [h j hj]
def Stp (P:Program) (ops:Array Oper) (Q:Exit->Act->World->Prop) (md:Region.Mode) (S:World->Prop) (js:List Nat) (Dst:Nat->Option Nat) (a0:Act) (J:List Nat->(Nat->Value)->World->Prop) (i:Nat):Prop:=
 ∃o,ops[i]? = some o/\o.dst=Dst i/\∀done val w a,i ∉ done->(∀e ∈ o.after,Region.binds md e=true->e.on ∈ js->e.on ∈ done)->J done val w ->
  (∀j ∈ done,∀t,Dst j=some t->a.eval (.tmp t)=val j)->(∀t,(∀j ∈ js,Dst j≠some t)->a.eval (.tmp t)=a0.eval (.tmp t)) ->
   ∀(K:Act->World->Prop) (E:Prop),(∀v w',S w'->J (done++[i]) (updV val i v) w'->K (a.put o.dst v) w')->if Region.wanted o (yielded ops a.tmps)=true then Oper.wp P o a w K Q else E
theorem wpAnyH_inv (js:List Nat) (Dst:Nat->Option Nat) {listed0:Array Bool} {a0:Act} (J:List Nat->(Nat->Value)->World->Prop) (hlow:lowOK md ops=true) (hsz:listed0.size=ops.size) (hjs:∀j,j < ops.size->listed0.getD j false=true\/j ∈ js) (hun:∀j ∈ js,listed0.getD j true=false)
  (hD:∀i ∈ js,∀j ∈ js,∀t,Dst i=some t->Dst j=some t->i=j) (hin:∀j ∈ js,∀t,Dst j=some t->t < a0.tmps.size) (hnd:js.Nodup) (hstep:∀i ∈ js,Stp P ops Q md S js Dst a0 J i)
  (hdone:∀done val w,(∀j ∈ js,j ∈ done)->J done val w->Q .normal (putAll Dst val js a0) w) :
  ∀(fuel:Nat) (done:List Nat) (val:Nat->Value) (w:World),(∀j ∈ done,j ∈ js)->done.Nodup->fuel+done.length=js.length->J done val w->wpAnyH P md ops Q S fuel (setAll done listed0) (putAll Dst val done a0) w:=by
 have fin:∀done val w,(∀j ∈ done,j ∈ js)->done.Nodup->(∀j ∈ js,j ∈ done)->J done val w->Q .normal (putAll Dst val done a0) w:=fun done val w h1 h2 h3 hJ=>by
  have hp:done.Perm js:=(List.perm_ext_iff_of_nodup h2 hnd).2 fun j=>⟨h1 j,h3 j⟩
  have:=hdone done val w h3 hJ
  have e:putAll Dst val done a0=putAll Dst val js a0:=by
   have:∀ {l l':List Nat},l.Perm l'->(∀j ∈ l,j ∈ js)->∀b,putAll Dst val l b=putAll Dst val l' b:=by
    intro l l' hp
    induction hp with
    |nil=>intro _ b;rfl
    |cons x _ ih=>intro h b;exact ih (fun j hj=>h j (List.mem_cons_of_mem _ hj)) _
    |swap x y l=>
     intro h b
     show putAll Dst val l ((b.put (Dst y) (val y)).put (Dst x) (val x))=putAll Dst val l ((b.put (Dst x) (val x)).put (Dst y) (val y))
     by_cases hxy:x=y
     ·subst hxy;rfl
     ·rw [Act.put_comm b _ _ fun d e e'=>hxy (hD x (h x (List.mem_cons_of_mem _ List.mem_cons_self)) y (h y List.mem_cons_self) d e' e)]
    |trans p1 _ ih1 ih2=>intro h b;rw [ih1 h b,ih2 (fun j hj=>h j (p1.mem_iff.2 hj)) b]
   exact this hp h1 a0
  rw [e]
  exact this
 intro fuel
 have rdy:∀done,Region.ready md ops (setAll done listed0)=[]->∀j ∈ js,j ∈ done:=fun done h j hj=>by
  have hjl:j < ops.size:=by
   rcases Nat.lt_or_ge j ops.size with h|h
   ·exact h
   ·have:=hun j hj
    rw [Array.getD_eq_getD_getElem?,Array.getElem?_eq_none (by omega)] at this
    cases this
  have:=ready_all hlow (by rw [setAll_size];exact hsz) h j hjl
  rw [setAll_get] at this
  by_cases hd:j ∈ done/\j < listed0.size
  ·exact hd.1
  ·rw [if_neg hd] at this
   have h2:=hun j hj
   rw [Array.getD_eq_getD_getElem?,Array.getElem?_eq_getElem (by omega)] at this h2
   rw [show (some listed0[j]).getD false=(some listed0[j]).getD true from rfl,h2] at this
   cases this
 induction fuel with
 |zero=>
  intro done val w h1 h2 h3 hJ
  have hp:∀j ∈ js,j ∈ done:=fun j hj=>by
   refine Classical.byContradiction fun hn=>?_
   have:=len_le (j::done) js (List.nodup_cons.2 ⟨hn,h2⟩) fun k hk=>by rcases List.mem_cons.1 hk with rfl|h;exact hj;exact h1 k h
   rw [List.length_cons] at this
   omega
  refine ⟨?_,fin done val w h1 h2 hp hJ⟩
  refine List.eq_nil_iff_forall_not_mem.2 fun k hk=>?_
  obtain ⟨q1,o,q2,_⟩:=mem_ready.1 hk
  have hkl:k < ops.size:=(Array.getElem?_eq_some_iff.1 q2).1
  rw [setAll_get] at q1
  rcases hjs k hkl with h|h
  ·by_cases hd:k ∈ done/\k < listed0.size
   ·rw [if_pos hd] at q1;cases q1
   ·rw [if_neg hd] at q1
    rw [Array.getD_eq_getD_getElem?,Array.getElem?_eq_getElem (by omega)] at h q1
    rw [show (some listed0[k]).getD true=(some listed0[k]).getD false from rfl,h] at q1
    cases q1
  ·rw [if_pos ⟨hp k h,by omega⟩] at q1
   cases q1
 |succ fuel ih=>
  intro done val w h1 h2 h3 hJ
  refine ⟨fun h=>fin done val w h1 h2 (rdy done h) hJ,fun i hi=>?_⟩
  obtain ⟨q1,o,q2,q3⟩:=mem_ready.1 hi
  have hil:i < ops.size:=(Array.getElem?_eq_some_iff.1 q2).1
  rw [setAll_get] at q1
  have hid:i ∉ done:=fun hd=>by rw [if_pos ⟨hd,by omega⟩] at q1;cases q1
  rw [if_neg fun h=>hid h.1] at q1
  have hij:i ∈ js:=by
   rcases hjs i hil with h|h
   ·rw [Array.getD_eq_getD_getElem?,Array.getElem?_eq_getElem (by omega)] at h q1
    rw [show (some listed0[i]).getD true=(some listed0[i]).getD false from rfl,h] at q1
    cases q1
   ·exact h
  obtain ⟨o',r1,r2,r3⟩:=hstep i hij
  obtain rfl:o=o':=Option.some.inj (q2.symm.trans r1)
  refine wpOp_step q2 fun K hK=>?_
  refine r3 done val w _ hid (fun e he hb hej=>?_) hJ (fun j hj t ht=>putAll_at Dst val done a0 h2 (fun i hi j hj=>hD i (h1 i hi) j (h1 j hj)) j hj t ht (hin j (h1 j hj) t ht)) (fun t ht=>putAll_other Dst val t done a0 fun j hj=>ht j (h1 j hj)) K _ fun v w' hS' hJ'=>?_
  ·have:=q3 e he hb
   rw [setAll_get] at this
   by_cases hd:e.on ∈ done/\e.on < listed0.size
   ·exact hd.1
   ·rw [if_neg hd] at this
    have h2:=hun _ hej
    rw [Array.getD_eq_getD_getElem?] at this h2
    cases hx:listed0[e.on]? with
    |none=>rw [hx] at h2;cases h2
    |some b=>rw [hx] at this h2;rw [show (some b).getD false=(some b).getD true from rfl,h2] at this;cases this
  ·refine hK _ _ ⟨hS',?_⟩
   have:=ih (done++[i]) (updV val i v) w' (fun j hj=>by rcases List.mem_append.1 hj with h|h;exact h1 j h;rw [List.mem_singleton.1 h];exact hij) (by
    rw [List.nodup_append];exact ⟨h2,by simp,fun a ha b hb e=>by rw [List.mem_singleton.1 hb] at e;subst e;exact hid ha⟩) (by rw [List.length_append];simp;omega) hJ'
   have e1:setAll (done++[i]) listed0=(setAll done listed0).setIfInBounds i true:=by unfold setAll;rw [List.foldl_append];rfl
   have e2:putAll Dst (updV val i v) (done++[i]) a0=(putAll Dst val done a0).put o.dst v:=by
    have:putAll Dst (updV val i v) (done++[i]) a0=(putAll Dst (updV val i v) done a0).put (Dst i) (updV val i v i):=by unfold putAll;rw [List.foldl_append];rfl
    rw [this,r2,putAll_congr Dst (val':=val) (fun j hj=>by unfold updV;rw [if_neg fun e=>by subst e;exact hid hj]) a0]
    unfold updV
    rw [if_pos rfl]
   rw [e1,e2] at this
   exact this
def invOK (md:Region.Mode) (ops:Array Oper) (js:List Nat) (Dst:Nat->Option Nat) (listed0:Array Bool) (n:Nat):Bool:=
 lowOK md ops && decide (listed0.size=ops.size) && ((List.range ops.size).all fun j=>listed0.getD j false || js.contains j) && (js.all fun j => !(listed0.getD j true)) &&
 (js.all fun i=>js.all fun j=>match Dst i,Dst j with|some a,some b=>a != b || i == j|_,_=>true) && (js.all fun j=>match Dst j with|some t=>decide (t < n)|none=>true) && decide js.Nodup
theorem wpAnyH_inv0 (js:List Nat) (Dst:Nat->Option Nat) {listed0:Array Bool} {a0:Act} {w:World} (val:Nat->Value) (J:List Nat->(Nat->Value)->World->Prop) (hok:invOK md ops js Dst listed0 a0.tmps.size=true) (hJ:J [] val w) (hstep:∀i ∈ js,Stp P ops Q md S js Dst a0 J i)
  (hdone:∀done val w,(∀j ∈ js,j ∈ done)->J done val w->Q .normal (putAll Dst val js a0) w):wpAnyH P md ops Q S js.length listed0 a0 w:=by
 simp only [invOK,Bool.and_eq_true,decide_eq_true_eq] at hok
 obtain ⟨⟨⟨⟨⟨⟨h1,h2⟩,h3⟩,h4⟩,h5⟩,h6⟩,h7⟩:=hok
 refine wpAnyH_inv js Dst J h1 h2 (fun j hj=>?_) (fun j hj=>?_) (fun i hi j hj t e1 e2=>?_) (fun j hj t e=>?_) h7 hstep hdone js.length [] val w (fun _ h=>by cases h) List.nodup_nil rfl hJ
 ·have:=List.all_eq_true.1 h3 j (List.mem_range.2 hj)
  rw [Bool.or_eq_true] at this
  exact this.imp id fun h=>by simpa using h
 ·have:=List.all_eq_true.1 h4 j hj
  simpa using this
 ·have:=List.all_eq_true.1 (List.all_eq_true.1 h5 i hi) j hj
  rw [e1,e2] at this
  simpa using this
 ·have:=List.all_eq_true.1 h6 j hj
  rw [e] at this
  simpa using this
end
end

set_option maxRecDepth 100000
section
open Go.RowKit
structure Kd where
 kd:Nat->Nat
 m1:Nat->Nat
 m2:Nat->Nat
 bi:Nat->Nat
 al:Nat->Nat
 st:Nat->Nat
def bOf:Value->Nat
 |.slice (some ⟨b,_,_⟩) _ _=>b
 |.pointer (some ⟨b,_,_⟩)=>b
 |_=>0
structure JT (k:Kd) (R:Nat) (w0:World) (done:List Nat) (val:Nat->Value) (w:World):Prop where
 be:Below w0.heap.size w0 w
 mks:∀j ∈ done,k.kd j=1->∃b,val j=.slice (some ⟨b,0,none⟩) R R/\w0.heap.size<=b/\b < w.heap.size/\Sl w (fun x=>x=b) 3 1 (.slice (some ⟨b,0,none⟩) R R) R (List.replicate R (.int .i64 0))
 bd:∀j ∈ done,k.kd j=2->k.m1 j ∈ done/\k.m2 j ∈ done/\val j=.agg #[val (k.m1 j),val (k.m2 j)]
 al:∀j ∈ done,k.kd j=3->∃b,val j=.pointer (some ⟨b,0,none⟩)/\w0.heap.size<=b/\b < w.heap.size/\(k.st j ∉ done->w.heap[b]? = some (.cells #[.slice none 0 0,.slice none 0 0] 35)) /\
  (k.st j ∈ done->k.m1 j ∈ done/\k.m2 j ∈ done/\w.heap[b]? = some (.cells #[val (k.m1 j),val (k.m2 j)] 35))
 sd:∀j ∈ done,k.kd j=4->k.al j ∈ done
 inj:∀i ∈ done,∀j ∈ done,(k.kd i=1\/k.kd i=3)->(k.kd j=1\/k.kd j=3)->bOf (val i)=bOf (val j)->i=j
theorem updV_ne (val:Nat->Value) (v:Value) {i j:Nat} (h:j≠i):updV val i v j=val j:=if_neg h
theorem updV_eq (val:Nat->Value) (i:Nat) (v:Value):updV val i v i=v:=if_pos rfl
theorem JT.zero (k:Kd) (R:Nat) (w:World) (val:Nat->Value):JT k R w [] val w:=
 ⟨Below.refl _ _,fun _ h=>(by cases h),fun _ h=>(by cases h),fun _ h=>(by cases h),fun _ h=>(by cases h),fun _ h=>(by cases h)⟩
section
variable {k:Kd} {R:Nat} {w0 w w1:World} {done:List Nat} {val:Nat->Value} {i:Nat}
theorem JT.bnd (h:JT k R w0 done val w) {j:Nat} (hj:j ∈ done) (hk:k.kd j=1\/k.kd j=3):bOf (val j) < w.heap.size:=by
 rcases hk with hk|hk
 ·obtain ⟨b,e,_,hb,_⟩:=h.mks j hj hk
  rw [e];exact hb
 ·obtain ⟨b,e,_,hb,_⟩:=h.al j hj hk
  rw [e];exact hb
theorem mem_app {i j:Nat} (h:j ∈ done++[i]):j ∈ done\/j=i:=by simpa using h
theorem JT.grow (h:JT k R w0 done val w) (hi:i ∉ done) (hb:Below w.heap.size w w1) (hbe:Below w0.heap.size w0 w1) {v:Value} (h4:k.kd i≠4) (hwf:∀j,k.kd j=3->k.kd (k.st j)=4)
  (h1:k.kd i=1->∃b,v=.slice (some ⟨b,0,none⟩) R R/\w.heap.size<=b/\b < w1.heap.size/\Sl w1 (fun x=>x=b) 3 1 (.slice (some ⟨b,0,none⟩) R R) R (List.replicate R (.int .i64 0)))
  (h2:k.kd i=2->k.m1 i ∈ done/\k.m2 i ∈ done/\v=.agg #[val (k.m1 i),val (k.m2 i)])
  (h3:k.kd i=3->∃b,v=.pointer (some ⟨b,0,none⟩)/\w.heap.size<=b/\b < w1.heap.size/\w1.heap[b]? = some (.cells #[.slice none 0 0,.slice none 0 0] 35))
  (h5:k.kd i=3->k.st i ∉ done):JT k R w0 (done++[i]) (updV val i v) w1:=by
 have hne:∀ {j},j ∈ done->j≠i:=fun hj e=>hi (e ▸ hj)
 have hup:∀ {j},j ∈ done->updV val i v j=val j:=fun hj=>updV_ne val v (hne hj)
 have happ:∀ {j},j ∈ done->j ∈ done++[i]:=fun hj=>List.mem_append_left _ hj
 have hst:∀ {j},k.kd j=3->k.st j ∈ done++[i]->k.st j ∈ done:=fun {j} hk hm=>(mem_app hm).elim id fun e=>absurd (hwf j hk) (by rw [e];exact h4)
 refine ⟨hbe,fun j hj hk=>?_,fun j hj hk=>?_,fun j hj hk=>?_,fun j hj hk=>?_,fun a ha b hb' hka hkb e=>?_⟩
 ·rcases mem_app hj with hj|rfl
  ·obtain ⟨b,e,q1,q2,q3⟩:=h.mks j hj hk
   exact ⟨b,by rw [hup hj,e],q1,Nat.lt_of_lt_of_le q2 hb.size,q3.keep fun x hx hl=>hb.block x hl⟩
  ·obtain ⟨b,e,q1,q2,q3⟩:=h1 hk
   exact ⟨b,by rw [updV_eq,e],Nat.le_trans h.be.size q1,q2,q3⟩
 ·rcases mem_app hj with hj|rfl
  ·obtain ⟨q1,q2,q3⟩:=h.bd j hj hk
   exact ⟨happ q1,happ q2,by rw [hup hj,hup q1,hup q2,q3]⟩
  ·obtain ⟨q1,q2,q3⟩:=h2 hk
   exact ⟨happ q1,happ q2,by rw [updV_eq,hup q1,hup q2,q3]⟩
 ·rcases mem_app hj with hj|rfl
  ·obtain ⟨b,e,q1,q2,q3,q4⟩:=h.al j hj hk
   refine ⟨b,by rw [hup hj,e],q1,Nat.lt_of_lt_of_le q2 hb.size,fun hn=>(hb.block b q2).trans (q3 fun hm=>hn (happ hm)),fun hm=>?_⟩
   obtain ⟨r1,r2,r3⟩:=q4 (hst hk hm)
   exact ⟨happ r1,happ r2,by rw [hup r1,hup r2];exact (hb.block b q2).trans r3⟩
  ·obtain ⟨b,e,q1,q2,q3⟩:=h3 hk
   exact ⟨b,by rw [updV_eq,e],Nat.le_trans h.be.size q1,q2,fun _=>q3,fun hm=>absurd (hst hk hm) (h5 hk)⟩
 ·rcases mem_app hj with hj|rfl
  ·exact happ (h.sd j hj hk)
  ·exact absurd hk h4
 ·have hnew:(k.kd i=1\/k.kd i=3)->w.heap.size<=bOf v:=fun hk=>by
   rcases hk with hk|hk
   ·obtain ⟨b,e,q1,_⟩:=h1 hk
    rw [e];exact q1
   ·obtain ⟨b,e,q1,_⟩:=h3 hk
    rw [e];exact q1
  rcases mem_app ha with ka|ka
  ·rcases mem_app hb' with kb|kb
   ·rw [hup ka,hup kb] at e
    exact h.inj a ka b kb hka hkb e
   ·rw [kb] at e hkb
    rw [hup ka,updV_eq] at e
    have:=h.bnd ka hka
    have:=hnew hkb
    omega
  ·rcases mem_app hb' with kb|kb
   ·rw [ka] at e hka
    rw [hup kb,updV_eq] at e
    have:=h.bnd kb hkb
    have:=hnew hka
    omega
   ·rw [ka,kb]
theorem sts2 {w:World} {s:Nat} {a b:Value} {T:TypeId} (h:w.heap[s]? = some (.cells #[a,b] T)) (x y:Value):((w.setCell ⟨s,0,none⟩ x).setCell ⟨s,1,none⟩ y).heap[s]? = some (.cells #[x,y] T):=by (apply aS;focus (with_reducible (repeat (first|exact h|apply aU|apply aP|apply aF))));rfl
theorem sts2_other {w:World} {s k:Nat} (hk:k≠s) (x y:Value):((w.setCell ⟨s,0,none⟩ x).setCell ⟨s,1,none⟩ y).heap[k]? = w.heap[k]?:=(Below.heap_setCell _ _ _ _ hk).trans (Below.heap_setCell _ _ _ _ hk)
theorem JT.store (h:JT k R w0 done val w) (hi:i ∉ done) (hk:k.kd i=4) (hal:k.al i ∈ done) (hk3:k.kd (k.al i)=3) (hst:k.st (k.al i)=i) (hwf:∀j,k.kd j=3->k.kd (k.st j)=4/\k.al (k.st j)=j) (h1:k.m1 (k.al i) ∈ done) (h2:k.m2 (k.al i) ∈ done) {b:Nat} (hb:val (k.al i)=.pointer (some ⟨b,0,none⟩)) (v:Value) :
  w.heap[b]? = some (.cells #[.slice none 0 0,.slice none 0 0] 35)/\JT k R w0 (done++[i]) (updV val i v) ((w.setCell ⟨b,0,none⟩ (val (k.m1 (k.al i)))).setCell ⟨b,1,none⟩ (val (k.m2 (k.al i)))):=by
 have hne:∀ {j},j ∈ done->j≠i:=fun hj e=>hi (e ▸ hj)
 have hup:∀ {j},j ∈ done->updV val i v j=val j:=fun hj=>updV_ne val v (hne hj)
 have happ:∀ {j},j ∈ done->j ∈ done++[i]:=fun hj=>List.mem_append_left _ hj
 obtain ⟨b',e',q1,q2,q3,_⟩:=h.al _ hal hk3
 obtain rfl:b=b':=by rw [hb] at e';injection e' with e';injection e' with e';injection e'
 have hrow:=q3 (by rw [hst];exact hi)
 have hoth:∀ {j},j ∈ done->(k.kd j=1\/k.kd j=3)->j≠k.al i->bOf (val j)≠b:=fun {j} hj hkj hn e=>hn (h.inj j hj _ hal hkj (.inr hk3) (by rw [hb];exact e))
 refine ⟨hrow,⟨Below.setCell (Below.setCell h.be q1 _) q1 _,fun j hj hkj=>?_,fun j hj hkj=>?_,fun j hj hkj=>?_,fun j hj hkj=>?_,fun a ha c hc hka hkc e=>?_⟩⟩
 ·rcases mem_app hj with hj|rfl
  ·obtain ⟨c,e,r1,r2,r3⟩:=h.mks j hj hkj
   have hcb:c≠b:=by have:=hoth hj (.inl hkj) (fun e=>by rw [e] at hkj;omega);rw [e] at this;exact this
   exact ⟨c,by rw [hup hj,e],r1,by simpa using r2,r3.keep fun x hx _=>sts2_other (by rw [show x=c from hx];exact hcb) _ _⟩
  ·omega
 ·rcases mem_app hj with hj|rfl
  ·obtain ⟨q1,q2,q3⟩:=h.bd j hj hkj
   exact ⟨happ q1,happ q2,by rw [hup hj,hup q1,hup q2,q3]⟩
  ·omega
 ·rcases mem_app hj with hj|rfl
  ·by_cases hja:j=k.al i
   ·subst hja
    refine ⟨b,by rw [hup hj,hb],q1,by simpa using q2,fun hn=>absurd (by rw [hst];simp) hn,fun _=>⟨happ h1,happ h2,by rw [hup h1,hup h2];exact sts2 hrow _ _⟩⟩
   ·obtain ⟨c,e,r1,r2,r3,r4⟩:=h.al j hj hkj
    have hcb:c≠b:=by have:=hoth hj (.inr hkj) hja;rw [e] at this;exact this
    have hsj:k.st j≠i:=fun e=>hja (by have:=(hwf j hkj).2;rw [e] at this;exact this.symm)
    refine ⟨c,by rw [hup hj,e],r1,by simpa using r2,fun hn=>(sts2_other hcb _ _).trans (r3 fun hm=>hn (happ hm)),fun hm=>?_⟩
    obtain ⟨s1,s2,s3⟩:=r4 ((mem_app hm).elim id fun e=>absurd e hsj)
    exact ⟨happ s1,happ s2,by rw [hup s1,hup s2];exact (sts2_other hcb _ _).trans s3⟩
  ·omega
 ·rcases mem_app hj with hj|rfl
  ·exact happ (h.sd j hj hkj)
  ·exact happ hal
 ·rcases mem_app ha with ka|ka
  ·rcases mem_app hc with kc|kc
   ·rw [hup ka,hup kc] at e
    exact h.inj a ka c kc hka hkc e
   ·rw [kc] at hkc;omega
  ·rw [ka] at hka;omega
end
section
variable {ops:Array Oper} {Q:Exit->Act->World->Prop} {md:Region.Mode} {S:World->Prop} {js:List Nat} {Dst:Nat->Option Nat} {a0:Act} {k:Kd} {R:Nat} {w0:World} {i:Nat}
theorem edge_of {o:Oper} {n:Nat} (h:(o.after.any fun e=>Region.binds md e && e.on == n)=true):∃e ∈ o.after,Region.binds md e=true/\e.on=n:=by
 obtain ⟨i,hi,he⟩:=Array.any_eq_true.1 h
 rw [Bool.and_eq_true,beq_iff_eq] at he
 exact ⟨_,Array.getElem_mem hi,he.1,he.2⟩
theorem stp_make (hS:∀w',Below w0.heap.size w0 w'->S w') (hwf:∀j,k.kd j=3->k.kd (k.st j)=4/\k.al (k.st j)=j) {o:Oper} (x:Nat) (h1:ops[i]? = some o) (h2:o.guard=none) (h3:o.dst=Dst i) (h4:o.op=Op.makeSlice 22 (.tmp x) (.tmp x)) (h5:∀j ∈ js,Dst j≠some x) (h6:a0.eval (.tmp x)=.int .i64 (R:Int)) (hR:R<=4) (hk:k.kd i=1) :
  Stp Tryz.prog ops Q md S js Dst a0 (JT k R w0) i:=by
 refine ⟨o,h1,h3,fun done val w a hi _ hJ _ hev K E hK=>?_⟩
 have h6':a.eval (.tmp x)=.int .i64 (R:Int):=(hev x h5).trans h6
 have h7:=slInt
 obtain ⟨u,hu,hz,hsz,hby⟩:=h7.info
 obtain ⟨w1,hrun,hown,hgr⟩:=run_make_full (P:=Tryz.prog) (w:=w) w.heap.size _ _ u _ 1 h7.under hu hz hsz .i64 .i64 R (by rw [hby];omega) (by unfold maxLen;omega) (Nat.le_refl _)
 have hb1:Below w.heap.size w w1:=(Below.refl w.heap.size w).grown hgr (Nat.le_refl _) (fun k e=>by cases e)
 rw [show (Value.int .i64 0).cells = #[.int .i64 0] from rfl,Nat.mul_one,toList_madeCells_one] at hown
 have hsl:Sl w1 (fun k=>k=w.heap.size) 3 1 (.slice (some ⟨w.heap.size,0,none⟩) R R) R (List.replicate R (.int .i64 0)):=by
  obtain ⟨hl,⟨h,_⟩|⟨g,cap,cur,e,hb,hg,h10,h11,h12,h13⟩⟩:=hown
  ·cases h
  ·obtain ⟨rfl,rfl⟩:w.heap.size=g/\R=cap:=by simpa using e
   exact ⟨hl,.inr ⟨_,0,_,cur,rfl,rfl,hg,h10,h11,by omega,by simpa using h13⟩⟩
 have hkl:w.heap.size < w1.heap.size:=by
  obtain ⟨_,⟨h,_⟩|⟨g,off,cap,cur,e,rfl,hg,_⟩⟩:=hsl
  ·cases h
  ·exact lt_of_block hg
 have hbe:Below w0.heap.size w0 w1:=hJ.be.trans (hb1.mono hJ.be.size)
 refine step_val (v:=.slice (some ⟨w.heap.size,0,none⟩) R R) (w':=w1) (by simp [Region.wanted,h2]) (by simp [execOp,h4,h6',hrun,Result.andThen]) ?_
 exact hK _ _ (hS _ hbe) (hJ.grow hi hb1 hbe (by omega) (fun j h=>(hwf j h).1) (fun _=>⟨_,rfl,Nat.le_refl _,hkl,hsl⟩) (fun h=>by omega) (fun h=>by omega) (fun h=>by omega))
theorem run_build2 {a:Act} {o:Oper} {x y b1 b2 R:Nat} (h4:o.op=Op.build 35 #[(0,.tmp x),(1,.tmp y)]) (v1:a.eval (.tmp x)=.slice (some ⟨b1,0,none⟩) R R) (v2:a.eval (.tmp y)=.slice (some ⟨b2,0,none⟩) R R) (w:World) :
  (execOp a.eval o).run Tryz.prog w=.ok (.value (.agg #[.slice (some ⟨b1,0,none⟩) R R,.slice (some ⟨b2,0,none⟩) R R])) w:=by
 obtain ⟨d,op,ty,pos,af,g⟩:=o
 dsimp only at h4
 subst h4
 unfold Act.eval at v1 v2
 dsimp only at v1 v2
 rw [Array.getD_eq_getD_getElem?] at v1 v2
 simp only [execOp]
 go_simp
theorem stp_build (hS:∀w',Below w0.heap.size w0 w'->S w') (hwf:∀j,k.kd j=3->k.kd (k.st j)=4/\k.al (k.st j)=j) {o:Oper} (x y:Nat) (h1:ops[i]? = some o) (h2:o.guard=none) (h3:o.dst=Dst i) (h4:o.op=Op.build 35 #[(0,.tmp x),(1,.tmp y)]) (h5:Dst (k.m1 i)=some x) (h6:Dst (k.m2 i)=some y)
  (h7:k.m1 i ∈ js) (h8:k.m2 i ∈ js) (h9:(o.after.any fun e=>Region.binds md e && e.on == k.m1 i)=true) (h10:(o.after.any fun e=>Region.binds md e && e.on == k.m2 i)=true) (hk:k.kd i=2) (hn1:k.kd (k.m1 i)=1) (hn2:k.kd (k.m2 i)=1) :
  Stp Tryz.prog ops Q md S js Dst a0 (JT k R w0) i:=by
 refine ⟨o,h1,h3,fun done val w a hi haf hJ hev _ K E hK=>?_⟩
 obtain ⟨e1,he1,hb1,ho1⟩:=edge_of h9
 obtain ⟨e2,he2,hb2,ho2⟩:=edge_of h10
 have d1:k.m1 i ∈ done:=ho1 ▸ haf e1 he1 hb1 (ho1 ▸ h7)
 have d2:k.m2 i ∈ done:=ho2 ▸ haf e2 he2 hb2 (ho2 ▸ h8)
 have v1:=hev _ d1 _ h5
 have v2:=hev _ d2 _ h6
 obtain ⟨c1,f1,_⟩:=hJ.mks _ d1 hn1
 obtain ⟨c2,f2,_⟩:=hJ.mks _ d2 hn2
 rw [f1] at v1
 rw [f2] at v2
 refine step_val (v:=.agg #[val (k.m1 i),val (k.m2 i)]) (w':=w) (by simp [Region.wanted,h2]) (by rw [f1,f2];exact run_build2 h4 v1 v2 w) ?_
 exact hK _ _ (hS _ hJ.be) (hJ.grow hi (Below.refl _ _) hJ.be (by omega) (fun j h=>(hwf j h).1) (fun h=>by omega) (fun _=>⟨d1,d2,rfl⟩) (fun h=>by omega) (fun h=>by omega))
theorem stp_alloc (hS:∀w',Below w0.heap.size w0 w'->S w') (hwf:∀j,k.kd j=3->k.kd (k.st j)=4/\k.al (k.st j)=j) {o:Oper} (h1:ops[i]? = some o) (h2:o.guard=none) (h3:o.dst=Dst i) (h4:o.op=Op.alloc 35) (hk:k.kd i=3) :
  Stp Tryz.prog ops Q md S js Dst a0 (JT k R w0) i:=by
 refine ⟨o,h1,h3,fun done val w a hi haf hJ hev _ K E hK=>?_⟩
 have hb1:=aK w (.cells #[.slice none 0 0,.slice none 0 0] 35)
 have hbe:=hJ.be.trans (hb1.mono hJ.be.size)
 refine step_val (v:=.pointer (some ⟨w.heap.size,0,none⟩)) (w':=w.alloc (.cells #[.slice none 0 0,.slice none 0 0] 35)) (by simp [Region.wanted,h2]) (by simp only [execOp,h4];kernel_rfl) ?_
 exact hK _ _ (hS _ hbe) (hJ.grow hi hb1 hbe (by omega) (fun j h=>(hwf j h).1) (fun h=>by omega) (fun h=>by omega) (fun _=>⟨_,rfl,Nat.le_refl _,by simp,heap_alloc_new w _⟩) (fun h hm=>hi (by have:=hJ.sd _ hm (hwf i h).1;rwa [(hwf i h).2] at this)))
theorem stp_store (hS:∀w',Below w0.heap.size w0 w'->S w') (hwf:∀j,k.kd j=3->k.kd (k.st j)=4/\k.al (k.st j)=j) {o:Oper} (x y:Nat) (h1:ops[i]? = some o) (h2:o.guard=none) (h3:o.dst=none) (h3':Dst i=none) (h4:o.op=Op.store 35 (.tmp x) (.tmp y)) (h5:Dst (k.al i)=some x) (h6:Dst (k.bi i)=some y)
  (h7:k.al i ∈ js) (h8:k.bi i ∈ js) (h9:(o.after.any fun e=>Region.binds md e && e.on == k.al i)=true) (h10:(o.after.any fun e=>Region.binds md e && e.on == k.bi i)=true) (hk:k.kd i=4) (hk3:k.kd (k.al i)=3) (hk2:k.kd (k.bi i)=2) (hst:k.st (k.al i)=i) (hm1:k.m1 (k.bi i)=k.m1 (k.al i)) (hm2:k.m2 (k.bi i)=k.m2 (k.al i)) (hn1:k.kd (k.m1 (k.al i))=1) (hn2:k.kd (k.m2 (k.al i))=1) :
  Stp Tryz.prog ops Q md S js Dst a0 (JT k R w0) i:=by
 refine ⟨o,h1,by rw [h3,h3'],fun done val w a hi haf hJ hev _ K E hK=>?_⟩
 obtain ⟨e1,he1,hb1,ho1⟩:=edge_of h9
 obtain ⟨e2,he2,hb2,ho2⟩:=edge_of h10
 have d1:k.al i ∈ done:=ho1 ▸ haf e1 he1 hb1 (ho1 ▸ h7)
 have d2:k.bi i ∈ done:=ho2 ▸ haf e2 he2 hb2 (ho2 ▸ h8)
 have v1:=hev _ d1 _ h5
 have v2:=hev _ d2 _ h6
 obtain ⟨b,hb,_⟩:=hJ.al _ d1 hk3
 obtain ⟨q1,q2,q3⟩:=hJ.bd _ d2 hk2
 rw [hm1] at q1 q3
 rw [hm2] at q2 q3
 obtain ⟨c1,f1,_⟩:=hJ.mks _ q1 hn1
 obtain ⟨c2,f2,_⟩:=hJ.mks _ q2 hn2
 obtain ⟨hrow,hJ2⟩:=hJ.store hi hk d1 hk3 hst hwf q1 q2 hb undef
 rw [hb] at v1
 rw [q3,f1,f2] at v2
 rw [f1,f2] at hJ2
 have h:=hK _ _ (hS _ hJ2.be) hJ2
 clear hK hJ hJ2 haf hev
 obtain ⟨d,op,ty,pos,af,g⟩:=o
 dsimp only at h2 h3 h4
 subst h2;subst h3;subst h4
 rw [if_pos (by simp [Region.wanted])]
 have b0:=aJ (i:=0) hrow rfl
 have b1:=aJ (i:=1) hrow rfl
 have bf:=fun i=>aD hrow i
 have hlt:=lt_of_block hrow
 clear hrow
 unfold Oper.wp
 simp only [execOp,v1,v2]
 go_simp
 exact h
end
end

set_option maxRecDepth 100000
section
open Go.RowKit
theorem valid_long {inc wi ti de:Int} {n:Nat} {ra:Option Addr} {rc:Nat} (w:World) (hl:4 < n) :
  Calls Tryz.prog 83 #[cfgV inc ra n rc wi ti de] w fun e w'=>e=.returned (.bool false)/\Below w.heap.size w w':=by
 go_enter Tryz.func83,Tryz.ntmps83
 go_wp2_with fail
 go_ret
 exact ⟨rfl,by (with_reducible (repeat (first|exact Below.refl _ _|refine Bw.alloc ?_ _|refine Bw.drewN ?_ _|refine Bw.drew ?_)))⟩
theorem pnew_long {inc wi ti de:Int} {n:Nat} {ra:Option Addr} {rc:Nat} (w:World) (hl:4 < n) :
  Calls Tryz.prog 43 #[cfgV inc ra n rc wi ti de] w fun e w'=>e=.returned (.tuple #[.pointer none,.int .i64 2])/\Below w.heap.size w w':=by
 have hb0:=aK w (.cells #[.int .i64 inc,.slice ra n rc,.int .i64 wi,.int .i64 ti,.int .i64 de] 24)
 have HQ:=aQ (valid_long (inc:=inc) (wi:=wi) (ti:=ti) (de:=de) (ra:=ra) (rc:=rc) (w.alloc (.cells #[.int .i64 inc,.slice ra n rc,.int .i64 wi,.int .i64 ti,.int .i64 de] 24)) hl)
 have HB0:=aQ hb0
 clear hb0
 go_enter Tryz.func43,Tryz.ntmps43
 go_wp2_with fail
 refine HQ.out.mono ?_
 rintro e w' ⟨rfl,hb⟩
 have HB:=aQ (HB0.out.trans (hb.mono HB0.out.size))
 clear hb
 go_wp2_with fail
 go_ret2
 exact ⟨rfl,HB.out⟩
theorem newL_longA {w:World} (a b:RCfg) (hal:4 < a.aZ.length) (aa ba ta ya:Option Addr) (ak bk n1 c1 n2 c2:Nat) (cB:Int) :
  Calls Tryz.prog 10 #[cfgV a.inc aa a.aZ.length ak a.w a.t a.d,cfgV b.inc ba b.aZ.length bk b.w b.t b.d,.int .i64 cB,.slice ta n1 c1,.slice ya n2 c2] w fun e w'=>e=.returned (.tuple #[.pointer none,.int .i64 2])/\Below w.heap.size w w':=by
 have HAL:=aQ hal
 clear hal
 go_enter Tryz.func10,Tryz.ntmps10
 go_wp2_with fail
 go_loopw [27] (fun i wr=>i=.int .i64 0/\Hid (Below w.heap.size w wr)) (fun _ _=>1)
 case atStart=>exact ⟨rfl,aQ (by (with_reducible (repeat (first|exact Below.refl _ _|refine Bw.alloc ?_ _|refine Bw.drewN ?_ _|refine Bw.drew ?_))))⟩
 case round=>
  obtain ⟨rfl,HB⟩:=hrel
  have hix0:=run_idxC0 a.inc 0 aa a.aZ.length ak a.w a.t a.d b.inc ba b.aZ.length bk b.w b.t b.d
  have hba:=aK wr (rawRow a aa ak)
  have HB1:=aQ (HB.out.trans (hba.mono HB.out.size))
  have HP:=aQ (pnew_long (inc:=a.inc) (wi:=a.w) (ti:=a.t) (de:=a.d) (ra:=aa) (rc:=ak) (wr.alloc (rawRow a aa ak)) HAL.out)
  clear hba
  go_wp2_with fail
  refine HP.out.mono ?_
  rintro e w2 ⟨rfl,hb⟩
  have HB2:=aQ (HB1.out.trans (hb.mono HB1.out.size))
  clear hb
  go_wp2_with fail
  go_ret2
  exact ⟨rfl,HB2.out⟩
def kd9:Kd:=⟨fun j=>if j=1\/j=3\/j=6\/j=8\/j=11\/j=13 then 1 else if j=4\/j=9\/j=14 then 2 else if 15<=j/\j<=17 then 3 else if 18<=j/\j<=20 then 4 else 0,
 fun j=>if j<=14 then j - 3 else (j - 15)*5+1,fun j=>if j<=14 then j - 1 else (j - 15)*5+3,fun j=>(j - 18)*5+4,fun j=>j - 3,fun j=>j+3⟩
def kd10:Kd:=⟨fun j=>if j=1\/j=3 then 1 else if j=4 then 2 else if j=5 then 3 else if j=6 then 4 else 0,fun _=>1,fun _=>3,fun _=>4,fun _=>5,fun _=>6⟩
theorem kd9_wf:∀j,kd9.kd j=3->kd9.kd (kd9.st j)=4/\kd9.al (kd9.st j)=j:=fun j h=>by
 have h15:15<=j/\j<=17:=by
  simp only [kd9] at h
  by_cases q:15<=j/\j<=17
  ·exact q
  ·rw [if_neg q] at h
   split at h
   ·cases h
   ·split at h
    ·cases h
    ·split at h <;> cases h
 obtain ⟨a,b⟩:=h15
 obtain rfl|rfl|rfl:j=15\/j=16\/j=17:=by omega
 all_goals exact ⟨rfl,rfl⟩
theorem kd10_wf:∀j,kd10.kd j=3->kd10.kd (kd10.st j)=4/\kd10.al (kd10.st j)=j:=fun j h=>by
 have h5:j=5:=by
  simp only [kd10] at h
  by_cases q:j=5
  ·exact q
  ·rw [if_neg q] at h
   split at h
   ·cases h
   ·split at h
    ·cases h
    ·split at h <;> cases h
 subst h5
 exact ⟨rfl,rfl⟩
abbrev js9:List Nat:=[1,3,6,8,11,13,4,9,14,15,16,17,18,19,20]
abbrev js10:List Nat:=[1,3,4,5,6]
def dst9:Nat->Option Nat
 |1=>some 64 | 3=>some 66 | 4=>some 67 | 6=>some 69 | 8=>some 71 | 9=>some 72 | 11=>some 74 | 13=>some 76 | 14=>some 77 | 15=>some 8 | 16=>some 9 | 17=>some 10|_=>none
def dst10:Nat->Option Nat
 |1=>some 79 | 3=>some 81 | 4=>some 82 | 5=>some 11|_=>none
theorem putAll9 (val:Nat->Value) (a:Act):putAll dst9 val js9 a=(((((((((((a.put (some 64) (val 1)).put (some 66) (val 3)).put (some 69) (val 6)).put (some 71) (val 8)).put (some 74) (val 11)).put (some 76) (val 13)).put (some 67) (val 4)).put (some 72) (val 9)).put (some 77) (val 14)).put (some 8) (val 15)).put (some 9) (val 16)).put (some 10) (val 17):=rfl
theorem putAll10 (val:Nat->Value) (a:Act):putAll dst10 val js10 a=(((a.put (some 79) (val 1)).put (some 81) (val 3)).put (some 82) (val 4)).put (some 11) (val 5):=rfl
theorem rowT_zero (R:Nat):rowT R (fun _=>0)=List.replicate R 0:=by unfold rowT;rw [List.map_const',List.length_range]
section
variable {F Z:BS} {W w0 w:World} {ts:List Th} {R:Nat} {done:List Nat} {val:Nat->Value}
theorem zero_row {b:Nat} (hl:b < w.heap.size) (h:Sl w (fun x=>x=b) 3 1 (.slice (some ⟨b,0,none⟩) R R) R (List.replicate R (.int .i64 0))):(tSq (eInt .i64) 3 (.slice (some ⟨b,0,none⟩) R R) (rowT R (fun _=>0))).on w (fun k=>k=b) (fun _=>False):=by
 rw [rowT_zero]
 exact sq_zero rfl (fun _ _=>rfl) h hl
theorem dY.rot:∀(rest ts:List Th),dY F Z W (ts++rest) w->dY F Z W (rest++ts) w
 |[],ts,h=>by rwa [List.append_nil] at h
 |x::r,ts,h=>by
  have h1:=dY.rot r (ts++[x]) (by rw [List.append_assoc];exact h)
  rw [<-List.append_assoc] at h1
  exact h1.front
theorem arr_blk {b:Nat} {v1 v2:Value} (h:w.heap[b]? = some (.cells #[v1,v2] 35)):(dJ b (.cells #[v1,v2] 35)).on w (fun k=>k=b) (fun _=>False):=⟨h,rfl⟩
section
variable {k:Kd}
theorem JT.mk' (h:JT k R w0 done val w) {j:Nat} (hj:j ∈ done) (hk:k.kd j=1):val j=.slice (some ⟨bOf (val j),0,none⟩) R R/\w0.heap.size<=bOf (val j)/\(tSq (eInt .i64) 3 (.slice (some ⟨bOf (val j),0,none⟩) R R) (rowT R (fun _=>0))).on w (fun k=>k=bOf (val j)) (fun _=>False):=by
 obtain ⟨b,e,q1,q2,q3⟩:=h.mks j hj hk
 rw [e]
 exact ⟨rfl,q1,zero_row q2 q3⟩
theorem JT.al' (h:JT k R w0 done val w) {j:Nat} (hj:j ∈ done) (hk:k.kd j=3) (hs:k.st j ∈ done) (h1:k.kd (k.m1 j)=1) (h2:k.kd (k.m2 j)=1):val j=.pointer (some ⟨bOf (val j),0,none⟩)/\w0.heap.size<=bOf (val j) /\
  (dJ (bOf (val j)) (.cells #[.slice (some ⟨bOf (val (k.m1 j)),0,none⟩) R R,.slice (some ⟨bOf (val (k.m2 j)),0,none⟩) R R] 35)).on w (fun k=>k=bOf (val j)) (fun _=>False):=by
 obtain ⟨b,e,q1,q2,_,q3⟩:=h.al j hj hk
 obtain ⟨r1,r2,r3⟩:=q3 hs
 rw [(h.mk' r1 h1).1,(h.mk' r2 h2).1] at r3
 rw [e]
 exact ⟨rfl,q1,arr_blk r3⟩
end
theorem JT.held10 (h0:dY (fun _=>False) Z W ts w0) (h:JT kd10 R w0 done val w) (hall:∀j ∈ js10,j ∈ done):val 5=.pointer (some ⟨bOf (val 5),0,none⟩)/\dY (fun _=>False) Z W (tTab (bOf (val 5)) R (fun _ _=>0)::ts) w:=by
 have hi:∀j ∈ [5,1,3],j ∈ done:=fun j hj=>hall j (by revert j hj;decide)
 have hnd:([5,1,3].map fun j=>bOf (val j)).Nodup:=by
  rw [List.Nodup,List.pairwise_map]
  have hkk:∀j ∈ [5,1,3],kd10.kd j=1\/kd10.kd j=3:=by decide
  exact (show ([5,1,3]:List Nat).Nodup by decide).imp_of_mem fun {i j} hi' hj hne e=>hne (h.inj i (hi i hi') j (hi j hj) (hkk i hi') (hkk j hj) e)
 obtain ⟨a1,a2,a3⟩:=h.al' (j:=5) (hi 5 (by decide)) rfl (hall 6 (by decide)) rfl rfl
 obtain ⟨b1,b2,b3⟩:=h.mk' (j:=1) (hi 1 (by decide)) rfl
 obtain ⟨c1,c2,c3⟩:=h.mk' (j:=3) (hi 3 (by decide)) rfl
 have hstar:=star_of (w:=w) (Z:=fun _=>False) [(bOf (val 5),dJ (bOf (val 5)) (.cells #[.slice (some ⟨bOf (val 1),0,none⟩) R R,.slice (some ⟨bOf (val 3),0,none⟩) R R] 35)),(bOf (val 1),tSq (eInt .i64) 3 (.slice (some ⟨bOf (val 1),0,none⟩) R R) (rowT R (fun _=>0))),(bOf (val 3),tSq (eInt .i64) 3 (.slice (some ⟨bOf (val 3),0,none⟩) R R) (rowT R (fun _=>0)))] hnd (fun x hx=>by
  simp only [List.mem_cons,List.not_mem_nil,or_false] at hx
  rcases hx with rfl|rfl|rfl
  ·exact a3
  ·exact b3
  ·exact c3)
 refine ⟨a1,?_⟩
 have h5:=h0.adds (rest:=[dJ (bOf (val 5)) (.cells #[.slice (some ⟨bOf (val 1),0,none⟩) R R,.slice (some ⟨bOf (val 3),0,none⟩) R R] 35),tSq (eInt .i64) 3 (.slice (some ⟨bOf (val 1),0,none⟩) R R) (rowT R (fun _=>0)),tSq (eInt .i64) 3 (.slice (some ⟨bOf (val 3),0,none⟩) R R) (rowT R (fun _=>0))])
  (Did.news (Z:=fun k=>k < W.heap.size/\Z k/\¬False) h.be (hstar.mono (fun k hk=>by
   obtain ⟨x,hx,rfl⟩:=List.mem_map.1 hk
   simp only [List.mem_cons,List.not_mem_nil,or_false] at hx
   rcases hx with rfl|rfl|rfl
   ·exact a2
   ·exact b2
   ·exact c2) fun _ f=>f.elim) fun k h=>Nat.lt_of_lt_of_le h.1 h0.below.size)
 exact dY.tab_mk (dY.rot _ _ h5)
theorem JT.held9 (h0:dY (fun _=>False) Z W ts w0) (h:JT kd9 R w0 done val w) (hall:∀j ∈ js9,j ∈ done):val 15=.pointer (some ⟨bOf (val 15),0,none⟩)/\val 16=.pointer (some ⟨bOf (val 16),0,none⟩)/\val 17=.pointer (some ⟨bOf (val 17),0,none⟩) /\
  dY (fun _=>False) Z W (tTab (bOf (val 15)) R (fun _ _=>0)::tTab (bOf (val 16)) R (fun _ _=>0)::tTab (bOf (val 17)) R (fun _ _=>0)::ts) w:=by
 have hi:∀j ∈ [15,1,3,16,6,8,17,11,13],j ∈ done:=fun j hj=>hall j (by revert j hj;decide)
 have hnd:([15,1,3,16,6,8,17,11,13].map fun j=>bOf (val j)).Nodup:=by
  rw [List.Nodup,List.pairwise_map]
  have hkk:∀j ∈ [15,1,3,16,6,8,17,11,13],kd9.kd j=1\/kd9.kd j=3:=by decide
  exact (show ([15,1,3,16,6,8,17,11,13]:List Nat).Nodup by decide).imp_of_mem fun {i j} hi' hj hne e=>hne (h.inj i (hi i hi') j (hi j hj) (hkk i hi') (hkk j hj) e)
 have mk:∀j ∈ [1,3,6,8,11,13],_:=fun j hj=>h.mk' (j:=j) (hi j (by revert j hj;decide)) (by revert j hj;decide)
 have al:∀j ∈ [15,16,17],_:=fun j hj=>h.al' (j:=j) (hi j (by revert j hj;decide)) (by revert j hj;decide) (hall _ (by revert j hj;decide)) (by revert j hj;decide) (by revert j hj;decide)
 have hstar:=star_of (w:=w) (Z:=fun _=>False) [(bOf (val 15),dJ (bOf (val 15)) (.cells #[.slice (some ⟨bOf (val 1),0,none⟩) R R,.slice (some ⟨bOf (val 3),0,none⟩) R R] 35)),(bOf (val 1),tSq (eInt .i64) 3 (.slice (some ⟨bOf (val 1),0,none⟩) R R) (rowT R (fun _=>0))),(bOf (val 3),tSq (eInt .i64) 3 (.slice (some ⟨bOf (val 3),0,none⟩) R R) (rowT R (fun _=>0))),
   (bOf (val 16),dJ (bOf (val 16)) (.cells #[.slice (some ⟨bOf (val 6),0,none⟩) R R,.slice (some ⟨bOf (val 8),0,none⟩) R R] 35)),(bOf (val 6),tSq (eInt .i64) 3 (.slice (some ⟨bOf (val 6),0,none⟩) R R) (rowT R (fun _=>0))),(bOf (val 8),tSq (eInt .i64) 3 (.slice (some ⟨bOf (val 8),0,none⟩) R R) (rowT R (fun _=>0))),
   (bOf (val 17),dJ (bOf (val 17)) (.cells #[.slice (some ⟨bOf (val 11),0,none⟩) R R,.slice (some ⟨bOf (val 13),0,none⟩) R R] 35)),(bOf (val 11),tSq (eInt .i64) 3 (.slice (some ⟨bOf (val 11),0,none⟩) R R) (rowT R (fun _=>0))),(bOf (val 13),tSq (eInt .i64) 3 (.slice (some ⟨bOf (val 13),0,none⟩) R R) (rowT R (fun _=>0)))] hnd (fun x hx=>by
  simp only [List.mem_cons,List.not_mem_nil,or_false] at hx
  rcases hx with rfl|rfl|rfl|rfl|rfl|rfl|rfl|rfl|rfl
  ·exact (al 15 (by decide)).2.2
  ·exact (mk 1 (by decide)).2.2
  ·exact (mk 3 (by decide)).2.2
  ·exact (al 16 (by decide)).2.2
  ·exact (mk 6 (by decide)).2.2
  ·exact (mk 8 (by decide)).2.2
  ·exact (al 17 (by decide)).2.2
  ·exact (mk 11 (by decide)).2.2
  ·exact (mk 13 (by decide)).2.2)
 refine ⟨(al 15 (by decide)).1,(al 16 (by decide)).1,(al 17 (by decide)).1,?_⟩
 have h5:=h0.adds (Did.news (Z:=fun k=>k < W.heap.size/\Z k/\¬False) h.be (hstar.mono (fun k hk=>by
   obtain ⟨x,hx,rfl⟩:=List.mem_map.1 hk
   simp only [List.mem_cons,List.not_mem_nil,or_false] at hx
   rcases hx with rfl|rfl|rfl|rfl|rfl|rfl|rfl|rfl|rfl
   ·exact (al 15 (by decide)).2.1
   ·exact (mk 1 (by decide)).2.1
   ·exact (mk 3 (by decide)).2.1
   ·exact (al 16 (by decide)).2.1
   ·exact (mk 6 (by decide)).2.1
   ·exact (mk 8 (by decide)).2.1
   ·exact (al 17 (by decide)).2.1
   ·exact (mk 11 (by decide)).2.1
   ·exact (mk 13 (by decide)).2.1) fun _ f=>f.elim) fun k h=>Nat.lt_of_lt_of_le h.1 h0.below.size)
 have h6:=dY.rot _ _ h5
 have h7:=dY.tab_mk (A:=fun _ _=>0) (dY.pickL (us:=[_,_,_,_,_,_,_,_,_]) (vs:=[_,_,_,_,_,_,_,_,_]) h6 [6,7,8,3,4,5,0,1,2] (by decide) rfl)
 have h8:=dY.tab_mk (A:=fun _ _=>0) (dY.pickL (us:=[_,_,_,_,_,_,_]) (vs:=[_,_,_,_,_,_,_]) h7 [1,2,3,0,4,5,6] (by decide) rfl)
 exact dY.tab_mk (A:=fun _ _=>0) (dY.pickL (us:=[_,_,_,_,_]) (vs:=[_,_,_,_,_]) h8 [2,3,4,0,1] (by decide) rfl)
end
end

set_option maxRecDepth 100000
section
open Go.RowKit
theorem U_of {n:Nat} (h:n < 256):U (BitVec.ofNat 8 n)=(n:Int):=by
 unfold U
 rw [BitVec.toNat_ofNat]
 omega
theorem cu_lab {s c n:Nat} (hs:s < 256) (hc:c < 256) (hn:n < 256):cu (lab s c n)=[.int .u8 (s:Int),.int .u8 (c:Int),.int .u8 0,.int .u8 (n:Int)]:=by
 unfold lab cu
 rw [Nat.div_eq_of_lt hn]
 simp only [List.map_cons,List.map_nil,U_of hs,U_of hc,U_of hn,U_of (show 0 < 256 by decide)]
 rfl
theorem label_c {s c n:Nat} (hs:s < 256) (hc:c < 256) (hn:n < 256) (w:World) :
  Calls Tryz.prog 17 #[.int .i64 (s:Int),.int .i64 (c:Int),.int .i64 (n:Int)] w fun e w'=>e=.returned (.slice (some ⟨w.heap.size,0,none⟩) 4 4)/\w'=w.alloc (.cells #[.int .u8 (s:Int),.int .u8 (c:Int),.int .u8 0,.int .u8 (n:Int)] 5):=by
 have w1:IntKind.u8.wrap (s:Int)=(s:Int):=by rw [IntKind.wrap_u8];omega
 have w2:IntKind.u8.wrap (c:Int)=(c:Int):=by rw [IntKind.wrap_u8];omega
 have w3:IntKind.u8.wrap (n:Int)=(n:Int):=by rw [IntKind.wrap_u8];omega
 have w4:(n:Int) / 256=0:=by omega
 have W4:=aQ w4
 clear w4
 go_enter Tryz.func17,Tryz.ntmps17
 go_wp2_with fail
 go_ret
 rw [W4.out]
 exact ⟨rfl,rfl⟩
theorem bits_or0:∀m:Fin 256,bits BinOp.or IntKind.i64 0 ((m.val:Nat):Int)=((m.val:Nat):Int):=by decide +kernel
theorem number_c {s c n:Nat} (hs:s < 256) (hc:c < 256) (hn:n < 256) (w:World) (v:Value) (h:By w v (lab s c n)) :
  Calls Tryz.prog 16 #[v,.int .i64 (s:Int),.int .i64 (c:Int)] w fun e w'=>e=.returned (.int .i64 (n:Int))/\Dr w w':=by
 obtain ⟨_,⟨h0,_⟩|⟨b,off,cap,e,_,_,_,hk⟩⟩:=h.cases
 ·exact absurd h0 (by simp [lab])
 obtain rfl:v=.slice (some ⟨b,off,none⟩) 4 cap:=e
 have c0:w.cell? ⟨b,off,none⟩=some (.int .u8 (s:Int)):=by have:=hk 0 (by simp [lab]);rw [Nat.add_zero] at this;rw [this,show (lab s c n).getD 0 0=BitVec.ofNat 8 s from rfl,U_of hs]
 have c1:w.cell? ⟨b,off+1,none⟩=some (.int .u8 (c:Int)):=by rw [hk 1 (by simp [lab]),show (lab s c n).getD 1 0=BitVec.ofNat 8 c from rfl,U_of hc]
 have c2:w.cell? ⟨b,off+2,none⟩=some (.int .u8 0):=by rw [hk 2 (by simp [lab]),show (lab s c n).getD 2 0=BitVec.ofNat 8 (n / 256) from rfl,Nat.div_eq_of_lt hn];rfl
 have c3:w.cell? ⟨b,off+3,none⟩=some (.int .u8 (n:Int)):=by rw [hk 3 (by simp [lab]),show (lab s c n).getD 3 0=BitVec.ofNat 8 n from rfl,U_of hn]
 clear h hk
 go_enter Tryz.func16,Tryz.ntmps16
 go_wp2_with fail
 go_quiet (fail)
 go_wp2_with fail
 go_ret
 have hb:bits BinOp.or IntKind.i64 0 (n:Int)=(n:Int):=bits_or0 ⟨n,hn⟩
 exact ⟨congrArg (fun x:Int=>Ending.returned (.int .i64 x)) hb,_,rfl⟩
end

set_option maxRecDepth 100000
section
open Go.RowKit
def Part (v:Wit) (L:Lk) (R i0 c0:Nat) (S A:Nat->Nat->Int):Prop:=∀i c,i < 2->c < R ->
 ((i < i0\/(i=i0/\c < c0))->S i c=((L.tk i c).length:Int)/\A i c=lastAt (L.tk i c) (v.k i c) (L.tk i c).length) /\
 (¬(i < i0\/(i=i0/\c < c0))->∃m:Nat,S i c=(m:Int)/\v.k i c<=m/\m<=(L.tk i c).length/\A i c=lastAt (L.tk i c) (v.k i c) m)
section
variable {v:Wit} {L:Lk} {R i c:Nat} {S A B:Nat->Nat->Int}
theorem part_start (h:v.Pre L R S A):Part v L R 0 0 S A:=fun i c hi hc=>⟨fun x=>absurd x (by omega),fun _=>h i c hi hc⟩
theorem part_end (h:Part v L R 2 0 S A):v.Post L R S A:=fun i c hi hc=>(h i c hi hc).1 (.inl hi)
theorem part_side (h:Part v L R i R S A):Part v L R (i+1) 0 S A:=fun i' c' hi hc=>⟨fun x=>(h i' c' hi hc).1 (by omega),fun x=>(h i' c' hi hc).2 (by omega)⟩
theorem part_step (h:Part v L R i c S A) (hB:∀i' c',¬(i'=i/\c'=c)->B i' c'=A i' c') (hA:B i c=lastAt (L.tk i c) (v.k i c) (L.tk i c).length):Part v L R i (c+1) (upd2 S i c ((L.tk i c).length:Int)) B:=fun i' c' hi hc=>by
 unfold upd2
 by_cases e:i'=i/\c'=c
 ·obtain ⟨rfl,rfl⟩:=e
  rw [if_pos ⟨rfl,rfl⟩]
  exact ⟨fun _=>⟨rfl,hA⟩,fun x=>absurd x (by omega)⟩
 ·rw [if_neg e,hB _ _ e]
  exact ⟨fun x=>(h i' c' hi hc).1 (by omega),fun x=>(h i' c' hi hc).2 (by omega)⟩
end
abbrev lookThs (p b5 b7 b8 b9 b10 b13 R:Nat) (v:Wit) (L:Lk) (S A:Nat->Nat->Int):List Th:=
 [bI p L,tTab b9 R S,tTab b8 R (fun i c=>(v.n i c:Int)),tTab b10 R A,dJ b5 (.cells #[.pointer (some ⟨p,0,none⟩)] 31),dJ b7 (nO R),dJ b13 (.cells #[.bool v.rst] 4)]
theorem look_c {Z:BS} {W w:World} {ts:List Th} {p b5 b7 b8 b9 b10 b13 R N M:Nat} {L:Lk} {Zp:Prop} {v:Wit} {S A:Nat->Nat->Int} (hF:L.Full N Zp) (hS:L.Short) (hN:N<=900000000) (hR:R<=4) (hv:v.Ok L M) (hn:∀i c,v.n i c<=200) (hP:v.Pre L R S A)
  (h:dY (fun _=>False) Z W (lookThs p b5 b7 b8 b9 b10 b13 R v L S A++ts) w) :
  Calls Tryz.prog 12 #[.pointer (some ⟨b5,0,none⟩),.pointer (some ⟨b7,0,none⟩),.pointer (some ⟨b9,0,none⟩),.pointer (some ⟨b8,0,none⟩),.pointer (some ⟨b10,0,none⟩),.pointer (some ⟨b13,0,none⟩)] w fun e w'=>
   e=.returned (.bool true)/\∃S' A',v.Post L R S' A'/\dY (fun _=>False) Z W (lookThs p b5 b7 b8 b9 b10 b13 R v L S' A'++ts) w':=by
 have HF:=aQ hF
 have HS:=aQ hS
 have HT:=aQ (show ∀i c,i < 2->Trk (L.tk i c) (v.k i c) (1 - i) c (v.n (1 - i) c) (v.rst=false) from fun i c hi=>hv.trk (fun i c=>Nat.le_trans (hn i c) (by decide)) hi c)
 have HLN:=aQ (show ∀i c,i < 2->(L.tk i c).length<=N from fun i c hi=>by
  obtain ⟨_,q⟩:=hF.nd i
  exact bM (P:=fun l:List dV=>l.length<=N) q.tb (Nat.zero_le _) c)
 have HOV:=aQ (show ∀i,i < 2->(L.nd i).prt.bL=0 from fun i hi=>by
  obtain rfl|rfl:i=0\/i=1:=by omega
  ·exact hF.room.1
  ·exact hF.swap.room.1)
 have HNN:=aQ hn
 have HP0:=aQ (part_start hP)
 have H0:=aQ h
 clear h hF hS hv hn hP
 go_enter Tryz.func12,Tryz.ntmps12
 go_wp2_with fail
 go_loopw [13] (fun u wr=>∃i:Nat,i<=2/\u=.int .i64 (i:Int)/\∃S A:Nat->Nat->Int,Hid (Part v L R i 0 S A)/\Hid (dY (fun _=>False) Z W (lookThs p b5 b7 b8 b9 b10 b13 R v L S A++ts) wr)) (fun u _=>2 - (intOf u).toNat)
 case atStart=>exact ⟨0,by omega,rfl,S,A,HP0,H0⟩
 case round=>
  clear H0 HP0
  obtain ⟨i,hi,rfl,S0,A0,HP0,HK⟩:=hrel
  by_cases hi2:i < 2
  ·have c5:=aJ (i:=0) (HK.out.blk 4 rfl) rfl
   have c7:=aJ (i:=0) (HK.out.blk 5 rfl) rfl
   obtain ⟨pp,hpo⟩:=port_of HF.out (by omega) HK.out hi2
   have HPO:=aQ hpo.port
   have HPV:=aQ (show Calls Tryz.prog 14 #[.pointer (some ⟨pp,0,none⟩)] wr fun e w'=>e=.returned (.int .i64 0)/\wr=w' by have:=hpo.over;rw [HOV.out i hi2] at this;exact this)
   clear hpo
   go_wp2_with fail
   refine HPO.out.mono ?_
   rintro e w1 ⟨rfl,rfl⟩
   go_wp2_with fail
   refine HPV.out.mono ?_
   rintro e w1 ⟨rfl,rfl⟩
   clear HPO HPV
   go_wp2_with fail
   clear c5 c7
   go_loopw [22] (fun u wr=>∃c:Nat,c<=R/\u=.int .i64 (c:Int)/\∃S A:Nat->Nat->Int,Hid (Part v L R i c S A)/\Hid (dY (fun _=>False) Z W (lookThs p b5 b7 b8 b9 b10 b13 R v L S A++ts) wr)) (fun u _=>R - (intOf u).toNat)
   case atStart=>exact ⟨0,by omega,rfl,S0,A0,HP0,HK⟩
   case round=>
    clear HK HP0
    obtain ⟨c,hc,rfl,S1,A1,HP1,HK⟩:=hrel
    by_cases hcR:c < R
    ·have c5:=aJ (i:=0) (HK.out.blk 4 rfl) rfl
     go_wp2_with fail
     refine (taken_c HF.out HS.out (by omega) (i:Int) (c:Int) HK.out).mono ?_
     rintro e w2 ⟨ta,tc,rfl,h2⟩
     rw [cls_tak L hi2 c] at h2 ⊢
     obtain ⟨m,hSm,hkm,hml,hAm⟩:=(HP1.out i c hi2 hcR).2 (by omega)
     have HTR:=aQ (HT.out i c hi2)
     have hll:=HLN.out i c hi2
     obtain ⟨t,ht⟩:∃t,t=L.tk i c:=⟨_,rfl⟩
     have HTT:=aQ ht
     rw [<-ht] at h2 hml hAm HTR hll ⊢
     obtain ⟨k,hk⟩:∃k,k=v.k i c:=⟨_,rfl⟩
     have HKK:=aQ hk
     rw [<-hk] at hkm hAm HTR
     have HAM:=aQ hAm
     obtain ⟨g9,o9,k9,s1,s2,s3,s4,_⟩:=tab_at h2 2 rfl hi2 hcR
     rw [hSm] at s3
     obtain ⟨_,_,hsq⟩:=h2.get 0 rfl
     have hta:(ta=none/\t.length=0/\tc=0)\/∃b off,ta=some ⟨b,off,none⟩/\t.length<=tc/\tc<=9223372036854775807:=by
      obtain ⟨K,D,us,_,_,_,hsl,_⟩:=(show Sq (eSq eU8 5) 42 w2 _ _ (.slice ta t.length tc) t from hsq)
      obtain ⟨_,⟨e,h0⟩|⟨g,off,cap,cur,e,_,_,h1,h2,_⟩⟩:=hsl
      ·obtain ⟨e1,e2,e3⟩:ta=none/\t.length=0/\tc=0:=by simpa using e
       exact .inl ⟨e1,e2,e3⟩
      ·obtain ⟨e1,e3⟩:ta=some ⟨g,off,none⟩/\tc=cap:=by simpa using e
       subst e3
       exact .inr ⟨g,off,e1,h1,by unfold maxLen at h2;exact h2⟩
     have H2:=aQ h2
     clear h2 hsq HK c5 ht hk hSm hAm
     rcases hta with ⟨rfl,hl0,rfl⟩|⟨b,off,rfl,hlc,hlm⟩
     ·obtain rfl:t=[]:=List.eq_nil_of_length_eq_zero hl0
      obtain rfl:m=0:=by have:m<=0:=hml;omega
      rw [show ([]:List (List (BitVec 8))).length=0 from rfl] at H2 ⊢
      clear hl0 hml
      go_wp2_with fail
      go_loopw [38] (fun u wr=>∃q:Nat,q<=0/\u=.int .i64 (q:Int)/\∃A2:Nat->Nat->Int,Hid ((∀i' c',¬(i'=i/\c'=c)->A2 i' c'=A1 i' c')/\A2 i c=lastAt [] k (0+q))/\Hid (dY (fun _=>False) Z W (tBB (.slice none 0 0) []::(lookThs p b5 b7 b8 b9 b10 b13 R v L S1 A2++ts)) wr)) (fun u _=>0 - (intOf u).toNat)
      case atStart=>exact ⟨0,by omega,rfl,A1,aQ ⟨fun _ _ _=>rfl,HAM.out⟩,H2⟩
      case round=>
       clear H2 HAM s1 s2 s3 s4
       obtain ⟨q,hq,rfl,A2,HA,HQ⟩:=hrel
       obtain rfl:0=q:=by omega
       skip
       ·skip
        obtain ⟨g8,o8,k8,s1,s2,s3,s4,s5⟩:=tab_at HQ.out 2 rfl hi2 hcR
        have H5:=aQ (s5 (0:Int)).tail
        have HP2:=aQ (show Part v L R i (c+1) (upd2 S1 i c (0:Int)) A2 by
         have:=part_step (B:=A2) HP1.out HA.out.1 (by rw [HA.out.2,<-HTT.out,<-HKK.out];congr 1)
         rw [<-HTT.out] at this
         exact this)
        clear s5 HQ
        go_wp2_with fail
        go_roundw
        case rel=>exact ⟨c+1,by omega,by go_num,upd2 S1 i c (0:Int),A2,HP2,H5⟩
        case measure=>simp [intOf];omega
     ·obtain ⟨d,hd⟩:∃d,t.length - m=d:=⟨_,rfl⟩
      by_cases hcm:tc=m
      ·have hcm2:m=tc:=hcm.symm
       clear hcm
       subst hcm2
       obtain rfl:d=0:=by omega
       have hml2:m=t.length:=by omega
       have HML:=aQ hml2
       clear hml2
       go_wp2_with fail
       go_loopw [38] (fun u wr=>∃q:Nat,q<=0/\u=.int .i64 (q:Int)/\∃A2:Nat->Nat->Int,Hid ((∀i' c',¬(i'=i/\c'=c)->A2 i' c'=A1 i' c')/\A2 i c=lastAt t k (m+q))/\Hid (dY (fun _=>False) Z W (tBB (.slice (some ⟨b,off,none⟩) t.length m) t::(lookThs p b5 b7 b8 b9 b10 b13 R v L S1 A2++ts)) wr)) (fun u _=>0 - (intOf u).toNat)
       case atStart=>exact ⟨0,by omega,rfl,A1,aQ ⟨fun _ _ _=>rfl,HAM.out⟩,H2⟩
       case round=>
        clear H2 HAM s1 s2 s3 s4
        obtain ⟨q,hq,rfl,A2,HA,HQ⟩:=hrel
        obtain rfl:0=q:=by omega
        skip
        ·skip
         obtain ⟨g8,o8,k8,s1,s2,s3,s4,s5⟩:=tab_at HQ.out 2 rfl hi2 hcR
         have H5:=aQ (s5 (t.length:Int)).tail
         have HP2:=aQ (show Part v L R i (c+1) (upd2 S1 i c (t.length:Int)) A2 by
          have:=part_step (B:=A2) HP1.out HA.out.1 (by rw [HA.out.2,<-HTT.out,<-HKK.out,show m+0=t.length from HML.out])
          rw [<-HTT.out] at this
          exact this)
         clear s5 HQ
         go_wp2_with fail
         go_roundw
         case rel=>exact ⟨c+1,by omega,by go_num,upd2 S1 i c (t.length:Int),A2,HP2,H5⟩
         case measure=>simp [intOf];omega
      ·go_wp2_with fail
       go_loopw [38] (fun u wr=>∃q:Nat,q<=d/\u=.int .i64 (q:Int)/\∃A2:Nat->Nat->Int,Hid ((∀i' c',¬(i'=i/\c'=c)->A2 i' c'=A1 i' c')/\A2 i c=lastAt t k (m+q))/\Hid (dY (fun _=>False) Z W (tBB (.slice (some ⟨b,off,none⟩) t.length tc) t::(lookThs p b5 b7 b8 b9 b10 b13 R v L S1 A2++ts)) wr)) (fun u _=>d - (intOf u).toNat)
       case atStart=>exact ⟨0,by omega,rfl,A1,aQ ⟨fun _ _ _=>rfl,HAM.out⟩,H2⟩
       case round=>
        clear H2 HAM s1 s2 s3 s4
        obtain ⟨q,hq,rfl,A2,HA,HQ⟩:=hrel
        by_cases hqd:q < d
        ·have hmt:m+q < t.length:=by omega
         obtain ⟨y,h1,h2,h3,h4,h5⟩:=HTR.out.at' (m+q) (by omega) hmt
         obtain ⟨o,ho⟩:∃o,o=1 - i:=⟨_,rfl⟩
         have ho2:o < 2:=by omega
         have hoi:(1:Int) - (i:Int)=(o:Int):=by omega
         rw [<-ho] at h1 h2
         obtain ⟨b',off',cap',vc,e1,_,hvc,hby⟩:=HQ.out.bb_at 0 rfl (c:=m+q) h1
         obtain ⟨e2,e3⟩:(b=b'/\off=off')/\tc=cap':=by simpa using e1
         obtain ⟨rfl,rfl⟩:=e2
         subst e3
         have hyn:y < 256:=by have:=HNN.out o c;omega
         have HNC:=aQ (number_c (show o < 256 by omega) (show c < 256 by omega) hyn wr vc hby)
         rw [<-Nat.add_assoc] at hvc
         have HL5:=aQ h5
         obtain ⟨z,hz⟩:∃z,z=lastAt t k (m+q):=⟨_,rfl⟩
         rw [<-hz] at h3 h4
         have hz1 : -1<=z:=by rw [hz];unfold lastAt;split <;> omega
         have HZ:=aQ (show A2 i c=z by rw [HA.out.2,hz])
         obtain ⟨nn,hnn⟩:∃nn,nn=v.n o c:=⟨_,rfl⟩
         rw [<-hnn] at h2
         have HNO:=aQ hnn
         clear h1 h5 hz hby e1 hnn ho
         go_wp2_with fail
         refine HNC.out.mono ?_
         rintro e w3 ⟨rfl,nq,rfl⟩
         clear HNC hvc
         have H3:=aQ (HQ.out.drewN nq)
         obtain ⟨g8,o8,k8,p1,p2,p3,_,_⟩:=tab_at H3.out 3 rfl ho2 hcR
         obtain ⟨g7,o7,k7,r1,r2,r3,r4,r5⟩:=tab_at H3.out 4 rfl hi2 hcR
         rw [HZ.out] at r3
         rw [<-HNO.out] at p3
         have cr:=aJ (i:=0) (H3.out.blk 7 rfl) rfl
         have H4:=aQ (show dY (fun _=>False) Z W (tBB (.slice (some ⟨b,off,none⟩) t.length tc) t::(lookThs p b5 b7 b8 b9 b10 b13 R v L S1 (upd2 A2 i c (y:Int))++ts)) ((wr.drewN nq).setCell ⟨g7,o7+c,none⟩ (.int .i64 (y:Int))) from r5 (y:Int))
         have HA2:=aQ (show (∀i' c',¬(i'=i/\c'=c)->upd2 A2 i c (y:Int) i' c'=A1 i' c')/\upd2 A2 i c (y:Int) i c=lastAt t k (m+(q+1)) from ⟨fun i' c' hne=>by unfold upd2;rw [if_neg hne];exact HA.out.1 i' c' hne,by unfold upd2;rw [if_pos ⟨rfl,rfl⟩];exact HL5.out.symm⟩)
         clear r5 HQ H3
         have hny:¬nn<=y:=by omega
         have hzy:¬(y:Int)<=z:=by omega
         cases hrs:v.rst with
         |true=>
          rw [hrs] at cr
          go_wp2_with fail
          go_roundw
          case rel=>exact ⟨q+1,by omega,by go_num,_,HA2,H4⟩
          case measure=>simp [intOf];omega
         |false=>
          rw [hrs] at cr
          have h4:=h4 hrs
          have HYZ:=aQ h4
          have hq4:((y:Int) != z+1)=false:=by simp;omega
          have hz2:z < 256:=by omega
          clear h4
          go_wp2_with fail
          go_roundw
          case rel=>
           refine ⟨q+1,by omega,by go_num,_,HA2,?_⟩
           rw [<-HYZ.out]
           exact H4
          case measure=>simp [intOf];omega
        ·obtain rfl:d=q:=by omega
         obtain ⟨g8,o8,k8,s1,s2,s3,s4,s5⟩:=tab_at HQ.out 2 rfl hi2 hcR
         have H5:=aQ (s5 (t.length:Int)).tail
         have HP2:=aQ (show Part v L R i (c+1) (upd2 S1 i c (t.length:Int)) A2 by rw [HTT.out];exact part_step HP1.out HA.out.1 (by rw [HA.out.2,<-HTT.out,<-HKK.out,show m+d=t.length by omega]))
         clear s5 HQ
         go_wp2_with fail
         go_roundw
         case rel=>exact ⟨c+1,by omega,by go_num,upd2 S1 i c (t.length:Int),A2,HP2,H5⟩
         case measure=>simp [intOf];omega
    ·obtain rfl:R=c:=by omega
     go_wp2_with fail
     go_roundw
     case rel=>exact ⟨i+1,by omega,by go_num,S1,A1,aQ (part_side HP1.out),HK⟩
     case measure=>simp [intOf];omega
  ·obtain rfl:i=2:=by omega
   go_wp2_with fail
   go_ret
   exact ⟨rfl,S0,A0,part_end HP0.out,HK.out⟩
end

set_option maxRecDepth 100000
section
open Go.RowKit
@[go_sem] theorem and_u64_1:bits BinOp.and IntKind.u64 1 4294967295=1:=by decide +kernel
@[go_sem] theorem and_u64_2:bits BinOp.and IntKind.u64 2 4294967295=2:=by decide +kernel
@[go_sem] theorem and_u64_3:bits BinOp.and IntKind.u64 3 4294967295=3:=by decide +kernel
@[go_sem] theorem and_u64_0:bits BinOp.and IntKind.u64 0 4294967295=0:=by decide +kernel
theorem mul64_c (x y:Int) (h:(x=1/\y=3)\/(x=1/\y=2)\/(x=2/\y=3)) (w:World):Calls Tryz.prog 80 #[.int .u64 x,.int .u64 y] w fun e w'=>e=.returned (.tuple #[.int .u64 0,.int .u64 (x*y)])/\w=w':=by
 rcases h with ⟨rfl,rfl⟩|⟨rfl,rfl⟩|⟨rfl,rfl⟩
 all_goals
  go_enter Tryz.func80,Tryz.ntmps80
  go_wp2_with fail
  go_ret2
  exact ⟨rfl,rfl⟩
theorem size_c (x:Int) (h0:0<=x) (h1:x<=1000) (w:World):Calls Tryz.prog 76 #[.int .i64 x] w fun e w'=>e=.returned (.int .u64 x)/\w'=w:=by
 have hw:IntKind.u64.wrap x=x:=by rw [IntKind.wrap_u64];omega
 have hx:decide (x < 0)=false:=by simp;omega
 go_enter Tryz.func76,Tryz.ntmps76
 go_wp2_with fail
 go_ret
 exact ⟨rfl,rfl⟩
theorem gcd_c (a b g:Nat) (hg:Nat.gcd a b=g) (ha:a<=1000) (hb:b<=1000) (w:World):Calls Tryz.prog 75 #[.int .u64 (a:Int),.int .u64 (b:Int)] w fun e w'=>e=.returned (.int .u64 (g:Int))/\Dr w w':=by
 have HG:=aQ hg
 clear hg
 go_enter Tryz.func75,Tryz.ntmps75
 go_wp2_with fail
 go_loopw [0,1] (fun u v wr=>∃x y:Nat,x<=1000/\y<=1000/\u=.int .u64 (x:Int)/\v=.int .u64 (y:Int)/\Hid (Nat.gcd x y=g)/\Hid (Dr w wr)) (fun _ v _=>(intOf v).toNat)
 case atStart=>exact ⟨a,b,ha,hb,rfl,rfl,HG,aQ ⟨0,rfl⟩⟩
 case round=>
  obtain ⟨x,y,hx,hy,rfl,rfl,HE,HD⟩:=hrel
  by_cases h0:y=0
  ·subst h0
   have HX:=aQ (show x=g by have:=HE.out;rwa [Nat.gcd_zero_right] at this)
   go_wp2_with fail
   go_ret
   exact ⟨by rw [HX.out];rfl,HD.out⟩
  ·have hm:x % y < y:=Nat.mod_lt _ (by omega)
   have HN:=aQ (show Nat.gcd y (x % y)=g by rw [Nat.gcd_comm,<-Nat.gcd_rec,Nat.gcd_comm];exact HE.out)
   obtain ⟨z,hz⟩:∃z,z=x % y:=⟨_,rfl⟩
   have hzz:(x:Int) % (y:Int)=(z:Int):=by omega
   have hzt:(x:Int).tmod (y:Int)=(z:Int):=by rw [Int.tmod_eq_emod_of_nonneg (by omega)];exact hzz
   rw [<-hz] at HN hm
   clear hz
   go_wp2_with fail
   go_quiet (fail)
   go_wp2_with fail
   go_roundw
   case rel=>exact ⟨y,z,hy,by omega,rfl,rfl,HN,aQ (by obtain ⟨k,e⟩:=HD.out;subst e;exact ⟨k+nq,World.drewN_drewN _ _ _⟩)⟩
   case measure=>simp [intOf];omega
theorem gcd4 (a b:Int) (h:(a=1/\b=2)\/(a=1/\b=3)\/(a=2/\b=3)\/(a=1/\b=0)) (w:World):Calls Tryz.prog 75 #[.int .u64 a,.int .u64 b] w fun e w'=>e=.returned (.int .u64 1)/\Dr w w':=by
 rcases h with ⟨rfl,rfl⟩|⟨rfl,rfl⟩|⟨rfl,rfl⟩|⟨rfl,rfl⟩
 ·exact gcd_c 1 2 1 (by decide) (by decide) (by decide) w
 ·exact gcd_c 1 3 1 (by decide) (by decide) (by decide) w
 ·exact gcd_c 2 3 1 (by decide) (by decide) (by decide) w
 ·exact gcd_c 1 0 1 (by decide) (by decide) (by decide) w
abbrev wdV (n:Int):Value:=.agg #[.bool false,.int .u64 0,.int .u64 n]
abbrev rtV (n d:Int):Value:=.agg #[.int .i64 n,.int .i64 d]
abbrev rtO (n d:Int):Obj:=.cells #[.int .i64 n,.int .i64 d] 102
abbrev wdO (n:Int):Obj:=.cells #[.bool false,.int .u64 0,.int .u64 n] 172
theorem run_add0 (w:World):(callFunc 121 #[.int .u64 3,.int .u64 2,.int .u64 0]).run Tryz.prog w=.ok (.value (.tuple #[.int .u64 5,.int .u64 0])) w:=by
 rw [run_callFunc_extern Tryz.func121 (by kernel_rfl) (by kernel_rfl) (by kernel_rfl) (e:=add64Entry) (by kernel_rfl),run_add64 3 2 0 (by decide) (by decide) (by decide) (by decide)]
 rfl
theorem run_add00 (w:World):(callFunc 121 #[.int .u64 0,.int .u64 0,.int .u64 0]).run Tryz.prog w=.ok (.value (.tuple #[.int .u64 0,.int .u64 0])) w:=by
 rw [run_callFunc_extern Tryz.func121 (by kernel_rfl) (by kernel_rfl) (by kernel_rfl) (e:=add64Entry) (by kernel_rfl),run_add64 0 0 0 (by decide) (by decide) (by decide) (by decide)]
 rfl
theorem valid_c (d:Int) (h:d=2\/d=3) (w:World):Calls Tryz.prog 73 #[rtV 1 d] w fun e w'=>e=.returned (.bool true)/\Below w.heap.size w w':=by
 rcases h with rfl|rfl
 all_goals
  go_enter Tryz.func73,Tryz.ntmps73
  go_wp2_with fail
  go_quiet (first|(go_at_call 76;exact Calls.quiet_of_same (size_c _ (by decide) (by decide) _))|(go_at_call 75;exact Calls.quiet_of (gcd4 _ _ (by decide) _)))
  go_wp2_with fail
  go_ret
  exact ⟨rfl,by (with_reducible (repeat (first|exact Below.refl _ _|refine Bw.alloc ?_ _|refine Bw.drewN ?_ _|refine Bw.drew ?_)))⟩
theorem normal_c (d:Int) (h:d=2\/d=3) (w:World):Calls Tryz.prog 74 #[rtV 1 d] w fun e w'=>e=.returned (rtV 1 d)/\w'=(w.alloc (rtO 1 d)).alloc (rtO 1 d):=by
 rcases h with rfl|rfl
 all_goals
  go_enter Tryz.func74,Tryz.ntmps74
  go_wp2_with fail
  exact bodyPost_ret (by simp [results,Tryz.results74,go_sem];try rfl) rfl ⟨rfl,rfl⟩
theorem normal_b (d:Int) (h:d=2\/d=3) (w:World):Calls Tryz.prog 74 #[rtV 1 d] w fun e w'=>e=.returned (rtV 1 d)/\Below w.heap.size w w':=
 (normal_c d h w).mono fun e w' ⟨he,hw⟩=>⟨he,by rw [hw];(with_reducible (repeat (first|exact Below.refl _ _|refine Bw.alloc ?_ _|refine Bw.drewN ?_ _|refine Bw.drew ?_)))⟩
theorem product_c (y:Int) (h:y=2\/y=3) (w:World):Calls Tryz.prog 77 #[.int .i64 1,.int .u64 y] w fun e w'=>e=.returned (wdV y)/\w'=w.alloc (wdO y):=by
 rcases h with rfl|rfl
 all_goals
  go_enter Tryz.func77,Tryz.ntmps77
  go_wp2_with (first|(go_at_call 76;refine (size_c 1 (by decide) (by decide) _).mono ?_;rintro e w1 ⟨rfl,rfl⟩)|(go_at_call 80;refine (mul64_c _ _ (by decide) _).mono ?_;rintro e w1 ⟨rfl,rfl⟩))
  exact bodyPost_ret (by simp [results,Tryz.results77,go_sem];try rfl) rfl ⟨rfl,rfl⟩
theorem wadd_c (w:World):Calls Tryz.prog 78 #[wdV 3,wdV 2] w fun e w'=>e=.returned (wdV 5)/\w'=((w.alloc (wdO 3)).alloc (wdO 2)).alloc (wdO 5):=by
 have r1:=run_add0
 have r2:=run_add00
 go_enter Tryz.func78,Tryz.ntmps78
 go_wp2_with (simp only [run_add0,run_add00])
 exact bodyPost_ret (by simp [results,Tryz.results78,go_sem];try rfl) rfl ⟨rfl,rfl⟩
theorem drewN_below {B:Nat} {w w':World} (h:Below B w w') (n:Nat):Below B w (w'.drewN n):=⟨h.os,h.tape,h.output,h.size,h.block⟩
theorem div64_c (w:World):Calls Tryz.prog 124 #[.int .u64 0,.int .u64 5,.int .u64 1] w fun e w'=>e=.returned (.tuple #[.int .u64 5,.int .u64 0])/\Dr w w':=by
 go_enter Tryz.func124,Tryz.ntmps124
 go_wp2_with fail
 go_quiet (fail)
 go_wp2_with fail
 go_ret2
 exact ⟨rfl,_,rfl⟩
theorem divide_c (w:World):Calls Tryz.prog 79 #[wdV 5,.int .u64 1] w fun e w'=>e=.returned (.tuple #[wdV 5,.int .u64 0])/\Below w.heap.size w w':=by
 go_enter Tryz.func79,Tryz.ntmps79
 go_wp2_with fail
 go_quiet ((go_at_call 124;exact Calls.quiet_of (div64_c _)))
 go_wp2_with fail
 have hw0:IntKind.u64.wrap 0=0:=by decide
 go_region
 all_goals go_wp2_with fail
 all_goals exact bodyPost_ret (by simp [results,Tryz.results79,go_sem];try rfl) rfl ⟨rfl,by (repeat (first|(with_reducible exact Below.refl _ _)|(with_reducible refine Bw.alloc ?_ _)|(with_reducible refine Bw.drewN ?_ _)|(with_reducible refine Bw.drew ?_)|(with_reducible refine Below.setCell ?_ (by simp <;> omega) _)))⟩
theorem fits_c (x:Int) (h0:0<=x) (h1:x<=1000) (w:World):Calls Tryz.prog 125 #[wdV x] w fun e w'=>e=.returned (.bool true)/\w'=w.alloc (.cells #[.bool false,.int .u64 0,.int .u64 x] 172):=by
 have hx:decide (x<=1152921504606846976)=true:=by simp;omega
 go_enter Tryz.func125,Tryz.ntmps125
 go_wp2_with fail
 go_ret
 exact ⟨rfl,rfl⟩
theorem signed_c (x:Int) (h0:0<=x) (h1:x<=1000) (w:World):Calls Tryz.prog 126 #[wdV x] w fun e w'=>e=.returned (.int .i64 x)/\w'=w.alloc (.cells #[.bool false,.int .u64 0,.int .u64 x] 172):=by
 have hx:IntKind.i64.wrap x=x:=IntWalk.i64_in _ (by omega)
 go_enter Tryz.func126,Tryz.ntmps126
 go_wp2_with fail
 go_ret
 exact ⟨rfl,rfl⟩
theorem result_c (w:World):Calls Tryz.prog 81 #[wdV 5,wdV 6] w fun e w'=>e=.returned (.tuple #[rtV 5 6,.int .i64 0])/\Below w.heap.size w w':=by
 go_enter Tryz.func81,Tryz.ntmps81
 go_wp2_with ((go_at_call 125;refine (fits_c _ (by decide) (by decide) _).mono ?_;rintro e w1 ⟨rfl,rfl⟩))
 go_region_law ((go_simp;go_at_call 126;refine (signed_c _ (by decide) (by decide) _).mono ?_;rintro e w1 ⟨rfl,rfl⟩))
 all_goals go_wp2_with fail
 all_goals exact bodyPost_ret (by simp [results,Tryz.results81,go_sem];try rfl) rfl ⟨rfl,by (repeat (first|(with_reducible exact Below.refl _ _)|(with_reducible refine Bw.alloc ?_ _)|(with_reducible refine Bw.drewN ?_ _)|(with_reducible refine Bw.drew ?_)|(with_reducible refine Below.setCell ?_ (by simp <;> omega) _)))⟩
def Bxs (w wx:World):Prop:=wx.heap[w.heap.size]? = some (rtO 1 2)/\wx.heap[w.heap.size+1]? = some (rtO 1 3)/\wx.heap[w.heap.size+1+1]? = some (rtO 0 0)/\Below w.heap.size w wx
theorem Bxs.cells {w wx:World} (h:Bxs w wx):wx.cell? ⟨w.heap.size,0,none⟩=some (.int .i64 1)/\wx.cell? ⟨w.heap.size,1,none⟩=some (.int .i64 2)/\wx.cell? ⟨w.heap.size+1,0,none⟩=some (.int .i64 1)/\wx.cell? ⟨w.heap.size+1,1,none⟩=some (.int .i64 3):=
 ⟨aJ h.1 rfl,aJ h.1 rfl,aJ h.2.1 rfl,aJ h.2.1 rfl⟩
theorem Bxs.below {w wx wy:World} (h:Bxs w wx) (hb:Below wx.heap.size wx wy):Bxs w wy:=⟨(hb.block _ (lt_of_block h.1)).trans h.1,(hb.block _ (lt_of_block h.2.1)).trans h.2.1,(hb.block _ (lt_of_block h.2.2.1)).trans h.2.2.1,h.2.2.2.trans (hb.mono h.2.2.2.size)⟩
theorem Bxs.drewN {w wx:World} (h:Bxs w wx) (n:Nat):Bxs w (wx.drewN n):=⟨h.1,h.2.1,h.2.2.1,drewN_below h.2.2.2 _⟩
theorem Bxs.drew {w wx:World} (h:Bxs w wx):Bxs w wx.drew:=h.drewN 1
theorem heap_alloc_at {w:World} {o:Obj} {b:Nat} (h:b=w.heap.size):(w.alloc o).heap[b]? = some o:=by rw [h];exact heap_alloc_new w o
theorem Bxs.alloc {w wx:World} (h:Bxs w wx) (o:Obj):Bxs w (wx.alloc o):=h.below (aK _ _)
theorem radd_c (w:World):Calls Tryz.prog 40 #[rtV 1 2,rtV 1 3] w fun e w'=>e=.returned (.tuple #[rtV 5 6,.int .i64 0])/\Below w.heap.size w w':=by
 go_enter Tryz.func40,Tryz.ntmps40
 go_wp2_with fail
 refine (valid_c 2 (by decide) _).mono ?_
 rintro e w1 ⟨rfl,hb1⟩
 have H0:=aQ ((show dY (fun _=>False) (fun _=>False) w [dJ w.heap.size (rtO 1 2),dJ (w.heap.size+1) (rtO 1 3),dJ (w.heap.size+1+1) (rtO 0 0)] _ from by
  have h:=(((dY.start0 (fun _=>False) (fun _=>False) (fun _ f _=>f) w).new (rtO 1 2)).new (rtO 1 3)).new (rtO 0 0)
  simp only [World.size_alloc] at h
  exact h).own hb1)
 clear hb1
 have c3:=aJ (i:=0) (H0.out.blk 1 rfl) rfl
 have d3:=aJ (i:=1) (H0.out.blk 1 rfl) rfl
 go_wp2_with fail
 refine (valid_c 3 (by decide) _).mono ?_
 rintro e w2 ⟨rfl,hb1⟩
 have HX:=aQ (H0.out.own hb1)
 clear hb1 c3 d3 H0
 have r2:=HX.out.blk 0 rfl
 have r3:=HX.out.blk 1 rfl
 have c2:=aJ (i:=0) r2 rfl
 have d2:=aJ (i:=1) r2 rfl
 have f2:=fun i=>aD r2 i
 have c3:=aJ (i:=0) r3 rfl
 have d3:=aJ (i:=1) r3 rfl
 have f3:=fun i=>aD r3 i
 have l2:=lt_of_block r2
 have l3:=lt_of_block r3
 clear r2 r3
 go_wp2_with fail
 go_cut [28] from 26 to 29 (fun _ wx=>Hid (Bxs w wx))
 case first=>
  go_region_law ((go_simp;go_at_call 74;refine (normal_b _ (by decide) _).mono ?_;rintro e w9 ⟨rfl,hb9⟩;have HY:=aQ (show dY (fun _=>False) (fun _=>False) w [dJ w.heap.size (rtO 1 2),dJ (w.heap.size+1) (rtO 1 3),dJ (w.heap.size+1+1) (rtO 0 0)] w9 from (by first|exact HX.out.own hb9|exact (HX.out.drew).own hb9|exact (HX.out.drewN _).own hb9));clear HX hb9 c2 d2 f2 c3 d3 f3 l2 l3;have HX:=HY;clear HY;have r2:=HX.out.blk 0 rfl;have r3:=HX.out.blk 1 rfl;have c2:=aJ (i:=0) r2 rfl;have d2:=aJ (i:=1) r2 rfl;have f2:=fun i=>aD r2 i;have c3:=aJ (i:=0) r3 rfl;have d3:=aJ (i:=1) r3 rfl;have f3:=fun i=>aD r3 i;have l2:=lt_of_block r2;have l3:=lt_of_block r3;clear r2 r3))
  all_goals
   generalize hwq:(World.setCell _ _ _)=wq
   have HQ:Hid (Bxs w wq):=aQ ⟨by rw [<-hwq];have hh:=HX.out.blk 0 rfl;(apply aS;focus (repeat (first|(with_reducible exact hh)|(with_reducible apply aU)|(with_reducible apply aP)|(with_reducible apply aF)|(with_reducible apply bC)|(apply bN (by first|omega|(simp <;> omega))))));rfl,by rw [<-hwq];have hh:=HX.out.blk 1 rfl;(apply aS;focus (repeat (first|(with_reducible exact hh)|(with_reducible apply aU)|(with_reducible apply aP)|(with_reducible apply aF)|(with_reducible apply bC)|(apply bN (by first|omega|(simp <;> omega))))));rfl,by rw [<-hwq];have hh:=HX.out.blk 2 rfl;(apply aS;focus (repeat (first|(with_reducible exact hh)|(with_reducible apply aU)|(with_reducible apply aP)|(with_reducible apply aF)|(with_reducible apply bC)|(apply bN (by first|omega|(simp <;> omega))))));rfl,by rw [<-hwq];have hh:=HX.out.below;repeat (first|(with_reducible exact hh)|(refine Below.setCell ?_ (by first|exact Nat.le_refl _|exact Nat.le_succ _) _))⟩
   clear hwq HX c2 d2 f2 c3 d3 f3 l2 l3
   go_wp2_with fail
   go_meet
   exact HQ
 case rest=>
 clear HX c2 d2 f2 c3 d3 f3 l2 l3
 have HQ:=hcut
 clear hcut
 obtain ⟨c2,d2,c3,d3⟩:=HQ.out.cells
 go_wp2_with fail
 go_quiet (first|(go_at_call 76;exact Calls.quiet_of_same (size_c _ (by decide) (by decide) _))|(go_at_call 75;exact Calls.quiet_of (gcd4 _ _ (by decide) _)))
 go_wp2_with fail
 have HQ2:=aQ (HQ.out.drewN nq)
 clear c2 d2 c3 d3 HQ
 generalize World.drewN _ _=w5 at HQ2 ⊢
 obtain ⟨c2,d2,c3,d3⟩:=HQ2.out.cells
 have u2:IntKind.u64.wrap 2=2:=by decide
 have u3:IntKind.u64.wrap 3=3:=by decide
 go_quiet ((go_at_call 76;exact Calls.quiet_of_same (size_c _ (by decide) (by decide) _)))
 go_wp2_with fail
 have HQ:=aQ (HQ2.out.drewN nq)
 clear c2 d2 c3 d3 HQ2
 generalize World.drewN _ _=wz at HQ ⊢
 obtain ⟨c2,d2,c3,d3⟩:=HQ.out.cells
 have a3:=fun o=>aI wz o c3
 have a2:=fun o=>aI wz o c2
 have a33:=fun o o'=>aI (wz.alloc o) o' (a3 o)
 have a22:=fun o o'=>aI (wz.alloc o) o' (a2 o)
 go_cut [9] from 47 to 55 (fun p wx=>∃b,p=.pointer (some ⟨b,0,none⟩)/\Hid (Bxs w wx)/\Hid (wx.heap[b]? = some (wdO 5)))
 case first=>
  go_region_law (first|(go_simp;go_at_call 77;refine (product_c _ (by decide) _).mono ?_;rintro e w10 ⟨rfl,rfl⟩)|(go_simp;go_at_call 78;refine (wadd_c _).mono ?_;rintro e w10 ⟨rfl,rfl⟩))
  all_goals
   go_wp2_with fail
   go_meet
   refine ⟨_,rfl,aQ (by repeat (first|(with_reducible exact HQ.out)|(with_reducible refine Bxs.alloc ?_ _)|(with_reducible refine Bxs.drewN ?_ _)|(with_reducible refine Bxs.drew ?_))),aQ ?_⟩
   repeat (first|(refine heap_alloc_at ?_;simp;done)|(with_reducible apply aP)|(with_reducible apply aF)|(with_reducible apply bC))
 case rest=>
 clear c2 d2 c3 d3 a2 a3 a22 a33 HQ
 obtain ⟨b,rfl,HB,HZ⟩:=hcut
 obtain ⟨_,_,c3,d3⟩:=HB.out.cells
 have z0:=aJ (i:=0) HZ.out rfl
 have z1:=aJ (i:=1) HZ.out rfl
 have z2:=aJ (i:=2) HZ.out rfl
 go_wp2_with fail
 refine (divide_c _).mono ?_
 rintro e w2 ⟨rfl,hb⟩
 have HB2:=aQ ((HB.out.below hb).alloc (wdO 5))
 have HZ2:=aQ ((aK w2 (wdO 5)).block _ (Nat.lt_of_lt_of_le (lt_of_block HZ.out) hb.size) |>.trans ((hb.block _ (lt_of_block HZ.out)).trans HZ.out))
 clear c3 d3 z0 z1 z2 HB HZ hb
 obtain ⟨_,_,c3,d3⟩:=HB2.out.cells
 have z0:=aJ (i:=0) HZ2.out rfl
 have z1:=aJ (i:=1) HZ2.out rfl
 have z2:=aJ (i:=2) HZ2.out rfl
 go_wp2_with fail
 refine (gcd4 1 0 (by decide) _).mono ?_
 rintro e w3 ⟨rfl,nd,rfl⟩
 go_wp2_with fail
 refine (divide_c _).mono ?_
 rintro e w4 ⟨rfl,hb⟩
 have HB4:=aQ (((HB2.out.drewN nd).below hb).alloc (wdO 5))
 have HR:=aQ (heap_alloc_new w4 (wdO 5))
 clear c3 d3 z0 z1 z2 HB2 HZ2 hb
 obtain ⟨_,_,c3,d3⟩:=HB4.out.cells
 have z0:=aJ (i:=0) HR.out rfl
 have z1:=aJ (i:=1) HR.out rfl
 have z2:=aJ (i:=2) HR.out rfl
 go_wp2_with fail
 refine (size_c 3 (by decide) (by decide) _).mono ?_
 rintro e w5 ⟨rfl,rfl⟩
 go_wp2_with fail
 refine (mul64_c 2 3 (by decide) _).mono ?_
 rintro e w5 ⟨rfl,rfl⟩
 go_wp2_with fail
 refine (result_c _).mono ?_
 rintro e w6 ⟨rfl,hb⟩
 have HB6:=aQ (HB4.out.below hb)
 clear c3 d3 z0 z1 z2 HB4 HR hb
 have g0:=aJ (i:=0) HB6.out.2.2.1 rfl
 have g1:=aJ (i:=1) HB6.out.2.2.1 rfl
 have gf:=fun i=>aD HB6.out.2.2.1 i
 have gl:=lt_of_block HB6.out.2.2.1
 have HW:=aQ HB6.out.2.2.2
 go_wp2_with fail
 exact bodyPost_ret (by simp [results,Tryz.results40,go_sem,g0,g1];try rfl) rfl ⟨rfl,Below.setCell (Below.setCell HW.out (by simp <;> omega) _) (by simp <;> omega) _⟩
theorem awakeT_c (w:World):Calls Tryz.prog 8 #[] w fun e w'=>e=.returned (.bool true)/\Below w.heap.size w w':=by
 go_enter Tryz.func8,Tryz.ntmps8
 go_wp2_with fail
 refine (radd_c _).mono ?_
 rintro e w1 ⟨rfl,hb⟩
 have HB:=aQ hb
 clear hb
 go_wp2_with fail
 go_ret
 exact ⟨rfl,by have hh:=HB.out;(with_reducible (repeat (first|exact hh|refine Bw.alloc ?_ _|refine Bw.drewN ?_ _|refine Bw.drew ?_)))⟩
end

section
open Go.RowKit Go.ChangeShapes Go.WideShapes Go.ChangeAt
def eU16:El Nat where
 size:=1
 rd _ _ _ cs n:=cs=[.int .u16 (n:Int)]/\n < 65536
 len h:=by rw [h.1];rfl
 keep h _ _:=h
 mono h _ _:=h
 one h u hu:=by rw [h.1] at hu;obtain rfl:=List.mem_singleton.1 hu;rfl
def r16:R Nat:=rMap (rInt .u16) Int.toNat
theorem opens16 {H:Type} {enc:TypeId × Value->H} {W:World}:Opens enc Tryz.prog W 28 (rSlice r16):=
 opens_slice Tryz.underlying28 (by kernel_rfl) (opens_map (cN Tryz.underlying44 (by kernel_rfl)) _) (by decide)
theorem u16s_of {W:World} {v:Value} (h:IsSl r16 W v):∃l,RdS eU16 W (Old W) v l:=by
 obtain ⟨l,hl⟩:=h
 refine ⟨l,rdS_of (r:=r16) (E:=eU16) rfl (by decide) (fun cs p hp=>?_) hl⟩
 obtain ⟨n,⟨rfl,hw⟩,rfl⟩:=hp
 have:=bounds_u16 hw
 exact ⟨by rw [Int.toNat_of_nonneg this.1],by omega⟩
end

end Go.Proofs.YtcbnhebiagdbiaaGreatDoor
