/- How many frames were offered; after the last events a link whose cable is mended becomes quiet in time. No program in sight. -/
import Derived.Test.YtckdblgobmofgaaGreatDoorLsJ
import Derived.Test.YtckdblgobmofgaaGreatDoorPkK1
namespace Go.Proofs.YtckdblgobmofgaaGreatDoor
section
set_option maxRecDepth 100000
def cntF (l:List (List Bytes)):Nat:=(l.map List.length).sum
theorem cntF_set:∀(l:List (List Bytes)) (c:Nat) (d:Bytes),cntF (l.set c (l.getD c []++[d]))<=cntF l+1
 |[],c,d=>by simp [cntF]
 |x::l,0,d=>by
  show ((x++[d]).length::l.map List.length).sum<=(x.length::l.map List.length).sum+1
  rw [List.sum_cons,List.sum_cons,List.length_append];simp;omega
 |x::l,c+1,d=>by
  have:=cntF_set l c d
  unfold cntF at this ⊢
  show (x.length::(l.set c (l.getD c []++[d])).map List.length).sum<=(x.length::l.map List.length).sum+1
  rw [List.sum_cons,List.sum_cons];omega
theorem cntF_range (l:List (List Bytes)):((List.range l.length).map fun c=>(l.getD c []).length).sum=cntF l:=by
 unfold cntF
 congr 1
 refine List.ext_getElem? fun j=>?_
 rw [List.getElem?_map,List.getElem?_map]
 rcases Nat.lt_or_ge j l.length with hj|hj
 ·rw [List.getElem?_range hj,List.getElem?_eq_getElem hj]
  show some ((l.getD j []).length)=some (l[j].length)
  rw [List.getD_eq_getElem?_getD,List.getElem?_eq_getElem hj];rfl
 ·rw [List.getElem?_eq_none (by rw [List.length_range];exact hj),List.getElem?_eq_none hj];rfl
theorem cntF_nils (n:Nat):cntF (List.replicate n [])=0:=by
 unfold cntF
 rw [List.map_replicate]
 induction n with
 |zero=>rfl
 |succ n ih=>rw [List.replicate_succ,List.sum_cons,ih];rfl
def Lnd.Fits (x:Lnd):Prop:=∀c,x.since.getD c 0<=(x.offered.getD c []).length
def Lk.noff (L:Lk):Nat:=cntF L.l.offered+cntF L.r.offered
structure Lk.Tot (L:Lk) (n:Nat):Prop where
 l:L.l.Fits
 r:L.r.Fits
 n:L.noff<=n
theorem getD_set' {α : Type} (l:List α) (i:Nat) (a d : α) (k:Nat):(l.set i a).getD k d=if i=k/\i < l.length then a else l.getD k d:=by
 by_cases h:i < l.length
 ·rw [getD_set _ _ _ _ _ h]
  by_cases e:i=k
  ·rw [if_pos e,if_pos ⟨e,h⟩]
  ·rw [if_neg e,if_neg fun x=>e x.1]
 ·rw [if_neg fun x=>h x.2,List.set_eq_of_length_le (by omega)]
theorem Lnd.Fits.act {x:Lnd} (h:x.Fits) (hl:x.since.length=x.offered.length) (e:Evt):(x.act e).2.Fits/\(x.act e).2.since.length=(x.act e).2.offered.length/\cntF (x.act e).2.offered<=cntF x.offered+1:=by
 unfold Lnd.act
 split
 ·unfold Lnd.offer
  split
  ·refine ⟨fun c=>?_,by show (x.since.set _ _).length=(x.offered.set _ _).length;rw [List.length_set,List.length_set];exact hl,cntF_set _ _ _⟩
   show (x.since.set _ _).getD c 0<=((x.offered.set _ _).getD c []).length
   rw [getD_set',getD_set',hl]
   have:=h c
   split
   ·rename_i q
    obtain ⟨rfl,_⟩:=q
    rw [List.length_append];exact Nat.add_le_add_right this 1
   ·exact this
  ·exact ⟨h,hl,Nat.le_succ _⟩
 ·split
  ·unfold Lnd.take
   split
   ·exact ⟨h,hl,Nat.le_succ _⟩
   ·exact ⟨h,hl,Nat.le_succ _⟩
  ·unfold Lnd.restart
   split
   ·refine ⟨fun c=>?_,by show (List.replicate _ _).length=_;rw [List.length_replicate];exact hl,Nat.le_succ _⟩
    show (List.replicate _ 0).getD c 0<=_
    unfold List.getD
    rw [List.getElem?_replicate]
    split <;> exact Nat.zero_le _
   ·exact ⟨h,hl,Nat.le_succ _⟩
structure Lk.Tots (L:Lk) (n:Nat):Prop extends L.Tot n where
 ll:L.l.since.length=L.l.offered.length
 lr:L.r.since.length=L.r.offered.length
theorem Lk.Tots.act {L:Lk} {n:Nat} (h:L.Tots n) (e:Evt):(L.act e).2.Tots (n+1):=by
 have hm:L.Tots (n+1):=⟨⟨h.l,h.r,Nat.le_succ_of_le h.n⟩,h.ll,h.lr⟩
 have hn:=h.n
 unfold Lk.noff at hn
 unfold Lk.act
 split
 ·exact ⟨⟨h.l,h.r,Nat.le_succ_of_le h.n⟩,h.ll,h.lr⟩
 ·split
  ·exact ⟨⟨h.l,h.r,Nat.le_succ_of_le h.n⟩,h.ll,h.lr⟩
  ·split
   ·exact hm
   ·split
    ·obtain ⟨a1,a2,a3⟩:=h.l.act h.ll e
     exact ⟨⟨a1,h.r,by show cntF (L.l.act e).2.offered+cntF L.r.offered<=n+1;omega⟩,a2,h.lr⟩
    ·split
     ·obtain ⟨a1,a2,a3⟩:=h.r.act h.lr e
      exact ⟨⟨h.l,a1,by show cntF L.l.offered+cntF (L.r.act e).2.offered<=n+1;omega⟩,h.ll,a2⟩
     ·exact hm
theorem Lk.Tots.acts:∀(es:List Evt) {L:Lk} {n:Nat},L.Tots n->(L.acts es).2.Tots (n+es.length)
 |[],_,_,h=>h
 |e::es,L,n,h=>by
  have:=Lk.Tots.acts es (h.act e)
  rw [List.length_cons,Nat.add_comm es.length 1,<-Nat.add_assoc]
  exact this
theorem Lk.Tots.tick {L:Lk} {n:Nat} (h:L.Tots n):L.tick.Tots n:=by
 obtain ⟨h1,h2,h3,h4⟩:=tick_since L
 refine ⟨⟨fun c=>by rw [h1,h3];exact h.l c,fun c=>by rw [h2,h4];exact h.r c,?_⟩,by rw [h1,h3];exact h.ll,by rw [h2,h4];exact h.lr⟩
 unfold Lk.noff
 rw [h3,h4];exact h.n
theorem Lk.Tots.step {L:Lk} {n:Nat} (h:L.Tots n) (es:List Evt):(L.step es).Tots (n+es.length):=(Lk.Tots.acts es h).tick
theorem runs_tots:∀(el:List (List Evt)) {L:Lk} {n:Nat},L.Tots n->(∀es ∈ el,es.length<=6)->(L.runs el).Tots (n+6*el.length)
 |[],_,_,h,_=>h
 |es::el,L,n,h,hl=>by
  have h1:=hl es List.mem_cons_self
  have:=runs_tots el (h.step es) fun x hx=>hl x (List.mem_cons_of_mem _ hx)
  exact ⟨⟨this.l,this.r,by have:=this.n;show _<=_;rw [List.length_cons];exact Nat.le_trans this (by omega)⟩,this.ll,this.lr⟩
theorem newLk_tots (a b:Cfg) (d:Nat) (there back:List Flt):(newLk a b d there back).Tots 0:=
 ⟨⟨fun c=>by show (List.replicate _ 0).getD c 0<=_;unfold List.getD;rw [List.getElem?_replicate];split <;> exact Nat.zero_le _,fun c=>by show (List.replicate _ 0).getD c 0<=_;unfold List.getD;rw [List.getElem?_replicate];split <;> exact Nat.zero_le _,by
  unfold Lk.noff
  show cntF (List.replicate _ [])+cntF (List.replicate _ [])<=0
  rw [cntF_nils,cntF_nils];exact Nat.le_refl _⟩,by show (List.replicate _ _).length=(List.replicate _ _).length;rw [List.length_replicate,List.length_replicate],by show (List.replicate _ _).length=(List.replicate _ _).length;rw [List.length_replicate,List.length_replicate]⟩
theorem some_le {x:Lnd} (h:x.Fits) (hl:x.offered.length=x.prt.rooms.length):x.some<=cntF x.offered:=by
 rw [<-cntF_range,hl]
 exact sum_le fun c _=>h c
structure Lk.Kin (L K:Lk):Prop where
 rl:K.l.prt.rooms=L.l.prt.rooms
 rr:K.r.prt.rooms=L.r.prt.rooms
 tl:K.l.prt.timeout=L.l.prt.timeout
 tr:K.r.prt.timeout=L.r.prt.timeout
 dl:K.l.prt.dead=L.l.prt.dead
 dr:K.r.prt.dead=L.r.prt.dead
 fl:K.l.into.faults=L.l.into.faults
 fr:K.r.into.faults=L.r.into.faults
 al:K.l.into.delay=L.l.into.delay
 ar:K.r.into.delay=L.r.into.delay
theorem Lk.Kin.refl (L:Lk):L.Kin L:=⟨rfl,rfl,rfl,rfl,rfl,rfl,rfl,rfl,rfl,rfl⟩
theorem Lk.Kin.trans {A B C:Lk} (h:A.Kin B) (k:B.Kin C):A.Kin C:=⟨k.rl.trans h.rl,k.rr.trans h.rr,k.tl.trans h.tl,k.tr.trans h.tr,k.dl.trans h.dl,k.dr.trans h.dr,k.fl.trans h.fl,k.fr.trans h.fr,k.al.trans h.al,k.ar.trans h.ar⟩
theorem Lnd.act_kin (x:Lnd) (e:Evt):(x.act e).2.prt.rooms=x.prt.rooms/\(x.act e).2.prt.timeout=x.prt.timeout/\(x.act e).2.prt.dead=x.prt.dead/\(x.act e).2.into=x.into:=by
 unfold Lnd.act
 split
 ·unfold Lnd.offer
  split
  ·have:(x.prt.offer e.cls e.data).2.rooms=x.prt.rooms/\(x.prt.offer e.cls e.data).2.timeout=x.prt.timeout/\(x.prt.offer e.cls e.data).2.dead=x.prt.dead:=by
    unfold Prt.offer
    split
    ·exact ⟨rfl,rfl,rfl⟩
    ·split <;> exact ⟨rfl,rfl,rfl⟩
   exact ⟨this.1,this.2.1,this.2.2,rfl⟩
  ·exact ⟨rfl,rfl,rfl,rfl⟩
 ·split
  ·unfold Lnd.take
   have:(x.prt.take e.cls).2.rooms=x.prt.rooms/\(x.prt.take e.cls).2.timeout=x.prt.timeout/\(x.prt.take e.cls).2.dead=x.prt.dead:=by
    unfold Prt.take
    split <;> exact ⟨rfl,rfl,rfl⟩
   rcases hp:x.prt.take e.cls with ⟨o,q⟩
   rw [hp] at this
   cases o with
   |none=>exact ⟨rfl,rfl,rfl,rfl⟩
   |some d=>exact ⟨this.1,this.2.1,this.2.2,rfl⟩
  ·unfold Lnd.restart
   have:(x.prt.restart (x.inc+1)).2.rooms=x.prt.rooms/\(x.prt.restart (x.inc+1)).2.timeout=x.prt.timeout/\(x.prt.restart (x.inc+1)).2.dead=x.prt.dead:=by
    unfold Prt.restart
    split <;> exact ⟨rfl,rfl,rfl⟩
   split
   ·exact ⟨this.1,this.2.1,this.2.2,rfl⟩
   ·exact ⟨rfl,rfl,rfl,rfl⟩
theorem act_kin (L:Lk) (e:Evt):L.Kin (L.act e).2:=by
 unfold Lk.act
 split
 ·exact ⟨rfl,rfl,rfl,rfl,rfl,rfl,rfl,rfl,rfl,rfl⟩
 ·split
  ·exact ⟨rfl,rfl,rfl,rfl,rfl,rfl,rfl,rfl,rfl,rfl⟩
  ·split
   ·exact .refl L
   ·split
    ·obtain ⟨a1,a2,a3,a4⟩:=L.l.act_kin e
     exact ⟨a1,rfl,a2,rfl,a3,rfl,by show (L.l.act e).2.into.faults=_;rw [a4],rfl,by show (L.l.act e).2.into.delay=_;rw [a4],rfl⟩
    ·split
     ·obtain ⟨a1,a2,a3,a4⟩:=L.r.act_kin e
      exact ⟨rfl,a1,rfl,a2,rfl,a3,rfl,by show (L.r.act e).2.into.faults=_;rw [a4],rfl,by show (L.r.act e).2.into.delay=_;rw [a4]⟩
     ·exact .refl L
theorem acts_kin:∀(es:List Evt) (L:Lk),L.Kin (L.acts es).2
 |[],L=>.refl L
 |e::es,L=>(act_kin L e).trans (acts_kin es _)
theorem tick_kin (A:Lk):A.Kin A.tick:=by
 have a:=tick_alike A
 exact ⟨a.rl,a.rr,a.tl,a.tr,a.dl,a.dr,a.fl,a.fr,a.al,a.ar⟩
theorem step_kin (L:Lk) (es:List Evt):L.Kin (L.step es):=(acts_kin es L).trans (tick_kin _)
theorem runs_kin:∀(el:List (List Evt)) (L:Lk),L.Kin (L.runs el)
 |[],L=>.refl L
 |es::el,L=>(step_kin L es).trans (runs_kin el _)
theorem mend_up (L:Lk):(L.step [⟨4,0,0,[]⟩]).l.into.up=true/\(L.step [⟨4,0,0,[]⟩]).r.into.up=true:=by
 obtain ⟨_,_,a3,_⟩:=tick_into (L.acts [⟨4,0,0,[]⟩]).2
 obtain ⟨_,_,b3,_⟩:=tick_into' (L.acts [⟨4,0,0,[]⟩]).2
 exact ⟨a3.trans rfl,b3.trans rfl⟩
theorem q_room (n T D:Nat):202+7*D+(n+1)*(T+1)+n*(4*D+2)<=(n+4)*(T+4*D+12)+800:=by
 have e1:(n+4)*(T+4*D+12)=(n+1)*(T+1)+3*(T+1)+(n*(4*D+2)+4*(4*D+2)+9*(n+4)):=by
  simp only [Nat.add_mul,Nat.mul_add];omega
 omega
theorem q_small {n T D:Nat} (hn:n<=156) (hT:T<=40) (hD:D<=6):202+7*D+(n+1)*(T+1)+n*(4*D+2)<=10737:=by
 have h1:=Nat.mul_le_mul (show n+1<=157 by omega) (show T+1<=41 by omega)
 have h2:=Nat.mul_le_mul hn (show 4*D+2<=26 by omega)
 omega
theorem q_big {N q:Nat} (hN:N<=400000) (hq:q<=10737):N+14000+13256*(q+1)<=160000000:=by
 have:=Nat.mul_le_mul_left 13256 (show q+1<=10738 by omega)
 omega
theorem q_fine {N q:Nat} (hN:N<=400000) (hq:q<=10737):N+13065+13256*q<=400000000:=by
 have:=Nat.mul_le_mul_left 13256 hq
 omega
theorem mend_quiet {L X:Lk} {N n T D:Nat} {Z:Prop} (k:L.Kin X) (hX:X.Full N Z) (h2:200<=N) (hN:N<=400000) (ht:X.Tots n) (hn:n<=156) (hr:L.l.prt.rooms.length=L.r.prt.rooms.length) (hD:L.l.into.delay=D) (hD':L.r.into.delay=D) (hD6:D<=6)
  (el:Early L.l.into.faults 200) (er:Early L.r.into.faults 200) (dl:2<=L.l.prt.dead) (dr:2<=L.r.prt.dead) (tl:L.l.prt.timeout<=T) (tr:L.r.prt.timeout<=T) (hT:T<=40) :
  ((X.step [⟨4,0,0,[]⟩]).drain (202+7*D+(X.noff+1)*(T+1)+X.noff*(4*D+2))).Quiet:=by
 have hn':X.noff<=156:=Nat.le_trans ht.n hn
 have k2:=k.trans (step_kin X [⟨4,0,0,[]⟩])
 have hY:(X.step [⟨4,0,0,[]⟩]).Full (N+13065) False:=(hX.step h2 [⟨4,0,0,[]⟩]).mono (by simp) False.elim
 have tY:(X.step [⟨4,0,0,[]⟩]).l.Fits/\(X.step [⟨4,0,0,[]⟩]).r.Fits/\(X.step [⟨4,0,0,[]⟩]).l.offered=X.l.offered/\(X.step [⟨4,0,0,[]⟩]).r.offered=X.r.offered:=by
  have:=ht.step [⟨4,0,0,[]⟩]
  obtain ⟨_,_,h3,h4⟩:=tick_since (X.acts [⟨4,0,0,[]⟩]).2
  exact ⟨this.l,this.r,h3.trans rfl,h4.trans rfl⟩
 have oY:(X.step [⟨4,0,0,[]⟩]).l.offered.length=(X.step [⟨4,0,0,[]⟩]).l.prt.rooms.length/\(X.step [⟨4,0,0,[]⟩]).r.offered.length=(X.step [⟨4,0,0,[]⟩]).r.prt.rooms.length:=by
  obtain ⟨wl,wr,oa,ga,pa,ob,gb,pb,da,db,i,k1,k2,_⟩:=hY
  exact ⟨k1.ol,k2.ol⟩
 have u:=mend_up X
 have hq:=q_small hn' hT hD6
 refine drain_quiet hY ⟨hD6,by rw [k2.al];exact hD,by rw [k2.ar];exact hD',u.1,u.2⟩ (by rw [k2.fl];exact el) (by rw [k2.fr];exact er) (by rw [k2.dl];exact dl) (by rw [k2.dr];exact dr) (t:=T) (M:=X.noff) (by rw [k2.tl];exact tl) (by rw [k2.tr];exact tr) (by rw [k2.rl,k2.rr];exact hr) ?_ ?_ (by omega) (Nat.le_refl _) (q_fine hN hq)
 ·refine Nat.le_trans (some_le tY.1 oY.1) ?_
  rw [tY.2.2.1];unfold Lk.noff;omega
 ·refine Nat.le_trans (some_le tY.2.1 oY.2) ?_
  rw [tY.2.2.2];unfold Lk.noff;omega
end
end Go.Proofs.YtckdblgobmofgaaGreatDoor
