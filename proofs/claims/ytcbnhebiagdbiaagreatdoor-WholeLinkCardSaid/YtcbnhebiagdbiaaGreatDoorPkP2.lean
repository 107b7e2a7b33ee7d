/- Lemmas of this proof (texts LvC LvD LvE LvF LvG LnkK LnkC LnkD LnkE). -/
import Derived.Test.YtcbnhebiagdbiaaGreatDoorPkP1
namespace Go.Proofs.YtcbnhebiagdbiaaGreatDoor
set_option maxHeartbeats 64000000
section
inductive Took (a:Prt):Prt->Prop
 |refl:Took a a
 |step {p:Prt} {c:Nat} {d:dV} {l:List dV}:Took a p->c < p.aZ.length->p.aY.getD c []=d::l ->
   Took a { p with aY:=p.aY.set c l,giv:=p.giv.set c (p.gv c).free,cF:=p.cF.set c (p.cF.getD c 0+1) }
theorem Took.eq {a p:Prt} (h:Took a p):p={ a with aY:=p.aY,giv:=p.giv,cF:=p.cF }:=by
 induction h with
 |refl=>rfl
 |@step p c d l _ _ _ ih=>
  have e:∀(x:List (List dV)) (y:List Giv) (z:List Nat),({ p with aY:=x,giv:=y,cF:=z }:Prt)={ a with aY:=x,giv:=y,cF:=z }:=fun x y z=>by rw [ih]
  exact e _ _ _
theorem take_is {a:Prt} {c:Nat} {d:dV} {l:List dV} (hc:c < a.aZ.length) (hd:a.aY.getD c []=d::l) :
  (a.take (c:Int)).2={ a with aY:=a.aY.set c l,giv:=a.giv.set c (a.gv c).free,cF:=a.cF.set c (a.cF.getD c 0+1) }:=by
 have hh:a.has (c:Int):=⟨by omega,by omega⟩
 have hp:a.peek (c:Int)=some d:=by unfold Prt.peek;rw [if_pos hh,Int.toNat_natCast,hd];rfl
 unfold Prt.take
 rw [hp]
 simp only [Int.toNat_natCast,hd,List.drop_succ_cons,List.drop_zero]
theorem Took.ok {a p:Prt} (h:Took a p) (hk:∃N,a.Ok N):∃N,p.Ok N:=by
 induction h with
 |refl=>exact hk
 |@step p c d l _ hc hd ih=>
  obtain ⟨N,ih⟩:=ih
  have:=ih.take (c:Int)
  rw [take_is hc hd] at this
  exact ⟨_,this⟩
section
variable {a b p:Prt} {wa wb:List Way} {oa ga ob gb:Nat->List dV} {da db:Nat->Nat}
theorem Took.both (h:Took a p) (hb:Both a b wa wb oa ga ob gb da db):∃ga',Both p b wa wb oa ga' ob gb da db:=by
 induction h with
 |refl=>exact ⟨ga,hb⟩
 |step _ hc hd ih=>
  obtain ⟨ga',ih⟩:=ih
  exact ⟨_,ih.take hc hd⟩
end
theorem sent_pay {N:Nat} {a:Prt} (ok:a.Ok N) {l:List Pt} (hl:∀y ∈ l,y.pay.length<=1000):∀y ∈ (a.cR l).1,y.pay.length<=1000:=by
 have ok1:=ok.handles l hl
 obtain ⟨a1,ha⟩:∃a1,a1=l.foldl Prt.cU a:=⟨_,rfl⟩
 rw [<-ha] at ok1
 by_cases hs:a1.cS.cR.state=2
 ·rw [Prt.tick_up ha hs]
  have ok3:=(show Prt.Ok (N+200*l.length) { a1 with cS:=a1.cS.cR } from ok1.sideTick).choose
  have hsent:∀y ∈ a1.hail::a1.ackn::(List.range a1.base.length).map a1.cred,y.pay.length<=1000:=fun y hy=>by
   rcases List.mem_cons.1 hy with rfl|hy
   ·exact Nat.zero_le _
   ·rcases List.mem_cons.1 hy with rfl|hy
    ·exact Nat.zero_le _
    ·obtain ⟨c,_,rfl⟩:=List.mem_map.1 hy
     exact Nat.zero_le _
  generalize Prt.choose { a1 with cS:=a1.cS.cR }=q at ok3 ⊢
  generalize a1.hail::a1.ackn::(List.range a1.base.length).map a1.cred=cP at hsent ⊢
  rcases Snd.tick_cases q.snd with ⟨e1,t,e2⟩|⟨i,hi,e1,e2⟩
  ·rcases hq:q.snd.cR with ⟨o,s⟩
   rw [hq] at e1
   dsimp only at e1
   subst e1
   exact hsent
  ·rcases hq:q.snd.cR with ⟨o,s⟩
   rw [hq] at e1
   dsimp only at e1
   subst e1
   intro y hy
   rcases List.mem_append.1 hy with hy|hy
   ·exact hsent y hy
   ·rw [List.mem_singleton.1 hy]
    refine Nat.le_trans (ok3.snd.small _ ?_) (by decide)
    rw [List.getD,List.getElem?_eq_getElem hi]
    exact List.getElem_mem hi
 ·rw [Prt.cX ha hs]
  intro y hy
  rw [List.mem_singleton.1 hy]
  exact Nat.zero_le _
theorem handle_dead (p:Prt) (y:Pt):(p.cU y).cS.dead=p.cS.dead:=by
 have hr:∀(s:Side) (m v:Int),(s.cO m v).dead=s.dead:=fun s m v=>by unfold Side.cO;split <;> rfl
 unfold Prt.cU
 split
 ·unfold Prt.greet;dsimp only
  split
  ·exact hr _ _ _
  ·exact hr _ _ _
 ·split
  ·rfl
  ·split
   ·unfold Prt.cO;split
    ·rfl
    ·dsimp only;split <;> rfl
   ·split
    ·rfl
    ·split
     ·unfold Prt.raise;split <;> rfl
     ·rfl
theorem handles_dead:∀(l:List Pt) (p:Prt),(l.foldl Prt.cU p).cS.dead=p.cS.dead
 |[],_=>rfl
 |y::l,p=>by rw [List.foldl_cons,handles_dead l,handle_dead]
theorem tick_dead (p:Prt) (l:List Pt):(p.cR l).2.cS.dead=p.cS.dead:=by
 have hs:∀s:Side,s.cR.dead=s.dead:=fun s=>by unfold Side.cR;split;rfl;split <;> rfl
 obtain ⟨a,ha⟩:∃a,a=l.foldl Prt.cU p:=⟨_,rfl⟩
 have h1:a.cS.dead=p.cS.dead:=by rw [ha];exact handles_dead l p
 by_cases h:a.cS.cR.state=2
 ·rw [Prt.tick_up ha h]
  have c1:=(choose_side { a with cS:=a.cS.cR }).1
  have h2:(Prt.choose { a with cS:=a.cS.cR }).cS.dead=p.cS.dead:=by rw [c1];exact (hs _).trans h1
  split
  ·exact h2
  ·exact h2
 ·rw [Prt.cX ha h]
  exact (hs _).trans h1
def ways (B:Nat->List Way) (D n:Nat):List Way:=((List.range D).map fun j=>B (n+j)).flatten
theorem ways_succ (B:Nat->List Way) {D:Nat} (hD:1<=D) (n:Nat):∃rest,ways B D n=B n++rest/\ways B D (n+1)=rest++B (n+D):=by
 obtain ⟨d,rfl⟩:∃d,D=d+1:=⟨D - 1,by omega⟩
 refine ⟨((List.range d).map fun j=>B (n+1+j)).flatten,?_,?_⟩
 ·unfold ways
  rw [List.range_succ_eq_map,List.map_cons,List.flatten_cons,List.map_map,Nat.add_zero]
  congr 2
  refine List.map_congr_left fun j _=>?_
  show B (n+(j+1))=_
  rw [show n+(j+1)=n+1+j by omega]
 ·unfold ways
  rw [List.range_succ,List.map_append,List.flatten_append]
  congr 1
  show [B (n+1+d)].flatten=_
  rw [List.flatten_cons,List.flatten_nil,List.append_nil,show n+1+d=n+(d+1) by omega]
theorem ways_mem {B:Nat->List Way} {D n:Nat} {j:Nat} (hj:j < D):∀p ∈ B (n+j),p ∈ ways B D n:=fun _ hp=>
 List.mem_flatten.2 ⟨B (n+j),List.mem_map.2 ⟨j,List.mem_range.2 hj,rfl⟩,hp⟩
structure Go (D:Nat) (a b:Nat->Prt) (Ba Bb:Nat->List Way):Prop where
 hD:1<=D
 ba:∀n,Ba (n+D)=((a n).cR ((Bb n).map (·.2))).1.map fun y=>(((a n).cR ((Bb n).map (·.2))).2.tag,y)
 bb:∀n,Bb (n+D)=((b n).cR ((Ba n).map (·.2))).1.map fun y=>(((b n).cR ((Ba n).map (·.2))).2.tag,y)
 na:∀n,Took ((a n).cR ((Bb n).map (·.2))).2 (a (n+1))
 nb:∀n,Took ((b n).cR ((Ba n).map (·.2))).2 (b (n+1))
 okA:∃N,(a 0).Ok N
 okB:∃N,(b 0).Ok N
 minA:(a 0).Min
 minB:(b 0).Min
 payA:∀j,j < D->∀p ∈ Ba j,p.2.pay.length<=1000
 payB:∀j,j < D->∀p ∈ Bb j,p.2.pay.length<=1000
 both:∃oa ga ob gb da db,Both (a 0) (b 0) (ways Ba D 0) (ways Bb D 0) oa ga ob gb da db
structure At' (D:Nat) (a b:Nat->Prt) (Ba Bb:Nat->List Way) (n:Nat):Prop where
 okA:∃N,(a n).Ok N
 okB:∃N,(b n).Ok N
 minA:(a n).Min
 minB:(b n).Min
 payA:∀j,j < n+D->∀p ∈ Ba j,p.2.pay.length<=1000
 payB:∀j,j < n+D->∀p ∈ Bb j,p.2.pay.length<=1000
 both:∃oa ga ob gb da db,Both (a n) (b n) (ways Ba D n) (ways Bb D n) oa ga ob gb da db
section
variable {D:Nat} {a b:Nat->Prt} {Ba Bb:Nat->List Way}
theorem Go.swap (g:Go D a b Ba Bb):Go D b a Bb Ba:=by
 obtain ⟨oa,ga,ob,gb,da,db,h⟩:=g.both
 exact ⟨g.hD,g.bb,g.ba,g.nb,g.na,g.okB,g.okA,g.minB,g.minA,g.payB,g.payA,ob,gb,oa,ga,db,da,h.swap⟩
theorem At'.swap {n:Nat} (g:At' D a b Ba Bb n):At' D b a Bb Ba n:=by
 obtain ⟨oa,ga,ob,gb,da,db,h⟩:=g.both
 exact ⟨g.okB,g.okA,g.minB,g.minA,g.payB,g.payA,ob,gb,oa,ga,db,da,h.swap⟩
theorem min_took {p q:Prt} (h:Took p q) (hm:p.Min):q.Min:=by rw [h.eq];exact hm
theorem Go.at (g:Go D a b Ba Bb) (n:Nat):At' D a b Ba Bb n:=by
 induction n with
 |zero=>exact ⟨g.okA,g.okB,g.minA,g.minB,fun j hj=>g.payA j (by omega),fun j hj=>g.payB j (by omega),g.both⟩
 |succ n ih=>
  have hD:=g.hD
  obtain ⟨NA,okA⟩:=ih.okA
  obtain ⟨NB,okB⟩:=ih.okB
  have pA:∀y ∈ (Ba n).map (·.2),y.pay.length<=1000:=fun y hy=>by
   obtain ⟨p,hp,rfl⟩:=List.mem_map.1 hy
   exact ih.payA n (by omega) p hp
  have pB:∀y ∈ (Bb n).map (·.2),y.pay.length<=1000:=fun y hy=>by
   obtain ⟨p,hp,rfl⟩:=List.mem_map.1 hy
   exact ih.payB n (by omega) p hp
  obtain ⟨oa,ga,ob,gb,da,db,hb⟩:=ih.both
  obtain ⟨ra,ea1,ea2⟩:=ways_succ Ba hD n
  obtain ⟨rb,eb1,eb2⟩:=ways_succ Bb hD n
  rw [ea1,eb1] at hb
  have h1:=hb.cR okA okB.i2 fun x hx=>ih.payB n (by omega) x hx
  rw [<-g.ba n,List.append_assoc] at h1
  have okA':((a n).cR ((Bb n).map (·.2))).2.inc<=1099511627775:=by rw [(tick_keeps _ _).2.1];exact okA.i2
  have h2:=h1.swap.cR okB okA' fun x hx=>ih.payA n (by omega) x hx
  rw [<-g.bb n,<-ea2,<-eb2] at h2
  obtain ⟨gb',h3⟩:=(g.nb n).both h2
  obtain ⟨ga',h4⟩:=(g.na n).both h3.swap
  refine ⟨(g.na n).ok ⟨_,okA.cR pB⟩,(g.nb n).ok ⟨_,okB.cR pA⟩,min_took (g.na n) ((tick_keeps _ _).2.2 ih.minA),min_took (g.nb n) ((tick_keeps _ _).2.2 ih.minB),fun j hj=>?_,fun j hj=>?_,_,_,_,_,_,_,h4⟩
  ·rcases Nat.lt_or_ge j (n+D) with h|h
   ·exact ih.payA j h
   ·obtain rfl:j=n+D:=by omega
    intro p hp
    rw [g.ba n] at hp
    obtain ⟨y,hy,rfl⟩:=List.mem_map.1 hp
    exact sent_pay okA pB y hy
  ·rcases Nat.lt_or_ge j (n+D) with h|h
   ·exact ih.payB j h
   ·obtain rfl:j=n+D:=by omega
    intro p hp
    rw [g.bb n] at hp
    obtain ⟨y,hy,rfl⟩:=List.mem_map.1 hp
    exact sent_pay okB pA y hy
def Bat (i v k:Nat) (B:List Way):Prop:=∃(t:Tag) (l:Nat->Int) (ds:List Pt),B=(upB i v t.r l k ds).map (fun y=>(t,y))/\IsData i ds/\t.i=i/\t.s=v
structure Up (D:Nat) (a b:Nat->Prt) (Ba Bb:Nat->List Way) (n:Nat):Prop where
 lk:Lkd (a n) (b n)
 fa:∀j,j < D->Bat (a n).inc (b n).inc (a n).aZ.length (Ba (n+j))
 fb:∀j,j < D->Bat (b n).inc (a n).inc (b n).aZ.length (Bb (n+j))
 dA:2<=(a n).cS.dead
 dB:2<=(b n).cS.dead
theorem Up.swap {n:Nat} (u:Up D a b Ba Bb n):Up D b a Bb Ba n:=⟨⟨u.lk.2,u.lk.1⟩,u.fb,u.fa,u.dB,u.dA⟩
theorem Go.turn (g:Go D a b Ba Bb) {n:Nat} (u:Up D a b Ba Bb n):∃(t:Tag) (l:Nat->Int) (ds ds':List Pt) (q:Prt),Bb n=(upB (b n).inc (a n).inc t.r l (b n).aZ.length ds).map (fun y=>(t,y))/\t.i=(b n).inc/\t.s=(a n).inc/\IsData (b n).inc ds/\IsData (a n).inc ds' /\
  (a n).snd.aG<=t.r/\t.r<=(a n).snd.aG+(a n).snd.cP/\(a n).cR ((Bb n).map (·.2))=(upB (a n).inc (b n).inc q.rcv (fun c=>((q.gv c).cE:Int) - ((q.bs c:Nat):Int)) (a n).aZ.length ds',q) /\
  Turn (a n) q (b n).inc t.r (b n).aZ.length l ds ds'/\Took q (a (n+1)):=by
 have hD:=g.hD
 have A:=g.at n
 obtain ⟨N,ok⟩:=A.okA
 obtain ⟨NB,okB⟩:=A.okB
 obtain ⟨oa,ga,ob,gb,da,db,hA,tA,hB,tB,⟨d1,_⟩,d2,_⟩:=A.both
 obtain ⟨t,l,ds,e,hds,ti,ts⟩:=u.fb 0 (by omega)
 rw [Nat.add_zero] at e
 have hm:(Bb n).map (·.2)=upB (b n).inc (a n).inc t.r l (b n).aZ.length ds:=by rw [e,List.map_map];exact List.map_id _
 have hmem:(t,(⟨1#8,0,((b n).inc:Int),((a n).inc:Int),[]⟩:Pt)) ∈ ways Bb D n:=ways_mem (j:=0) (by omega) _ (by rw [Nat.add_zero,e];exact List.mem_cons_self ..)
 have hl:=d1.lnk u.lk.1 u.lk.2
 have r1:(a n).snd.aG<=t.r:=d1.akd _ hmem ti ts u.lk.1 u.lk.2
 have r2:t.r<=(b n).rcv:=((d2.cur _ hmem).2 (show t.i=(b n).inc from ti) (show t.s=(b n).cM from ts.trans u.lk.1.symm)).2.1
 have r3:t.r<=(a n).snd.aG+(a n).snd.cP:=by have:=hl.tq;have:=d1.rc.rt;omega
 have hpay:∀y ∈ ds,y.pay.length<=1000:=fun y hy=>A.payB n (by omega) (t,y) (by
  rw [e]
  refine List.mem_map.2 ⟨y,?_,rfl⟩
  unfold upB
  exact List.mem_cons_of_mem _ (List.mem_cons_of_mem _ (List.mem_append_right _ hy)))
 obtain ⟨q,ds',e2,hds',ht⟩:=tick_upB ok A.minA u.dA (k:=(b n).aZ.length) (l:=l) d1.inc okB.i2 d2.sl u.lk.2 r1 r3 hds hpay
 have htk:=g.na n
 rw [hm,e2] at htk
 exact ⟨t,l,ds,ds',q,e,ti,ts,hds,hds',r1,r3,by rw [hm];exact e2,ht,htk⟩
theorem Go.up_next (g:Go D a b Ba Bb) {n:Nat} (u:Up D a b Ba Bb n):Up D a b Ba Bb (n+1):=by
 obtain ⟨t,l,ds,ds',q,e,ti,ts,hds,hds',r1,r3,htick,ht,htk⟩:=g.turn u
 obtain ⟨t2,l2,dt,dt',p,e2,ti2,ts2,hdt,hdt',r12,r32,htick2,ht2,htk2⟩:=g.swap.turn u.swap
 have ea:=htk.eq
 have eb:=htk2.eq
 have a1:(a (n+1)).inc=(a n).inc:=by rw [ea];exact ht.inc
 have a2:(a (n+1)).cM=(a n).cM:=by rw [ea];exact ht.cM
 have a3:(a (n+1)).aZ=(a n).aZ:=by rw [ea];exact ht.aZ
 have b1:(b (n+1)).inc=(b n).inc:=by rw [eb];exact ht2.inc
 have b2:(b (n+1)).cM=(b n).cM:=by rw [eb];exact ht2.cM
 have b3:(b (n+1)).aZ=(b n).aZ:=by rw [eb];exact ht2.aZ
 refine ⟨⟨by rw [b2,a1];exact u.lk.1,by rw [a2,b1];exact u.lk.2⟩,fun j hj=>?_,fun j hj=>?_,?_,?_⟩
 ·rw [a1,b1,a3]
  rcases Nat.lt_or_ge (j+1) D with h|h
  ·have:=u.fa (j+1) h
   rwa [show n+(j+1)=n+1+j by omega] at this
  ·rw [show n+1+j=n+D by omega,g.ba n,htick]
   exact ⟨q.tag,_,ds',rfl,hds',ht.inc,show q.cM=_ from ht.cM.trans u.lk.2⟩
 ·rw [a1,b1,b3]
  rcases Nat.lt_or_ge (j+1) D with h|h
  ·have:=u.fb (j+1) h
   rwa [show n+(j+1)=n+1+j by omega] at this
  ·rw [show n+1+j=n+D by omega,g.bb n,htick2]
   exact ⟨p.tag,_,dt',rfl,hdt',ht2.inc,show p.cM=_ from ht2.cM.trans u.lk.1⟩
 ·rw [ea]
  show 2<=q.cS.dead
  rw [ht.cS];exact u.dA
 ·rw [eb]
  show 2<=p.cS.dead
  rw [ht2.cS];exact u.dB
theorem Go.up_all (g:Go D a b Ba Bb) (u:Up D a b Ba Bb 0) (n:Nat):Up D a b Ba Bb n:=by
 induction n with
 |zero=>exact u
 |succ n ih=>exact g.up_next ih
end
end

section
theorem snd_tick4 (s:Snd):(s.cT.length=0/\s.cR=(none,s))\/(0 < s.cT.length/\s.cT.length<=s.pos/\s.timer+1 < s.aN/\s.cR=(none,{ s with timer:=s.timer+1 })) \/
  (0 < s.cT.length/\s.cT.length<=s.pos/\s.aN<=s.timer+1/\∃d,s.cR=(some (s.aG % 256,d),{ s with pos:=1,cP:=max s.cP 1,timer:=0 })) \/
  (s.pos < s.cT.length/\∃d,s.cR=(some ((s.aG+s.pos) % 256,d),{ s with pos:=s.pos+1,cP:=max s.cP (s.pos+1),timer:=0 })):=by
 unfold Snd.cR
 by_cases h0:s.cT.length=0
 ·rw [if_pos h0];exact .inl ⟨h0,rfl⟩
 ·rw [if_neg h0]
  by_cases h1:s.cT.length<=s.pos
  ·rw [if_pos h1]
   by_cases h2:s.timer+1 < s.aN
   ·rw [if_pos h2];exact .inr (.inl ⟨by omega,h1,h2,rfl⟩)
   ·rw [if_neg h2];exact .inr (.inr (.inl ⟨by omega,h1,by omega,_,rfl⟩))
  ·rw [if_neg h1];exact .inr (.inr (.inr ⟨by omega,_,rfl⟩))
theorem upB_inj {i v r k:Nat} {l l':Nat->Int} {ds ds':List Pt} {t t':Tag} (_:r=t.r) (h:(upB i v r l k ds).map (fun y=>(t,y))=(upB i v t'.r l' k ds').map (fun y=>(t',y))):t=t'/\ds=ds'/\∀c,c < k->l c=l' c:=by
 unfold upB at h
 simp only [List.cons_append,List.map_cons,List.cons.injEq,Prod.mk.injEq] at h
 obtain ⟨⟨rfl,_⟩,_,h⟩:=h
 have h2:((List.range k).map fun (c:Nat)=>(⟨4#8,(c:Int),l c,(i:Int),[]⟩:Pt))++ds=((List.range k).map fun (c:Nat)=>(⟨4#8,(c:Int),l' c,(i:Int),[]⟩:Pt))++ds':=by
  have:=congrArg (List.map (fun p:Way=>p.2)) h
  rw [List.map_map,List.map_map] at this
  exact (List.map_id _).symm.trans (this.trans (List.map_id _))
 obtain ⟨h3,h4⟩:=List.append_inj h2 (by simp)
 refine ⟨rfl,h4,fun c hc=>?_⟩
 have h5:=congrArg (fun x=>x[c]?) h3
 simp only [List.getElem?_map,List.getElem?_range hc,Option.map_some,Option.some.injEq,Pt.mk.injEq] at h5
 exact h5.2.2.1
theorem recv_index {p : Prt} {hist : Hist} {top t idx : Nat} {y : Pt} (h : Rec p hist top) (h1 : p.rcv ≤ t) (h2 : t ≤ top) (hc : Carries hist t y) (hn : y.number = ((idx % 256 : Nat) : Int)) (hi : idx < t) (hi2 : t ≤ idx + 128) :
    ((p.cO y).rcv = p.rcv + 1 ∧ idx = p.rcv) ∨ ((p.cO y).rcv = p.rcv ∧ idx ≠ p.rcv) := by
  obtain ⟨m, c, m1, m2, m3, m4, m5⟩ := hc
  have hlow := h.low
  have hm : m % 256 = idx % 256 := by rw [m5] at hn; exact_mod_cast hn
  obtain rfl : m = idx := by omega
  have hcl : c < p.aZ.length := h.cls _ (List.mem_of_getElem? m4)
  by_cases hr : m = p.rcv
  · refine .inl ⟨?_, hr⟩
    unfold Prt.cO
    rw [if_neg]
    · dsimp only; split <;> rfl
    · rintro (hh | hh)
      · exact hh (show 0 ≤ y.cls ∧ y.cls < p.aZ.length by omega)
      · exact hh (by rw [hn, hr])
  · refine .inr ⟨?_, hr⟩
    unfold Prt.cO
    rw [if_pos (.inr fun hh => hr (by rw [hn] at hh; have : m % 256 = p.rcv % 256 := by exact_mod_cast hh
                                      omega))]
theorem receive_gv (p:Prt) (y:Pt) (c:Nat):((p.cO y).gv c).cI=(p.gv c).cI/\((p.cO y).gv c).room=(p.gv c).room:=by
 unfold Prt.cO
 split
 ·exact ⟨rfl,rfl⟩
 ·dsimp only
  split
  ·exact ⟨rfl,rfl⟩
  ·show ((p.giv.set y.cls.toNat ((p.giv.getD y.cls.toNat ⟨0,0,0⟩).cO.2)).getD c ⟨0,0,0⟩).cI=_/\((p.giv.set y.cls.toNat ((p.giv.getD y.cls.toNat ⟨0,0,0⟩).cO.2)).getD c ⟨0,0,0⟩).room=_
   rcases Nat.lt_or_ge y.cls.toNat p.giv.length with h|h
   ·rw [getD_set _ _ _ _ _ h]
    split
    ·rename_i e;subst e
     unfold Giv.cO
     split <;> exact ⟨rfl,rfl⟩
    ·exact ⟨rfl,rfl⟩
   ·rw [List.set_eq_of_length_le h];exact ⟨rfl,rfl⟩
theorem recvs_gv {i:Nat} {ds:List Pt} (h:IsData i ds) (p:Prt) (c:Nat):((p.recvs ds).gv c).cI=(p.gv c).cI/\((p.recvs ds).gv c).room=(p.gv c).room:=by
 rcases h with rfl|⟨_,_,_,rfl⟩
 ·exact ⟨rfl,rfl⟩
 ·exact receive_gv _ _ _
def wt (p:Prt):Nat:=(p.aX.map List.length).sum
theorem wt_set:∀ {l:List (List dV)} {c:Nat} {d:dV} {w:List dV},l.getD c []=d::w->((l.set c w).map List.length).sum+1=(l.map List.length).sum
 |[],c,d,w,h=>by simp at h
 |x::l,0,d,w,h=>by
  have h:x=d::w:=h
  subst h
  simp only [jQ2,List.map_cons,List.sum_cons,List.length_cons]
  omega
 |x::l,c+1,d,w,h=>by
  have:=wt_set (l:=l) (c:=c) (d:=d) (w:=w) h
  simp only [jQ3,List.map_cons,List.sum_cons]
  omega
theorem wt_zero:∀ {l:List (List dV)},(∀c,c < l.length->l.getD c []=[])->(l.map List.length).sum=0
 |[],_=>rfl
 |x::l,h=>by
  have h0:x=[]:=h 0 (by simp)
  have:=wt_zero (l:=l) fun c hc=>h (c+1) (by simpa using hc)
  subst h0
  simp only [List.map_cons,List.sum_cons,List.length_nil,this]
section
variable {D:Nat} {a b:Nat->Prt} {Ba Bb:Nat->List Way}
theorem Go.const (g:Go D a b Ba Bb) (u:Up D a b Ba Bb 0) (n:Nat):(a n).inc=(a 0).inc/\(a n).aZ=(a 0).aZ/\(a n).cA=(a 0).cA/\(a n).base=(a 0).base/\(a n).snd.aN=(a 0).snd.aN:=by
 induction n with
 |zero=>exact ⟨rfl,rfl,rfl,rfl,rfl⟩
 |succ n ih=>
  obtain ⟨t,l,ds,ds',q,e,ti,ts,hds,hds',r1,r3,htick,ht,htk⟩:=g.turn (g.up_all u n)
  have ea:=htk.eq
  obtain ⟨i1,i2,i3,i4,i5⟩:=ih
  refine ⟨by rw [ea];exact ht.inc.trans i1,by rw [ea];exact ht.aZ.trans i2,by rw [ea];exact ht.cA.trans i3,by rw [ea];exact ht.base.trans i4,?_⟩
  rw [ea]
  show q.snd.aN=_
  obtain ⟨ch,tk,_,_,_,hs,_⟩:=ht.send
  have hd:∀(s:Snd) (k:Nat),(s.drop k).aN=s.aN:=fun s k=>by unfold Snd.drop;split <;> rfl
  have htk:∀s:Snd,s.cR.2.aN=s.aN:=fun s=>by
   rcases snd_tick4 s with ⟨_,e⟩|⟨_,_,_,e⟩|⟨_,_,_,_,e⟩|⟨_,_,e⟩ <;> rw [e]
  rw [hs,htk]
  exact (hd _ _).trans i5
theorem Go.sender (g:Go D a b Ba Bb) (u:Up D a b Ba Bb 0) (n:Nat) :
  ∃(t:Tag) (l:Nat->Int) (ds ds':List Pt) (q:Prt),Bb n=(upB (b n).inc (a n).inc t.r l (b n).aZ.length ds).map (fun y=>(t,y))/\Ba (n+D)=(upB (a n).inc (b n).inc q.tag.r (fun c=>((q.gv c).cE:Int) - ((q.bs c:Nat):Int)) (a n).aZ.length ds').map (fun y=>(q.tag,y))/\IsData (a n).inc ds'/\IsData (b n).inc ds /\
   Turn (a n) q (b n).inc t.r (b n).aZ.length l ds ds'/\Took q (a (n+1))/\(a n).snd.aG<=t.r/\t.r<=(a n).snd.aG+(a n).snd.cP/\(a (n+1)).snd.aG=t.r/\t.r<=(a n).snd.aG+(a n).snd.cT.length/\q.snd=(a (n+1)).snd/\q.rcv=(a (n+1)).rcv/\t.i=(b n).inc/\t.s=(a n).inc/\(∃N,q.Ok N):=by
 obtain ⟨t,l,ds,ds',q,e,ti,ts,hds,hds',r1,r3,htick,ht,htk⟩:=g.turn (g.up_all u n)
 have ea:=htk.eq
 have h1:q.snd=(a (n+1)).snd:=by rw [ea]
 have h2:q.rcv=(a (n+1)).rcv:=by rw [ea]
 have A:=g.at n
 obtain ⟨N,ok⟩:=A.okA
 have h3:(a (n+1)).snd.aG=t.r:=by
  rw [<-h1]
  obtain ⟨ch,tk,_,_,_,hs,_⟩:=ht.send
  rw [hs,(tick_snd _).1]
  show ((a n).snd.drop (t.r - (a n).snd.aG)).aG=t.r
  rw [(drop_acked _ _ (by omega)).1]
  omega
 have hq:∃N,q.Ok N:=by
  have:=ok.cR (l:=(Bb n).map (·.2)) fun y hy=>by
   obtain ⟨p,hp,rfl⟩:=List.mem_map.1 hy
   have:=g.hD
   exact A.payB n (by omega) p hp
  rw [htick] at this
  exact ⟨_,this⟩
 refine ⟨t,l,ds,ds',q,e,?_,hds',hds,ht,htk,r1,r3,h3,by have:=ok.snd.cP;omega,h1,h2,ti,ts,hq⟩
 rw [g.ba n,htick]
 rfl
end
end

section
theorem drop_facts (s:Snd) (k:Nat):(s.drop k).cT.length=s.cT.length - k/\(s.drop k).pos=s.pos - k/\((k=0->(s.drop k).timer=s.timer)/\(k≠0->(s.drop k).timer=0))/\(s.drop k).aN=s.aN:=by
 unfold Snd.drop
 split
 ·rename_i h;subst h;exact ⟨rfl,rfl,⟨fun _=>rfl,fun h=>absurd rfl h⟩,rfl⟩
 ·exact ⟨List.length_drop,rfl,⟨fun h=>by omega,fun _=>rfl⟩,rfl⟩
theorem raise_sent (t:Tak) (l:Int):(t.raise l).cP=t.cP:=by unfold Tak.raise;split <;> rfl
theorem getD_mem_rm {l:List Nat} (h:∀x ∈ l,1<=x/\x<=64) {c:Nat} (hc:c < l.length):1<=l.getD c 0:=by
 rw [List.getD,List.getElem?_eq_getElem hc]
 exact (h _ (List.getElem_mem hc)).1
section
variable {D:Nat} {a b:Nat->Prt} {Ba Bb:Nat->List Way}
theorem Go.step (g : Go D a b Ba Bb) (u : Up D a b Ba Bb 0) (n : Nat) : ∃ ch k1 p1 t1, k1 = (a n).snd.cT.length - ((a (n + 1)).snd.aG - (a n).snd.aG) ∧ p1 = (a n).snd.pos - ((a (n + 1)).snd.aG - (a n).snd.aG) ∧
    (((a (n + 1)).snd.aG = (a n).snd.aG → t1 = (a n).snd.timer) ∧ ((a (n + 1)).snd.aG ≠ (a n).snd.aG → t1 = 0)) ∧ (a (n + 1)).snd.cT.length = k1 + ch ∧ wt (a (n + 1)) + ch = wt (a n) ∧
    (ch = 0 ∧ ((a 0).cA ≤ k1 ∨ ∀ c, c < (a 0).aZ.length → ((a n).aX.getD c []).length = 0 ∨ ((a (n + 1)).tk c).cE ≤ ((a n).tk c).cP) ∧ (∀ c, ((a (n + 1)).tk c).cP = ((a n).tk c).cP) ∨ ch = 1) ∧
    (((a (n + 1)).snd.cT.length = 0 ∧ (a (n + 1)).snd.pos = p1 ∧ (a (n + 1)).snd.timer = t1 ∧ (b (n + D + 1)).rcv = (b (n + D)).rcv) ∨
     (0 < (a (n + 1)).snd.cT.length ∧ (a (n + 1)).snd.cT.length ≤ p1 ∧ t1 + 1 < (a 0).snd.aN ∧ (a (n + 1)).snd.pos = p1 ∧ (a (n + 1)).snd.timer = t1 + 1 ∧ (b (n + D + 1)).rcv = (b (n + D)).rcv) ∨
     (0 < (a (n + 1)).snd.cT.length ∧ (a (n + 1)).snd.cT.length ≤ p1 ∧ (a 0).snd.aN ≤ t1 + 1 ∧ (a (n + 1)).snd.pos = 1 ∧ (a (n + 1)).snd.timer = 0 ∧ ((b (n + D + 1)).rcv = (b (n + D)).rcv + 1 ∧ (a (n + 1)).snd.aG = (b (n + D)).rcv ∨ (b (n + D + 1)).rcv = (b (n + D)).rcv ∧ (a (n + 1)).snd.aG ≠ (b (n + D)).rcv)) ∨
     (p1 < (a (n + 1)).snd.cT.length ∧ (a (n + 1)).snd.pos = p1 + 1 ∧ (a (n + 1)).snd.timer = 0 ∧ ((b (n + D + 1)).rcv = (b (n + D)).rcv + 1 ∧ (a (n + 1)).snd.aG + p1 = (b (n + D)).rcv ∨ (b (n + D + 1)).rcv = (b (n + D)).rcv ∧ (a (n + 1)).snd.aG + p1 ≠ (b (n + D)).rcv))) := by
  have hD := g.hD
  obtain ⟨t, l, ds, ds', q, eB, eA, hds', hds, ht, htk, r1, r3, hA1, rK, hs, hr, ti, ts, Nq, okq⟩ := g.sender u n
  obtain ⟨t', l', dt, dt', p, eB2, eA2, hdt', hdt, ht2, htk2, r12, r32, hA12, rK2, hs2, hr2, ti2, ts2, _⟩ := g.swap.sender u.swap (n + D)
  obtain ⟨c1, c2, c3, c4, c5⟩ := g.const u n
  obtain ⟨d1, d2, d3, d4, d5⟩ := g.const u (n + D)
  obtain ⟨e1, e2, e3, e4, e5⟩ := g.swap.const u.swap n
  obtain ⟨f1, f2, f3, f4, f5⟩ := g.swap.const u.swap (n + D)
  rw [c1, c2, e1] at eA
  rw [d1, d2, f1] at eB2
  obtain ⟨rfl, rfl, _⟩ := upB_inj rfl (eA.symm.trans eB2)
  have hrcv : (b (n + D + 1)).rcv = ((b (n + D)).recvs ds').rcv := hr2.symm.trans ht2.rcv
  have A := g.at (n + D)
  have hup := g.up_all u (n + D)
  obtain ⟨oa, ga, ob, gb, da, db, hA, tA, hB, tB, ⟨w1, _⟩, _, _⟩ := A.both
  have hmem : ∀ y ∈ ds', (q.tag, y) ∈ ways Ba D (n + D) := fun y hy => ways_mem (j := 0) (by omega) _ (by
    rw [Nat.add_zero, eA]
    refine List.mem_map.2 ⟨y, ?_, rfl⟩
    unfold upB
    exact List.mem_cons_of_mem _ (List.mem_cons_of_mem _ (List.mem_append_right _ hy)))
  have hidx : ∀ (idx : Nat) (c : Int) (d : dV), ds' = [⟨2#8, c, ((idx % 256 : Nat) : Int), ((a n).inc : Int), d⟩] → idx < q.snd.aG + q.snd.cP → q.snd.aG + q.snd.cP ≤ idx + 128 →
      ((b (n + D + 1)).rcv = (b (n + D)).rcv + 1 ∧ idx = (b (n + D)).rcv) ∨ ((b (n + D + 1)).rcv = (b (n + D)).rcv ∧ idx ≠ (b (n + D)).rcv) := fun idx c d e h1 h2 => by
    rw [hrcv, e]
    obtain ⟨g1, g2, g3⟩ := w1.fly _ (hmem _ (by rw [e]; exact List.mem_cons_self ..)) (show q.inc = (b (n + D)).cM by rw [hup.lk.1, d1, ht.inc, c1]) (show q.cM = (b (n + D)).inc by rw [ht.cM, (g.up_all u n).lk.2, e1, f1])
    exact recv_index w1.rc g1 g2 (g3 rfl) rfl h1 h2
  have hnone : ds' = [] → (b (n + D + 1)).rcv = (b (n + D)).rcv := fun e => by rw [hrcv, e]; rfl
  obtain ⟨ch, tk, g1, g2, g3, g4, g5, g6⟩ := ht.send
  obtain ⟨N, ok⟩ := (g.at n).okA
  obtain ⟨k1, k2, k3, k4⟩ := drop_facts (a n).snd (t.r - (a n).snd.aG)
  have hac : ((a n).snd.drop (t.r - (a n).snd.aG)).aG = t.r := by rw [(drop_acked _ _ (by omega)).1]; omega
  have hwin := okq.snd.cT; have hw2 := okq.snd.w2; have hsk := okq.snd.cP
  rw [hA1]
  obtain ⟨s2, hs2'⟩ : ∃ s2 : Snd, s2 = { (a n).snd.drop (t.r - (a n).snd.aG) with cT := ((a n).snd.drop (t.r - (a n).snd.aG)).cT ++ ch.map (·.2) } := ⟨_, rfl⟩
  rw [← hs2'] at g4 g5
  have m1 : s2.cT.length = (a n).snd.cT.length - (t.r - (a n).snd.aG) + ch.length := by rw [hs2']; simp [k1]
  have m2 : s2.pos = (a n).snd.pos - (t.r - (a n).snd.aG) := by rw [hs2']; exact k2
  have m3 : (t.r = (a n).snd.aG → s2.timer = (a n).snd.timer) ∧ (t.r ≠ (a n).snd.aG → s2.timer = 0) := ⟨fun h => by rw [hs2']; exact k3.1 (by omega), fun h => by rw [hs2']; exact k3.2 (by omega)⟩
  have m4 : s2.aN = (a 0).snd.aN := by rw [hs2']; exact k4.trans c5
  have m5 : s2.aG = t.r := by rw [hs2']; exact hac
  have m6 : (a (n + 1)).snd.cT.length = s2.cT.length := by rw [← hs, g4, (tick_snd s2).2.2]
  have hea := htk.eq
  have hwt : wt (a (n + 1)) = wt q := by unfold wt; rw [hea]
  have htak : (a (n + 1)).tak = q.tak := by rw [hea]
  refine ⟨ch.length, _, _, s2.timer, rfl, rfl, m3, m6.trans m1, ?_, ?_, ?_⟩
  · rw [hwt]
    rcases g6 with ⟨rfl, x1, _⟩ | ⟨c, d, w, rfl, x1, x2, x3, _⟩
    · unfold wt; rw [x1]; rfl
    · unfold wt; rw [x3]; exact wt_set x2
  · rcases g6 with ⟨rfl, x1, x2, x3⟩ | ⟨c, d, w, rfl, _⟩
    · refine .inl ⟨rfl, ?_, fun c => ?_⟩
      · rcases x3 with x3 | x3
        · refine .inl ?_
          rw [c3, k1] at x3
          exact x3
        · refine .inr fun c hc => ?_
          have hc3 : c < (a n).aZ.length := by rw [c2]; exact hc
          rcases x3 c hc3 with h | this
          · exact .inl (by rw [h]; rfl)
          · refine .inr ?_
            unfold Prt.tk
            rw [htak, x2]
            refine Nat.le_trans this (Nat.le_of_eq ?_)
            rw [g2 c]
            split
            · exact raise_sent _ _
            · rfl
      · unfold Prt.tk
        rw [htak, x2, g2 c]
        split
        · exact raise_sent _ _
        · rfl
    · exact .inr rfl
  · rw [m6, ← hs, g4]
    rw [g4] at hidx hsk hwin hw2
    have hdat : ∀ (m : Nat) (d : dV), s2.cR.1 = some (m, d) → ∃ c : Nat, ds' = [⟨2#8, (c : Int), (m : Int), ((a n).inc : Int), d⟩] := fun m d e => by
      rcases g5 with ⟨e', _⟩ | ⟨m', d', c, e', e2⟩
      · rw [e] at e'; cases e'
      · rw [e] at e'
        simp only [Option.some.injEq, Prod.mk.injEq] at e'
        obtain ⟨rfl, rfl⟩ := e'
        exact ⟨c, e2⟩
    have hnon : s2.cR.1 = none → ds' = [] := fun e => by
      rcases g5 with ⟨_, e'⟩ | ⟨m', d', c, e', _⟩
      · exact e'
      · rw [e] at e'; cases e'
    rcases snd_tick4 s2 with ⟨x1, x2⟩ | ⟨x1, x2, x3, x4⟩ | ⟨x1, x2, x3, d, x4⟩ | ⟨x1, d, x4⟩
    · refine .inl ⟨x1, ?_, ?_, hnone (hnon (by rw [x2]))⟩
      · rw [x2]; exact m2
      · rw [x2]
    · refine .inr (.inl ⟨x1, by omega, by omega, ?_, ?_, hnone (hnon (by rw [x4]))⟩)
      · rw [x4]; exact m2
      · rw [x4]
    · obtain ⟨c, e⟩ := hdat _ _ (by rw [x4])
      rw [x4] at hidx hsk hwin hw2
      dsimp only at hidx hsk hwin hw2
      refine .inr (.inr (.inl ⟨x1, by omega, by omega, by rw [x4], by rw [x4], ?_⟩))
      have := hidx s2.aG c d e (by omega) (by omega)
      rwa [m5] at this
    · obtain ⟨c, e⟩ := hdat _ _ (by rw [x4])
      rw [x4] at hidx hsk hwin hw2
      dsimp only at hidx hsk hwin hw2
      refine .inr (.inr (.inr ⟨by omega, by rw [x4, ← m2], by rw [x4], ?_⟩))
      have := hidx (s2.aG + s2.pos) c d e (by omega) (by omega)
      rwa [m5, m2] at this
theorem Go.total (g:Go D a b Ba Bb) (u:Up D a b Ba Bb 0) (n:Nat):(a n).snd.aG+(a n).snd.cT.length+wt (a n)=(a 0).snd.aG+(a 0).snd.cT.length+wt (a 0):=by
 induction n with
 |zero=>rfl
 |succ n ih=>
  obtain ⟨ch,k1,p1,t1,e1,_,_,e4,e5,_⟩:=g.step u n
  obtain ⟨t,l,ds,ds',q,eB,eA,hds',hds,ht,htk,r1,r3,hA1,rK,_⟩:=g.sender u n
  clear e1 e4 e5
  obtain ⟨ch,k1,p1,t1,e1,-,-,e4,e5,-⟩:=g.step u n
  omega
theorem Go.flow0 (g:Go D a b Ba Bb) (u:Up D a b Ba Bb 0) (hr:(b 0).aZ.length=(a 0).aZ.length) (hM:(a 0).snd.aG+(a 0).snd.cT.length+wt (a 0)<=1000000000) :
  Flow0 D (a 0).snd.aN (a 0).cA (a 0).aZ.length (fun n=>(b n).rcv) (fun n=>(a n).snd.aG) (fun n=>(a n).snd.cT.length) (fun n=>(a n).snd.pos) (fun n=>(a n).snd.timer) (fun n=>wt (a n)) (fun n c=>((a n).tk c).cP) (fun n c=>((a n).tk c).cE)
   (fun n c=>((a n).aX.getD c []).length) (fun n c=>((b n).gv c).cI) (fun n c=>((b n).gv c).aW) (fun c=>(b 0).bs c) (fun c=>(b 0).aZ.getD c 0):=by
 have hhist:∀n,∃(hA:Hist) (tA:Nat),Rec (b n) hA tA/\Lnk (a n) (b n) hA tA/\hA.length=(a n).snd.aG+(a n).snd.cT.length:=fun n=>by
  obtain ⟨oa,ga,ob,gb,da,db,hA,tA,hB,tB,⟨w1,_⟩,_,_⟩:=(g.at n).both
  have hup:=g.up_all u n
  obtain ⟨N,ok⟩:=(g.at n).okA
  have hl:=w1.lnk hup.lk.1 hup.lk.2
  refine ⟨hA,tA,w1.rc,hl,?_⟩
  have h1:(a n).cT.length=(a n).snd.cT.length:=by rw [<-ok.cT,List.length_map]
  have h2:=congrArg List.length hl.cT
  rw [List.length_drop] at h2
  have h3:=hl.ack;have h4:=w1.rc.rt;have h5:=w1.rc.tl
  omega
 refine ⟨?_,?_,fun n=>?_,fun n=>?_,fun n=>?_,fun n=>?_,fun n=>?_,fun n=>?_,fun n=>g.step u n,fun n hn=>?_,fun n c hc=>?_,fun c hc=>?_,fun n c hc hR=>?_,fun n=>?_⟩
 ·obtain ⟨N,ok⟩:=g.okA
  exact ok.snd.t1
 ·obtain ⟨N,ok⟩:=g.okA
  exact ok.w1
 ·obtain ⟨t,l,ds,ds',q,eB,eA,hds',hds,ht,htk,r1,r3,hA1,rK,hs,hr,ti,ts,Nq,okq⟩:=g.swap.sender u.swap n
  show (b n).rcv<=(b (n+1)).rcv
  rw [<-hr,ht.rcv]
  rcases hds with rfl|⟨_,_,_,rfl⟩
  ·exact Nat.le_refl _
  ·show (b n).rcv<=((b n).cO _).rcv
   unfold Prt.cO
   split
   ·exact Nat.le_refl _
   ·dsimp only;split <;> exact Nat.le_succ _
 ·obtain ⟨t,l,ds,ds',q,eB,eA,hds',hds,ht,htk,r1,r3,hA1,rK,hs,hr,ti,ts,Nq,okq⟩:=g.sender u (n+D)
  obtain ⟨t2,l2,dt,dt',p,eB2,eA2,hdt',hdt,ht2,htk2,r12,r32,hA12,rK2,hs2,hr2,ti2,ts2,_⟩:=g.swap.sender u.swap n
  obtain ⟨c1,_⟩:=g.const u n
  obtain ⟨d1,_⟩:=g.const u (n+D)
  obtain ⟨e1,e2,_⟩:=g.swap.const u.swap n
  obtain ⟨f1,f2,_⟩:=g.swap.const u.swap (n+D)
  rw [c1,e1,e2] at eA2
  rw [d1,f1,f2] at eB
  obtain ⟨rfl,_,_⟩:=upB_inj rfl (eA2.symm.trans eB)
  show (b (n+1)).rcv<=(a (n+D+1)).snd.aG
  rw [hA1,<-hr2]
  exact Nat.le_refl _
 ·obtain ⟨hA,tA,h1,h2,h3⟩:=hhist n
  exact h2.ack
 ·obtain ⟨t,l,ds,ds',q,eB,eA,hds',hds,ht,htk,r1,r3,hA1,rK,hs,hr,ti,ts,Nq,okq⟩:=g.sender u n
  show (a n).snd.aG<=(a (n+1)).snd.aG/\(a (n+1)).snd.aG<=_
  rw [hA1]
  exact ⟨r1,rK⟩
 ·obtain ⟨N,ok⟩:=(g.at n).okA
  exact Nat.le_trans ok.snd.pos ok.snd.cP
 ·obtain ⟨N,ok⟩:=(g.at n).okA
  have:=ok.snd.timer
  have:=(g.const u n).2.2.2.2
  show (a n).snd.timer<=(a 0).snd.aN
  omega
 ·obtain ⟨N,ok⟩:=(g.at n).okA
  obtain ⟨_,c2,_⟩:=g.const u n
  apply Classical.byContradiction
  intro hno
  have hz:wt (a n)=0:=wt_zero fun c hc=>by
   have hc':c < (a 0).aZ.length:=by rw [<-c2,<-ok.wl];exact hc
   exact List.eq_nil_of_length_eq_zero (Nat.le_zero.1 (Nat.le_of_not_lt fun h=>hno ⟨c,hc',h⟩))
  have hn:0 < wt (a n):=hn
  omega
 ·obtain ⟨t,l,ds,ds',q,eB,eA,hds',hds,ht,htk,r1,r3,hA1,rK,hs,hrr,ti,ts,Nq,okq⟩:=g.sender u (n+D)
  obtain ⟨t2,l2,dt,dt',p,eB2,eA2,hdt',hdt,ht2,htk2,r12,r32,hA12,rK2,hs2,hr2,ti2,ts2,_⟩:=g.swap.sender u.swap n
  obtain ⟨c1,c2,_⟩:=g.const u n
  obtain ⟨d1,d2,_⟩:=g.const u (n+D)
  obtain ⟨e1,e2,_,e4,_⟩:=g.swap.const u.swap n
  obtain ⟨f1,f2,_⟩:=g.swap.const u.swap (n+D)
  rw [c1,e1,e2] at eA2
  rw [d1,f1,f2] at eB
  obtain ⟨rfl,_,hl⟩:=upB_inj rfl (eA2.symm.trans eB)
  have hl:=hl c (by omega)
  obtain ⟨ch,tk,g1,g2,g3,g4,g5,g6⟩:=ht.send
  obtain ⟨hA,tA,w1,w2,w3⟩:=hhist n
  have hcr:c < (b n).aZ.length:=by rw [e2];omega
  have b1:=w1.room c;have b2:=w1.got c;have b3:=w1.rm c hcr;have b4:=w1.buf c hcr
  have b5:=cnt_take_le hA (b n).rcv c
  have b6:cnt hA c<=hA.length:=by unfold cnt;exact List.length_filter_le _ _
  have b7:=g.total u n
  have b8:(b n).aZ.getD c 0<=64:=by
   obtain ⟨N,ok⟩:=(g.at n).okB
   exact bM (P:=fun x:Nat=>x<=64) (fun x hx=>(ok.rm x hx).2) (Nat.zero_le _) c
  have hbs:(b n).bs c=(b 0).bs c:=by unfold Prt.bs;rw [e4]
  have hpb:p.bs c=(b 0).bs c:=by unfold Prt.bs;rw [ht2.base,e4]
  have hpg:(p.gv c).cE=(b n).aZ.getD c 0+((b n).gv c).cI:=by
   have q1:=recvs_gv hdt (b n) c
   show (p.giv.getD c ⟨0,0,0⟩).cE=_
   rw [ht2.giv]
   show ((b n).recvs dt |>.gv c).room+((b n).recvs dt |>.gv c).cI=_
   rw [q1.1,q1.2,b3]
  unfold Giv.cE at b1
  rw [hpb,hpg] at hl
  have hlim:(b 0).aZ.getD c 0+((b n).gv c).cI<=(b 0).bs c+((tk.getD c ⟨0,0⟩).cE):=by
   rw [g2 c,if_pos ⟨by rw [f2];omega,by rw [d2];exact hc⟩,<-hl]
   unfold Tak.raise
   rw [if_neg (by rw [e2] at *;omega)]
   dsimp only
   rw [e2] at *
   omega
  refine Nat.le_trans hlim (Nat.add_le_add_left ?_ _)
  show _<=((a (n+D+1)).tak.getD c ⟨0,0⟩).cE
  rw [show (a (n+D+1)).tak=q.tak by rw [htk.eq]]
  rcases g6 with ⟨_,_,x2,_⟩|⟨k,d,w,_,x1,_,_,x4,_⟩
  ·rw [x2];exact Nat.le_refl _
  ·rw [x4]
   obtain ⟨N,ok⟩:=(g.at (n+D)).okA
   rw [getD_set _ _ _ _ _ (by rw [g1,ok.tl];exact x1)]
   split
   ·rename_i e;subst e;exact Nat.le_refl _
   ·exact Nat.le_refl _
 ·obtain ⟨N,ok⟩:=g.okB
  exact getD_mem_rm ok.rm (by omega)
 ·obtain ⟨hA,tA,w1,w2,w3⟩:=hhist n
  have b2:=w1.got c
  have hR:(b n).rcv=(a n).snd.aG+(a n).snd.cT.length:=hR
  rw [List.take_of_length_le (by omega),<-w2.cP c] at b2
  obtain ⟨_,_,_,e4,_⟩:=g.swap.const u.swap n
  show ((b n).gv c).aW=(b 0).bs c+((a n).tk c).cP
  rw [b2]
  unfold Prt.bs
  rw [e4]
 ·obtain ⟨hA,tA,w1,w2,w3⟩:=hhist n
  have h4:=w1.rt;have h5:=w1.tl
  show (b n).rcv<=(a n).snd.aG+(a n).snd.cT.length
  omega
theorem Go.flow (g:Go D a b Ba Bb) (u:Up D a b Ba Bb 0) (hr:(b 0).aZ.length=(a 0).aZ.length) (hM:(a 0).snd.aG+(a 0).snd.cT.length+wt (a 0)<=1000000000) (x:Nat)
  (hx:∀n c,c < (a 0).aZ.length->(b (n+x)).rcv=(b n).rcv->((b (n+x)).aY.getD c [])=[]) :
  Flow D x (a 0).snd.aN (a 0).cA (a 0).aZ.length (fun n=>(b n).rcv) (fun n=>(a n).snd.aG) (fun n=>(a n).snd.cT.length) (fun n=>(a n).snd.pos) (fun n=>(a n).snd.timer) (fun n=>wt (a n)) (fun n c=>((a n).tk c).cP) (fun n c=>((a n).tk c).cE)
   (fun n c=>((a n).aX.getD c []).length) (fun n c=>((b n).gv c).cI) (fun n c=>((b n).gv c).aW) (fun c=>(b 0).bs c) (fun c=>(b 0).aZ.getD c 0):=by
 refine ⟨g.flow0 u hr hM,fun n c hc hR=>?_⟩
 obtain ⟨oa,ga,ob,gb,da,db,hA,tA,hB,tB,⟨w1,_⟩,_,_⟩:=(g.at (n+x)).both
 have:=w1.rc.buf c (by rw [(g.swap.const u.swap (n+x)).2.1];omega)
 rw [hx n c hc hR] at this
 exact this.symm
end
end

section
theorem handle_other {p:Prt} {y:Pt} (h:¬y.kind=1#8):(p.cU y).cS=p.cS/\(p.cU y).cM=p.cM/\(p.cU y).inc=p.inc:=by
 unfold Prt.cU
 rw [if_neg h]
 split
 ·exact ⟨rfl,rfl,rfl⟩
 ·split
  ·unfold Prt.cO;split
   ·exact ⟨rfl,rfl,rfl⟩
   ·dsimp only;split <;> exact ⟨rfl,rfl,rfl⟩
  ·split
   ·exact ⟨rfl,rfl,rfl⟩
   ·split
    ·unfold Prt.raise;split <;> exact ⟨rfl,rfl,rfl⟩
    ·exact ⟨rfl,rfl,rfl⟩
theorem handles_other:∀ {l:List Pt} {p:Prt},(∀y ∈ l,¬y.kind=1#8)->(l.foldl Prt.cU p).cS=p.cS/\(l.foldl Prt.cU p).cM=p.cM/\(l.foldl Prt.cU p).inc=p.inc
 |[],_,_=>⟨rfl,rfl,rfl⟩
 |y::l,p,h=>by
  obtain ⟨h1,h2,h3⟩:=handles_other (l:=l) (p:=p.cU y) fun z hz=>h z (List.mem_cons_of_mem _ hz)
  obtain ⟨k1,k2,k3⟩:=handle_other (p:=p) (h y (List.mem_cons_self ..))
  rw [List.foldl_cons]
  exact ⟨h1.trans k1,h2.trans k2,h3.trans k3⟩
def Greets (i:Nat) (v:Nat) (l:List Pt):Prop:=∃rest,l=⟨1#8,0,(i:Int),(v:Int),[]⟩::rest/\∀y ∈ rest,¬y.kind=1#8
theorem data_kind {i:Nat} {ds:List Pt} (h:IsData i ds):∀y ∈ ds,¬y.kind=1#8:=by
 rcases h with rfl|⟨c,n,d,rfl⟩
 ·intro y hy;cases hy
 ·intro y hy;rw [List.mem_singleton.1 hy];exact kk21
theorem upB_greets {i v r k:Nat} {l:Nat->Int} {ds:List Pt} (h:IsData i ds):Greets i v (upB i v r l k ds):=by
 refine ⟨_,rfl,fun y hy=>?_⟩
 rcases List.mem_cons.1 hy with rfl|hy
 ·exact kk31
 ·rcases List.mem_append.1 hy with hy|hy
  ·obtain ⟨c,_,rfl⟩:=List.mem_map.1 hy
   exact kk41
  ·exact data_kind h y hy
theorem tick_form_up {N:Nat} {a a1:Prt} {l:List Pt} (ok:a1.Ok N) (h:a1=l.foldl Prt.cU a) (hs:a1.cS.cR.state=2) :
  (a.cR l).2.inc=a1.inc/\(a.cR l).2.cM=a1.cM/\(a.cR l).2.cS=a1.cS.cR/\∃(li:Nat->Int) (ds:List Pt),IsData a1.inc ds/\(a.cR l).1=upB a1.inc a1.cS.cR.cM (a.cR l).2.rcv li a1.aZ.length ds:=by
 have hf:(Prt.choose { a1 with cS:=a1.cS.cR }).inc=a1.inc/\(Prt.choose { a1 with cS:=a1.cS.cR }).cM=a1.cM/\(Prt.choose { a1 with cS:=a1.cS.cR }).cS=a1.cS.cR/\(Prt.choose { a1 with cS:=a1.cS.cR }).rcv=a1.rcv:=by
  unfold Prt.choose
  split
  ·exact ⟨rfl,rfl,rfl,rfl⟩
  ·split <;> exact ⟨rfl,rfl,rfl,rfl⟩
 obtain ⟨f1,f2,f3,f4⟩:=hf
 rw [Prt.tick_up h hs]
 have hb:a1.base.length=a1.aZ.length:=ok.sl
 have e:∀ds:List Pt,a1.hail::a1.ackn::(List.range a1.base.length).map a1.cred++ds=upB a1.inc a1.cS.cR.cM a1.rcv (fun c=>((a1.giv.getD c ⟨0,0,0⟩).cE:Int) - ((a1.base.getD c 0:Nat):Int)) a1.aZ.length ds:=fun ds=>by rw [hb];rfl
 generalize Prt.choose { a1 with cS:=a1.cS.cR }=q at f1 f2 f3 f4 ⊢
 rcases hq:q.snd.cR with ⟨o,s⟩
 cases o with
 |none=>exact ⟨f1,f2,f3,_,[],.inl rfl,by
   show a1.hail::a1.ackn::(List.range a1.base.length).map a1.cred=upB a1.inc a1.cS.cR.cM q.rcv _ _ _
   rw [f4,<-e,List.append_nil]⟩
 |some nd=>
  obtain ⟨n,d⟩:=nd
  refine ⟨f1,f2,f3,fun c=>((a1.giv.getD c ⟨0,0,0⟩).cE:Int) - ((a1.base.getD c 0:Nat):Int),[⟨2#8,((Prt.classOf { q with snd:=s } n:Nat):Int),(n:Int),(q.inc:Int),d⟩],.inr ⟨((Prt.classOf { q with snd:=s } n:Nat):Int),(n:Int),d,by rw [f1]⟩,?_⟩
  show a1.hail::a1.ackn::(List.range a1.base.length).map a1.cred++_=upB a1.inc a1.cS.cR.cM q.rcv _ _ _
  rw [f4,e]
  rfl
theorem tick_greets {N:Nat} {a:Prt} (ok:a.Ok N) (l:List Pt) (hl:∀y ∈ l,y.pay.length<=1000):Greets a.inc (a.cR l).2.cS.cM (a.cR l).1:=by
 obtain ⟨a1,ha⟩:∃a1,a1=l.foldl Prt.cU a:=⟨_,rfl⟩
 have ok1:=ok.handles l hl
 have hi:=(cH l a).2
 rw [<-ha] at ok1 hi
 by_cases hs:a1.cS.cR.state=2
 ·obtain ⟨f1,f2,f3,li,ds,f4,f5⟩:=tick_form_up ok1 ha hs
  rw [f5,f3,hi]
  exact upB_greets (by rw [<-hi];exact f4)
 ·rw [Prt.cX ha hs]
  exact ⟨[],by show [(⟨1#8,0,(a1.inc:Int),(a1.cS.cR.cM:Int),[]⟩:Pt)]=_;rw [hi],fun y hy=>by cases hy⟩
theorem tick_greeted {N:Nat} {a:Prt} (ok:a.Ok N) (hm:a.Min) (hd:2<=a.cS.dead) {i v:Nat} (h1:1<=i) (h2:i<=1099511627775) (hs:a.cS.seen<=i) {l:List Pt} (hl:∀y ∈ l,y.pay.length<=1000) (hg:Greets i v l) :
  (a.cR l).2.cS.cM=i/\(a.cR l).2.cM=i/\(a.cR l).2.cS.state=(if v=a.inc then 2 else 1) /\
   (v=a.inc->∃(li:Nat->Int) (ds:List Pt),IsData a.inc ds/\(a.cR l).1=upB a.inc i (a.cR l).2.rcv li a.aZ.length ds):=by
 obtain ⟨rest,e,hr⟩:=hg
 obtain ⟨a1,ha⟩:∃a1,a1=l.foldl Prt.cU a:=⟨_,rfl⟩
 have ok1:=ok.handles l hl
 obtain ⟨r1,r2⟩:=cH l a
 rw [<-ha] at ok1 r1 r2
 have hm':a.cS.mine=a.inc:=hm
 have e1:a.cS.cO (i:Int) (v:Int)={ a.cS with seen:=i,silent:=0,cM:=i,state:=if v=a.inc then 2 else 1 }:=by
  unfold Side.cO
  have e3:(if (v:Int)=(a.cS.mine:Int) then 2 else 1)=if v=a.inc then 2 else 1:=by
   rw [hm']
   by_cases hv:v=a.inc
   ·rw [if_pos hv,if_pos (by rw [hv])]
   ·rw [if_neg hv,if_neg (by omega)]
  rw [if_neg (by omega),Int.toNat_natCast,e3]
 have hside:(a.cU ⟨1#8,0,(i:Int),(v:Int),[]⟩).cS={ a.cS with seen:=i,silent:=0,cM:=i,state:=if v=a.inc then 2 else 1 }/\(a.cU ⟨1#8,0,(i:Int),(v:Int),[]⟩).cM=i:=by
  unfold Prt.cU
  rw [if_pos rfl]
  unfold Prt.greet
  dsimp only
  rw [e1]
  by_cases hp:i≠0/\i≠a.cM
  ·rw [if_pos hp];exact ⟨rfl,rfl⟩
  ·rw [if_neg hp];exact ⟨rfl,by show a.cM=i;omega⟩
 obtain ⟨q1,q2,q3⟩:=handles_other (p:=a.cU ⟨1#8,0,(i:Int),(v:Int),[]⟩) hr
 have hA:a1.cS={ a.cS with seen:=i,silent:=0,cM:=i,state:=if v=a.inc then 2 else 1 }/\a1.cM=i:=by
  rw [ha,e,List.foldl_cons]
  exact ⟨q1.trans hside.1,q2.trans hside.2⟩
 have ht:a1.cS.cR={ a.cS with seen:=i,silent:=1,cM:=i,state:=if v=a.inc then 2 else 1 }:=by
  rw [hA.1]
  unfold Side.cR
  dsimp only
  rw [if_neg (by omega),if_neg (by omega)]
 by_cases hv:v=a.inc
 ·have hs2:a1.cS.cR.state=2:=by rw [ht];exact if_pos hv
  obtain ⟨f1,f2,f3,li,ds,f4,f5⟩:=tick_form_up ok1 ha hs2
  refine ⟨by rw [f3,ht],f2.trans hA.2,by rw [f3,ht],fun _=>⟨li,ds,by rw [<-r2];exact f4,?_⟩⟩
  rw [f5,r2,r1,ht]
 ·have hs2:a1.cS.cR.state≠2:=by rw [ht];dsimp only;rw [if_neg hv];decide
  rw [Prt.cX ha hs2]
  exact ⟨by show a1.cS.cR.cM=i;rw [ht],hA.2,by show a1.cS.cR.state=_;rw [ht],fun h=>absurd h hv⟩
section
variable {D:Nat} {a b:Nat->Prt} {Ba Bb:Nat->List Way}
theorem Go.shift (g:Go D a b Ba Bb) (m:Nat):Go D (fun n=>a (n+m)) (fun n=>b (n+m)) (fun n=>Ba (n+m)) (fun n=>Bb (n+m)):=by
 have A:=g.at m
 refine ⟨g.hD,fun n=>?_,fun n=>?_,fun n=>?_,fun n=>?_,by rw [Nat.zero_add];exact A.okA,by rw [Nat.zero_add];exact A.okB,by rw [Nat.zero_add];exact A.minA,by rw [Nat.zero_add];exact A.minB,fun j hj=>A.payA (j+m) (by omega),fun j hj=>A.payB (j+m) (by omega),?_⟩
 ·have:=g.ba (n+m)
  rwa [show n+m+D=n+D+m by omega] at this
 ·have:=g.bb (n+m)
  rwa [show n+m+D=n+D+m by omega] at this
 ·have:=g.na (n+m)
  rwa [show n+m+1=n+1+m by omega] at this
 ·have:=g.nb (n+m)
  rwa [show n+m+1=n+1+m by omega] at this
 ·have e:∀B:Nat->List Way,ways (fun n=>B (n+m)) D 0=ways B D m:=fun B=>by
   unfold ways
   congr 1
   refine List.map_congr_left fun j _=>?_
   show B (0+j+m)=B (m+j)
   rw [show 0+j+m=m+j by omega]
  rw [e,e,Nat.zero_add]
  exact A.both
theorem Go.kinds (g:Go D a b Ba Bb) (n:Nat):(a n).inc=(a 0).inc/\(a n).aZ=(a 0).aZ/\(a n).cS.dead=(a 0).cS.dead:=by
 induction n with
 |zero=>exact ⟨rfl,rfl,rfl⟩
 |succ n ih=>
  obtain ⟨h1,h2,h3⟩:=ih
  obtain ⟨k1,k2,_⟩:=tick_keeps (a n) ((Bb n).map (·.2))
  have k3:=tick_dead (a n) ((Bb n).map (·.2))
  rw [(g.na n).eq]
  exact ⟨k2.trans h1,k1.trans h2,k3.trans h3⟩
theorem Go.greets (g:Go D a b Ba Bb) (n:Nat):Greets (a 0).inc (a (n+1)).cS.cM ((Ba (n+D)).map (·.2))/\∀y ∈ (Bb n).map (·.2),y.pay.length<=1000:=by
 have A:=g.at n
 obtain ⟨N,ok⟩:=A.okA
 have hp:∀y ∈ (Bb n).map (·.2),y.pay.length<=1000:=fun y hy=>by
  obtain ⟨p,hp,rfl⟩:=List.mem_map.1 hy
  have:=g.hD
  exact A.payB n (by omega) p hp
 have h:=tick_greets ok _ hp
 rw [(g.kinds n).1] at h
 have e:(Ba (n+D)).map (·.2)=((a n).cR ((Bb n).map (·.2))).1:=by rw [g.ba n,List.map_map];exact List.map_id _
 have es:(a (n+1)).cS=((a n).cR ((Bb n).map (·.2))).2.cS:=by rw [(g.na n).eq]
 rw [e,es]
 exact ⟨h,hp⟩
theorem Go.knows (g:Go D a b Ba Bb) (hd:2<=(a 0).cS.dead) {n:Nat} (hn:D<=n):(a (n+1)).cS.cM=(b 0).inc/\(a (n+1)).cM=(b 0).inc/\(a (n+1)).cS.state=(if (b (n - D+1)).cS.cM=(a 0).inc then 2 else 1) /\
  ((b (n - D+1)).cS.cM=(a 0).inc->Bat (a 0).inc (b 0).inc (a 0).aZ.length (Ba (n+D))):=by
 obtain ⟨m,rfl⟩:∃m,n=m+D:=⟨n - D,by omega⟩
 rw [Nat.add_sub_cancel]
 obtain ⟨h1,_⟩:=g.swap.greets m
 have A:=g.at (m+D)
 obtain ⟨N,ok⟩:=A.okA
 obtain ⟨NB,okB⟩:=g.okB
 obtain ⟨oa,ga,ob,gb,da,db,hA,tA,hB,tB,⟨d1,_⟩,d2,_⟩:=A.both
 obtain ⟨c1,c2,c3⟩:=g.kinds (m+D)
 have e1:=(g.swap.kinds (m+D)).1
 have hs:=d2.sl
 rw [e1] at hs
 obtain ⟨q1,q2,q3,q4⟩:=tick_greeted ok A.minA (by rw [c3];exact hd) okB.i1 okB.i2 hs (g.greets (m+D)).2 h1
 have ea:=(g.na (m+D)).eq
 have es:(a (m+D+1)).cS=((a (m+D)).cR ((Bb (m+D)).map (·.2))).2.cS:=by rw [ea]
 have ep:(a (m+D+1)).cM=((a (m+D)).cR ((Bb (m+D)).map (·.2))).2.cM:=by rw [ea]
 rw [c1] at q3 q4
 refine ⟨by rw [es];exact q1,by rw [ep];exact q2,by rw [es];exact q3,fun hv=>?_⟩
 obtain ⟨li,ds,x1,x2⟩:=q4 hv
 rw [g.ba (m+D),x2,c2]
 refine ⟨_,li,ds,rfl,x1,?_,?_⟩
 ·show ((a (m+D)).cR ((Bb (m+D)).map (·.2))).2.inc=_
  rw [(tick_keeps _ _).2.1,c1]
 ·exact q2
theorem Go.up_from (g:Go D a b Ba Bb) (hd:2<=(a 0).cS.dead) {n:Nat} (hn:2*D<=n) (hd2:2<=(b 0).cS.dead):(a (n+1)).cS.state=2/\Bat (a 0).inc (b 0).inc (a 0).aZ.length (Ba (n+D)):=by
 have h1:=(g.swap.knows hd2 (n:=n - D) (by omega)).1
 obtain ⟨_,_,h2,h3⟩:=g.knows hd (n:=n) (by have:=g.hD;omega)
 rw [if_pos h1] at h2
 exact ⟨h2,h3 h1⟩
theorem Go.up_at (g:Go D a b Ba Bb) (hd:2<=(a 0).cS.dead) (hd2:2<=(b 0).cS.dead) {n:Nat} (hn:3*D<=n):Up D a b Ba Bb n:=by
 have hD:=g.hD
 obtain ⟨c1,c2,c3⟩:=g.kinds n
 obtain ⟨e1,e2,e3⟩:=g.swap.kinds n
 obtain ⟨m,rfl⟩:∃m,n=m+1:=⟨n - 1,by omega⟩
 have k1:=(g.knows hd (n:=m) (by omega)).2.1
 have k2:=(g.swap.knows hd2 (n:=m) (by omega)).2.1
 refine ⟨⟨by rw [k2,c1],by rw [k1,e1]⟩,fun j hj=>?_,fun j hj=>?_,by rw [c3];exact hd,by rw [e3];exact hd2⟩
 ·rw [c1,e1,c2]
  have:=(g.up_from hd (n:=m+1+j - D) (by omega) hd2).2
  rwa [show m+1+j - D+D=m+1+j by omega] at this
 ·rw [c1,e1,e2]
  have:=(g.swap.up_from hd2 (n:=m+1+j - D) (by omega) hd).2
  rwa [show m+1+j - D+D=m+1+j by omega] at this
theorem Up.shift {n m:Nat} (u:Up D a b Ba Bb (n+m)):Up D (fun n=>a (n+m)) (fun n=>b (n+m)) (fun n=>Ba (n+m)) (fun n=>Bb (n+m)) n:=
 ⟨u.lk,fun j hj=>by have:=u.fa j hj;rwa [show n+m+j=n+j+m by omega] at this,fun j hj=>by have:=u.fb j hj;rwa [show n+m+j=n+j+m by omega] at this,u.dA,u.dB⟩
end
end

section
theorem tally_get:∀(ks:List (Nat × dV)) (l:List Nat) (c:Nat),(∀f ∈ ks,f.1 < l.length)->(tally l ks).getD c 0=l.getD c 0+cnt ks c
 |[],l,c,_=>by unfold tally cnt;simp
 |f::ks,l,c,h=>by
  have h0:=h f (List.mem_cons_self ..)
  show (tally (l.set f.1 (l.getD f.1 0+1)) ks).getD c 0=_
  rw [tally_get ks _ c fun g hg=>by rw [List.length_set];exact h g (List.mem_cons_of_mem _ hg),getD_set _ _ _ _ _ h0]
  have e:cnt (f::ks) c=cnt ks c+if f.1=c then 1 else 0:=by
   rw [show f::ks=[(f.1,f.2)]++ks from rfl,cnt_append,cnt_one,Nat.add_comm]
  rw [e]
  split
  ·rename_i e;subst e;omega
  ·omega
structure Prt.Cons (p:Prt) (m:Nat->Nat):Prop where
 off:∀c,c < p.aZ.length->p.aG.getD c 0+cnt p.cT c+(p.aX.getD c []).length=m c
 got:∀c,c < p.aZ.length->p.aW.getD c 0=p.cF.getD c 0+(p.aY.getD c []).length
 tmo:p.snd.aN=p.aN
 dd:p.cS.dead=p.dead
section
variable {N:Nat} {p:Prt} {m:Nat->Nat}
theorem again_len (ks:Hist) (c:Nat):((ks.filter fun f=>f.1 == c).map (·.2)).length=cnt ks c:=by rw [List.length_map];rfl
theorem Prt.Cons.begin (h:p.Cons m) (ok:p.Ok N) (i:Nat):(p.begin i).Cons m:=by
 refine ⟨fun c hc=>?_,h.got,rfl,h.dd⟩
 have h1:=h.off c hc
 show p.aG.getD c 0+cnt [] c+((p.begin i).aX.getD c []).length=m c
 rw [begin_waiting (by rw [ok.wl];exact ok.kcl),List.length_append]
 have h2:(frm c p.cT).length=cnt p.cT c:=again_len p.cT c
 have h3:cnt [] c=0:=rfl
 omega
theorem Prt.Cons.cS (h:p.Cons m) {s:Side} (hs:s.dead=p.cS.dead):({ p with cS:=s }:Prt).Cons m:=⟨h.off,h.got,h.tmo,hs.trans h.dd⟩
theorem side_ok {s:Side} (h:p.Ok N) (hs:s.Ok):({ p with cS:=s }:Prt).Ok N:=⟨h.n1,h.n4,h.rm,h.i1,h.i2,h.w1,h.w2,h.t1,h.t2,h.d1,h.d2,hs,h.arb,h.wl,h.bl,h.tl,h.gl,h.sl,h.al,h.rl,h.kl,h.cM,h.snd,h.win,h.tot,h.rcv,h.cT,h.kcl,h.wsz,h.wln,h.bsz,h.bln,h.tak,h.giv,h.bas,h.acn,h.ren,h.tan,h.ovn⟩
theorem Prt.Cons.cU (h:p.Cons m) (ok:p.Ok N) (y:Pt):(p.cU y).Cons m:=by
 have hd:=handle_dead p y
 unfold Prt.cU at hd ⊢
 split
 ·unfold Prt.greet
  dsimp only
  have hr:(p.cS.cO y.number y.value).dead=p.cS.dead:=by unfold Side.cO;split <;> rfl
  split
  ·exact (h.cS hr).begin (side_ok ok (ok.cS.cO _ _)) _
  ·exact h.cS hr
 ·split
  ·exact h
  ·split
   ·unfold Prt.cO
    split
    ·exact h
    ·rename_i hx
     dsimp only
     split
     ·exact ⟨h.off,h.got,h.tmo,h.dd⟩
     ·refine ⟨h.off,fun c hc=>?_,h.tmo,h.dd⟩
      have hh:0<=y.cls/\y.cls < p.aZ.length:=Decidable.byContradiction fun hn=>hx (.inl hn)
      have hc2:y.cls.toNat < p.aZ.length:=by omega
      show (p.aW.set y.cls.toNat (p.aW.getD y.cls.toNat 0+1)).getD c 0=p.cF.getD c 0+((p.aY.set y.cls.toNat (p.aY.getD y.cls.toNat []++[y.pay])).getD c []).length
      rw [getD_set _ _ _ _ _ (by rw [ok.rl];exact hc2),getD_set _ _ _ _ _ (by rw [ok.bl];exact hc2)]
      have:=h.got c hc
      split
      ·rename_i e;subst e
       rw [List.length_append,List.length_singleton];omega
      ·exact this
   ·split
    ·obtain ⟨k,hk,e⟩:=ack_step p y
     rw [e]
     refine ⟨fun c hc=>?_,h.got,?_,h.dd⟩
     ·show (tally p.aG (p.cT.take k)).getD c 0+cnt (p.cT.drop k) c+(p.aX.getD c []).length=m c
      rw [tally_get _ _ _ fun f hf=>by rw [ok.al];exact ok.kcl f (List.mem_of_mem_take hf)]
      have h1:=h.off c hc
      have h2:cnt (p.cT.take k) c+cnt (p.cT.drop k) c=cnt p.cT c:=by rw [<-cnt_append,List.take_append_drop]
      omega
     ·show (p.snd.drop k).aN=p.aN
      rw [<-h.tmo];unfold Snd.drop;split <;> rfl
    ·split
     ·unfold Prt.raise
      split
      ·exact ⟨h.off,h.got,h.tmo,h.dd⟩
      ·exact h
     ·exact h
theorem Prt.Cons.handles:∀ {N:Nat} {p:Prt} (l:List Pt),p.Cons m->p.Ok N->(∀y ∈ l,y.pay.length<=1000)->(l.foldl Prt.cU p).Cons m
 |_,_,[],h,_,_=>h
 |_,_,y::l,h,ok,hl=>by
  rw [List.foldl_cons]
  exact Prt.Cons.handles l (h.cU ok y) (ok.cU y (hl y (List.mem_cons_self ..))) fun z hz=>hl z (List.mem_cons_of_mem _ hz)
theorem Prt.Cons.choose (h:p.Cons m) (ok:p.Ok N):p.choose.Cons m:=by
 rcases Prt.choose_eq ok with ⟨r,e⟩|⟨c,d,l,r,h1,h2,h3,h4,e⟩
 ·rw [e];exact ⟨h.off,h.got,h.tmo,h.dd⟩
 ·rw [e]
  refine ⟨fun k hk=>?_,h.got,h.tmo,h.dd⟩
  show p.aG.getD k 0+cnt (p.cT++[(c,d)]) k+((p.aX.set c l).getD k []).length=m k
  rw [cnt_append,cnt_one,getD_set _ _ _ _ _ (by rw [ok.wl];exact h1)]
  have:=h.off k hk
  by_cases e:c=k
  ·subst e
   rw [if_pos rfl,if_pos rfl]
   rw [h2,List.length_cons] at this
   omega
  ·rw [if_neg e,if_neg e];omega
theorem Prt.Cons.cR (h:p.Cons m) (ok:p.Ok N) {l:List Pt} (hl:∀y ∈ l,y.pay.length<=1000):(p.cR l).2.Cons m:=by
 have ok1:=ok.handles l hl
 have h1:=Prt.Cons.handles l h ok hl
 obtain ⟨a,ha⟩:∃a,a=l.foldl Prt.cU p:=⟨_,rfl⟩
 rw [<-ha] at ok1 h1
 have hs:∀s:Side,s.cR.dead=s.dead:=fun s=>by unfold Side.cR;split;rfl;split <;> rfl
 have h2:({ a with cS:=a.cS.cR }:Prt).Cons m:=h1.cS (hs _)
 by_cases hst:a.cS.cR.state=2
 ·rw [Prt.tick_up ha hst]
  have h3:=h2.choose (show Prt.Ok (N+200*l.length) { a with cS:=a.cS.cR } from ok1.sideTick)
  generalize Prt.choose { a with cS:=a.cS.cR }=q at h3 ⊢
  have h4:∀s,q.snd.cR.2=s->({ q with snd:=s }:Prt).Cons m:=fun s e=>by
   refine ⟨h3.off,h3.got,?_,h3.dd⟩
   show s.aN=q.aN
   rw [<-e,<-h3.tmo]
   rcases snd_tick4 q.snd with ⟨_,e⟩|⟨_,_,_,e⟩|⟨_,_,_,_,e⟩|⟨_,_,e⟩ <;> rw [e]
  rcases hq:q.snd.cR with ⟨o,s⟩
  cases o with
  |none=>exact h4 s (by rw [hq])
  |some nd=>exact h4 s (by rw [hq])
 ·rw [Prt.cX ha hst]
  exact h2
theorem Prt.Cons.dQ (h:p.Cons m) (ok:p.Ok N) {c:Nat} (hc:c < p.aZ.length) (d:dV):({ p with aX:=p.aX.set c (p.aX.getD c []++[d]) }:Prt).Cons (fun k=>if k=c then m c+1 else m k):=by
 refine ⟨fun k hk=>?_,h.got,h.tmo,h.dd⟩
 show p.aG.getD k 0+cnt p.cT k+((p.aX.set c (p.aX.getD c []++[d])).getD k []).length=_
 rw [getD_set _ _ _ _ _ (by rw [ok.wl];exact hc)]
 have:=h.off k hk
 by_cases e:c=k
 ·subst e
  rw [if_pos rfl,if_pos rfl,List.length_append,List.length_singleton]
  omega
 ·rw [if_neg e,if_neg fun h=>e h.symm];exact this
theorem Prt.Cons.take (h:p.Cons m) (ok:p.Ok N) {c:Nat} (hc:c < p.aZ.length) {d:dV} {l:List dV} (hd:p.aY.getD c []=d::l) :
  ({ p with aY:=p.aY.set c l,giv:=p.giv.set c (p.gv c).free,cF:=p.cF.set c (p.cF.getD c 0+1) }:Prt).Cons m:=by
 refine ⟨h.off,fun k hk=>?_,h.tmo,h.dd⟩
 show p.aW.getD k 0=(p.cF.set c (p.cF.getD c 0+1)).getD k 0+((p.aY.set c l).getD k []).length
 rw [getD_set _ _ _ _ _ (by rw [ok.kl];exact hc),getD_set _ _ _ _ _ (by rw [ok.bl];exact hc)]
 have:=h.got k hk
 split
 ·rename_i e;subst e
  rw [hd,List.length_cons] at this
  omega
 ·exact this
theorem new_cons (i:Nat) (aZ:List Nat) (wi ti de:Nat):(dG i aZ wi ti de).Cons fun _=>0:=by
 have hz:∀c,(List.replicate aZ.length 0).getD c 0=0:=fun c=>by
  rw [List.getD,List.getElem?_replicate]
  split <;> rfl
 refine ⟨fun c _=>?_,fun c _=>?_,rfl,rfl⟩
 ·rw [new_wait]
  show (List.replicate aZ.length 0).getD c 0+0+0=0
  rw [hz]
 ·rw [new_buf]
  show (List.replicate aZ.length 0).getD c 0=(List.replicate aZ.length 0).getD c 0+0
  rfl
theorem cnt_sum:∀(n:Nat) (ks:Hist),(∀f ∈ ks,f.1 < n)->((List.range n).map (cnt ks)).sum=ks.length
 |n,[],_=>by
  have:∀l:List Nat,(l.map (cnt [])).sum=0:=fun l=>by
   induction l with
   |nil=>rfl
   |cons x l ih=>rw [List.map_cons,List.sum_cons,ih];rfl
  exact this _
 |n,f::ks,h=>by
  have h0:=h f (List.mem_cons_self ..)
  have ih:=cnt_sum n ks fun g hg=>h g (List.mem_cons_of_mem _ hg)
  have e:∀c,cnt (f::ks) c=cnt ks c+if f.1=c then 1 else 0:=fun c=>by
   rw [show f::ks=[(f.1,f.2)]++ks from rfl,cnt_append,cnt_one,Nat.add_comm]
  have key:∀(n:Nat),((List.range n).map (cnt (f::ks))).sum=((List.range n).map (cnt ks)).sum+if f.1 < n then 1 else 0:=fun n=>by
   induction n with
   |zero=>rfl
   |succ n ih=>
    rw [List.range_succ,List.map_append,List.map_append,List.sum_append,List.sum_append,ih]
    show _+(cnt (f::ks) n+0)=_+(cnt ks n+0)+_
    rw [e n]
    by_cases h1:f.1 < n
    ·rw [if_pos h1,if_neg (by omega),if_pos (by omega)];omega
    ·rw [if_neg h1]
     by_cases h2:f.1=n
     ·rw [if_pos h2,if_pos (by omega)];omega
     ·rw [if_neg h2,if_neg (by omega)];omega
  rw [key,if_pos h0,ih,List.length_cons]
end
end

section
def Evid (a b:Prt) (wb:List Way):Prop:=(a.cS.state=2/\a.cS.cM < b.inc)\/∃p ∈ wb,p.1.i < b.inc/\p.1.s=a.inc
def Kno1 (a b:Prt) (wa wb:List Way):Prop:=Evid a b wb->(∀p ∈ wa,p.1.s=b.inc->p.1.i=a.inc)/\(b.cS.state=2->b.cS.cM=a.inc)
def Kno (a b:Prt) (wa wb:List Way):Prop:=Kno1 a b wa wb/\Kno1 b a wb wa
theorem Kno.swap {a b:Prt} {wa wb:List Way} (h:Kno a b wa wb):Kno b a wb wa:=⟨h.2,h.1⟩
theorem Kno.ways {a b:Prt} {wa wb wa' wb':List Way} (h:Kno a b wa wb) (ha:∀p ∈ wa',p ∈ wa) (hb:∀p ∈ wb',p ∈ wb):Kno a b wa' wb':=by
 refine ⟨fun e=>?_,fun e=>?_⟩
 ·obtain ⟨h1,h2⟩:=h.1 (e.imp id fun ⟨p,hp,x⟩=>⟨p,hb p hp,x⟩)
  exact ⟨fun p hp=>h1 p (ha p hp),h2⟩
 ·obtain ⟨h1,h2⟩:=h.2 (e.imp id fun ⟨p,hp,x⟩=>⟨p,ha p hp,x⟩)
  exact ⟨fun p hp=>h1 p (hb p hp),h2⟩
theorem Kno.cS {a b a':Prt} {wa wb:List Way} (h:Kno a b wa wb) (hi:a'.inc=a.inc) (hs:a'.cS.state=2->a.cS.state=2/\a'.cS.cM=a.cS.cM):Kno a' b wa wb:=by
 refine ⟨fun e=>?_,fun e=>?_⟩
 ·rw [hi]
  refine h.1 (e.imp (fun ⟨x,y⟩=>?_) fun ⟨p,hp,x⟩=>⟨p,hp,by rw [<-hi];exact x⟩)
  obtain ⟨z1,z2⟩:=hs x
  exact ⟨z1,by rw [<-z2];exact y⟩
 ·have e':Evid b a wa:=e.imp (fun ⟨x,y⟩=>⟨x,by rw [<-hi];exact y⟩) fun ⟨p,hp,x,y⟩=>⟨p,hp,by rw [<-hi];exact x,y⟩
  obtain ⟨h1,h2⟩:=h.2 e'
  refine ⟨fun p hp=>by rw [hi];exact h1 p hp,fun x=>?_⟩
  obtain ⟨z1,z2⟩:=hs x
  rw [z2];exact h2 z1
theorem receive_side (p:Prt) (y:Pt):(p.cO y).cS=p.cS/\(p.cO y).inc=p.inc:=by
 unfold Prt.cO
 split
 ·exact ⟨rfl,rfl⟩
 ·dsimp only;split <;> exact ⟨rfl,rfl⟩
theorem handle_inc (p:Prt) (y:Pt):(p.cU y).inc=p.inc:=by
 unfold Prt.cU
 split
 ·unfold Prt.greet;dsimp only;split <;> rfl
 ·split
  ·rfl
  ·split
   ·exact (receive_side p y).2
   ·split
    ·rfl
    ·split
     ·unfold Prt.raise;split <;> rfl
     ·rfl
theorem handle_side (p:Prt) (y:Pt):(p.cU y).cS=p.cS\/(y.kind=1#8/\1<=y.number/\((p.cU y).cS.cM:Int)=y.number/\((p.cU y).cS.state=2->y.value=p.cS.mine)):=by
 unfold Prt.cU
 split
 ·rename_i hk
  unfold Prt.greet
  dsimp only
  by_cases hx:y.number < 1\/1099511627775 < y.number\/y.number < p.cS.seen
  ·have e:p.cS.cO y.number y.value=p.cS:=by unfold Side.cO;rw [if_pos hx]
   left
   rw [e]
   split <;> rfl
  ·have e:p.cS.cO y.number y.value={ p.cS with seen:=y.number.toNat,silent:=0,cM:=y.number.toNat,state:=if y.value=p.cS.mine then 2 else 1 }:=by unfold Side.cO;rw [if_neg hx]
   right
   have hs:∀s:Side,s=p.cS.cO y.number y.value->(s.cM:Int)=y.number/\(s.state=2->y.value=p.cS.mine):=fun s hs=>by
    rw [hs,e]
    refine ⟨by show ((y.number.toNat:Nat):Int)=_;omega,fun h2=>?_⟩
    by_cases hv:y.value=p.cS.mine
    ·exact hv
    ·have h2:(if y.value=(p.cS.mine:Int) then 2 else 1)=2:=h2
     rw [if_neg hv] at h2;cases h2
   split
   ·exact ⟨hk,by omega,hs _ rfl⟩
   ·exact ⟨hk,by omega,hs _ rfl⟩
 ·left
  split
  ·rfl
  ·split
   ·exact (receive_side p y).1
   ·split
    ·rfl
    ·split
     ·unfold Prt.raise;split <;> rfl
     ·rfl
section
variable {N:Nat} {a b:Prt} {wa wb:List Way} {oa ga ob gb:Nat->List dV} {da db:Nat->Nat}
theorem Kno.cU {t:Tag} {y:Pt} (k:Kno a b wa ((t,y)::wb)) (h:Both a b wa ((t,y)::wb) oa ga ob gb da db):Kno (a.cU y) b wa wb:=by
 obtain ⟨hA,tA,hB,tB,⟨d1,_⟩,d2,_⟩:=h
 have hmem:(t,y) ∈ (t,y)::wb:=List.mem_cons_self ..
 have hi:=handle_inc a y
 have hmine:a.cS.mine=a.inc:=d2.mine
 have hinc:1<=a.inc:=d2.inc
 rcases handle_side a y with hs|⟨hk,hn,hp,hst⟩
 ·exact (k.ways (fun _ hp=>hp) fun p hp=>List.mem_cons_of_mem _ hp).cS hi fun x=>by rw [hs] at x ⊢;exact ⟨x,rfl⟩
 ·obtain ⟨f1,f2⟩:=(d2.fit _ hmem).num hk
  have hpi:(a.cU y).cS.cM=t.i:=by
   have:((a.cU y).cS.cM:Int)=(t.i:Int):=hp.trans f1
   omega
  have hts:(a.cU y).cS.state=2->t.s=a.inc:=fun x=>by
   have h1:(t.v:Int)=(a.cS.mine:Int):=f2.symm.trans (hst x)
   have h2:t.v=0\/t.v=t.s:=d2.vs _ hmem
   omega
  refine ⟨fun e=>?_,fun e=>?_⟩
  ·rw [hi]
   refine k.1 ?_
   rcases e with ⟨x,z⟩|⟨p,hp,x,z⟩
   ·exact .inr ⟨_,hmem,by show t.i < b.inc;rw [<-hpi];exact z,hts x⟩
   ·exact .inr ⟨p,List.mem_cons_of_mem _ hp,x,by rw [<-hi];exact z⟩
  ·have e':Evid b a wa:=e.imp (fun ⟨x,z⟩=>⟨x,by rw [<-hi];exact z⟩) fun ⟨p,hp,x,z⟩=>⟨p,hp,by rw [<-hi];exact x,z⟩
   obtain ⟨h1,h2⟩:=k.2 e'
   refine ⟨fun p hp=>by rw [hi];exact h1 p (List.mem_cons_of_mem _ hp),fun x=>?_⟩
   rw [hpi]
   exact h1 _ hmem (hts x)
theorem Kno.handles:∀ {N:Nat} {a:Prt} {wb:List Way} (l:List Way),(∀x ∈ l,x.2.pay.length<=1000)->Kno a b wa (l++wb)->Both a b wa (l++wb) oa ga ob gb da db->a.Ok N->b.inc<=1099511627775->Kno ((l.map (·.2)).foldl Prt.cU a) b wa wb
 |_,_,_,[],_,k,_,_,_=>k
 |_,_,_,(t,y)::l,hl,k,h,ok,okb=>by
  rw [List.map_cons,List.foldl_cons]
  exact Kno.handles l (fun x hx=>hl x (List.mem_cons_of_mem _ hx)) (Kno.cU k h) (Both.cU h ok okb) (ok.cU y (hl _ (List.mem_cons_self ..))) okb
theorem sideTick_up (s:Side) (h:s.cR.state=2):s.state=2/\s.cR.cM=s.cM:=by
 unfold Side.cR at h ⊢
 split
 ·rename_i h0;rw [if_pos h0] at h;exact ⟨h,rfl⟩
 ·rename_i h0
  rw [if_neg h0] at h
  split
  ·rename_i h1;rw [if_pos h1] at h;cases h
  ·rename_i h1;rw [if_neg h1] at h;exact ⟨h,rfl⟩
theorem Kno.emit (k:Kno a b wa wb):Kno (a.cR []).2 b (wa++(a.cR []).1.map fun y=>((a.cR []).2.tag,y)) wb:=by
 have hi:(a.cR []).2.inc=a.inc:=(tick_keeps a []).2.1
 have hs:(a.cR []).2.cS=a.cS.cR:=by
  have ha:a=([]:List Pt).foldl Prt.cU a:=rfl
  by_cases h:a.cS.cR.state=2
  ·rw [Prt.tick_up ha h]
   have h2:=(choose_side { a with cS:=a.cS.cR }).1
   split <;> exact h2
  ·rw [Prt.cX ha h]
 have k':Kno (a.cR []).2 b wa wb:=k.cS hi fun x=>by rw [hs] at x ⊢;exact sideTick_up _ x
 refine ⟨fun e=>?_,fun e=>?_⟩
 ·obtain ⟨h1,h2⟩:=k'.1 e
  refine ⟨fun p hp hps=>?_,h2⟩
  rcases List.mem_append.1 hp with hp|hp
  ·exact h1 p hp hps
  ·obtain ⟨y,_,rfl⟩:=List.mem_map.1 hp;rfl
 ·refine k'.2 (e.imp id fun ⟨p,hp,x,z⟩=>⟨p,?_,x,z⟩)
  rcases List.mem_append.1 hp with hp|hp
  ·exact hp
  ·obtain ⟨y,_,rfl⟩:=List.mem_map.1 hp
   exact absurd x (Nat.lt_irrefl _)
theorem Kno.cR {l:List Way} (k:Kno a b wa (l++wb)) (h:Both a b wa (l++wb) oa ga ob gb da db) (ok:a.Ok N) (okb:b.inc<=1099511627775) (hl:∀x ∈ l,x.2.pay.length<=1000) :
  Kno (a.cR (l.map (·.2))).2 b (wa++(a.cR (l.map (·.2))).1.map fun y=>((a.cR (l.map (·.2))).2.tag,y)) wb:=by
 rw [tick_emit]
 exact (Kno.handles l hl k h ok okb).emit
theorem Kno.restart (h:Both a b wa wb oa ga ob gb da db) {i:Nat} (hi:a.inc < i) (aZ:List Nat) (wi ti de:Nat):Kno (dG i aZ wi ti de) b wa wb:=by
 obtain ⟨hA,tA,hB,tB,⟨d1,_⟩,d2,_⟩:=h
 have hno:∀p ∈ wb,p.1.s≠i:=fun p hp e=>by have:=d2.si p hp;omega
 refine ⟨fun e=>?_,fun e=>⟨fun p hp e=>absurd e (hno p hp),fun x=>?_⟩⟩
 ·rcases e with ⟨x,_⟩|⟨p,hp,_,x⟩
  ·cases (show (0:Nat)=2 from x)
  ·exact absurd x (hno p hp)
 ·cases (show (0:Nat)=2 from x)
theorem kno_new (i j:Nat) (ra rb:List Nat) (wia tia dea wib tib deb:Nat):Kno (dG i ra wia tia dea) (dG j rb wib tib deb) [] []:=
 ⟨fun _=>⟨(fun p hp=>by cases hp),fun x=>by cases (show (0:Nat)=2 from x)⟩,fun _=>⟨(fun p hp=>by cases hp),fun x=>by cases (show (0:Nat)=2 from x)⟩⟩
theorem Kno.linked (k:Kno a b wa wb) (h:Both a b wa wb oa ga ob gb da db) (ha:a.cS.state=2) (hb:b.cS.state=2):Lkd a b:=by
 obtain ⟨hA,tA,hB,tB,⟨d1,_⟩,d2,_⟩:=h
 have u1:=(d1.up hb).1
 have u2:=(d2.up ha).1
 have p1:b.cS.cM=b.cM:=by
  rcases d1.sp with x|x
  ·have:=d1.st.1 x;omega
  ·exact x
 have p2:a.cS.cM=a.cM:=by
  rcases d2.sp with x|x
  ·have:=d2.st.1 x;omega
  ·exact x
 unfold Lx at u1 u2
 unfold Lkd
 have kb:a.cS.cM < b.inc->b.cS.cM=a.inc:=fun x=>(k.1 (.inl ⟨ha,x⟩)).2 hb
 have ka:b.cS.cM < a.inc->a.cS.cM=b.inc:=fun x=>(k.2 (.inl ⟨hb,x⟩)).2 ha
 have s1:=d1.sl;have s2:=d2.sl;have l1:=d1.pl;have l2:=d2.pl
 omega
end
end

section
def Lk.cR (L:Lk):Lk:=⟨L.l.cR.2.send L.r.cR.1,L.r.cR.2.send L.l.cR.1⟩
theorem Wire.good {fl:List (Nat × Byt)} {ws:List (Nat × Option Way)} (h:Wire fl ws):∀v ∈ held ws,Good v.2.pk:=by
 induction h with
 |nil=>intro v hv;cases hv
 |@cons x o fl ws n t _ ih=>
  intro v hv
  cases o with
  |none=>exact ih v hv
  |some u=>
   rcases List.mem_cons.1 (show v ∈ u::held ws from hv) with rfl|hv
   ·exact t.1
   ·exact ih v hv
def dueQ {α : Type}:Nat->List (List α)->List (Nat × α)
 |_,[]=>[]
 |T,q::qs=>(q.map fun o=>(T+1,o))++dueQ (T+1) qs
theorem dueQ_snoc {α : Type} (b:List α):∀(qs:List (List α)) (T:Nat),dueQ T (qs++[b])=dueQ T qs++b.map fun o=>(T+qs.length+1,o)
 |[],T=>by simp [dueQ]
 |q::qs,T=>by
  show (q.map fun o=>(T+1,o))++dueQ (T+1) (qs++[b])=_
  rw [dueQ_snoc b qs (T+1),List.length_cons,show T+1+qs.length+1=T+(qs.length+1)+1 by omega,<-List.append_assoc]
  rfl
theorem dueQ_nils {α : Type}:∀(n T:Nat),dueQ T (List.replicate n ([]:List α))=[]
 |0,_=>rfl
 |n+1,T=>by
  show ([]:List (Nat × α))++dueQ (T+1) (List.replicate n [])=[]
  rw [dueQ_nils n,List.nil_append]
theorem dueQ_late {α : Type}:∀(qs:List (List α)) (T:Nat),∀x ∈ dueQ T qs,T < x.1
 |[],_,x,h=>by cases h
 |q::qs,T,x,h=>by
  rcases List.mem_append.1 h with h|h
  ·obtain ⟨o,_,rfl⟩:=List.mem_map.1 h
   exact Nat.lt_succ_self T
  ·have:=dueQ_late qs (T+1) x h;omega
theorem dueQ_first {α : Type} (q:List α) (qs:List (List α)) (T:Nat):(dueQ T (q::qs)).takeWhile (fun x=>decide (x.1<=T+1))=q.map fun o=>(T+1,o):=by
 show ((q.map fun o=>(T+1,o))++dueQ (T+1) qs).takeWhile _=_
 rw [List.takeWhile_append_of_pos (fun x hx=>by obtain ⟨o,_,rfl⟩:=List.mem_map.1 hx;simp)]
 have h:=dueQ_late qs (T+1)
 cases hq:dueQ (T+1) qs with
 |nil=>simp
 |cons x l=>
  have:=h x (by rw [hq];exact List.mem_cons_self ..)
  rw [List.takeWhile_cons_of_neg (by simp;omega),List.append_nil]
theorem cY:∀(qs:List (List (Option Way))) (T:Nat),held (dueQ T qs)=(qs.map fun q=>q.filterMap id).flatten
 |[],_=>rfl
 |q::qs,T=>by
  show held ((q.map fun o=>(T+1,o))++dueQ (T+1) qs)=_
  rw [held_append,held_map,cY qs (T+1)]
  rfl
theorem dueQ_length {α : Type}:∀(qs:List (List α)) (T:Nat),(dueQ T qs).length=(qs.map List.length).sum
 |[],_=>rfl
 |q::qs,T=>by
  show ((q.map fun o=>(T+1,o))++dueQ (T+1) qs).length=_
  rw [List.length_append,dueQ_length qs (T+1),List.length_map]
  rfl
structure Lnd.Inv (x:Lnd) (N:Nat) (ws:List (Nat × Option Way)):Prop where
 ok:x.prt.Ok N
 cab:x.cD.Ok
 wire:Wire x.cD.aL ws
 out:x.sc.inside=false
 inc:x.prt.inc=x.inc
 cons:x.prt.Cons fun c=>x.aE.getD c 0
 sl:x.aE.length=x.prt.aZ.length
 tk:x.cD.cC<=N
 se:x.cD.cP<=N
 lo:x.cD.lost<=N
 bd:200*x.sc.bad<=N
 ob:∀l ∈ x.aV,l.length<=N
 tb:∀l ∈ x.cF,l.length<=N
 fb:x.cD.bZ.length<=1000
theorem Lnd.Inv.mono {x:Lnd} {N M:Nat} {ws:List (Nat × Option Way)} (h:x.Inv N ws) (hm:N<=M):x.Inv M ws:=
 ⟨h.ok.mono hm,h.cab,h.wire,h.out,h.inc,h.cons,h.sl,Nat.le_trans h.tk hm,Nat.le_trans h.se hm,Nat.le_trans h.lo hm,Nat.le_trans h.bd hm,fun l hl=>Nat.le_trans (h.ob l hl) hm,fun l hl=>Nat.le_trans (h.tb l hl) hm,h.fb⟩
def Lnd.Due (x:Lnd) (ws:List (Nat × Option Way)):Prop:=∃qs:List (List (Option Way)),qs.length=x.cD.cB/\ws=dueQ x.cD.cC qs
theorem Lnd.send_ok:∀(ys:List Pt) {x:Lnd},x.cD.Ok->(x.send ys).cD.Ok
 |[],_,h=>h
 |y::ys,x,h=>by
  show ((x.send1 y).send ys).cD.Ok
  refine Lnd.send_ok ys ?_
  unfold Lnd.send1
  split
  ·exact Cab.send_ok h _
  ·exact h
theorem Lnd.Inv.send {x:Lnd} {N:Nat} {ws vs:List (Nat × Option Way)} (h:x.Inv N ws) (ys:List Pt) (hw:Wire (x.send ys).cD.aL vs):(x.send ys).Inv (N+ys.length) vs:=by
 have s:=x.send_same (ys:=ys)
 obtain ⟨k1,k2,k3,k4,k5,k6,k7⟩:=Lnd.send_keeps ys x
 have h1:=h.tk;have h2:=h.se;have h3:=h.lo;have h4:=h.bd
 exact ⟨by rw [s.prt];exact h.ok.mono (by omega),Lnd.send_ok ys h.cab,hw,by rw [s.sc];exact h.out,by rw [s.prt,s.inc];exact h.inc,by rw [s.prt,s.aE];exact h.cons,by rw [s.prt,s.aE];exact h.sl,by omega,by omega,by omega,by rw [s.sc];omega,by rw [s.aV];exact fun l hl=>Nat.le_trans (h.ob l hl) (Nat.le_add_right _ _),by rw [s.cF];exact fun l hl=>Nat.le_trans (h.tb l hl) (Nat.le_add_right _ _),by rw [k3];exact h.fb⟩
theorem tick_inc (p:Prt) (l:List Pt):(p.cR l).2.inc=p.inc:=by
 rw [tick_emit]
 have h2:=(cH l p).2
 generalize l.foldl Prt.cU p=q at h2
 rw [<-h2]
 by_cases hs:q.cS.cR.state=2
 ·rw [Prt.tick_up (l:=[]) (a1:=q) (a:=q) rfl hs]
  have:=(choose_side { q with cS:=q.cS.cR }).2.1
  split <;> exact this
 ·rw [Prt.cX (l:=[]) (a1:=q) (a:=q) rfl hs]
theorem tick_rooms (p:Prt) (l:List Pt):(p.cR l).2.aZ=p.aZ:=by
 rw [tick_emit]
 have h2:=(cH l p).1
 generalize l.foldl Prt.cU p=q at h2
 rw [<-h2]
 by_cases hs:q.cS.cR.state=2
 ·rw [Prt.tick_up (l:=[]) (a1:=q) (a:=q) rfl hs]
  have:=(choose_side { q with cS:=q.cS.cR }).2.2
  split <;> exact this
 ·rw [Prt.cX (l:=[]) (a1:=q) (a:=q) rfl hs]
theorem sent_few {N:Nat} {a:Prt} (ok:a.Ok N) (l:List Pt) (hl:∀y ∈ l,y.pay.length<=1000):(a.cR l).1.length<=7:=by
 obtain ⟨a1,ha⟩:∃a1,a1=l.foldl Prt.cU a:=⟨_,rfl⟩
 have ok1:=ok.handles l hl
 rw [<-ha] at ok1
 have h4:=ok1.n4;have h5:=ok1.sl
 by_cases hs:a1.cS.cR.state=2
 ·rw [Prt.tick_up ha hs]
  have hlen:(a1.hail::a1.ackn::(List.range a1.base.length).map a1.cred).length<=6:=by
   simp only [List.length_cons,List.length_map,List.length_range];omega
  generalize Prt.choose { a1 with cS:=a1.cS.cR }=q
  generalize a1.hail::a1.ackn::(List.range a1.base.length).map a1.cred=cP at hlen ⊢
  rcases q.snd.cR with ⟨o,s⟩
  cases o with
  |none=>show cP.length<=7;omega
  |some nd=>obtain ⟨n,d⟩:=nd;show (cP++[_]).length<=7;rw [List.length_append];simp;omega
 ·rw [Prt.cX ha hs];simp
theorem Lnd.Inv.cR {x:Lnd} {N:Nat} {q:List (Option Way)} {qs:List (List (Option Way))} (h:x.Inv N (dueQ x.cD.cC (q::qs))) :
  q.length<=64/\x.cR.2.Inv (N+12900) (dueQ (x.cD.cC+1) qs)/\x.cR.1=(x.prt.cR ((q.filterMap id).map (·.2))).1/\x.cR.2.prt=(x.prt.cR ((q.filterMap id).map (·.2))).2/\∀v ∈ q.filterMap id,v.2.pay.length<=1000:=by
 obtain ⟨w1,s',h1,hb,h2⟩:=h.wire.cR h.out
 have ha:x.cD.bV.length=q.length:=by
  show (x.cD.aL.takeWhile fun y=>decide (y.1<=x.cD.cC+1)).length=_
  rw [h.wire.due fun n=>decide (n<=x.cD.cC+1),dueQ_first,List.length_map]
 have hk:x.cD.bV.length<=64:=Nat.le_trans (List.takeWhile_prefix _).length_le h.cab.fly
 have e0:(dueQ x.cD.cC (q::qs)).take q.length=q.map fun o=>(x.cD.cC+1,o):=by
  show ((q.map fun o=>(x.cD.cC+1,o))++dueQ (x.cD.cC+1) qs).take q.length=_
  exact List.take_left' (by rw [List.length_map])
 have e3:(dueQ x.cD.cC (q::qs)).drop q.length=dueQ (x.cD.cC+1) qs:=by
  show ((q.map fun o=>(x.cD.cC+1,o))++dueQ (x.cD.cC+1) qs).drop q.length=_
  exact List.drop_left' (by rw [List.length_map])
 rw [ha] at w1 hb h2 hk
 rw [e3] at w1
 rw [e0,held_map] at h2
 have hp:(x.sc.scan x.cD.cR.1.flatten).2.map Pk.pt=(q.filterMap id).map (·.2):=by
  rw [h2,List.map_map];rfl
 have hg:∀v ∈ q.filterMap id,v.2.pay.length<=1000:=fun v hv=>by
  have:=(h.wire.good v (by rw [cY];exact List.mem_flatten.2 ⟨_,List.mem_map.2 ⟨q,List.mem_cons_self ..,rfl⟩,hv⟩)).pay
  show v.2.pk.pay.length<=1000
  omega
 have e1:x.cR.1=(x.prt.cR ((q.filterMap id).map (·.2))).1:=by unfold Lnd.cR;dsimp only;rw [hp]
 have e2:x.cR.2.prt=(x.prt.cR ((q.filterMap id).map (·.2))).2:=by unfold Lnd.cR;dsimp only;rw [hp]
 have hn:(q.filterMap id).length<=64:=Nat.le_trans (List.length_filterMap_le ..) hk
 have hl:∀y ∈ (q.filterMap id).map (·.2),y.pay.length<=1000:=fun y hy=>by
  obtain ⟨v,hv,rfl⟩:=List.mem_map.1 hy
  exact hg v hv
 have t1:=h.tk;have t2:=h.se;have t3:=h.lo;have t4:=h.bd
 refine ⟨hk,⟨?_,Cab.tick_ok h.cab,w1,?_,?_,?_,?_,?_,?_,?_,?_,fun l hl=>Nat.le_trans (h.ob l hl) (Nat.le_add_right _ _),fun l hl=>Nat.le_trans (h.tb l hl) (Nat.le_add_right _ _),h.fb⟩,e1,e2,hg⟩
 ·rw [e2]
  exact (h.ok.cR hl).mono (by rw [List.length_map];omega)
 ·show (x.sc.scan x.cD.cR.1.flatten).1.inside=false
  rw [h2];exact h1
 ·rw [e2,tick_inc];exact h.inc
 ·rw [e2];exact h.cons.cR h.ok hl
 ·rw [e2,tick_rooms];exact h.sl
 ·show x.cD.cC+1<=_;omega
 ·show x.cD.cP<=_;omega
 ·show x.cD.lost<=_;omega
 ·show 200*(x.sc.scan x.cD.cR.1.flatten).1.bad<=_
  rw [h2];show 200*s'.bad<=_;omega
structure Lk.Inv (L:Lk) (N:Nat) (wl wr:List (Nat × Option Way)) (oa ga ob gb:Nat->List dV) (da db:Nat->Nat):Prop where
 l:L.l.Inv N wl
 r:L.r.Inv N wr
 both:Both L.l.prt L.r.prt (held wr) (held wl) oa ga ob gb da db
 dl:L.l.Due wl
 dr:L.r.Due wr
 kn:Kno L.l.prt L.r.prt (held wr) (held wl)
theorem Lk.Inv.swap {L:Lk} {N:Nat} {wl wr:List (Nat × Option Way)} {oa ga ob gb:Nat->List dV} {da db:Nat->Nat} (h:L.Inv N wl wr oa ga ob gb da db):(⟨L.r,L.l⟩:Lk).Inv N wr wl ob gb oa ga db da:=⟨h.r,h.l,h.both.swap,h.dr,h.dl,h.kn.swap⟩
theorem Lk.Inv.mono {L:Lk} {N M:Nat} {wl wr:List (Nat × Option Way)} {oa ga ob gb:Nat->List dV} {da db:Nat->Nat} (h:L.Inv N wl wr oa ga ob gb da db) (hm:N<=M):L.Inv M wl wr oa ga ob gb da db:=⟨h.l.mono hm,h.r.mono hm,h.both,h.dl,h.dr,h.kn⟩
theorem sub_sent {wa new:List Way} {ys:List Pt} {t:Tag} (hn:∀v ∈ new,∃y ∈ ys,v=(t,y)):∀p ∈ wa++new,p ∈ wa++ys.map fun y=>(t,y):=fun p hp=>by
 rcases List.mem_append.1 hp with hp|hp
 ·exact List.mem_append_left _ hp
 ·obtain ⟨y,hy,rfl⟩:=hn p hp
  exact List.mem_append_right _ (List.mem_map.2 ⟨y,hy,rfl⟩)
theorem Lk.Inv.cR {L:Lk} {N:Nat} {ql qr:List (Option Way)} {qsl qsr:List (List (Option Way))} {oa ga ob gb:Nat->List dV} {da db:Nat->Nat} (h:L.Inv N (dueQ L.l.cD.cC (ql::qsl)) (dueQ L.r.cD.cC (qr::qsr)) oa ga ob gb da db) (hl:qsl.length+1=L.l.cD.cB) (hr:qsr.length+1=L.r.cD.cB) {bl br:List (Option Way)}
  (w2:Wire L.cR.l.cD.aL (dueQ (L.l.cD.cC+1) qsl++bl.map fun o=>(L.l.cD.cC+1+L.l.cD.cB,o))) (q2:∀v ∈ bl.filterMap id,∃y ∈ L.r.cR.1,v=(L.r.cR.2.prt.tag,y))
  (w1:Wire L.cR.r.cD.aL (dueQ (L.r.cD.cC+1) qsr++br.map fun o=>(L.r.cD.cC+1+L.r.cD.cB,o))) (q1:∀v ∈ br.filterMap id,∃y ∈ L.l.cR.1,v=(L.l.cR.2.prt.tag,y)) :
  L.cR.Inv (N+13000) (dueQ L.cR.l.cD.cC (qsl++[bl])) (dueQ L.cR.r.cD.cC (qsr++[br])) oa ga ob gb da db:=by
 obtain ⟨hk,il,s1,p1,g1⟩:=h.l.cR
 obtain ⟨hm,ir,s2,p2,g2⟩:=h.r.cR
 have b:=h.both
 have k:=h.kn
 rw [cY,cY,List.map_cons,List.map_cons,List.flatten_cons,List.flatten_cons] at b k
 have b1:=b.cR h.l.ok h.r.ok.i2 g1
 have k1:=k.cR b h.l.ok h.r.ok.i2 g1
 rw [<-p1,<-s1] at b1 k1
 have b2:=(b1.sends q1).swap
 have k2:=(k1.ways (sub_sent q1) fun _ hp=>hp).swap
 rw [List.append_assoc] at b2 k2
 have b3:=b2.cR h.r.ok il.ok.i2 g2
 have k3:=k2.cR b2 h.r.ok il.ok.i2 g2
 rw [<-p2,<-s2] at b3 k3
 have b4:=(b3.sends q2).swap
 have k4:=(k3.ways (sub_sent q2) fun _ hp=>hp).swap
 have sl:=L.l.cR.2.send_same (ys:=L.r.cR.1)
 have sr:=L.r.cR.2.send_same (ys:=L.l.cR.1)
 have lenl:L.l.cR.1.length<=7:=by
  rw [s1];exact sent_few h.l.ok _ fun y hy=>by obtain ⟨v,hv,rfl⟩:=List.mem_map.1 hy;exact g1 v hv
 have lenr:L.r.cR.1.length<=7:=by
  rw [s2];exact sent_few h.r.ok _ fun y hy=>by obtain ⟨v,hv,rfl⟩:=List.mem_map.1 hy;exact g2 v hv
 obtain ⟨x1,x2,_⟩:=Lnd.send_keeps L.r.cR.1 L.l.cR.2
 obtain ⟨m1,m2,_⟩:=Lnd.send_keeps L.l.cR.1 L.r.cR.2
 have tl:L.cR.l.cD.cC=L.l.cD.cC+1:=x1
 have tr:L.cR.r.cD.cC=L.r.cD.cC+1:=m1
 have dl:L.cR.l.cD.cB=L.l.cD.cB:=x2
 have dr:L.cR.r.cD.cB=L.r.cD.cB:=m2
 have el:dueQ L.cR.l.cD.cC (qsl++[bl])=dueQ (L.l.cD.cC+1) qsl++bl.map fun o=>(L.l.cD.cC+1+L.l.cD.cB,o):=by
  rw [tl,dueQ_snoc,show L.l.cD.cC+1+qsl.length+1=L.l.cD.cC+1+L.l.cD.cB by omega]
 have er:dueQ L.cR.r.cD.cC (qsr++[br])=dueQ (L.r.cD.cC+1) qsr++br.map fun o=>(L.r.cD.cC+1+L.r.cD.cB,o):=by
  rw [tr,dueQ_snoc,show L.r.cD.cC+1+qsr.length+1=L.r.cD.cC+1+L.r.cD.cB by omega]
 refine ⟨?_,?_,?_,⟨qsl++[bl],by rw [dl,List.length_append];exact hl,rfl⟩,⟨qsr++[br],by rw [dr,List.length_append];exact hr,rfl⟩,?_⟩
 ·rw [el];exact (il.send _ w2).mono (by omega)
 ·rw [er];exact (ir.send _ w1).mono (by omega)
 ·show Both (L.l.cR.2.send L.r.cR.1).prt (L.r.cR.2.send L.l.cR.1).prt _ _ _ _ _ _ _ _
  rw [sl.prt,sr.prt,cY,cY,List.map_append,List.map_append,List.flatten_append,List.flatten_append,List.map_singleton,List.map_singleton,List.flatten_singleton,List.flatten_singleton]
  exact b4
 ·show Kno (L.l.cR.2.send L.r.cR.1).prt (L.r.cR.2.send L.l.cR.1).prt _ _
  rw [sl.prt,sr.prt,cY,cY,List.map_append,List.map_append,List.flatten_append,List.flatten_append,List.map_singleton,List.map_singleton,List.flatten_singleton,List.flatten_singleton]
  exact k4
theorem Lnd.Due.cons {x:Lnd} {ws:List (Nat × Option Way)} (h:x.Due ws) (d1:1<=x.cD.cB):∃q qs,qs.length+1=x.cD.cB/\ws=dueQ x.cD.cC (q::qs):=by
 obtain ⟨qs,h1,h2⟩:=h
 cases qs with
 |nil=>rw [List.length_nil] at h1;omega
 |cons q qs=>exact ⟨q,qs,by rw [<-h1,List.length_cons],h2⟩
theorem Lk.Inv.tick_any {L:Lk} {N:Nat} {wl wr:List (Nat × Option Way)} {oa ga ob gb:Nat->List dV} {da db:Nat->Nat} (h:L.Inv N wl wr oa ga ob gb da db) :
  ∃wl' wr',L.cR.Inv (N+13000) wl' wr' oa ga ob gb da db:=by
 obtain ⟨ql,qsl,hl,rfl⟩:=h.dl.cons h.l.cab.d1
 obtain ⟨qr,qsr,hr,rfl⟩:=h.dr.cons h.r.cab.d1
 obtain ⟨_,il,_⟩:=h.l.cR
 obtain ⟨_,ir,_⟩:=h.r.cR
 obtain ⟨bl,w2,q2,_⟩:=Lnd.send_wire L.r.cR.2.prt.tag L.r.cR.1 il.wire
 obtain ⟨br,w1,q1,_⟩:=Lnd.send_wire L.l.cR.2.prt.tag L.l.cR.1 ir.wire
 exact ⟨_,_,h.cR hl hr w2 q2 w1 q1⟩
end

section
def Lk.act (L:Lk) (e:Evt):Nat × Lk:=
 if e.kind=3 then (0,⟨{ L.l with cD:=L.l.cD.cut },{ L.r with cD:=L.r.cD.cut }⟩)
 else if e.kind=4 then (0,⟨{ L.l with cD:=L.l.cD.mend },{ L.r with cD:=L.r.cD.mend }⟩)
 else if e.kind≠1/\e.kind≠2/\e.kind≠5 then (16,L)
 else if e.cS=0 then ((L.l.act e).1,⟨(L.l.act e).2,L.r⟩)
 else if e.cS=1 then ((L.r.act e).1,⟨L.l,(L.r.act e).2⟩)
 else (2,L)
structure Lnd.Book (x:Lnd) (o g p:Nat->List dV):Prop where
 ol:x.aV.length=x.prt.aZ.length
 tl:x.cF.length=x.prt.aZ.length
 off:∀c,x.aV.getD c []=o c
 tak:∀c,x.cF.getD c []=p c++g c
theorem Prt.Cons.congr {p:Prt} {m m':Nat->Nat} (h:p.Cons m) (he:∀c,c < p.aZ.length->m c=m' c):p.Cons m':=⟨fun c hc=>(h.off c hc).trans (he c hc),h.got,h.tmo,h.dd⟩
theorem getD_upd {l:List (List dV)} {o:Nat->List dV} (h:∀c,l.getD c []=o c) {c:Nat} (hc:c < l.length) (v:List dV):∀k,(l.set c v).getD k []=upd o c v k:=fun k=>by
 rw [getD_set _ _ _ _ _ hc]
 unfold upd
 by_cases e:c=k
 ·rw [if_pos e,if_pos e.symm]
 ·rw [if_neg e,if_neg fun x=>e x.symm,h k]
section
variable {x:Lnd} {b:Prt} {N:Nat} {ws:List (Nat × Option Way)} {wx wy:List Way} {o g p ob gb:Nat->List dV} {da db:Nat->Nat}
theorem Lnd.offer_inv (h:x.Inv N ws) (k:x.Book o g p) (bo:Both x.prt b wx wy o g ob gb da db) (c:Int) (d:dV) :
  ∃o',(x.dQ c d).2.Inv (N+65) ws/\(x.dQ c d).2.Book o' g p/\Both (x.dQ c d).2.prt b wx wy o' g ob gb da db:=by
 have ok:=h.ok.dQ c d
 unfold Lnd.dQ
 by_cases h0:(x.prt.dQ c d).1=0
 ·rw [if_pos h0]
  unfold Prt.dQ at h0 ok ⊢
  by_cases h1:¬x.prt.has c\/64 < d.length
  ·rw [if_pos h1] at h0;exact absurd h0 (by show ¬(2:Nat)=0;omega)
  ·rw [if_neg h1] at h0 ok ⊢
   by_cases h2:64<=(x.prt.aX.getD c.toNat []).length
   ·rw [if_pos h2] at h0;exact absurd h0 (by show ¬(5:Nat)=0;omega)
   ·rw [if_neg h2] at ok ⊢
    have hh:x.prt.has c:=Classical.byContradiction fun e=>h1 (.inl e)
    have hc:c.toNat < x.prt.aZ.length:=by have:=hh.1;have:=hh.2;omega
    have t1:=h.tk;have t2:=h.se;have t3:=h.lo;have t4:=h.bd
    refine ⟨upd o c.toNat (o c.toNat++[d]),⟨ok,h.cab,h.wire,h.out,h.inc,?_,?_,by show x.cD.cC<=_;omega,by show x.cD.cP<=_;omega,by show x.cD.lost<=_;omega,by show 200*x.sc.bad<=_;omega,?_,fun l hl=>Nat.le_trans (h.tb l hl) (Nat.le_add_right _ _),h.fb⟩,⟨?_,k.tl,?_,k.tak⟩,bo.dQ (by rw [h.ok.wl];exact hc) d⟩
    ·refine (h.cons.dQ h.ok hc d).congr fun j hj=>?_
     show _=(x.aE.set c.toNat (x.aE.getD c.toNat 0+1)).getD j 0
     rw [getD_set _ _ _ _ _ (by rw [h.sl];exact hc)]
     by_cases e:c.toNat=j
     ·rw [if_pos e,if_pos e.symm]
     ·rw [if_neg e,if_neg fun x=>e x.symm]
    ·show (x.aE.set _ _).length=_;rw [List.length_set];exact h.sl
    ·refine mem_set (P:=fun l:List dV=>l.length<=N+65) (fun l hl=>Nat.le_trans (h.ob l hl) (Nat.le_add_right _ _)) ?_
     rw [List.length_append]
     have:=bM (P:=fun l:List dV=>l.length<=N) h.ob (d:=[]) (Nat.zero_le _) c.toNat
     show _+1<=_;omega
    ·show (x.aV.set _ _).length=_;rw [List.length_set];exact k.ol
    ·show ∀j,(x.aV.set c.toNat (x.aV.getD c.toNat []++[d])).getD j []=_
     rw [k.off]
     exact getD_upd k.off (by rw [k.ol];exact hc) _
 ·rw [if_neg h0]
  exact ⟨o,h.mono (by omega),k,bo⟩
theorem Lnd.take_inv (h:x.Inv N ws) (k:x.Book o g p) (bo:Both x.prt b wx wy o g ob gb da db) (c:Int) :
  ∃g',(x.take c).2.Inv (N+1) ws/\(x.take c).2.Book o g' p/\Both (x.take c).2.prt b wx wy o g' ob gb da db:=by
 have ok:=h.ok.take c
 unfold Lnd.take
 have e:x.prt.take c=((x.prt.take c).1,(x.prt.take c).2):=rfl
 cases hp:x.prt.peek c with
 |none=>
  have:x.prt.take c=(none,x.prt):=by unfold Prt.take;rw [hp]
  rw [this]
  exact ⟨g,h.mono (by omega),k,bo⟩
 |some d=>
  have hh:x.prt.has c:=by
   unfold Prt.peek at hp
   split at hp
   ·assumption
   ·cases hp
  have hc:c.toNat < x.prt.aZ.length:=by have:=hh.1;have:=hh.2;omega
  obtain ⟨l,hl⟩:∃l,x.prt.aY.getD c.toNat []=d::l:=by
   unfold Prt.peek at hp
   rw [if_pos hh] at hp
   cases hb:x.prt.aY.getD c.toNat [] with
   |nil=>rw [hb] at hp;cases hp
   |cons y l=>rw [hb] at hp;injection hp with hp;rw [hp];exact ⟨l,rfl⟩
  have ht:x.prt.take c=(some d,{ x.prt with aY:=x.prt.aY.set c.toNat l,giv:=x.prt.giv.set c.toNat (x.prt.gv c.toNat).free,cF:=x.prt.cF.set c.toNat (x.prt.cF.getD c.toNat 0+1) }):=by
   unfold Prt.take;rw [hp];dsimp only;rw [hl];rfl
  rw [ht] at ok ⊢
  have t1:=h.tk;have t2:=h.se;have t3:=h.lo;have t4:=h.bd
  refine ⟨upd g c.toNat (g c.toNat++[d]),⟨ok,h.cab,h.wire,h.out,h.inc,h.cons.take h.ok hc hl,h.sl,by show x.cD.cC<=_;omega,by show x.cD.cP<=_;omega,by show x.cD.lost<=_;omega,by show 200*x.sc.bad<=_;omega,fun l hl=>Nat.le_trans (h.ob l hl) (Nat.le_add_right _ _),?_,h.fb⟩,⟨k.ol,?_,k.off,?_⟩,bo.take hc hl⟩
  ·refine mem_set (P:=fun l:List dV=>l.length<=N+1) (fun l hl=>Nat.le_trans (h.tb l hl) (Nat.le_add_right _ _)) ?_
   rw [List.length_append]
   have:=bM (P:=fun l:List dV=>l.length<=N) h.tb (d:=[]) (Nat.zero_le _) c.toNat
   show _+1<=_;omega
  ·show (x.cF.set _ _).length=_;rw [List.length_set];exact k.tl
  ·show ∀j,(x.cF.set c.toNat (x.cF.getD c.toNat []++[d])).getD j []=_
   intro j
   rw [getD_set _ _ _ _ _ (by rw [k.tl];exact hc)]
   unfold upd
   by_cases e:c.toNat=j
   ·rw [if_pos e,if_pos e.symm,<-e,k.tak,List.append_assoc]
   ·rw [if_neg e,if_neg fun x=>e x.symm,k.tak]
theorem Lnd.restart_inv (h:x.Inv N ws) (hN:200<=N) (k:x.Book o g p) (bo:Both x.prt b wx wy o g ob gb da db) :
  ∃g' p' da' db',x.restart.2.Inv N ws/\x.restart.2.Book o g' p'/\Both x.restart.2.prt b wx wy o g' ob gb da' db':=by
 unfold Lnd.restart Prt.restart
 by_cases hr:((x.inc:Int)+1<=x.prt.inc\/1099511627775 < (x.inc:Int)+1)
 ·rw [if_pos hr,if_neg (by show ¬(2:Nat)=0;omega)]
  exact ⟨g,p,da,db,h,k,bo⟩
 ·rw [if_neg hr,if_pos rfl]
  have hi:=h.inc
  have e:((x.inc:Int)+1).toNat=x.inc+1:=by omega
  refine ⟨fun _=>[],fun c=>p c++g c,_,_,⟨?_,h.cab,h.wire,rfl,?_,?_,?_,h.tk,h.se,h.lo,Nat.zero_le _,h.ob,h.tb,h.fb⟩,⟨k.ol,k.tl,k.off,fun c=>by rw [List.append_nil];exact k.tak c⟩,bo.restart (by omega) _ _ _ _⟩
  ·refine Prt.Ok.mono ?_ hN
   dsimp only
   exact newPrt_ok h.ok.n1 h.ok.n4 h.ok.rm (by omega) (by omega) h.ok.w1 h.ok.w2 h.ok.t1 h.ok.t2 h.ok.d1 h.ok.d2
  ·show ((x.inc:Int)+1).toNat=x.inc+1;exact e
  ·refine (new_cons _ _ _ _ _).congr fun j _=>?_
   show 0=(List.replicate x.aE.length 0).getD j 0
   rw [List.getD,List.getElem?_replicate]
   split <;> rfl
  ·show (List.replicate x.aE.length 0).length=_;rw [List.length_replicate];exact h.sl
end
end

section
def Lk.Full (L:Lk) (N:Nat) (Z:Prop):Prop:=
 ∃wl wr oa ga pa ob gb pb da db,L.Inv N wl wr oa ga ob gb da db/\L.l.Book oa ga pa/\L.r.Book ob gb pb/\(Z->(∀c,pa c=[])/\(∀c,pb c=[])/\(∀c,da c=0)/\∀c,db c=0)
theorem Lk.Full.mono {L:Lk} {N M:Nat} {Z Y:Prop} (h:L.Full N Z) (hm:N<=M) (hz:Y->Z):L.Full M Y:=by
 obtain ⟨wl,wr,oa,ga,pa,ob,gb,pb,da,db,i,k1,k2,z⟩:=h
 exact ⟨wl,wr,oa,ga,pa,ob,gb,pb,da,db,i.mono hm,k1,k2,fun y=>z (hz y)⟩
theorem Lk.Full.swap {L:Lk} {N:Nat} {Z:Prop} (h:L.Full N Z):(⟨L.r,L.l⟩:Lk).Full N Z:=by
 obtain ⟨wl,wr,oa,ga,pa,ob,gb,pb,da,db,i,k1,k2,z⟩:=h
 exact ⟨wr,wl,ob,gb,pb,oa,ga,pa,db,da,i.swap,k2,k1,fun y=>⟨(z y).2.1,(z y).1,(z y).2.2.2,(z y).2.2.1⟩⟩
theorem Lnd.Book.same {x y:Lnd} {o g p:Nat->List dV} (k:x.Book o g p) (h1:y.prt.aZ=x.prt.aZ) (h2:y.aV=x.aV) (h3:y.cF=x.cF):y.Book o g p:=
 ⟨by rw [h1,h2];exact k.ol,by rw [h1,h3];exact k.tl,by rw [h2];exact k.off,by rw [h3];exact k.tak⟩
theorem Lnd.Book.ticked {x:Lnd} {o g p:Nat->List dV} (k:x.Book o g p) (ys:List Pt):(x.cR.2.send ys).Book o g p:=by
 have s:=x.cR.2.send_same (ys:=ys)
 refine k.same ?_ s.aV s.cF
 rw [s.prt];exact tick_rooms _ _
theorem Lk.Full.cR {L:Lk} {N:Nat} {Z:Prop} (h:L.Full N Z):L.cR.Full (N+13000) Z:=by
 obtain ⟨wl,wr,oa,ga,pa,ob,gb,pb,da,db,i,k1,k2,z⟩:=h
 obtain ⟨wl',wr',i'⟩:=i.tick_any
 exact ⟨wl',wr',oa,ga,pa,ob,gb,pb,da,db,i',k1.ticked _,k2.ticked _,z⟩
theorem due_offer {x:Lnd} {ws:List (Nat × Option Way)} {c:Int} {d:dV} (h:x.Due ws):(x.dQ c d).2.Due ws:=by
 unfold Lnd.dQ;split <;> exact h
theorem due_take {x:Lnd} {ws:List (Nat × Option Way)} {c:Int} (h:x.Due ws):(x.take c).2.Due ws:=by
 unfold Lnd.take;split <;> exact h
theorem due_restart {x:Lnd} {ws:List (Nat × Option Way)} (h:x.Due ws):x.restart.2.Due ws:=by
 unfold Lnd.restart;split <;> exact h
theorem kno_offer {x:Lnd} {b:Prt} {wx wy:List Way} {c:Int} {d:dV} (k:Kno x.prt b wx wy):Kno (x.dQ c d).2.prt b wx wy:=by
 have e:(x.prt.dQ c d).2.inc=x.prt.inc/\(x.prt.dQ c d).2.cS=x.prt.cS:=by
  unfold Prt.dQ
  split
  ·exact ⟨rfl,rfl⟩
  ·split <;> exact ⟨rfl,rfl⟩
 unfold Lnd.dQ
 split
 ·exact k.cS e.1 fun h=>by rw [show ({ x with prt:=(x.prt.dQ c d).2,aV:=_,aE:=_ }:Lnd).prt.cS=(x.prt.dQ c d).2.cS from rfl,e.2] at h ⊢;exact ⟨h,rfl⟩
 ·exact k
theorem kno_take {x:Lnd} {b:Prt} {wx wy:List Way} {c:Int} (k:Kno x.prt b wx wy):Kno (x.take c).2.prt b wx wy:=by
 have e:(x.prt.take c).2.inc=x.prt.inc/\(x.prt.take c).2.cS=x.prt.cS:=by
  unfold Prt.take
  split <;> exact ⟨rfl,rfl⟩
 unfold Lnd.take
 rcases hp:x.prt.take c with ⟨o,q⟩
 rw [hp] at e
 cases o with
 |none=>exact k
 |some d=>exact k.cS (a':=q) e.1 fun h=>by dsimp only at e;rw [e.2] at h ⊢;exact ⟨h,rfl⟩
theorem kno_restart {x:Lnd} {b:Prt} {wx wy:List Way} {oa ga ob gb:Nat->List dV} {da db:Nat->Nat} (hx:x.prt.inc=x.inc) (k:Kno x.prt b wx wy) (h:Both x.prt b wx wy oa ga ob gb da db):Kno x.restart.2.prt b wx wy:=by
 unfold Lnd.restart Prt.restart
 by_cases hr:((x.inc:Int)+1<=x.prt.inc\/1099511627775 < (x.inc:Int)+1)
 ·rw [if_pos hr,if_neg (by show ¬(2:Nat)=0;omega)];exact k
 ·rw [if_neg hr,if_pos rfl]
  exact Kno.restart h (by omega) _ _ _ _
theorem cut_inv {x:Lnd} {N:Nat} {ws:List (Nat × Option Way)} (i:x.Inv N ws):({ x with cD:=x.cD.cut }:Lnd).Inv (N+65) []:=by
 have t1:=i.tk;have t2:=i.se;have t3:=i.lo;have t4:=i.bd;have t5:=i.cab.fly
 exact ⟨i.ok.mono (by omega),Cab.cut_ok i.cab,.nil,i.out,i.inc,i.cons,i.sl,by show x.cD.cC<=_;omega,by show x.cD.cP<=_;omega,by show x.cD.lost+x.cD.aL.length<=_;omega,by show 200*x.sc.bad<=_;omega,fun l hl=>Nat.le_trans (i.ob l hl) (Nat.le_add_right _ _),fun l hl=>Nat.le_trans (i.tb l hl) (Nat.le_add_right _ _),i.fb⟩
theorem cut_due (x:Lnd):({ x with cD:=x.cD.cut }:Lnd).Due []:=⟨List.replicate x.cD.cB [],List.length_replicate ..,(dueQ_nils _ _).symm⟩
theorem mend_inv {x:Lnd} {N:Nat} {ws:List (Nat × Option Way)} (i:x.Inv N ws):({ x with cD:=x.cD.mend }:Lnd).Inv N ws:=⟨i.ok,Cab.mend_ok i.cab,i.wire,i.out,i.inc,i.cons,i.sl,i.tk,i.se,i.lo,i.bd,i.ob,i.tb,i.fb⟩
theorem Lk.Full.actL {L:Lk} {N:Nat} {Z:Prop} (h:L.Full N Z) (hN:200<=N) (e:Evt):(⟨(L.l.act e).2,L.r⟩:Lk).Full (N+65) (Z/\(e.kind=1\/e.kind=2)):=by
 obtain ⟨wl,wr,oa,ga,pa,ob,gb,pb,da,db,i,k1,k2,z⟩:=h
 have ir:L.r.Inv (N+65) wr:=i.r.mono (by omega)
 unfold Lnd.act
 by_cases h1:e.kind=1
 ·rw [if_pos h1]
  obtain ⟨o',a1,a2,a3⟩:=Lnd.offer_inv i.l k1 i.both e.cls e.data
  exact ⟨wl,wr,o',ga,pa,ob,gb,pb,da,db,⟨a1,ir,a3,due_offer i.dl,i.dr,kno_offer i.kn⟩,a2,k2,fun y=>z y.1⟩
 ·rw [if_neg h1]
  by_cases h2:e.kind=2
  ·rw [if_pos h2]
   obtain ⟨g',a1,a2,a3⟩:=Lnd.take_inv i.l k1 i.both e.cls
   exact ⟨wl,wr,oa,g',pa,ob,gb,pb,da,db,⟨a1.mono (by omega),ir,a3,due_take i.dl,i.dr,kno_take i.kn⟩,a2,k2,fun y=>z y.1⟩
  ·rw [if_neg h2]
   obtain ⟨g',p',da',db',a1,a2,a3⟩:=Lnd.restart_inv i.l hN k1 i.both
   exact ⟨wl,wr,oa,g',p',ob,gb,pb,da',db',⟨a1.mono (by omega),ir,a3,due_restart i.dl,i.dr,kno_restart i.l.inc i.kn i.both⟩,a2,k2,fun y=>absurd y.2 (fun q=>q.elim h1 h2)⟩
theorem Lk.Full.act {L:Lk} {N:Nat} {Z:Prop} (h:L.Full N Z) (hN:200<=N) (e:Evt):(L.act e).2.Full (N+65) (Z/\e.kind≠5):=by
 have hm:=h.mono (show N<=N+65 by omega) (Y:=Z/\e.kind≠5) (fun y=>y.1)
 unfold Lk.act
 by_cases h3:e.kind=3
 ·rw [if_pos h3]
  obtain ⟨wl,wr,oa,ga,pa,ob,gb,pb,da,db,i,k1,k2,z⟩:=h
  exact ⟨[],[],oa,ga,pa,ob,gb,pb,da,db,⟨cut_inv i.l,cut_inv i.r,i.both.ways (fun _ hp=>by cases hp) .nil (fun _ hp=>by cases hp) .nil,cut_due _,cut_due _,i.kn.ways (fun _ hp=>by cases hp) fun _ hp=>by cases hp⟩,⟨k1.ol,k1.tl,k1.off,k1.tak⟩,⟨k2.ol,k2.tl,k2.off,k2.tak⟩,fun y=>z y.1⟩
 ·rw [if_neg h3]
  by_cases h4:e.kind=4
  ·rw [if_pos h4]
   obtain ⟨wl,wr,oa,ga,pa,ob,gb,pb,da,db,i,k1,k2,z⟩:=hm
   exact ⟨wl,wr,oa,ga,pa,ob,gb,pb,da,db,⟨mend_inv i.l,mend_inv i.r,i.both,i.dl,i.dr,i.kn⟩,⟨k1.ol,k1.tl,k1.off,k1.tak⟩,⟨k2.ol,k2.tl,k2.off,k2.tak⟩,z⟩
  ·rw [if_neg h4]
   by_cases h5:e.kind≠1/\e.kind≠2/\e.kind≠5
   ·rw [if_pos h5];exact hm
   ·rw [if_neg h5]
    have hk:∀ {P:Prop},P/\e.kind≠5->P/\(e.kind=1\/e.kind=2):=fun y=>⟨y.1,by omega⟩
    by_cases s0:e.cS=0
    ·rw [if_pos s0];exact (h.actL hN e).mono (Nat.le_refl _) hk
    ·rw [if_neg s0]
     by_cases s1:e.cS=1
     ·rw [if_pos s1];exact ((h.swap.actL hN e).swap).mono (Nat.le_refl _) hk
     ·rw [if_neg s1];exact hm
theorem Lk.Full.exact {L:Lk} {N:Nat} (h:L.Full N True) (c:Nat):L.r.cF.getD c [] <+: L.l.aV.getD c []:=by
 obtain ⟨wl,wr,oa,ga,pa,ob,gb,pb,da,db,i,k1,k2,z⟩:=h
 have:=i.both.front (z trivial).2.2.1 c
 rw [k1.off,k2.tak,(z trivial).2.1]
 exact this
theorem Lk.Full.room {L:Lk} {N:Nat} {Z:Prop} (h:L.Full N Z):L.l.prt.bL=0/\∀c,c < L.l.prt.aZ.length->(L.l.prt.aY.getD c []).length<=L.l.prt.aZ.getD c 0:=by
 obtain ⟨wl,wr,oa,ga,pa,ob,gb,pb,da,db,i,k1,k2,z⟩:=h
 exact ⟨i.both.over.1,fun c hc=>i.both.room hc⟩
end

end Go.Proofs.YtcbnhebiagdbiaaGreatDoor
