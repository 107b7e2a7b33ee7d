/- Lemmas of this proof (texts LnkG PprL LvH LvI LnkH LnkI LnkJ LnkL LnkM). -/
import Derived.Test.YtcbnhebiagdbiaaGreatDoorPkH1
import Derived.Test.YtcbnhebiagdbiaaGreatDoorPkP2
import Derived.Test.YtcbnhebiagdbiaaGreatDoorPkP1
namespace Go.Proofs.YtcbnhebiagdbiaaGreatDoor
set_option maxHeartbeats 64000000
section
theorem good_of {k:BitVec 8} {c n v:Int} {d:dV} (hk:k≠0) (c0:0<=c) (c1:c < 4) (n0:0<=n) (n1:n < 1099511627776) (v0:0<=v) (v1:v < 1099511627776) (hd:d.length<=64):Good (⟨k,c,n,v,d⟩:Pt).pk:=
 ⟨hk,c0,c1,n0,n1,v0,v1,hd⟩
section
variable {N:Nat} {a b:Prt} {wa wb:List Way} {oa ga ob gb:Nat->List dV} {da db:Nat->Nat}
theorem Both.rec (h:Both a b wa wb oa ga ob gb da db):∃hB tB,Rec a hB tB:=by
 obtain ⟨hA,tA,hB,tB,_,d2,_⟩:=h
 exact ⟨hB,tB,d2.rc⟩
theorem hail_good (ok:a.Ok N):Good a.hail.pk:=by
 have h:=ok.cS.cR
 have h1:=h.cM;have h2:=h.seen;have h3:=ok.i2
 exact good_of (by decide) (by omega) (by omega) (by omega) (by omega) (by omega) (by omega) (by simp)
theorem ackn_good (ok:a.Ok N):Good a.ackn.pk:=by
 have h3:=ok.i2
 exact good_of (by decide) (by omega) (by omega) (by omega) (by omega) (by omega) (by omega) (by simp)
theorem cred_good (ok:a.Ok N) (hN:N<=1000000000) {hB:Hist} {tB:Nat} (r:Rec a hB tB) {c:Nat} (hc:c < a.base.length):Good (a.cred c).pk:=by
 have h3:=ok.i2
 have h4:=ok.n4;have h5:=ok.sl
 have h6:=r.room c
 have h7:(a.gv c).cE<=64+N:=by
  show (a.gv c).room+(a.gv c).cI<=_
  have:=ok.giv
  have hg:(a.gv c).room<=64/\(a.gv c).cI<=(a.gv c).aW/\(a.gv c).aW<=N:=bM (P:=fun g:Giv=>g.room<=64/\g.cI<=g.aW/\g.aW<=N) this ⟨by simp,by simp,by simp⟩ c
  omega
 have h8:((a.giv.getD c ⟨0,0,0⟩).cE:Int)=((a.gv c).cE:Int):=rfl
 have h9:((a.base.getD c 0:Nat):Int)=(a.bs c:Int):=rfl
 refine good_of (by decide) (by omega) (by omega) ?_ ?_ (by omega) (by omega) (by simp)
 ·rw [h8,h9];omega
 ·rw [h8,h9];omega
theorem sent_good (h:Both a b wa wb oa ga ob gb da db) (ok:a.Ok N) (hN:N<=1000000000):(∀y ∈ (a.cR []).1,Good y.pk)/\(a.cR []).1.length<=7:=by
 have ha:a=([]:List Pt).foldl Prt.cU a:=rfl
 obtain ⟨hB,tB,r⟩:=h.rec
 have h4:=ok.n4;have h5:=ok.sl
 by_cases hs:a.cS.cR.state=2
 ·rw [Prt.tick_up ha hs]
  have hhead:∀y ∈ a.hail::a.ackn::(List.range a.base.length).map a.cred,Good y.pk:=fun y hy=>by
   rcases List.mem_cons.1 hy with rfl|hy
   ·exact hail_good ok
   ·rcases List.mem_cons.1 hy with rfl|hy
    ·exact ackn_good ok
    ·obtain ⟨c,hc,rfl⟩:=List.mem_map.1 hy
     exact cred_good ok hN r (List.mem_range.1 hc)
  have hlen:(a.hail::a.ackn::(List.range a.base.length).map a.cred).length<=6:=by
   simp only [List.length_cons,List.length_map,List.length_range];omega
  have ok3:=(show Prt.Ok N { a with cS:=a.cS.cR } from ok.sideTick).choose
  have hi:(Prt.choose { a with cS:=a.cS.cR }).inc=a.inc:=(choose_side _).2.1
  generalize Prt.choose { a with cS:=a.cS.cR }=q at ok3 hi ⊢
  generalize a.hail::a.ackn::(List.range a.base.length).map a.cred=cP at hhead hlen ⊢
  rcases hq:q.snd.cR with ⟨o,s⟩
  cases o with
  |none=>exact ⟨hhead,by show cP.length<=7;omega⟩
  |some nd=>
   obtain ⟨n,d⟩:=nd
   refine ⟨fun y hy=>?_,by show (cP++[_]).length<=7;rw [List.length_append];simp;omega⟩
   rcases List.mem_append.1 (show y ∈ cP++[_] from hy) with hy|hy
   ·exact hhead y hy
   ·rw [List.mem_singleton.1 hy]
    have hn:=(tick_some ok3.snd hq).1
    have hd:d.length<=64:=by
     rcases Snd.tick_cases q.snd with ⟨e1,t,e2⟩|⟨i,hi',e1,e2⟩
     ·rw [hq] at e1;cases e1
     ·rw [hq] at e1
      injection e1 with e1
      have e3:d=q.snd.cT.getD i []:=congrArg Prod.snd e1
      rw [e3]
      exact bM (P:=fun l:dV=>l.length<=64) ok3.snd.small (by simp) _
    have hq4:=ok3.n4
    have hcl:Prt.classOf { q with snd:=s } n < 4:=by
     have:Prt.classOf { q with snd:=s } n < q.aZ.length:=by
      have:=ok3.n1
      exact bM (P:=fun f:Nat × dV=>f.1 < q.aZ.length) ok3.kcl (by show 0 < q.aZ.length;omega) _
     omega
    have h3:=ok3.i2
    exact good_of (by decide) (Int.natCast_nonneg _) (show ((Prt.classOf { q with snd:=s } n:Nat):Int) < ((4:Nat):Int) from Int.ofNat_lt.2 hcl) (by omega) (by omega) (by omega) (by omega) hd
 ·rw [Prt.cX ha hs]
  refine ⟨fun y hy=>?_,by simp⟩
  rw [List.mem_singleton.1 hy]
  exact hail_good ok
theorem sent_good' (h:Both a b wa wb oa ga ob gb da db) (ok:a.Ok N) {l:List Way} {wb':List Way} (hw:wb=l++wb') (okb:b.inc<=1099511627775) (hl:∀x ∈ l,x.2.pay.length<=1000) (hN:N+200*l.length<=1000000000) :
  (∀y ∈ (a.cR (l.map (·.2))).1,Good y.pk)/\(a.cR (l.map (·.2))).1.length<=7:=by
 subst hw
 have hb:=Both.handles l hl h ok okb
 have ok1:=ok.handles (l.map (·.2)) (fun y hy=>by obtain ⟨v,hv,rfl⟩:=List.mem_map.1 hy;exact hl v hv)
 rw [List.length_map] at ok1
 rw [tick_emit]
 exact sent_good hb ok1 hN
end
end

section
def Pr.Inv (P:Pr) (oa ga ob gb:Nat->List dV) (da db:Nat->Nat):Prop:=
 ∃wa wb:List Way,wa.map (·.2)=P.l.fly/\wb.map (·.2)=P.r.fly/\Both P.l.prt P.r.prt wa wb oa ga ob gb da db
def sing (bs:dV):List dV:=bs.map fun b=>[b]
theorem sing_prefix {xs ys : dV} (h : sing xs <+: sing ys) : xs <+: ys := by
  have h1 := List.prefix_iff_eq_take.1 h
  rw [List.prefix_iff_eq_take]
  unfold sing at h1
  rw [List.length_map, ← List.map_take] at h1
  have hinj : ∀ (a b : dV), a.map (fun x => [x]) = b.map (fun x => [x]) → a = b := fun a => by
    induction a with
    | nil => intro b hb; cases b with
             | nil => rfl
             | cons _ _ => cases hb
    | cons x a ih => intro b hb; cases b with
                     | nil => cases hb
                     | cons y b =>
                       simp only [List.map_cons, List.cons.injEq, and_true] at hb
                       rw [hb.1, ih b hb.2]
  exact hinj _ _ h1
section
variable {N:Nat} {P:Pr} {oa ga ob gb:Nat->List dV} {da db:Nat->Nat}
theorem Pr.Inv.cR (h:P.Inv oa ga ob gb da db) (ok:P.Ok N) (lose dbl:Nat):(P.cR lose dbl).Inv oa ga ob gb da db:=by
 obtain ⟨wa,wb,ea,eb,hb⟩:=h
 have hpa:∀x ∈ wa,x.2.pay.length<=1000:=fun x hx=>Nat.le_trans (ok.l.f1 x.2 (by rw [<-ea];exact List.mem_map.2 ⟨x,hx,rfl⟩)).1 (by decide)
 have hpb:∀x ∈ wb,x.2.pay.length<=1000:=fun x hx=>Nat.le_trans (ok.r.f1 x.2 (by rw [<-eb];exact List.mem_map.2 ⟨x,hx,rfl⟩)).1 (by decide)
 have h1:=Both.cR (l:=wb) (wb:=[]) (by rw [List.append_nil];exact hb) ok.l.ok ok.r.ok.i2 hpb
 rw [eb] at h1
 have okl:(P.l.prt.cR P.r.fly).2.inc<=1099511627775:=by rw [(tick_keeps P.l.prt P.r.fly).2.1];exact ok.l.ok.i2
 have h2:=Both.cR (l:=wa) h1.swap ok.r.ok okl hpa
 rw [ea] at h2
 have h3:=h2.swap
 refine ⟨(sift lose dbl 0 (P.l.prt.cR P.r.fly).1).map (fun y=>((P.l.prt.cR P.r.fly).2.tag,y)),(sift lose dbl (P.l.prt.cR P.r.fly).1.length (P.r.prt.cR P.l.fly).1).map (fun y=>((P.r.prt.cR P.l.fly).2.tag,y)),?_,?_,h3.ways (fun p hp=>?_) ?_ (fun p hp=>?_) ?_⟩
 ·rw [List.map_map];exact List.map_id _
 ·rw [List.map_map];exact List.map_id _
 ·obtain ⟨y,hy,rfl⟩:=List.mem_map.1 hp
  exact List.mem_map.2 ⟨y,sift_mem _ _ _ _ y hy,rfl⟩
 ·exact List.pairwise_map.2 (List.pairwise_of_forall fun _ _=>Tag.le.refl _)
 ·obtain ⟨y,hy,rfl⟩:=List.mem_map.1 hp
  rw [List.nil_append]
  exact List.mem_map.2 ⟨y,sift_mem _ _ _ _ y hy,rfl⟩
 ·exact List.pairwise_map.2 (List.pairwise_of_forall fun _ _=>Tag.le.refl _)
theorem Pr.Inv.swap (h:P.Inv oa ga ob gb da db):(⟨P.r,P.l⟩:Pr).Inv ob gb oa ga db da:=by
 obtain ⟨wa,wb,ea,eb,hb⟩:=h
 exact ⟨wb,wa,eb,ea,hb.swap⟩
theorem Pr.Inv.offerL (h:P.Inv oa ga ob gb da db) (ok:P.Ok N) {c:Nat} (hc:c < 2) (b:BitVec 8) :
  (P.l.dQ c b=P.l/\(P.l.prt.aX.getD c []).length>=64)\/((P.l.dQ c b).off=P.l.off.set c (P.l.off.getD c []++[b])/\(P.l.dQ c b).got=P.l.got/\(⟨P.l.dQ c b,P.r⟩:Pr).Inv (upd oa c (oa c++[[b]])) ga ob gb da db):=by
 rcases offer_cases ok.l hc b with ⟨h1,e⟩|⟨_,e⟩
 ·exact .inl ⟨e,h1⟩
 ·refine .inr ⟨by rw [e],by rw [e],?_⟩
  rw [e]
  obtain ⟨wa,wb,ea,eb,hb⟩:=h
  exact ⟨wa,wb,ea,eb,hb.dQ (by rw [ok.l.ok.wl,ok.l.two];exact hc) [b]⟩
theorem Pr.Inv.takeL (h:P.Inv oa ga ob gb da db) (ok:P.Ok N) {c:Nat} (hc:c < 2) :
  (P.l.take c=P.l/\P.l.prt.aY.getD c []=[])\/∃x,(P.l.take c).got=P.l.got.set c (P.l.got.getD c []++[x])/\(P.l.take c).off=P.l.off/\(⟨P.l.take c,P.r⟩:Pr).Inv oa (upd ga c (ga c++[[x]])) ob gb da db:=by
 rcases take_cases ok.l hc with ⟨h1,_,e⟩|⟨x,l,h1,_,_,e⟩
 ·exact .inl ⟨e,h1⟩
 ·refine .inr ⟨x,by rw [e],by rw [e],?_⟩
  rw [e]
  obtain ⟨wa,wb,ea,eb,hb⟩:=h
  exact ⟨wa,wb,ea,eb,hb.take (by rw [ok.l.two];exact hc) h1⟩
def Nd.os (n:Nd):Nat->List dV:=fun c=>sing (n.off.getD c [])
def Nd.gs (n:Nd):Nat->List dV:=fun c=>sing (n.got.getD c [])
def Pr.Good (P:Pr):Prop:=P.Inv P.l.os P.l.gs P.r.os P.r.gs (fun _=>0) (fun _=>0)
theorem sing_set {l:List dV} {c:Nat} (hc:c < l.length) (b:BitVec 8):(fun k=>sing ((l.set c (l.getD c []++[b])).getD k []))=upd (fun k=>sing (l.getD k [])) c (sing (l.getD c [])++[[b]]):=by
 funext k
 unfold upd
 rw [getD_set _ _ _ _ _ hc]
 by_cases e:k=c
 ·subst e;rw [if_pos rfl,if_pos rfl];unfold sing;rw [List.map_append];rfl
 ·rw [if_neg e,if_neg fun h=>e h.symm]
theorem Pr.Good.cR (h:P.Good) (ok:P.Ok N) (lose dbl:Nat):(P.cR lose dbl).Good:=Pr.Inv.cR h ok lose dbl
theorem Pr.Good.swap (h:P.Good):(⟨P.r,P.l⟩:Pr).Good:=Pr.Inv.swap h
theorem Pr.Good.offerL (h:P.Good) (ok:P.Ok N) {c:Nat} (hc:c < 2) (b:BitVec 8):(⟨P.l.dQ c b,P.r⟩:Pr).Good:=by
 rcases Pr.Inv.offerL h ok hc b with ⟨e,_⟩|⟨e1,e2,h⟩
 ·rw [e];exact h
 ·unfold Pr.Good Nd.os Nd.gs
  rw [e1,e2,sing_set (by rw [ok.l.o2];exact hc)]
  exact h
theorem Pr.Good.takeL (h:P.Good) (ok:P.Ok N) {c:Nat} (hc:c < 2):(⟨P.l.take c,P.r⟩:Pr).Good:=by
 rcases Pr.Inv.takeL h ok hc with ⟨e,_⟩|⟨x,e1,e2,h⟩
 ·rw [e];exact h
 ·unfold Pr.Good Nd.os Nd.gs
  rw [e1,e2,sing_set (by rw [ok.l.g2];exact hc)]
  exact h
theorem Pr.Ok.swap (h:P.Ok N):(⟨P.r,P.l⟩:Pr).Ok N:=⟨h.r,h.l⟩
theorem Pr.Good.dQ (h:P.Good) (ok:P.Ok N) (s:Nat) {c:Nat} (hc:c < 2) (b:BitVec 8):(P.dQ s c b).Good:=by
 unfold Pr.dQ
 split
 ·exact h.offerL ok hc b
 ·exact (Pr.Good.offerL h.swap ok.swap hc b).swap
theorem Pr.Good.take (h:P.Good) (ok:P.Ok N) (s:Nat) {c:Nat} (hc:c < 2):(P.take s c).Good:=by
 unfold Pr.take
 split
 ·exact h.takeL ok hc
 ·exact (Pr.Good.takeL h.swap ok.swap hc).swap
theorem Pr.Good.act (h:P.Good) (ok:P.Ok N) (e:Nat):(P.act e).Good:=by
 unfold Pr.act
 split
 ·exact h.dQ ok _ (Nat.mod_lt _ (by decide)) _
 ·split
  ·exact h.take ok _ (Nat.mod_lt _ (by decide))
  ·exact h
theorem Pr.Good.front (h:P.Good):(∀c,c < 2->P.r.got.getD c [] <+: P.l.off.getD c []/\P.l.got.getD c [] <+: P.r.off.getD c [])/\P.l.prt.bL=0/\P.r.prt.bL=0:=by
 obtain ⟨wa,wb,_,_,hb⟩:=h
 exact ⟨fun c _=>⟨sing_prefix (hb.front (fun _=>rfl) c),sing_prefix (hb.swap.front (fun _=>rfl) c)⟩,hb.over⟩
end
end

section
section
variable {N:Nat} {P:Pr} {oa ga ob gb:Nat->List dV} {da db:Nat->Nat}
theorem Took.trans {a p q:Prt} (h1:Took a p) (h2:Took p q):Took a q:=by
 induction h2 with
 |refl=>exact h1
 |step _ hc hd ih=>exact .step ih hc hd
end
theorem recvs_still {i:Nat} {ds:List Pt} (h:IsData i ds) (p:Prt):p.rcv<=(p.recvs ds).rcv/\((p.recvs ds).rcv=p.rcv->(p.recvs ds).aY=p.aY):=by
 rcases h with rfl|⟨_,_,_,rfl⟩
 ·exact ⟨Nat.le_refl _,fun _=>rfl⟩
 ·show p.rcv<=(p.cO _).rcv/\((p.cO _).rcv=p.rcv->(p.cO _).aY=p.aY)
  unfold Prt.cO
  split
  ·exact ⟨Nat.le_refl _,fun _=>rfl⟩
  ·dsimp only
   split
   ·exact ⟨Nat.le_succ _,fun _=>rfl⟩
   ·exact ⟨Nat.le_succ _,fun h=>by dsimp only at h;omega⟩
section
variable {D:Nat} {a b:Nat->Prt} {Ba Bb:Nat->List Way}
theorem Go.rcv_le (g:Go D a b Ba Bb) (u:Up D a b Ba Bb 0) (n:Nat):(a n).rcv<=(a (n+1)).rcv/\((a (n+1)).rcv=(a n).rcv->((a n).cR ((Bb n).map (·.2))).2.aY=(a n).aY):=by
 obtain ⟨t,l,ds,ds',q,e,ti,ts,hds,hds',r1,r3,htick,ht,htk⟩:=g.turn (g.up_all u n)
 obtain ⟨h1,h2⟩:=recvs_still hds (a n)
 have e1:(a (n+1)).rcv=q.rcv:=by rw [htk.eq]
 rw [e1,ht.rcv,htick]
 refine ⟨h1,fun h=>?_⟩
 show q.aY=_
 rw [ht.aY];exact h2 h
end
end

section
theorem handle_tmo (p:Prt) (y:Pt):(p.cU y).aN=p.aN:=by
 unfold Prt.cU
 split
 ·unfold Prt.greet;dsimp only
  split <;> rfl
 ·split
  ·rfl
  ·split
   ·unfold Prt.cO;split
    ·rfl
    ·dsimp only;split <;> rfl
   ·split
    ·rfl
    ·split
     ·unfold Prt.raise;split <;> rfl
     ·rfl
theorem handles_tmo:∀(l:List Pt) (p:Prt),(l.foldl Prt.cU p).aN=p.aN
 |[],_=>rfl
 |y::l,p=>by rw [List.foldl_cons,handles_tmo l,handle_tmo]
theorem tick_tmo (p:Prt) (l:List Pt):(p.cR l).2.aN=p.aN:=by
 obtain ⟨a,ha⟩:∃a,a=l.foldl Prt.cU p:=⟨_,rfl⟩
 have h1:a.aN=p.aN:=by rw [ha];exact handles_tmo l p
 by_cases h:a.cS.cR.state=2
 ·rw [Prt.tick_up ha h]
  have h2:(Prt.choose { a with cS:=a.cS.cR }).aN=p.aN:=by
   unfold Prt.choose
   split
   ·exact h1
   ·split <;> exact h1
  split
  ·exact h2
  ·exact h2
 ·rw [Prt.cX ha h]
  exact h1
theorem Took.cons {N:Nat} {a p:Prt} {m:Nat->Nat} (h:Took a p) (ok:a.Ok N) (hc:a.Cons m):p.Cons m:=by
 induction h with
 |refl=>exact hc
 |step ht hk hd ih=>
  obtain ⟨N',ok'⟩:=ht.ok ⟨N,ok⟩
  exact ih.take ok' hk hd
structure Full (a b:Prt):Prop where
 ua:a.cS.state=2
 ub:b.cS.state=2
 lk:Lkd a b
 ka:a.cT=[]
 kb:b.cT=[]
 wa:∀c,c < a.aZ.length->a.aX.getD c []=[]
 wb:∀c,c < b.aZ.length->b.aX.getD c []=[]
 ba:∀c,c < a.aZ.length->a.aY.getD c []=[]
 bb:∀c,c < b.aZ.length->b.aY.getD c []=[]
theorem wt_nil:∀ {l:List (List dV)},(l.map List.length).sum=0->∀c,l.getD c []=[]
 |[],_,c=>by simp
 |x::l,h,0=>by
  simp only [List.map_cons,List.sum_cons] at h
  exact (show x=[] from List.eq_nil_of_length_eq_zero (by omega))
 |x::l,h,c+1=>by
  simp only [List.map_cons,List.sum_cons] at h
  exact wt_nil (l:=l) (by omega) c
theorem wt_sum:∀(l:List (List dV)),(l.map List.length).sum=((List.range l.length).map fun c=>(l.getD c []).length).sum
 |[]=>rfl
 |x::l=>by
  rw [List.length_cons,List.range_succ_eq_map,List.map_cons,List.map_cons,List.sum_cons,List.sum_cons,wt_sum l,List.map_map]
  rfl
theorem sum_le {n:Nat} {f g:Nat->Nat} (h:∀c,c < n->f c<=g c):((List.range n).map f).sum<=((List.range n).map g).sum:=by
 induction n with
 |zero=>exact Nat.le_refl _
 |succ n ih=>
  rw [List.range_succ,List.map_append,List.map_append,List.sum_append,List.sum_append]
  exact Nat.add_le_add (ih fun c hc=>h c (by omega)) (by show f n+0<=g n+0;have:=h n (by omega);omega)
theorem sum_add (n:Nat) (f g:Nat->Nat):((List.range n).map fun c=>f c+g c).sum=((List.range n).map f).sum+((List.range n).map g).sum:=by
 induction n with
 |zero=>rfl
 |succ n ih=>
  rw [List.range_succ,List.map_append,List.map_append,List.map_append,List.sum_append,List.sum_append,List.sum_append,ih]
  show _+(f n+g n+0)=_+(f n+0)+(_+(g n+0))
  omega
theorem Prt.Cons.few {N:Nat} {p:Prt} {m:Nat->Nat} (h:p.Cons m) (ok:p.Ok N):p.snd.cT.length+wt p<=((List.range p.aZ.length).map m).sum:=by
 have h1:p.snd.cT.length=p.cT.length:=by rw [<-ok.cT,List.length_map]
 unfold wt
 rw [h1,<-cnt_sum p.aZ.length p.cT ok.kcl,wt_sum,ok.wl,<-sum_add]
 exact sum_le fun c hc=>by have:=h.off c hc;omega
section
variable {N:Nat} {P:Pr} {oa ga ob gb:Nat->List dV} {da db:Nat->Nat}
end
theorem Both.full {a b:Prt} {wa wb:List Way} {oa ga ob gb:Nat->List dV} {da db:Nat->Nat} (h:Both a b wa wb oa ga ob gb da db) (f:Full a b) {c:Nat} (hc:c < a.aZ.length) (hc2:c < b.aZ.length) :
  ∃(E P0 F:List dV),gb c=E++F/\oa c=P0++F/\List.Sublist E P0/\P0.length<=da c/\F.length=(a.tk c).cP:=by
 obtain ⟨hA,tA,hB,tB,⟨d1,c1⟩,_⟩:=h
 obtain ⟨E,P,g1,g2,g3,_⟩:=c1 c
 obtain ⟨P0,q1,q2,q3⟩:=g3 f.lk
 have hl:=d1.lnk f.lk.1 f.lk.2
 have hk:=hl.cT
 rw [f.ka] at hk
 have hlen:hA.length<=a.snd.aG:=by
  have:=congrArg List.length hk
  rw [List.length_drop] at this
  have h0:([]:Hist).length=0:=rfl
  omega
 have h1:=hl.ack
 rw [f.bb c hc2,List.append_nil,List.take_of_length_le (by omega)] at g1
 rw [f.ka,f.wa c hc,q1,List.take_of_length_le hlen,frm_nil,List.append_nil,List.append_nil] at g2
 refine ⟨E,P0,frm c hA,g1,g2,q2,q3,?_⟩
 rw [hl.cP c]
 unfold frm cnt
 rw [List.length_map]
end

section
structure Qst where
 a:Prt
 b:Prt
 qa:List (List (Option Way))
 qb:List (List (Option Way))
abbrev bat (qs:List (List (Option Way))):List Way:=(qs.headD []).filterMap id
abbrev wayz (qs:List (List (Option Way))):List Way:=(qs.map fun q=>q.filterMap id).flatten
def Qst.ta (s:Qst):List Pt × Prt:=s.a.cR ((bat s.qb).map (·.2))
def Qst.tb (s:Qst):List Pt × Prt:=s.b.cR ((bat s.qa).map (·.2))
def outs (t:List Pt × Prt):List (Option Way):=t.1.map fun y=>some (t.2.tag,y)
def Qst.step (f g:Prt->Prt) (s:Qst):Qst:=⟨f s.ta.2,g s.tb.2,s.qa.tail++[outs s.ta],s.qb.tail++[outs s.tb]⟩
def Qst.run (f g:Prt->Prt) (s:Qst):Nat->Qst
 |0=>s
 |n+1=>(s.run f g n).step f g
theorem outs_some (t:List Pt × Prt):(outs t).filterMap id=t.1.map fun y=>(t.2.tag,y):=by
 unfold outs
 induction t.1 with
 |nil=>rfl
 |cons y l ih=>show (t.2.tag,y)::_=_;rw [List.map_cons,<-ih]
theorem queue_len {α : Type} {Q:Nat->List α} {x:Nat -> α} (h:∀n,Q (n+1)=(Q n).tail++[x n]) {D:Nat} (h0:(Q 0).length=D) (hD:1<=D):∀n,(Q n).length=D
 |0=>h0
 |n+1=>by rw [h n,List.length_append,List.length_tail,queue_len h h0 hD n,List.length_singleton];omega
theorem queue_get {α : Type} {Q:Nat->List α} {x:Nat -> α} (h:∀n,Q (n+1)=(Q n).tail++[x n]) {D:Nat} (h0:(Q 0).length=D) (hD:1<=D) (n:Nat):∀j i,i+j < D->(Q (n+j))[i]? = (Q n)[i+j]?
 |0,i,_=>rfl
 |j+1,i,hi=>by
  have hl:=queue_len h h0 hD (n+j)
  rw [show n+(j+1)=n+j+1 by omega,h (n+j),List.getElem?_append_left (by rw [List.length_tail,hl];omega),List.getElem?_tail,queue_get h h0 hD n j (i+1) (by omega),show i+1+j=i+(j+1) by omega]
theorem queue_last {α : Type} {Q:Nat->List α} {x:Nat -> α} (h:∀n,Q (n+1)=(Q n).tail++[x n]) {D:Nat} (h0:(Q 0).length=D) (hD:1<=D) (n:Nat):(Q (n+D))[0]? = some (x n):=by
 have hl:=queue_len h h0 hD n
 have:=queue_get h h0 hD (n+1) (D - 1) 0 (by omega)
 rw [show n+1+(D - 1)=n+D by omega,h n,List.getElem?_append_right (by rw [List.length_tail,hl];omega),List.length_tail,hl] at this
 rw [this,show 0+(D - 1) - (D - 1)=0 by omega]
 rfl
theorem headD_of {α : Type} {l:List α} {x d : α} (h:l[0]? = some x):l.headD d=x:=by
 cases l with
 |nil=>cases h
 |cons y l=>injection h
theorem ways_queue {Q:Nat->List (List (Option Way))} {x:Nat->List (Option Way)} (h:∀n,Q (n+1)=(Q n).tail++[x n]) {D:Nat} (h0:(Q 0).length=D) (hD:1<=D) (n:Nat):ways (fun n=>bat (Q n)) D n=wayz (Q n):=by
 unfold ways wayz
 congr 1
 refine List.ext_getElem? fun j=>?_
 rw [List.getElem?_map,List.getElem?_map]
 have hl:=queue_len h h0 hD n
 rcases Nat.lt_or_ge j D with hj|hj
 ·rw [List.getElem?_range hj]
  have:=queue_get h h0 hD n j 0 (by omega)
  rw [Nat.zero_add,List.getElem?_eq_getElem (show j < (Q n).length by omega)] at this
  rw [List.getElem?_eq_getElem (show j < (Q n).length by omega)]
  show some (((Q (n+j)).headD []).filterMap id)=some (((Q n)[j]).filterMap id)
  rw [headD_of this]
 ·rw [List.getElem?_eq_none (by rw [List.length_range];exact hj),List.getElem?_eq_none (show (Q n).length<=j by omega)]
  rfl
theorem Qst.go {s:Qst} {f g:Prt->Prt} (hf:∀p,Took p (f p)) (hg:∀p,Took p (g p)) {D:Nat} (la:s.qa.length=D) (lb:s.qb.length=D) (hD:1<=D) (okA:∃N,s.a.Ok N) (okB:∃N,s.b.Ok N) (minA:s.a.Min) (minB:s.b.Min)
  (pa:∀v ∈ wayz s.qa,v.2.pay.length<=1000) (pb:∀v ∈ wayz s.qb,v.2.pay.length<=1000) (both:∃oa ga ob gb da db,Both s.a s.b (wayz s.qa) (wayz s.qb) oa ga ob gb da db) :
  Go D (fun n=>(s.run f g n).a) (fun n=>(s.run f g n).b) (fun n=>bat (s.run f g n).qa) (fun n=>bat (s.run f g n).qb):=by
 have ha:∀n,(s.run f g (n+1)).qa=(s.run f g n).qa.tail++[outs (s.run f g n).ta]:=fun n=>rfl
 have hb:∀n,(s.run f g (n+1)).qb=(s.run f g n).qb.tail++[outs (s.run f g n).tb]:=fun n=>rfl
 have wA:=ways_queue (Q:=fun n=>(s.run f g n).qa) ha la hD 0
 have wB:=ways_queue (Q:=fun n=>(s.run f g n).qb) hb lb hD 0
 refine ⟨hD,fun n=>?_,fun n=>?_,fun n=>hf _,fun n=>hg _,okA,okB,minA,minB,fun j hj v hv=>?_,fun j hj v hv=>?_,?_⟩
 ·show ((s.run f g (n+D)).qa.headD []).filterMap id=_
  rw [headD_of (queue_last (Q:=fun n=>(s.run f g n).qa) ha la hD n),outs_some]
  rfl
 ·show ((s.run f g (n+D)).qb.headD []).filterMap id=_
  rw [headD_of (queue_last (Q:=fun n=>(s.run f g n).qb) hb lb hD n),outs_some]
  rfl
 ·refine pa v ?_
  rw [show wayz s.qa=wayz (s.run f g 0).qa from rfl,<-wA]
  exact ways_mem (B:=fun n=>bat (s.run f g n).qa) (n:=0) hj v (by rw [Nat.zero_add];exact hv)
 ·refine pb v ?_
  rw [show wayz s.qb=wayz (s.run f g 0).qb from rfl,<-wB]
  exact ways_mem (B:=fun n=>bat (s.run f g n).qb) (n:=0) hj v (by rw [Nat.zero_add];exact hv)
 ·obtain ⟨oa,ga,ob,gb,da,db,h⟩:=both
  exact ⟨oa,ga,ob,gb,da,db,by rw [wA,wB];exact h⟩
def Prt.takes (p:Prt):List Nat->Prt
 |[]=>p
 |c::cs=>((p.take (c:Int)).2).takes cs
def Lnd.takes (x:Lnd):List Nat->Lnd
 |[]=>x
 |c::cs=>((x.take (c:Int)).2).takes cs
theorem Lnd.take_prt (x:Lnd) (c:Int):(x.take c).2.prt=(x.prt.take c).2/\(x.take c).2.cD=x.cD/\(x.take c).2.sc=x.sc:=by
 unfold Lnd.take
 rcases hp:x.prt.take c with ⟨o,p⟩
 cases o with
 |none=>
  refine ⟨?_,rfl,rfl⟩
  show x.prt=p
  unfold Prt.take at hp
  cases hk:x.prt.peek c with
  |none=>rw [hk] at hp;exact congrArg Prod.snd hp
  |some d=>rw [hk] at hp;cases congrArg Prod.fst hp
 |some d=>exact ⟨rfl,rfl,rfl⟩
theorem Lnd.cL:∀(cs:List Nat) (x:Lnd),(x.takes cs).prt=x.prt.takes cs/\(x.takes cs).cD=x.cD/\(x.takes cs).sc=x.sc
 |[],_=>⟨rfl,rfl,rfl⟩
 |c::cs,x=>by
  obtain ⟨h1,h2,h3⟩:=Lnd.cL cs (x.take c).2
  obtain ⟨k1,k2,k3⟩:=Lnd.take_prt x c
  exact ⟨by show ((x.take c).2.takes cs).prt=_;rw [h1,k1];rfl,h2.trans k2,h3.trans k3⟩
theorem take_took (p:Prt) (c:Nat):Took p (p.take (c:Int)).2:=by
 unfold Prt.take
 cases hk:p.peek (c:Int) with
 |none=>exact .refl
 |some d=>
  unfold Prt.peek at hk
  by_cases hh:p.has (c:Int)
  ·rw [if_pos hh,Int.toNat_natCast] at hk
   have hc:c < p.aZ.length:=by have:=hh.2;omega
   cases hb:p.aY.getD c [] with
   |nil=>rw [hb] at hk;cases hk
   |cons d' l=>
    have:=Took.step (a:=p) .refl hc hb
    show Took p { p with aY:=p.aY.set (c:Int).toNat ((p.aY.getD (c:Int).toNat []).drop 1),giv:=p.giv.set (c:Int).toNat (p.giv.getD (c:Int).toNat ⟨0,0,0⟩).free,cF:=p.cF.set (c:Int).toNat (p.cF.getD (c:Int).toNat 0+1) }
    rw [Int.toNat_natCast,hb,List.drop_succ_cons,List.drop_zero]
    exact this
  ·rw [if_neg hh] at hk;cases hk
theorem takes_took:∀(cs:List Nat) (p:Prt),Took p (p.takes cs)
 |[],_=>.refl
 |c::cs,p=>(take_took p c).trans (takes_took cs _)
def Prt.all (p:Prt):List Nat:=((List.range p.aZ.length).map fun c=>List.replicate (p.aY.getD c []).length c).flatten
def Prt.empty (p:Prt):Prt:=p.takes p.all
def Lnd.empty (x:Lnd):Lnd:=x.takes x.prt.all
def Lk.empty (L:Lk):Lk:=⟨L.l.empty,L.r.empty⟩
end

section
def Cab.Fine (c:Cab):Prop:=∀k:Nat,c.cP<=k->(faultOf c.bZ k).kind=0
theorem Cab.Fine.more {c d:Cab} (h:c.Fine) (hf:d.bZ=c.bZ) (hs:c.cP<=d.cP):d.Fine:=fun k hk=>by rw [hf];exact h k (by omega)
theorem Lnd.send_clean (t:Tag):∀(ys:List Pt) {x:Lnd} {ws:List (Nat × Option Way)},Wire x.cD.aL ws->x.cD.up=true->x.cD.Fine->(∀y ∈ ys,Good y.pk)->x.cD.aL.length+ys.length<=64 ->
  Wire (x.send ys).cD.aL (ws++(ys.map fun y=>some (t,y)).map fun o=>(x.cD.cC+x.cD.cB,o))
 |[],x,ws,h,_,_,_,_=>by simpa [Lnd.send] using h
 |y::ys,x,ws,h,hu,hf,hg,hl=>by
  show Wire ((x.send1 y).send ys).cD.aL _
  have hy:=hg y (List.mem_cons_self ..)
  rw [List.length_cons] at hl
  have w1:=h.send1 t hy hu (hf _ (Nat.le_refl _)) (by omega)
  unfold Lnd.send1
  rw [if_pos (validP_iff.2 hy)]
  obtain ⟨e1,e2,e3,e4,e5,e6⟩:=cab_send_keeps x.cD (symP y.pk)
  have hl1:(x.cD.send (symP y.pk)).2.aL.length=x.cD.aL.length+1:=by
   rw [w1.length,List.length_append,<-h.length];rfl
  have:=Lnd.send_clean t ys (x:={ x with cD:=(x.cD.send (symP y.pk)).2 }) w1 (by show (x.cD.send (symP y.pk)).2.up=true;rw [e5];exact hu) (hf.more e3 (by show x.cD.cP<=(x.cD.send (symP y.pk)).2.cP;rw [e4];omega)) (fun z hz=>hg z (List.mem_cons_of_mem _ hz)) (by show (x.cD.send (symP y.pk)).2.aL.length+ys.length<=64;omega)
  dsimp only at this
  rw [e1,e2,List.append_assoc] at this
  exact this
theorem Lnd.send_sent (y:Pt) (ys:List Pt) (x:Lnd) (hy:Good y.pk):x.cD.cP+1<=(x.send (y::ys)).cD.cP:=by
 show _<=((x.send1 y).send ys).cD.cP
 have h:=(Lnd.send_keeps ys (x.send1 y)).2.2.2.2.1
 unfold Lnd.send1 at h ⊢
 rw [if_pos (validP_iff.2 hy)] at h ⊢
 dsimp only at h
 rw [(cab_send_keeps x.cD (symP y.pk)).2.2.2.1] at h
 exact h
section
variable {L:Lk} {s:Qst} {D N:Nat} {oa ga ob gb pa pb:Nat->List dV} {da db:Nat->Nat} {wl wr:List (Nat × Option Way)}
structure Lk.Calm (L:Lk) (D:Nat):Prop where
 D6:D<=6
 dl:L.l.cD.cB=D
 dr:L.r.cD.cB=D
 ul:L.l.cD.up=true
 ur:L.r.cD.up=true
theorem tick_into (L:Lk):L.cR.l.cD.cB=L.l.cD.cB/\L.cR.l.cD.bZ=L.l.cD.bZ/\L.cR.l.cD.up=L.l.cD.up/\L.l.cD.cP<=L.cR.l.cD.cP/\L.cR.l.cD.cC=L.l.cD.cC+1:=by
 obtain ⟨k1,k2,k3,k4,k5,_⟩:=Lnd.send_keeps L.r.cR.1 L.l.cR.2
 exact ⟨k2,k3,k4,k5,k1⟩
theorem tick_into' (L:Lk):L.cR.r.cD.cB=L.r.cD.cB/\L.cR.r.cD.bZ=L.r.cD.bZ/\L.cR.r.cD.up=L.r.cD.up/\L.r.cD.cP<=L.cR.r.cD.cP/\L.cR.r.cD.cC=L.r.cD.cC+1:=by
 obtain ⟨k1,k2,k3,k4,k5,_⟩:=Lnd.send_keeps L.l.cR.1 L.r.cR.2
 exact ⟨k2,k3,k4,k5,k1⟩
theorem Lk.Calm.cR (h:L.Calm D):L.cR.Calm D:=by
 obtain ⟨a1,a2,a3,a4,_⟩:=tick_into L
 obtain ⟨b1,b2,b3,b4,_⟩:=tick_into' L
 exact ⟨h.D6,a1.trans h.dl,b1.trans h.dr,a3.trans h.ul,b3.trans h.ur⟩
theorem Lk.Calm.empty (h:L.Calm D):L.empty.Calm D:=by
 obtain ⟨_,a2,_⟩:=Lnd.cL L.l.prt.all L.l
 obtain ⟨_,b2,_⟩:=Lnd.cL L.r.prt.all L.r
 exact ⟨h.D6,by show (L.l.takes L.l.prt.all).cD.cB=D;rw [a2];exact h.dl,by show (L.r.takes L.r.prt.all).cD.cB=D;rw [b2];exact h.dr,by show (L.l.takes L.l.prt.all).cD.up=true;rw [a2];exact h.ul,by show (L.r.takes L.r.prt.all).cD.up=true;rw [b2];exact h.ur⟩
structure Lk.FineL (L:Lk):Prop where
 l:L.l.cD.Fine
 r:L.r.cD.Fine
theorem Lk.FineL.cR (h:L.FineL):L.cR.FineL:=by
 obtain ⟨a1,a2,a3,a4,_⟩:=tick_into L
 obtain ⟨b1,b2,b3,b4,_⟩:=tick_into' L
 exact ⟨h.l.more a2 a4,h.r.more b2 b4⟩
theorem Lk.FineL.empty (h:L.FineL):L.empty.FineL:=by
 obtain ⟨_,a2,_⟩:=Lnd.cL L.l.prt.all L.l
 obtain ⟨_,b2,_⟩:=Lnd.cL L.r.prt.all L.r
 exact ⟨by show (L.l.takes L.l.prt.all).cD.Fine;rw [a2];exact h.l,by show (L.r.takes L.r.prt.all).cD.Fine;rw [b2];exact h.r⟩
structure Lk.Clean (L:Lk) (s:Qst) (D N:Nat) (pa pb:Nat->List dV) (da db:Nat->Nat):Prop where
 a:L.l.prt=s.a
 b:L.r.prt=s.b
 la:s.qa.length=D
 lb:s.qb.length=D
 inv:∃oa ga ob gb,L.Inv N (dueQ L.l.cD.cC s.qb) (dueQ L.r.cD.cC s.qa) oa ga ob gb da db/\L.l.Book oa ga pa/\L.r.Book ob gb pb
structure Qst.Small (s:Qst):Prop where
 fa:∀q ∈ s.qa,q.length<=7
 fb:∀q ∈ s.qb,q.length<=7
theorem small_sum:∀ {qs:List (List (Option Way))},(∀q ∈ qs,q.length<=7)->(qs.map List.length).sum<=7*qs.length
 |[],_=>Nat.le_refl _
 |q::qs,h=>by
  have h1:=h q (List.mem_cons_self ..)
  have h2:=small_sum fun x hx=>h x (List.mem_cons_of_mem q hx)
  rw [List.map_cons,List.sum_cons,List.length_cons];omega
theorem Lk.Clean.cR (h:L.Clean s D N pa pb da db) (hc:L.Calm D) (hf:L.FineL) (hs:s.Small) (hN:N+13000<=1000000000):L.cR.Clean (s.step id id) D (N+13000) pa pb da db/\(s.step id id).Small:=by
 obtain ⟨oa,ga,ob,gb,hi,k1,k2⟩:=h.inv
 have hD:1<=D:=by rw [<-hc.dl];exact hi.l.cab.d1
 have hD6:=hc.D6
 obtain ⟨ql,qsl,el⟩:∃q qs,s.qb=q::qs:=by
  cases hq:s.qb with
  |nil=>have:=h.lb;rw [hq,List.length_nil] at this;omega
  |cons q qs=>exact ⟨q,qs,rfl⟩
 obtain ⟨qr,qsr,er⟩:∃q qs,s.qa=q::qs:=by
  cases hq:s.qa with
  |nil=>have:=h.la;rw [hq,List.length_nil] at this;omega
  |cons q qs=>exact ⟨q,qs,rfl⟩
 have lenl:qsl.length+1=D:=by rw [<-h.lb,el,List.length_cons]
 have lenr:qsr.length+1=D:=by rw [<-h.la,er,List.length_cons]
 have sl:=small_sum fun q hq=>hs.fb q (by rw [el];exact List.mem_cons_of_mem _ hq)
 have sr:=small_sum fun q hq=>hs.fa q (by rw [er];exact List.mem_cons_of_mem _ hq)
 rw [el,er] at hi
 obtain ⟨kl,il,s1,p1,g1⟩:=hi.l.cR
 obtain ⟨kr,ir,s2,p2,g2⟩:=hi.r.cR
 have ta1:L.l.cR.1=s.ta.1:=by rw [s1,h.a];unfold Qst.ta;rw [el];rfl
 have tb1:L.r.cR.1=s.tb.1:=by rw [s2,h.b];unfold Qst.tb;rw [er];rfl
 have ta2:L.l.cR.2.prt=s.ta.2:=by rw [p1,h.a];unfold Qst.ta;rw [el];rfl
 have tb2:L.r.cR.2.prt=s.tb.2:=by rw [p2,h.b];unfold Qst.tb;rw [er];rfl
 have nl:(ql.filterMap id).length<=64:=Nat.le_trans (List.length_filterMap_le ..) kl
 have nr:(qr.filterMap id).length<=64:=Nat.le_trans (List.length_filterMap_le ..) kr
 obtain ⟨gl,fl⟩:=sent_good' (l:=ql.filterMap id) (wb':=wayz qsl) hi.both hi.l.ok (by rw [cY];rfl) hi.r.ok.i2 g1 (by omega)
 obtain ⟨gr,fr⟩:=sent_good' (l:=qr.filterMap id) (wb':=wayz qsr) hi.both.swap hi.r.ok (by rw [cY];rfl) hi.l.ok.i2 g2 (by omega)
 rw [<-s1,ta1] at gl fl
 rw [<-s2,tb1] at gr fr
 have w2:=Lnd.send_clean s.tb.2.tag s.tb.1 (x:=L.l.cR.2) il.wire hc.ul hf.l gr (by rw [il.wire.length,dueQ_length];omega)
 have w1:=Lnd.send_clean s.ta.2.tag s.ta.1 (x:=L.r.cR.2) ir.wire hc.ur hf.r gl (by rw [ir.wire.length,dueQ_length];omega)
 have w2':Wire L.cR.l.cD.aL (dueQ (L.l.cD.cC+1) qsl++(outs s.tb).map fun o=>(L.l.cD.cC+1+L.l.cD.cB,o)):=by
  show Wire (L.l.cR.2.send L.r.cR.1).cD.aL _
  rw [tb1];exact w2
 have w1':Wire L.cR.r.cD.aL (dueQ (L.r.cD.cC+1) qsr++(outs s.ta).map fun o=>(L.r.cD.cC+1+L.r.cD.cB,o)):=by
  show Wire (L.r.cR.2.send L.l.cR.1).cD.aL _
  rw [ta1];exact w1
 have q2:∀v ∈ (outs s.tb).filterMap id,∃y ∈ L.r.cR.1,v=(L.r.cR.2.prt.tag,y):=fun v hv=>by
  rw [outs_some] at hv
  obtain ⟨y,hy,rfl⟩:=List.mem_map.1 hv
  rw [tb1,tb2]
  exact ⟨y,hy,rfl⟩
 have q1:∀v ∈ (outs s.ta).filterMap id,∃y ∈ L.l.cR.1,v=(L.l.cR.2.prt.tag,y):=fun v hv=>by
  rw [outs_some] at hv
  obtain ⟨y,hy,rfl⟩:=List.mem_map.1 hv
  rw [ta1,ta2]
  exact ⟨y,hy,rfl⟩
 have hi':=hi.cR (by rw [hc.dl];exact lenl) (by rw [hc.dr];exact lenr) w2' q2 w1' q1
 have pl:L.cR.l.prt=s.ta.2:=by
  show (L.l.cR.2.send L.r.cR.1).prt=_
  rw [(Lnd.send_same _ _).prt,ta2]
 have pr:L.cR.r.prt=s.tb.2:=by
  show (L.r.cR.2.send L.l.cR.1).prt=_
  rw [(Lnd.send_same _ _).prt,tb2]
 refine ⟨⟨pl,pr,?_,?_,oa,ga,ob,gb,?_,k1.ticked _,k2.ticked _⟩,⟨fun q hq=>?_,fun q hq=>?_⟩⟩
 ·show (s.qa.tail++[outs s.ta]).length=D
  rw [er,List.tail_cons,List.length_append];exact lenr
 ·show (s.qb.tail++[outs s.tb]).length=D
  rw [el,List.tail_cons,List.length_append];exact lenl
 ·show L.cR.Inv (N+13000) (dueQ L.cR.l.cD.cC (s.qb.tail++[outs s.tb])) (dueQ L.cR.r.cD.cC (s.qa.tail++[outs s.ta])) oa ga ob gb da db
  rw [el,er,List.tail_cons,List.tail_cons]
  exact hi'
 ·rcases List.mem_append.1 (show q ∈ s.qa.tail++[outs s.ta] from hq) with hq|hq
  ·exact hs.fa q (List.mem_of_mem_tail hq)
  ·rw [List.mem_singleton.1 hq];unfold outs;rw [List.length_map];exact fl
 ·rcases List.mem_append.1 (show q ∈ s.qb.tail++[outs s.tb] from hq) with hq|hq
  ·exact hs.fb q (List.mem_of_mem_tail hq)
  ·rw [List.mem_singleton.1 hq];unfold outs;rw [List.length_map];exact fr
end
theorem Lnd.takes_inv {b:Prt} {ws:List (Nat × Option Way)} {wx wy:List Way} {o p ob gb:Nat->List dV} {da db:Nat->Nat}:∀(cs:List Nat) {x:Lnd} {N:Nat} {g:Nat->List dV},x.Inv N ws->x.Book o g p->Both x.prt b wx wy o g ob gb da db ->
  ∃g',(x.takes cs).Inv (N+cs.length) ws/\(x.takes cs).Book o g' p/\Both (x.takes cs).prt b wx wy o g' ob gb da db
 |[],_,_,g,h,k,bo=>⟨g,h,k,bo⟩
 |c::cs,x,N,g,h,k,bo=>by
  obtain ⟨g1,h1,k1,b1⟩:=Lnd.take_inv h k bo (c:Int)
  obtain ⟨g2,h2,k2,b2⟩:=Lnd.takes_inv cs h1 k1 b1
  exact ⟨g2,h2.mono (by rw [List.length_cons];omega),k2,b2⟩
end

section
theorem takes_keep:∀(cs:List Nat) (p:Prt),(p.takes cs).aZ=p.aZ/\(p.takes cs).cS=p.cS/\(p.takes cs).inc=p.inc/\(p.takes cs).cT=p.cT/\(p.takes cs).aX=p.aX/\(p.takes cs).aG=p.aG/\(p.takes cs).rcv=p.rcv/\(p.takes cs).aN=p.aN/\(p.takes cs).dead=p.dead/\(p.takes cs).snd=p.snd:=fun cs p=>by
 have:=(takes_took cs p).eq
 rw [this]
 exact ⟨rfl,rfl,rfl,rfl,rfl,rfl,rfl,rfl,rfl,rfl⟩
theorem take_buf (p:Prt) (hl:p.aY.length=p.aZ.length) (c:Nat) (hc:c < p.aZ.length):(p.take (c:Int)).2.aY.length=p.aY.length/\(p.take (c:Int)).2.aZ=p.aZ/\∀k,(p.take (c:Int)).2.aY.getD k []=if c=k then (p.aY.getD k []).drop 1 else p.aY.getD k []:=by
 have hh:p.has (c:Int):=⟨by omega,by omega⟩
 cases hb:p.aY.getD c [] with
 |nil=>
  have hk:p.peek (c:Int)=none:=by unfold Prt.peek;rw [if_pos hh,Int.toNat_natCast,hb];rfl
  have:p.take (c:Int)=(none,p):=by unfold Prt.take;rw [hk]
  rw [this]
  refine ⟨rfl,rfl,fun k=>?_⟩
  by_cases e:c=k
  ·rw [if_pos e,<-e,hb];rfl
  ·rw [if_neg e]
 |cons d l=>
  rw [take_is hc hb]
  refine ⟨by show (p.aY.set c l).length=_;rw [List.length_set],rfl,fun k=>?_⟩
  show (p.aY.set c l).getD k []=_
  rw [getD_set _ _ _ _ _ (by rw [hl];exact hc)]
  by_cases e:c=k
  ·rw [if_pos e,if_pos e,<-e,hb];rfl
  ·rw [if_neg e,if_neg e]
theorem takes_buf:∀(cs:List Nat) (p:Prt),p.aY.length=p.aZ.length->(∀c ∈ cs,c < p.aZ.length)->∀k,(p.takes cs).aY.getD k []=(p.aY.getD k []).drop (cs.count k)
 |[],p,_,_,k=>rfl
 |c::cs,p,hl,hc,k=>by
  obtain ⟨h1,h2,h3⟩:=take_buf p hl c (hc c (List.mem_cons_self ..))
  have:=takes_buf cs (p.take (c:Int)).2 (by rw [h1,h2];exact hl) (fun x hx=>by rw [h2];exact hc x (List.mem_cons_of_mem _ hx)) k
  show ((p.take (c:Int)).2.takes cs).aY.getD k []=_
  rw [this,h3 k,List.count_cons]
  by_cases e:c=k
  ·subst e;rw [if_pos rfl,List.drop_drop];simp [Nat.add_comm]
  ·rw [if_neg e];simp [e]
theorem count_all (f:Nat->Nat) (k:Nat):∀n,(((List.range n).map fun c=>List.replicate (f c) c).flatten).count k=if k < n then f k else 0
 |0=>by simp
 |n+1=>by
  rw [List.range_succ,List.map_append,List.flatten_append,List.count_append,count_all f k n]
  show _+((List.replicate (f n) n++[]).count k)=_
  rw [List.append_nil,List.count_replicate]
  by_cases h1:k < n
  ·rw [if_pos h1,if_pos (show k < n+1 by omega),if_neg (by simp;omega)];rfl
  ·rw [if_neg h1]
   by_cases h2:n=k
   ·subst h2;simp
   ·rw [if_neg (by simpa using h2),if_neg (show ¬k < n+1 by omega)]
theorem mem_all {p:Prt}:∀c ∈ p.all,c < p.aZ.length:=fun c hc=>by
 unfold Prt.all at hc
 obtain ⟨l,hl,h2⟩:=List.mem_flatten.1 hc
 obtain ⟨k,hk,rfl⟩:=List.mem_map.1 hl
 rw [List.eq_of_mem_replicate h2]
 exact List.mem_range.1 hk
theorem empty_buf {p:Prt} (hl:p.aY.length=p.aZ.length) (k:Nat):p.empty.aY.getD k []=[]:=by
 unfold Prt.empty
 rw [takes_buf _ _ hl mem_all]
 unfold Prt.all
 rw [count_all fun c=>(p.aY.getD c []).length]
 by_cases h:k < p.aZ.length
 ·rw [if_pos h];exact List.drop_length
 ·rw [if_neg h,getD_out (by omega)];rfl
theorem all_len {p:Prt} (h4:p.aZ.length<=4) (hb:∀c,c < p.aZ.length->(p.aY.getD c []).length<=64):p.all.length<=256:=by
 unfold Prt.all
 have:∀n,n<=p.aZ.length->((List.range n).map fun c=>List.replicate (p.aY.getD c []).length c).flatten.length<=64*n:=fun n=>by
  induction n with
  |zero=>intro _;simp
  |succ n ih=>
   intro hn
   rw [List.range_succ,List.map_append,List.flatten_append,List.length_append]
   have:=ih (by omega)
   have h2:=hb n (by omega)
   show _+(List.replicate (p.aY.getD n []).length n++[]).length<=_
   rw [List.append_nil,List.length_replicate];omega
 have:=this _ (Nat.le_refl _)
 omega
section
variable {a b:Prt} {wa wb:List Way} {oa ga ob gb:Nat->List dV} {da db:Nat->Nat} {N:Nat}
theorem Both.all_len (h:Both a b wa wb oa ga ob gb da db) (ok:a.Ok N):a.all.length<=256:=
 Go.Proofs.YtcbnhebiagdbiaaGreatDoor.all_len ok.n4 fun c hc=>Nat.le_trans (h.room hc) (bM (P:=fun x=>x<=64) (fun x hx=>(ok.rm x hx).2) (by decide) c)
end
theorem since_takes:∀(cs:List Nat) (x:Lnd),(x.takes cs).aE=x.aE/\(x.takes cs).aV=x.aV/\(x.takes cs).inc=x.inc
 |[],_=>⟨rfl,rfl,rfl⟩
 |c::cs,x=>by
  have h:(x.take (c:Int)).2.aE=x.aE/\(x.take (c:Int)).2.aV=x.aV/\(x.take (c:Int)).2.inc=x.inc:=by
   unfold Lnd.take
   split <;> exact ⟨rfl,rfl,rfl⟩
  obtain ⟨h1,h2,h3⟩:=since_takes cs (x.take (c:Int)).2
  exact ⟨h1.trans h.1,h2.trans h.2.1,h3.trans h.2.2⟩
section
variable {L:Lk} {s:Qst} {D N:Nat} {pa pb:Nat->List dV} {da db:Nat->Nat}
theorem Lk.Inv.empty {L:Lk} {N:Nat} {wl wr:List (Nat × Option Way)} {oa ga ob gb:Nat->List dV} (h:L.Inv N wl wr oa ga ob gb da db) (k1:L.l.Book oa ga pa) (k2:L.r.Book ob gb pb) :
  ∃ga' gb',L.empty.Inv (N+256) wl wr oa ga' ob gb' da db/\L.empty.l.Book oa ga' pa/\L.empty.r.Book ob gb' pb:=by
 have n1:=h.both.all_len h.l.ok
 have n2:=h.both.swap.all_len h.r.ok
 obtain ⟨ga',a1,a2,a3⟩:=Lnd.takes_inv L.l.prt.all h.l k1 h.both
 obtain ⟨gb',b1,b2,b3⟩:=Lnd.takes_inv L.r.prt.all h.r k2 a3.swap
 obtain ⟨e1,e2,e3⟩:=Lnd.cL L.l.prt.all L.l
 obtain ⟨f1,f2,f3⟩:=Lnd.cL L.r.prt.all L.r
 have s1:=takes_keep L.l.prt.all L.l.prt
 have s2:=takes_keep L.r.prt.all L.r.prt
 refine ⟨ga',gb',⟨a1.mono (by omega),b1.mono (by omega),b3.swap,?_,?_,?_⟩,a2,b2⟩
 ·obtain ⟨qs,q1,q2⟩:=h.dl
  exact ⟨qs,by show qs.length=(L.l.takes L.l.prt.all).cD.cB;rw [e2];exact q1,by show wl=dueQ (L.l.takes L.l.prt.all).cD.cC qs;rw [e2];exact q2⟩
 ·obtain ⟨qs,q1,q2⟩:=h.dr
  exact ⟨qs,by show qs.length=(L.r.takes L.r.prt.all).cD.cB;rw [f2];exact q1,by show wr=dueQ (L.r.takes L.r.prt.all).cD.cC qs;rw [f2];exact q2⟩
 ·show Kno (L.l.takes L.l.prt.all).prt (L.r.takes L.r.prt.all).prt _ _
  rw [e1,f1]
  refine Kno.swap (Kno.cS (Kno.swap (h.kn.cS s1.2.2.1 fun x=>?_)) s2.2.2.1 fun x=>?_)
  ·rw [s1.2.1] at x ⊢;exact ⟨x,rfl⟩
  ·rw [s2.2.1] at x ⊢;exact ⟨x,rfl⟩
theorem Lk.Full.empty {Z:Prop} (h:L.Full N Z):L.empty.Full (N+256) Z:=by
 obtain ⟨wl,wr,oa,ga,pa,ob,gb,pb,da,db,i,k1,k2,z⟩:=h
 obtain ⟨ga',gb',i',k1',k2'⟩:=i.empty k1 k2
 exact ⟨wl,wr,oa,ga',pa,ob,gb',pb,da,db,i',k1',k2',z⟩
theorem empty_into (L:Lk):L.empty.l.cD=L.l.cD/\L.empty.r.cD=L.r.cD:=⟨(Lnd.cL _ _).2.1,(Lnd.cL _ _).2.1⟩
theorem Lk.Clean.empty (h:L.Clean s D N pa pb da db):L.empty.Clean ⟨s.a.empty,s.b.empty,s.qa,s.qb⟩ D (N+256) pa pb da db:=by
 obtain ⟨oa,ga,ob,gb,hi,k1,k2⟩:=h.inv
 obtain ⟨ga',gb',i',k1',k2'⟩:=hi.empty k1 k2
 obtain ⟨e1,e2⟩:=empty_into L
 refine ⟨?_,?_,h.la,h.lb,oa,ga',ob,gb',?_,k1',k2'⟩
 ·show (L.l.takes L.l.prt.all).prt=s.a.empty
  rw [(Lnd.cL _ _).1,h.a];rfl
 ·show (L.r.takes L.r.prt.all).prt=s.b.empty
  rw [(Lnd.cL _ _).1,h.b];rfl
 ·rw [e1,e2];exact i'
def Lk.serve (L:Lk):Lk:=L.cR.empty
def Lk.serves (L:Lk):Nat->Lk
 |0=>L
 |n+1=>(L.serves n).serve
theorem Lk.Clean.serves (h:L.Clean s D N pa pb da db) (hc:L.Calm D) (hf:L.FineL) (hs:s.Small):∀n,N+13256*n<=1000000000->(L.serves n).Clean (s.run Prt.empty Prt.empty n) D (N+13256*n) pa pb da db/\(L.serves n).Calm D/\(L.serves n).FineL/\(s.run Prt.empty Prt.empty n).Small
 |0,_=>⟨h,hc,hf,hs⟩
 |n+1,hN=>by
  obtain ⟨M,hM⟩:∃M,M=N+13256*n:=⟨_,rfl⟩
  have hN':M+13256<=1000000000:=by rw [hM,Nat.add_assoc,<-Nat.mul_succ];exact hN
  clear hN
  obtain ⟨h1,h2,h3,h4⟩:=h.serves hc hf hs n (by rw [<-hM];exact Nat.le_trans (Nat.le_add_right _ _) hN')
  rw [<-hM] at h1
  obtain ⟨k1,k2⟩:=h1.cR h2 h3 h4 (Nat.le_trans (Nat.add_le_add_left (by decide) _) hN')
  have k3:=k1.empty
  refine ⟨?_,h2.cR.empty,h3.cR.empty,⟨k2.fa,k2.fb⟩⟩
  have e:M+13000+256=N+13256*(n+1):=by rw [hM,Nat.mul_succ,Nat.add_assoc,Nat.add_assoc]
  rw [<-e]
  exact k3
end
theorem tick_since (L:Lk):L.cR.l.aE=L.l.aE/\L.cR.r.aE=L.r.aE/\L.cR.l.aV=L.l.aV/\L.cR.r.aV=L.r.aV:=by
 have h1:L.cR.l.aE=L.l.cR.2.aE:=(Lnd.send_same _ _).aE
 have h2:L.cR.r.aE=L.r.cR.2.aE:=(Lnd.send_same _ _).aE
 have h3:L.cR.l.aV=L.l.cR.2.aV:=(Lnd.send_same _ _).aV
 have h4:L.cR.r.aV=L.r.cR.2.aV:=(Lnd.send_same _ _).aV
 exact ⟨h1,h2,h3,h4⟩
theorem empty_since (L:Lk):L.empty.l.aE=L.l.aE/\L.empty.r.aE=L.r.aE/\L.empty.l.aV=L.l.aV/\L.empty.r.aV=L.r.aV:=⟨(since_takes _ _).1,(since_takes _ _).1,(since_takes _ _).2.1,(since_takes _ _).2.1⟩
theorem serves_since (L:Lk):∀n,(L.serves n).l.aE=L.l.aE/\(L.serves n).r.aE=L.r.aE
 |0=>⟨rfl,rfl⟩
 |n+1=>by
  obtain ⟨h1,h2⟩:=serves_since L n
  obtain ⟨k1,k2,_⟩:=tick_since (L.serves n)
  obtain ⟨m1,m2,_⟩:=empty_since (L.serves n).cR
  exact ⟨(m1.trans k1).trans h1,(m2.trans k2).trans h2⟩
def Lnd.Quiet (x:Lnd):Prop:=x.prt.cS.state=2/\∀c,c < x.prt.aZ.length->x.prt.aY.getD c []=[]/\x.aE.getD c 0<=x.prt.aG.getD c 0
def Lk.Quiet (L:Lk):Prop:=L.l.Quiet/\L.r.Quiet
def Lnd.some (x:Lnd):Nat:=((List.range x.prt.aZ.length).map fun c=>x.aE.getD c 0).sum
theorem one_quiet {D:Nat} {a b:Nat->Prt} {Ba Bb:Nat->List Way} (g:Go D a b Ba Bb) (u:Up D a b Ba Bb 0) (hr:(b 0).aZ.length=(a 0).aZ.length) (he:∀n c,(b n).aY.getD c []=[]) (hM:(a 0).snd.aG+(a 0).snd.cT.length+wt (a 0)<=1000000000) {M t:Nat} (hL:(a 0).snd.cT.length+wt (a 0)<=M) (ht:(a 0).snd.aN<=t) {n:Nat} (hn:2*D+(M+1)*(t+1)+M*(4*D+2)+D+1<=n) :
  (b n).rcv=(a 0).snd.aG+(a 0).snd.cT.length+wt (a 0)/\(a n).snd.cT.length=0/\wt (a n)=0:=by
 have F:=g.flow u hr hM 0 fun n c _ _=>he n c
 have h:=F.done g.hD (n:=n) (by
  show 2*D+((a 0).snd.cT.length+wt (a 0)+1)*((a 0).snd.aN+1)+((a 0).snd.cT.length+wt (a 0))*(0+4*D+2)+D+0+1<=n
  have h1:=Nat.mul_le_mul (show (a 0).snd.cT.length+wt (a 0)+1<=M+1 by omega) (show (a 0).snd.aN+1<=t+1 by omega)
  have h2:=Nat.mul_le_mul hL (show 0+4*D+2<=4*D+2 by omega)
  omega)
 exact ⟨h.1,h.2.2.1,h.2.2.2.1⟩
end

section
section
variable {s:Qst} {D N:Nat} {pa pb:Nat->List dV} {da db:Nat->Nat}
theorem clean_quiet {Y:Lk} (h:Y.Clean s D N pa pb da db) (hc:Y.Calm D) (hf:Y.FineL) (hs:s.Small) (dl:2<=Y.l.prt.dead) (dr:2<=Y.r.prt.dead) {t M:Nat} (tl:Y.l.prt.aN<=t) (tr:Y.r.prt.aN<=t) (hr:Y.l.prt.aZ.length=Y.r.prt.aZ.length)
  (ml:Y.l.some<=M) (mr:Y.r.some<=M) (hM:M<=1000000) {n:Nat} (hn:6*D+(M+1)*(t+1)+M*(4*D+2)+1<=n) (hN:N+13256*(n+1)<=500000000):(Y.serves n).cR.Quiet:=by
 have run:=fun k (hk:k<=n)=>h.serves hc hf hs k (Nat.le_trans (Nat.add_le_add_left (Nat.mul_le_mul_left _ (show k<=n+1 by omega)) _) (Nat.le_trans hN (by decide)))
 have hN3:N+13256*n+13256<=500000000:=by rw [Nat.add_assoc,<-Nat.mul_succ];exact hN
 obtain ⟨oa,ga,ob,gb,hi,-,-⟩:=h.inv
 have hD:1<=D:=by rw [<-hc.dl];exact hi.l.cab.d1
 have hea:s.a=Y.l.prt:=h.a.symm
 have heb:s.b=Y.r.prt:=h.b.symm
 have hboth:=hi.both
 rw [cY,cY] at hboth
 have g:Go D (fun n=>(s.run Prt.empty Prt.empty n).a) (fun n=>(s.run Prt.empty Prt.empty n).b) (fun n=>bat (s.run Prt.empty Prt.empty n).qa) (fun n=>bat (s.run Prt.empty Prt.empty n).qb):=by
  refine Qst.go (fun p=>takes_took _ _) (fun p=>takes_took _ _) h.la h.lb hD ⟨N,by rw [hea];exact hi.l.ok⟩ ⟨N,by rw [heb];exact hi.r.ok⟩ ?_ ?_ ?_ ?_ ⟨oa,ga,ob,gb,da,db,by rw [hea,heb];exact hboth⟩
  ·obtain ⟨_,_,_,_,_,d2,_⟩:=hboth
   rw [hea];exact d2.mine
  ·obtain ⟨_,_,_,_,⟨d1,_⟩,_⟩:=hboth
   rw [heb];exact d1.mine
  ·intro v hv
   have:=(hi.r.wire.good v (by rw [cY];exact hv)).pay
   show v.2.pk.pay.length<=1000;omega
  ·intro v hv
   have:=(hi.l.wire.good v (by rw [cY];exact hv)).pay
   show v.2.pk.pay.length<=1000;omega
 have hdl:2<=((fun n=>(s.run Prt.empty Prt.empty n).a) 0).cS.dead:=by show 2<=s.a.cS.dead;rw [hea,hi.l.cons.dd];exact dl
 have hdr:2<=((fun n=>(s.run Prt.empty Prt.empty n).b) 0).cS.dead:=by show 2<=s.b.cS.dead;rw [heb,hi.r.cons.dd];exact dr
 have u3:=g.up_at (n:=0+3*D) hdl hdr (by omega)
 have u:=Up.shift (n:=0) (m:=3*D) u3
 have g3:=g.shift (3*D)
 have he:∀k c,((s.run Prt.empty Prt.empty (k+3*D)).a).aY.getD c []=[]/\((s.run Prt.empty Prt.empty (k+3*D)).b).aY.getD c []=[]:=fun k c=>by
  obtain ⟨j,hj⟩:∃j,k+3*D=j+1:=⟨k+3*D - 1,by omega⟩
  rw [hj]
  have A:=g.at j
  obtain ⟨NA,okA⟩:=A.okA
  obtain ⟨NB,okB⟩:=A.okB
  have pA:∀y ∈ (bat (s.run Prt.empty Prt.empty j).qa).map (·.2),y.pay.length<=1000:=fun y hy=>by
   obtain ⟨p,hp,rfl⟩:=List.mem_map.1 hy
   exact A.payA j (by omega) p hp
  have pB:∀y ∈ (bat (s.run Prt.empty Prt.empty j).qb).map (·.2),y.pay.length<=1000:=fun y hy=>by
   obtain ⟨p,hp,rfl⟩:=List.mem_map.1 hy
   exact A.payB j (by omega) p hp
  exact ⟨empty_buf (okA.cR pB).bl c,empty_buf (okB.cR pA).bl c⟩
 obtain ⟨r3,_⟩:=run (3*D) (by omega)
 obtain ⟨oa3,ga3,ob3,gb3,hi3,-,-⟩:=r3.inv
 obtain ⟨c1,c2⟩:=serves_since Y (3*D)
 have ka:=g.kinds (0+3*D)
 have kb:=g.swap.kinds (0+3*D)
 have hrl:((Y.serves (3*D)).l.prt).aZ=Y.l.prt.aZ:=by rw [r3.a,<-hea];have:=ka.2.1;rw [Nat.zero_add] at this;exact this
 have hrr:((Y.serves (3*D)).r.prt).aZ=Y.r.prt.aZ:=by rw [r3.b,<-heb];have:=kb.2.1;rw [Nat.zero_add] at this;exact this
 have w1:=hi3.l.cons.few hi3.l.ok
 have w2:=hi3.r.cons.few hi3.r.ok
 rw [c1,hrl] at w1
 rw [c2,hrr] at w2
 have t1:=hi3.l.ok.tot
 have t2:=hi3.r.ok.tot
 have z1:=hi3.l.cons.tmo
 have z2:=hi3.r.cons.tmo
 unfold Snd.total at t1 t2
 rw [r3.a] at w1 t1 z1 hrl
 rw [r3.b] at w2 t2 z2 hrr
 have tms:∀k,(s.run Prt.empty Prt.empty k).a.aN=Y.l.prt.aN/\(s.run Prt.empty Prt.empty k).b.aN=Y.r.prt.aN:=fun k=>by
  induction k with
  |zero=>exact ⟨by rw [<-hea];rfl,by rw [<-heb];rfl⟩
  |succ k ih=>
   have e1:(s.run Prt.empty Prt.empty (k+1)).a.aN=(s.run Prt.empty Prt.empty k).ta.2.aN:=(takes_keep _ _).2.2.2.2.2.2.2.1
   have e2:(s.run Prt.empty Prt.empty (k+1)).b.aN=(s.run Prt.empty Prt.empty k).tb.2.aN:=(takes_keep _ _).2.2.2.2.2.2.2.1
   exact ⟨e1.trans ((tick_tmo _ _).trans ih.1),e2.trans ((tick_tmo _ _).trans ih.2)⟩
 obtain ⟨q1,q2⟩:=tms (3*D)
 have hsml:((List.range Y.l.prt.aZ.length).map fun c=>Y.l.aE.getD c 0).sum<=M:=ml
 have hsmr:((List.range Y.r.prt.aZ.length).map fun c=>Y.r.aE.getD c 0).sum<=M:=mr
 obtain ⟨m,rfl⟩:∃m,n=m+3*D:=⟨n - 3*D,by omega⟩
 obtain ⟨rn,hcn,hfn,hsn⟩:=run (m+3*D) (Nat.le_refl _)
 obtain ⟨tn,_⟩:=rn.cR hcn hfn hsn (Nat.le_trans (Nat.add_le_add_left (show 13000<=13256 by decide) _) (Nat.le_trans hN3 (by decide)))
 obtain ⟨oan,gan,obn,gbn,hin,-,-⟩:=tn.inv
 have y1:=(g.up_from (n:=m+3*D) hdl (by omega) hdr).1
 have y2:=(g.swap.up_from (n:=m+3*D) hdr (by omega) hdl).1
 have e1:(s.run Prt.empty Prt.empty (m+3*D+1)).a=(s.run Prt.empty Prt.empty (m+3*D)).ta.2.empty:=rfl
 have e2:(s.run Prt.empty Prt.empty (m+3*D+1)).b=(s.run Prt.empty Prt.empty (m+3*D)).tb.2.empty:=rfl
 have pl:(Y.serves (m+3*D)).cR.l.prt=(s.run Prt.empty Prt.empty (m+3*D)).ta.2:=tn.a
 have pr:(Y.serves (m+3*D)).cR.r.prt=(s.run Prt.empty Prt.empty (m+3*D)).tb.2:=tn.b
 have kl:=takes_keep (s.run Prt.empty Prt.empty (m+3*D)).ta.2.all (s.run Prt.empty Prt.empty (m+3*D)).ta.2
 have kr:=takes_keep (s.run Prt.empty Prt.empty (m+3*D)).tb.2.all (s.run Prt.empty Prt.empty (m+3*D)).tb.2
 have ba:=he m
 have rl0:(s.run Prt.empty Prt.empty 0).a.aZ=s.a.aZ:=rfl
 obtain ⟨A,hA⟩:∃A:Nat->Prt,A=fun n=>(s.run Prt.empty Prt.empty (n+3*D)).a:=⟨_,rfl⟩
 obtain ⟨B,hB⟩:∃B:Nat->Prt,B=fun n=>(s.run Prt.empty Prt.empty (n+3*D)).b:=⟨_,rfl⟩
 have a0:A 0=(s.run Prt.empty Prt.empty (3*D)).a:=by rw [hA];show (s.run Prt.empty Prt.empty (0+3*D)).a=_;rw [Nat.zero_add]
 have b0:B 0=(s.run Prt.empty Prt.empty (3*D)).b:=by rw [hB];show (s.run Prt.empty Prt.empty (0+3*D)).b=_;rw [Nat.zero_add]
 have am:A m=(s.run Prt.empty Prt.empty (m+3*D)).a:=by rw [hA]
 have bm:B m=(s.run Prt.empty Prt.empty (m+3*D)).b:=by rw [hB]
 have am1:A (m+1)=(s.run Prt.empty Prt.empty (m+3*D)).ta.2.empty:=by rw [hA];show (s.run Prt.empty Prt.empty (m+1+3*D)).a=_;rw [show m+1+3*D=m+3*D+1 by omega];rfl
 have bm1:B (m+1)=(s.run Prt.empty Prt.empty (m+3*D)).tb.2.empty:=by rw [hB];show (s.run Prt.empty Prt.empty (m+1+3*D)).b=_;rw [show m+1+3*D=m+3*D+1 by omega];rfl
 have hea':∀k c,(A k).aY.getD c []=[]/\(B k).aY.getD c []=[]:=fun k c=>by rw [hA,hB];exact he k c
 rw [<-hA,<-hB] at g3 u
 rw [<-a0] at w1 t1 z1 hrl q1
 rw [<-b0] at w2 t2 z2 hrr q2
 have eqr:(B 0).aZ.length=(A 0).aZ.length:=by rw [hrl,hrr];exact hr.symm
 have hlen:∀k,m<=k->2*D+(M+1)*(t+1)+M*(4*D+2)+D+1<=k:=fun k hk=>by omega
 have O1:=fun k hk=>one_quiet g3 u eqr (fun n c=>(hea' n c).2) (by omega) (M:=M) (t:=t) (by omega) (by rw [z1,q1];exact tl) (n:=k) (hlen k hk)
 have O2:=fun k hk=>one_quiet g3.swap u.swap eqr.symm (fun n c=>(hea' n c).1) (by omega) (M:=M) (t:=t) (by omega) (by rw [z2,q2];exact tr) (n:=k) (hlen k hk)
 obtain ⟨o1,o2,o3⟩:=O1 (m+1) (by omega)
 obtain ⟨o4,o5,o6⟩:=O2 (m+1) (by omega)
 have x1:=(g3.rcv_le u m).2 ((O2 (m+1) (by omega)).1.trans (O2 m (Nat.le_refl _)).1.symm)
 have x2:=(g3.swap.rcv_le u.swap m).2 ((O1 (m+1) (by omega)).1.trans (O1 m (Nat.le_refl _)).1.symm)
 have v1:(s.run Prt.empty Prt.empty (m+3*D)).ta.2.aY=(A m).aY:=by
  rw [am]
  rw [am] at x1
  exact x1
 have v2:(s.run Prt.empty Prt.empty (m+3*D)).tb.2.aY=(B m).aY:=by
  rw [bm]
  rw [bm] at x2
  exact x2
 rw [am1] at o2 o3
 rw [bm1] at o5 o6
 have y1':((s.run Prt.empty Prt.empty (m+3*D)).ta.2.empty).cS.state=2:=by rw [<-e1];exact y1
 have y2':((s.run Prt.empty Prt.empty (m+3*D)).tb.2.empty).cS.state=2:=by rw [<-e2];exact y2
 have kl2:(s.run Prt.empty Prt.empty (m+3*D)).ta.2.empty.cS=(s.run Prt.empty Prt.empty (m+3*D)).ta.2.cS:=kl.2.1
 have kr2:(s.run Prt.empty Prt.empty (m+3*D)).tb.2.empty.cS=(s.run Prt.empty Prt.empty (m+3*D)).tb.2.cS:=kr.2.1
 have kl3:(s.run Prt.empty Prt.empty (m+3*D)).ta.2.empty.snd=(s.run Prt.empty Prt.empty (m+3*D)).ta.2.snd:=kl.2.2.2.2.2.2.2.2.2
 have kr3:(s.run Prt.empty Prt.empty (m+3*D)).tb.2.empty.snd=(s.run Prt.empty Prt.empty (m+3*D)).tb.2.snd:=kr.2.2.2.2.2.2.2.2.2
 have kl4:(s.run Prt.empty Prt.empty (m+3*D)).ta.2.empty.aX=(s.run Prt.empty Prt.empty (m+3*D)).ta.2.aX:=kl.2.2.2.2.1
 have kr4:(s.run Prt.empty Prt.empty (m+3*D)).tb.2.empty.aX=(s.run Prt.empty Prt.empty (m+3*D)).tb.2.aX:=kr.2.2.2.2.1
 rw [kl2] at y1'
 rw [kr2] at y2'
 rw [kl3] at o2
 rw [kr3] at o5
 unfold wt at o3 o6
 rw [kl4] at o3
 rw [kr4] at o6
 refine ⟨⟨by rw [pl];exact y1',fun c hcl=>⟨?_,?_⟩⟩,⟨by rw [pr];exact y2',fun c hcl=>⟨?_,?_⟩⟩⟩
 ·rw [pl,v1];exact (hea' m c).1
 ·have h1:=hin.l.cons.off c hcl
  have h2:=hin.l.ok.cT
  rw [pl] at h1 h2 ⊢
  rw [wt_nil o3 c] at h1
  have h3:(s.run Prt.empty Prt.empty (m+3*D)).ta.2.cT=[]:=by
   have:=congrArg List.length h2
   rw [List.length_map,o2] at this
   exact List.eq_nil_of_length_eq_zero this
  rw [h3] at h1
  have h4:cnt [] c=0:=rfl
  have h5:([]:List dV).length=0:=rfl
  omega
 ·rw [pr,v2];exact (hea' m c).2
 ·have h1:=hin.r.cons.off c hcl
  have h2:=hin.r.ok.cT
  rw [pr] at h1 h2 ⊢
  rw [wt_nil o6 c] at h1
  have h3:(s.run Prt.empty Prt.empty (m+3*D)).tb.2.cT=[]:=by
   have:=congrArg List.length h2
   rw [List.length_map,o5] at this
   exact List.eq_nil_of_length_eq_zero this
  rw [h3] at h1
  have h4:cnt [] c=0:=rfl
  have h5:([]:List dV).length=0:=rfl
  omega
end
end

section
def Lk.drain (X:Lk):Nat->Lk
 |0=>X
 |m+1=>(X.drain m).empty.cR
theorem drain_serves (X:Lk) (m:Nat):∀k,X.drain (m+1+k)=((X.drain m).empty.serves k).cR
 |0=>rfl
 |k+1=>by
  show (X.drain (m+1+k)).empty.cR=_
  rw [drain_serves X m k];rfl
section
variable {X L:Lk} {s:Qst} {D N j:Nat} {pa pb:Nat->List dV} {da db:Nat->Nat} {Z:Prop}
theorem drain_full (h:X.Full N Z):∀m,(X.drain m).Full (N+13256*m) Z
 |0=>h
 |m+1=>((drain_full h m).empty.cR).mono (by rw [Nat.mul_succ,Nat.add_assoc,Nat.add_assoc];exact Nat.le_refl _) id
theorem drain_calm (h:X.Calm D):∀m,(X.drain m).Calm D
 |0=>h
 |m+1=>(drain_calm h m).empty.cR
theorem drain_fine (h:X.FineL):∀m,(X.drain m).FineL
 |0=>h
 |m+1=>(drain_fine h m).empty.cR
theorem drain_since (X:Lk):∀m,(X.drain m).l.aE=X.l.aE/\(X.drain m).r.aE=X.r.aE/\(X.drain m).l.aV=X.l.aV/\(X.drain m).r.aV=X.r.aV
 |0=>⟨rfl,rfl,rfl,rfl⟩
 |m+1=>by
  obtain ⟨h1,h2,h3,h4⟩:=drain_since X m
  obtain ⟨k1,k2,k3,k4⟩:=empty_since (X.drain m)
  obtain ⟨m1,m2,m3,m4⟩:=tick_since (X.drain m).empty
  exact ⟨(m1.trans k1).trans h1,(m2.trans k2).trans h2,(m3.trans k3).trans h3,(m4.trans k4).trans h4⟩
theorem handle_deadP (p:Prt) (y:Pt):(p.cU y).dead=p.dead:=by
 unfold Prt.cU
 split
 ·unfold Prt.greet;dsimp only
  split <;> rfl
 ·split
  ·rfl
  ·split
   ·unfold Prt.cO;split
    ·rfl
    ·dsimp only;split <;> rfl
   ·split
    ·rfl
    ·split
     ·unfold Prt.raise;split <;> rfl
     ·rfl
theorem handles_deadP:∀(l:List Pt) (p:Prt),(l.foldl Prt.cU p).dead=p.dead
 |[],_=>rfl
 |y::l,p=>by rw [List.foldl_cons,handles_deadP l,handle_deadP]
theorem tick_deadP (p:Prt) (l:List Pt):(p.cR l).2.dead=p.dead:=by
 obtain ⟨a,ha⟩:∃a,a=l.foldl Prt.cU p:=⟨_,rfl⟩
 have h1:a.dead=p.dead:=by rw [ha];exact handles_deadP l p
 by_cases h:a.cS.cR.state=2
 ·rw [Prt.tick_up ha h]
  have h2:(Prt.choose { a with cS:=a.cS.cR }).dead=p.dead:=by
   unfold Prt.choose
   split
   ·exact h1
   ·split <;> exact h1
  split
  ·exact h2
  ·exact h2
 ·rw [Prt.cX ha h]
  exact h1
structure Lk.Alike (L K:Lk):Prop where
 rl:K.l.prt.aZ=L.l.prt.aZ
 rr:K.r.prt.aZ=L.r.prt.aZ
 tl:K.l.prt.aN=L.l.prt.aN
 tr:K.r.prt.aN=L.r.prt.aN
 dl:K.l.prt.dead=L.l.prt.dead
 dr:K.r.prt.dead=L.r.prt.dead
 fl:K.l.cD.bZ=L.l.cD.bZ
 fr:K.r.cD.bZ=L.r.cD.bZ
 al:K.l.cD.cB=L.l.cD.cB
 ar:K.r.cD.cB=L.r.cD.cB
theorem Lk.Alike.refl (L:Lk):L.Alike L:=⟨rfl,rfl,rfl,rfl,rfl,rfl,rfl,rfl,rfl,rfl⟩
theorem Lk.Alike.trans {A B C:Lk} (h:A.Alike B) (k:B.Alike C):A.Alike C:=⟨k.rl.trans h.rl,k.rr.trans h.rr,k.tl.trans h.tl,k.tr.trans h.tr,k.dl.trans h.dl,k.dr.trans h.dr,k.fl.trans h.fl,k.fr.trans h.fr,k.al.trans h.al,k.ar.trans h.ar⟩
theorem tick_alike (L:Lk):L.Alike L.cR:=by
 have e1:L.cR.l.prt=L.l.cR.2.prt:=(Lnd.send_same _ _).prt
 have e2:L.cR.r.prt=L.r.cR.2.prt:=(Lnd.send_same _ _).prt
 obtain ⟨a1,a2,a3,a4,_⟩:=tick_into L
 obtain ⟨b1,b2,b3,b4,_⟩:=tick_into' L
 exact ⟨by rw [e1];exact tick_rooms _ _,by rw [e2];exact tick_rooms _ _,by rw [e1];exact tick_tmo _ _,by rw [e2];exact tick_tmo _ _,by rw [e1];exact tick_deadP _ _,by rw [e2];exact tick_deadP _ _,a2,b2,a1,b1⟩
theorem empty_alike (L:Lk):L.Alike L.empty:=by
 have k1:=takes_keep L.l.prt.all L.l.prt
 have k2:=takes_keep L.r.prt.all L.r.prt
 obtain ⟨e1,e2,_⟩:=Lnd.cL L.l.prt.all L.l
 obtain ⟨f1,f2,_⟩:=Lnd.cL L.r.prt.all L.r
 have g1:L.empty.l.prt=L.l.prt.takes L.l.prt.all:=e1
 have g2:L.empty.r.prt=L.r.prt.takes L.r.prt.all:=f1
 have g3:L.empty.l.cD=L.l.cD:=e2
 have g4:L.empty.r.cD=L.r.cD:=f2
 refine ⟨?_,?_,?_,?_,?_,?_,?_,?_,?_,?_⟩
 ·rw [g1];exact k1.1
 ·rw [g2];exact k2.1
 ·rw [g1];exact k1.2.2.2.2.2.2.2.1
 ·rw [g2];exact k2.2.2.2.2.2.2.2.1
 ·rw [g1];exact k1.2.2.2.2.2.2.2.2.1
 ·rw [g2];exact k2.2.2.2.2.2.2.2.2.1
 ·rw [g3]
 ·rw [g4]
 ·rw [g3]
 ·rw [g4]
theorem drain_alike (X:Lk):∀m,X.Alike (X.drain m)
 |0=>.refl X
 |m+1=>((drain_alike X m).trans (empty_alike _)).trans (tick_alike _)
theorem tick_sent (h:L.Full N Z):L.l.cD.cP+1<=L.cR.l.cD.cP/\L.r.cD.cP+1<=L.cR.r.cD.cP:=by
 obtain ⟨wl,wr,oa,ga,pa,ob,gb,pb,da,db,i,_,_,_⟩:=h
 obtain ⟨ql,qsl,hl,rfl⟩:=i.dl.cons i.l.cab.d1
 obtain ⟨qr,qsr,hr,rfl⟩:=i.dr.cons i.r.cab.d1
 obtain ⟨_,il,s1,p1,g1⟩:=i.l.cR
 obtain ⟨_,ir,s2,p2,g2⟩:=i.r.cR
 have good:∀ {p:Prt} {M:Nat} (l:List Way),p.Ok M->(∀v ∈ l,v.2.pay.length<=1000)->∃y ys,(p.cR (l.map (·.2))).1=y::ys/\Good y.pk:=fun {p M} l ok hl=>by
  have hl':∀y ∈ l.map (·.2),y.pay.length<=1000:=fun y hy=>by
   obtain ⟨v,hv,rfl⟩:=List.mem_map.1 hy;exact hl v hv
  obtain ⟨rest,e,_⟩:=tick_greets ok _ hl'
  have ok2:=ok.cR hl'
  have x1:=ok2.cS.cM;have x2:=ok2.cS.seen;have x3:=ok.i2
  exact ⟨_,rest,e,good_of (by decide) (by omega) (by omega) (by omega) (by omega) (by omega) (by omega) (by simp)⟩
 obtain ⟨y,ys,e,hy⟩:=good _ i.r.ok g2
 obtain ⟨z,zs,e',hz⟩:=good _ i.l.ok g1
 constructor
 ·show _<=(L.l.cR.2.send L.r.cR.1).cD.cP
  rw [s2,e]
  exact Lnd.send_sent y ys L.l.cR.2 hy
 ·show _<=(L.r.cR.2.send L.l.cR.1).cD.cP
  rw [s1,e']
  exact Lnd.send_sent z zs L.r.cR.2 hz
theorem serve_sent (h:L.Full N Z):L.l.cD.cP+1<=L.empty.cR.l.cD.cP/\L.r.cD.cP+1<=L.empty.cR.r.cD.cP:=by
 have k:=tick_sent h.empty
 obtain ⟨e1,e2⟩:=empty_into L
 generalize L.empty=K at *
 rw [e1,e2] at k
 exact k
theorem drain_sent (h:X.Full N Z):∀m,m<=(X.drain m).l.cD.cP/\m<=(X.drain m).r.cD.cP
 |0=>⟨Nat.zero_le _,Nat.zero_le _⟩
 |m+1=>by
  have hh:=drain_sent h m
  have k:=serve_sent (drain_full h m)
  have e:X.drain (m+1)=(X.drain m).empty.cR:=rfl
  rw [e]
  generalize X.drain m=K at *
  generalize K.empty.cR=K' at *
  omega
def Early (fs:List Flt) (n:Nat):Prop:=∀f ∈ fs,f.at' < (n:Int)
theorem Early.fine {c:Cab} {n:Nat} (h:Early c.bZ n) (hs:n<=c.cP):c.Fine:=fun k hk=>by
 have:faultOf c.bZ (k:Int)=Flt.zero:=faultOf_none fun i f hf e=>by
  have:=h f (List.mem_of_getElem? hf)
  omega
 rw [this];rfl
def Lk.Near (L:Lk) (D j N:Nat) (pa pb:Nat->List dV) (da db:Nat->Nat):Prop:=
 ∃qa qb oa ga ob gb,qa.length=D/\qb.length=D/\(∀q ∈ qa.drop (D - j),q.length<=7)/\(∀q ∈ qb.drop (D - j),q.length<=7)/\L.Inv N (dueQ L.l.cD.cC qb) (dueQ L.r.cD.cC qa) oa ga ob gb da db/\L.l.Book oa ga pa/\L.r.Book ob gb pb
theorem Lk.Near.empty (h:L.Near D j N pa pb da db):L.empty.Near D j (N+256) pa pb da db:=by
 obtain ⟨qa,qb,oa,ga,ob,gb,la,lb,fa,fb,hi,k1,k2⟩:=h
 obtain ⟨ga',gb',i',k1',k2'⟩:=hi.empty k1 k2
 obtain ⟨e1,e2⟩:=empty_into L
 exact ⟨qa,qb,oa,ga',ob,gb',la,lb,fa,fb,by rw [e1,e2];exact i',k1',k2'⟩
theorem drop_snoc {α : Type} {q : α} {qs:List α} {b : α} {k:Nat} {x : α} (hk:k<=qs.length) (hx:x ∈ (qs++[b]).drop k):x ∈ (q::qs).drop (k+1)\/x=b:=by
 rw [List.drop_append_of_le_length hk] at hx
 rcases List.mem_append.1 hx with h|h
 ·exact .inl h
 ·exact .inr (List.mem_singleton.1 h)
theorem Lk.Near.cR (h:L.Near D j N pa pb da db) (hc:L.Calm D) (hf:L.FineL) (hj:j < D):L.cR.Near D (j+1) (N+13000) pa pb da db:=by
 obtain ⟨qa,qb,oa,ga,ob,gb,la,lb,fa,fb,hi,k1,k2⟩:=h
 obtain ⟨ql,qsl,rfl⟩:∃q qs,qb=q::qs:=by
  cases qb with
  |nil=>rw [List.length_nil] at lb;omega
  |cons q qs=>exact ⟨q,qs,rfl⟩
 obtain ⟨qr,qsr,rfl⟩:∃q qs,qa=q::qs:=by
  cases qa with
  |nil=>rw [List.length_nil] at la;omega
  |cons q qs=>exact ⟨q,qs,rfl⟩
 rw [List.length_cons] at la lb
 obtain ⟨_,il,s1,p1,g1⟩:=hi.l.cR
 obtain ⟨_,ir,s2,p2,g2⟩:=hi.r.cR
 obtain ⟨bl,w2,q2,l2⟩:=Lnd.send_wire L.r.cR.2.prt.tag L.r.cR.1 (x:=L.l.cR.2) il.wire
 obtain ⟨br,w1,q1,l1⟩:=Lnd.send_wire L.l.cR.2.prt.tag L.l.cR.1 (x:=L.r.cR.2) ir.wire
 have f1:L.l.cR.1.length<=7:=by
  rw [s1];exact sent_few hi.l.ok _ fun y hy=>by obtain ⟨v,hv,rfl⟩:=List.mem_map.1 hy;exact g1 v hv
 have f2:L.r.cR.1.length<=7:=by
  rw [s2];exact sent_few hi.r.ok _ fun y hy=>by obtain ⟨v,hv,rfl⟩:=List.mem_map.1 hy;exact g2 v hv
 have m1:=l1 hf.r
 have m2:=l2 hf.l
 have hi':=hi.cR (by rw [hc.dl];exact lb) (by rw [hc.dr];exact la) w2 q2 w1 q1
 refine ⟨qsr++[br],qsl++[bl],oa,ga,ob,gb,by rw [List.length_append];exact la,by rw [List.length_append];exact lb,fun q hq=>?_,fun q hq=>?_,hi',k1.ticked _,k2.ticked _⟩
 ·rcases drop_snoc (q:=qr) (by omega) hq with hq|rfl
  ·exact fa q (by rwa [show D - (j+1)+1=D - j by omega] at hq)
  ·omega
 ·rcases drop_snoc (q:=ql) (by omega) hq with hq|rfl
  ·exact fb q (by rwa [show D - (j+1)+1=D - j by omega] at hq)
  ·omega
theorem Lk.Near.clean (h:L.Near D D N pa pb da db):∃s,L.Clean s D N pa pb da db/\s.Small:=by
 obtain ⟨qa,qb,oa,ga,ob,gb,la,lb,fa,fb,hi,k1,k2⟩:=h
 rw [Nat.sub_self,List.drop_zero] at fa fb
 exact ⟨⟨L.l.prt,L.r.prt,qa,qb⟩,⟨rfl,rfl,la,lb,oa,ga,ob,gb,hi,k1,k2⟩,fa,fb⟩
theorem drain_near (h:X.Near D 0 N pa pb da db) (hc:X.Calm D) (hf:X.FineL):∀j,j<=D->(X.drain j).Near D j (N+13256*j) pa pb da db
 |0,_=>h
 |j+1,hj=>by
  have:=((drain_near h hc hf j (by omega)).empty).cR (drain_calm hc j).empty (drain_fine hf j).empty (by omega)
  rw [Nat.mul_succ,<-Nat.add_assoc]
  rw [Nat.add_assoc (N+13256*j) 256 13000] at this
  exact this
theorem drain_add (X:Lk) (m:Nat):∀k,X.drain (m+k)=(X.drain m).drain k
 |0=>rfl
 |k+1=>by show (X.drain (m+k)).empty.cR=_;rw [drain_add X m k];rfl
theorem drain_quiet (h:X.Full N Z) (hc:X.Calm D) (el:Early X.l.cD.bZ 200) (er:Early X.r.cD.bZ 200) (dl:2<=X.l.prt.dead) (dr:2<=X.r.prt.dead) {t M:Nat} (tl:X.l.prt.aN<=t) (tr:X.r.prt.aN<=t) (hr:X.l.prt.aZ.length=X.r.prt.aZ.length)
  (ml:X.l.some<=M) (mr:X.r.some<=M) (hM:M<=1000000) {m:Nat} (hm:202+7*D+(M+1)*(t+1)+M*(4*D+2)<=m) (hN:N+13256*m<=400000000):(X.drain m).Quiet:=by
 obtain ⟨A,hA⟩:∃A,A=X.drain 200:=⟨_,rfl⟩
 have alA:=drain_alike X 200
 have hF:=drain_full h 200
 have hS:=drain_sent h 200
 have hC:=drain_calm hc 200
 have hs:=drain_since X 200
 rw [<-hA] at alA hF hS hC hs
 have fA:A.FineL:=⟨Early.fine (by rw [alA.fl];exact el) hS.1,Early.fine (by rw [alA.fr];exact er) hS.2⟩
 obtain ⟨wl,wr,oa,ga,pa,ob,gb,pb,da,db,i,k1,k2,_⟩:=hF
 obtain ⟨qb,lb,rfl⟩:=i.dl
 obtain ⟨qa,la,rfl⟩:=i.dr
 rw [hC.dl] at lb
 rw [hC.dr] at la
 have nA:A.Near D 0 (N+13256*200) pa pb da db:=⟨qa,qb,oa,ga,ob,gb,la,lb,(fun q hq=>by rw [Nat.sub_zero,List.drop_of_length_le (by omega)] at hq;cases hq),(fun q hq=>by rw [Nat.sub_zero,List.drop_of_length_le (by omega)] at hq;cases hq),i,k1,k2⟩
 have nB:=(drain_near nA hC fA D (Nat.le_refl _)).empty
 obtain ⟨s,hcl,hsm⟩:=nB.clean
 have hC2:=(drain_calm hC D).empty
 have hF2:=(drain_fine fA D).empty
 have al2:=(alA.trans (drain_alike A D)).trans (empty_alike (A.drain D))
 have s2:=drain_since A D
 have s3:=empty_since (A.drain D)
 obtain ⟨k,rfl⟩:∃k,m=200+D+1+k:=⟨m - (200+D+1),by omega⟩
 have e:X.drain (200+D+1+k)=((A.drain D).empty.serves k).cR:=by
  rw [drain_serves X (200+D) k,drain_add X 200 D,<-hA]
 rw [e]
 have hb:∀c,(A.drain D).empty.l.aE.getD c 0=X.l.aE.getD c 0/\(A.drain D).empty.r.aE.getD c 0=X.r.aE.getD c 0:=fun c=>by
  rw [s3.1,s3.2.1,s2.1,s2.2.1,hs.1,hs.2.1];exact ⟨rfl,rfl⟩
 refine clean_quiet hcl hC2 hF2 hsm (by rw [al2.dl];exact dl) (by rw [al2.dr];exact dr) (t:=t) (M:=M) (by rw [al2.tl];exact tl) (by rw [al2.tr];exact tr) (by rw [al2.rl,al2.rr];exact hr) ?_ ?_ hM (by omega) ?_
 ·unfold Lnd.some
  rw [al2.rl]
  refine Nat.le_trans (sum_le fun c _=>?_) ml
  rw [(hb c).1];exact Nat.le_refl _
 ·unfold Lnd.some
  rw [al2.rr]
  refine Nat.le_trans (sum_le fun c _=>?_) mr
  rw [(hb c).2];exact Nat.le_refl _
 ·have e1:N+13256*200+13256*D+256+13256*(k+1)=N+13256*(200+D+1+k)+256:=by
   rw [Nat.mul_add,Nat.mul_add,Nat.mul_add,Nat.mul_add];omega
  rw [e1]
  exact Nat.le_trans (Nat.add_le_add_right hN 256) (by decide)
theorem quiet_full (h:L.Full N Z) (q:L.Quiet):Full L.l.prt L.r.prt:=by
 obtain ⟨wl,wr,oa,ga,pa,ob,gb,pb,da,db,i,k1,k2,_⟩:=h
 have done:∀ {x:Lnd} {w:List (Nat × Option Way)},x.Inv N w->x.Quiet->x.prt.cT=[]/\∀c,c < x.prt.aZ.length->x.prt.aX.getD c []=[]:=fun {x w} i q=>by
  have hc:∀c,c < x.prt.aZ.length->cnt x.prt.cT c=0/\(x.prt.aX.getD c []).length=0:=fun c hc=>by
   have h1:=i.cons.off c hc
   have h2:=(q.2 c hc).2
   omega
  refine ⟨?_,fun c h=>List.eq_nil_of_length_eq_zero (hc c h).2⟩
  have h1:=cnt_sum x.prt.aZ.length x.prt.cT i.ok.kcl
  have h2:=sum_le (f:=cnt x.prt.cT) (g:=fun _=>0) fun c hc'=>by rw [(hc c hc').1];exact Nat.le_refl _
  have h3:∀n,((List.range n).map fun _=>0).sum=0:=fun n=>by
   induction n with
   |zero=>rfl
   |succ n ih=>rw [List.range_succ,List.map_append,List.sum_append,ih];rfl
  rw [h3] at h2
  exact List.eq_nil_of_length_eq_zero (by omega)
 obtain ⟨d1,d2⟩:=done i.l q.1
 obtain ⟨d3,d4⟩:=done i.r q.2
 exact ⟨q.1.1,q.2.1,i.kn.linked i.both q.1.1 q.2.1,d1,d3,d2,d4,fun c hc=>(q.1.2 c hc).1,fun c hc=>(q.2.2 c hc).1⟩
end
end

end Go.Proofs.YtcbnhebiagdbiaaGreatDoor
