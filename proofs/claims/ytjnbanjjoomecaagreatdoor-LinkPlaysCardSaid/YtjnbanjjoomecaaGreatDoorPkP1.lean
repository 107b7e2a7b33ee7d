/- Lemmas; no condition on the program. -/
import Derived.Test.YtjnbanjjoomecaaGreatDoorPkB1
import Derived.Test.YtjnbanjjoomecaaGreatDoorPkG2
import Derived.Test.YtjnbanjjoomecaaGreatDoorPkG1
import Derived.Test.YtjnbanjjoomecaaGreatDoorPkR2
import Derived.Test.YtjnbanjjoomecaaGreatDoorPkQ1
namespace Go.Proofs.YtjnbanjjoomecaaGreatDoor
open List renaming replicate→Vr, length_append→Vx, getElem?_map→VG, length_map→VL, range→VV, getElem?_range→VY, length_cons→VZ, length_set→Wd, getD→Wo, mem_replicate→Wu, mem_map→Wx, mem_cons_self→WG, length_replicate→WI, getElem?_replicate→WU, mem_append→WY, mem_cons_of_mem→Xe, length_singleton→Xl, takeWhile_prefix→XJ, length→XT
open Nat renaming le_refl→Vu, le_trans→VC, zero_le→VJ, le_add_right→WH, lt_or_ge→WV
open Decidable renaming byContradiction→Yi
open Classical renaming byContradiction→ZV
set_option maxHeartbeats 64000000
def Pt.pk (y:Pt):Pk:=⟨y.kind,y.cls,y.number,y.value,y.pay⟩
def Pk.pt (y:Pk):Pt:=⟨y.kind,y.cls,y.number,y.value,y.pay⟩
structure aj where
 prt:δ
 sc:Sc
 cD:az
 inc:Nat
 aV:List (List dV)
 cF:List (List dV)
 aE:List Nat
structure Lk where
 l:aj
 r:aj
structure iW where
 kind:Int
 cS:Int
 cls:Int
 data:dV
def rY (inc:Nat) (aZ:List Nat) (w t d:Nat) (cB:Nat) (fs:List jV):aj:=
 ⟨dG inc aZ w t d,Sc.new,az.new cB fs,inc,Vr aZ.length [],Vr aZ.length [],Vr aZ.length 0⟩
def aj.cR (x:aj):List Pt × aj:=
 let found:=(x.sc.scan x.cD.cR.1.flatten)
 ((x.prt.cR (found.2.map Pk.pt)).1,{ x with prt:=(x.prt.cR (found.2.map Pk.pt)).2,sc:=found.1,cD:=x.cD.cR.2 })
def aj.gG (x:aj) (y:Pt):aj:=if iK y.pk then { x with cD:=(x.cD.send (dM y.pk)).2 } else x
def aj.send (x:aj) (ys:List Pt):aj:=ys.foldl aj.gG x
def aj.dQ (x:aj) (c:Int) (d:dV):Nat × aj:=
 if (x.prt.dQ c d).1=0 then (0,{ x with prt:=(x.prt.dQ c d).2,aV:=x.aV.set c.toNat (x.aV.getD c.toNat []++[d]),aE:=x.aE.set c.toNat (x.aE.getD c.toNat 0+1) })
 else ((x.prt.dQ c d).1,x)
def aj.take (x:aj) (c:Int):Nat × aj:=
 match x.prt.take c with
 |(none,_)=>(7,x)
 |(some d,p)=>(0,{ x with prt:=p,cF:=x.cF.set c.toNat (x.cF.getD c.toNat []++[d]) })
def aj.Ω (x:aj):Nat × aj:=
 if (x.prt.Ω (x.inc+1)).1=0 then (0,{ x with prt:=(x.prt.Ω (x.inc+1)).2,inc:=x.inc+1,sc:=Sc.new,aE:=Vr x.aE.length 0 })
 else ((x.prt.Ω (x.inc+1)).1,x)
def aj.act (x:aj) (e:iW):Nat × aj:=
 if e.kind=1 then x.dQ e.cls e.data else if e.kind=2 then x.take e.cls else x.Ω


abbrev qE:=List (Nat × dV)
def cnt (h:qE) (c:Nat):Nat:=(h.filter fun f=>f.1 == c).length
theorem qp (h k:qE) (c:Nat):cnt (h++k) c=cnt h c+cnt k c:=by unfold cnt;rw [List.filter_append,Vx]
theorem Gi (d:dV) (c k:Nat):cnt [(c,d)] k=if c=k then 1 else 0:=by
 unfold cnt;by_cases h:c=k
 ·subst h;simp
 ·simp [h]
abbrev δ.gv (b:δ) (c:Nat):fV:=b.π.getD c ⟨0,0,0⟩
abbrev δ.tk (b:δ) (c:Nat):jC:=b.bu.getD c ⟨0,0⟩
theorem jI {α : Type} (l:List α) (i j:Nat) (v d : α) (hi:i < l.length):(l.set i v).getD j d=if i=j then v else l.getD j d:=by
 simp only [Wo,List.getElem?_set];by_cases h:i=j
 ·subst h;simp [hi]
 ·simp [h]

theorem δ.Jl {N:Nat} {a:δ} (h:a.Ok N):(∃r,a.choose={ a with dE:=r })\/∃(c:Nat) (d:dV) (l:List dV) (r:sZ),c < a.aZ.length/\a.aX.getD c []=d::l/\(a.tk c).cP < (a.tk c).cE/\a.snd.cT.length < a.cA /\
  a.choose={ a with dE:=r,aX:=a.aX.set c l,bu:=a.bu.set c { a.tk c with cP:=(a.tk c).cP+1 },snd:={ a.snd with cT:=a.snd.cT++[d] },cT:=a.cT++[(c,d)] }:=by
 by_cases hw:a.cA<=a.snd.cT.length
 ·refine .inl ⟨a.dE,?_⟩
  unfold δ.choose;rw [if_pos hw]
 ·cases hp:(a.dE.pick a.bK).1 with
  |none=>
   refine .inl ⟨(a.dE.pick a.bK).2,?_⟩;unfold δ.choose;rw [if_neg hw,hp]
  |some c=>
   obtain ⟨h1,h2,h3⟩:=δ.sG h hp
   obtain ⟨d,l,hl⟩:∃d l,a.aX.getD c []=d::l:=by
    cases hx:a.aX.getD c [] with
    |nil=>rw [hx] at h2;cases h2
    |cons d l=>exact ⟨d,l,rfl⟩
   refine .inr ⟨c,d,l,(a.dE.pick a.bK).2,h1,hl,h3,by omega,?_⟩;have hd:d.length<=64:=bM (P:=fun l:List dV=>∀d ∈ l,d.length<=64) h.xz (d:=[]) (fun _ h=>by cases h) c d (by rw [hl];exact WG ..);have ho:=oq (s:=a.snd) hd (by rw [h.win];omega);unfold δ.choose;rw [if_neg hw,hp];simp only [hl,List.drop_succ_cons,List.drop_zero,List.getD_cons_zero,ho];unfold jC.take;rw [if_neg (by omega)]
theorem vK {α : Type} {l:List α} {i:Nat} {d : α} (h:l.length<=i):l.getD i d=d:=by
 rw [Wo,List.getElem?_eq_none h];rfl
theorem bg.Ei (s:bg):(s.cR.1=none/\∃t,s.cR.2={ s with timer:=t })\/∃i,i < s.cT.length/\s.cR.1=some ((s.aG+i) % 256,s.cT.getD i [])/\s.cR.2={ s with pos:=i+1,cP:=max s.cP (i+1),timer:=0 }:=by
 unfold bg.cR;split
 ·exact .inl ⟨rfl,s.timer,rfl⟩
 ·rename_i h0
  split
  ·split
   ·exact .inl ⟨rfl,s.timer+1,rfl⟩
   ·exact .inr ⟨0,by omega,rfl,rfl⟩
  ·rename_i h1
   exact .inr ⟨s.pos,by omega,rfl,rfl⟩


section
variable {a:δ} {y:Pt}
theorem M5 (a:δ) (y:Pt):∃k,k<=a.snd.cP/\a.bQ y={ a with snd:=a.snd.drop k,aG:=tally a.aG (a.cT.take k),cT:=a.cT.drop k }:=by
 unfold δ.bQ bg.nJ bg.accept
 cases h:a.snd.count y.number with
 |none=>exact ⟨0,VJ _,by simp [bg.drop]⟩
 |some k=>exact ⟨k,count_le h,rfl⟩
end



def Nu (c:Nat) (h:qE):List dV:=(h.filter fun f=>f.1 == c).map (·.2)
theorem MJ {c n:Nat} {h:qE} (hk:∀f ∈ h,f.1 < n) (hc:n<=c):Nu c h=[]:=by
 unfold Nu;rw [List.filter_eq_nil_iff.2 fun f hf=>by have:=hk f hf;simp;omega];rfl
section
variable {a:δ} {c:Nat}
theorem xx (ha:∀f ∈ a.cT,f.1 < a.aX.length) (i:Nat):(a.begin i).aX.getD c []=Nu c a.cT++a.aX.getD c []:=by
 show ((VV a.aX.length).map fun c=>((a.cT.filter fun f=>f.1 == c).map (·.2))++a.aX.getD c []).getD c []=_
 rcases WV c a.aX.length with h|h
 ·rw [Wo,VG,VY h];rfl
 ·rw [vK (by simpa using h),vK h,MJ ha h];rfl
end


theorem OX (i:Nat) (aZ:List Nat) (wi ti de k:Nat):(dG i aZ wi ti de).aY.getD k []=[]:=by
 show (Vr aZ.length ([]:List dV)).getD k []=[];rw [Wo,WU];split <;> rfl
theorem Mr (i:Nat) (aZ:List Nat) (wi ti de k:Nat):(dG i aZ wi ti de).aX.getD k []=[]:=by
 show ((VV (Vr aZ.length ([]:List dV)).length).map fun c=>([]:List dV)++(Vr aZ.length ([]:List dV)).getD c []).getD k []=[]
 rcases WV k (Vr aZ.length ([]:List dV)).length with h|h
 ·rw [Wo,VG,VY h]
  show []++(Vr aZ.length ([]:List dV)).getD k []=[];rw [Wo,WU];split <;> rfl
 ·rw [vK (by simpa using h)]




section
variable {p:δ}
end
theorem CW (p:δ) (y:Pt):(p.cU y).cS.dead=p.cS.dead:=by
 have hr:∀(s:Side) (m v:Int),(s.cO m v).dead=s.dead:=fun s m v=>by unfold Side.cO;split <;> rfl
 unfold δ.cU;split
 ·unfold δ.gy;dsimp only
  split
  ·exact hr _ _ _
  ·exact hr _ _ _
 ·split
  ·rfl
  ·split
   ·unfold δ.cO;split
    ·rfl
    ·dsimp only;split <;> rfl
   ·split
    ·rfl
    ·split
     ·unfold δ.raise;split <;> rfl
     ·rfl

theorem Hl (s:bg):(s.cT.length=0/\s.cR=(none,s))\/(0 < s.cT.length/\s.cT.length<=s.pos/\s.timer+1 < s.aN/\s.cR=(none,{ s with timer:=s.timer+1 })) \/
  (0 < s.cT.length/\s.cT.length<=s.pos/\s.aN<=s.timer+1/\∃d,s.cR=(some (s.aG % 256,d),{ s with pos:=1,cP:=max s.cP 1,timer:=0 })) \/
  (s.pos < s.cT.length/\∃d,s.cR=(some ((s.aG+s.pos) % 256,d),{ s with pos:=s.pos+1,cP:=max s.cP (s.pos+1),timer:=0 })):=by
 unfold bg.cR;by_cases h0:s.cT.length=0
 ·rw [if_pos h0];exact .inl ⟨h0,rfl⟩
 ·rw [if_neg h0]
  by_cases h1:s.cT.length<=s.pos
  ·rw [if_pos h1]
   by_cases h2:s.timer+1 < s.aN
   ·rw [if_pos h2];exact .inr (.inl ⟨by omega,h1,h2,rfl⟩)
   ·rw [if_neg h2];exact .inr (.inr (.inl ⟨by omega,h1,by omega,_,rfl⟩))
  ·rw [if_neg h1];exact .inr (.inr (.inr ⟨by omega,_,rfl⟩))



theorem xP:∀(ks:List (Nat × dV)) (l:List Nat) (c:Nat),(∀f ∈ ks,f.1 < l.length)->(tally l ks).getD c 0=l.getD c 0+cnt ks c
 |[],l,c,_=>by unfold tally cnt;simp
 |f::ks,l,c,h=>by
  have h0:=h f (WG ..);show (tally (l.set f.1 (l.getD f.1 0+1)) ks).getD c 0=_;rw [xP ks _ c fun g hg=>by rw [Wd];exact h g (Xe _ hg),jI _ _ _ _ _ h0]
  have e:cnt (f::ks) c=cnt ks c+if f.1=c then 1 else 0:=by
   rw [show f::ks=[(f.1,f.2)]++ks from rfl,qp,Gi,Nat.add_comm]
  rw [e];split
  ·rename_i e;subst e;omega
  ·omega
structure δ.Cons (p:δ) (m:Nat->Nat):Prop where
 off:∀c,c < p.aZ.length->p.aG.getD c 0+cnt p.cT c+(p.aX.getD c []).length=m c
 got:∀c,c < p.aZ.length->p.aW.getD c 0=p.cF.getD c 0+(p.aY.getD c []).length
 JF:p.snd.aN=p.aN
 dd:p.cS.dead=p.dead
section
variable {N:Nat} {p:δ} {m:Nat->Nat}
theorem Js (ks:qE) (c:Nat):((ks.filter fun f=>f.1 == c).map (·.2)).length=cnt ks c:=by rw [VL];rfl
theorem δ.Cons.begin (h:p.Cons m) (ok:p.Ok N) (i:Nat):(p.begin i).Cons m:=by
 refine ⟨fun c hc=>?_,h.got,rfl,h.dd⟩;have h1:=h.off c hc;show p.aG.getD c 0+cnt [] c+((p.begin i).aX.getD c []).length=m c;rw [xx (by rw [ok.wl];exact ok.yF),Vx];have h2:(Nu c p.cT).length=cnt p.cT c:=Js p.cT c;have h3:cnt [] c=0:=rfl;omega
theorem δ.Cons.cS (h:p.Cons m) {s:Side} (hs:s.dead=p.cS.dead):({ p with cS:=s }:δ).Cons m:=⟨h.off,h.got,h.JF,hs.trans h.dd⟩
theorem Oy {s:Side} (h:p.Ok N) (hs:s.Ok):({ p with cS:=s }:δ).Ok N:=⟨h.n1,h.n4,h.rm,h.i1,h.i2,h.w1,h.w2,h.t1,h.t2,h.d1,h.d2,hs,h.dE,h.wl,h.bl,h.tl,h.gl,h.sl,h.al,h.rl,h.kl,h.cM,h.snd,h.win,h.tot,h.rcv,h.cT,h.yF,h.xz,h.qy,h.yI,h.rO,h.bu,h.π,h.rG,h.Ak,h.ren,h.tan,h.C_⟩
theorem δ.Cons.cU (h:p.Cons m) (ok:p.Ok N) (y:Pt):(p.cU y).Cons m:=by
 have hd:=CW p y;unfold δ.cU at hd ⊢;split
 ·unfold δ.gy
  dsimp only;have hr:(p.cS.cO y.number y.value).dead=p.cS.dead:=by unfold Side.cO;split <;> rfl
  split
  ·exact (h.cS hr).begin (Oy ok (ok.cS.cO _ _)) _
  ·exact h.cS hr
 ·split
  ·exact h
  ·split
   ·unfold δ.cO
    split
    ·exact h
    ·rename_i hx
     dsimp only;split
     ·exact ⟨h.off,h.got,h.JF,h.dd⟩
     ·refine ⟨h.off,fun c hc=>?_,h.JF,h.dd⟩
      have hh:0<=y.cls/\y.cls < p.aZ.length:=Yi fun hn=>hx (.inl hn)
      have hc2:y.cls.toNat < p.aZ.length:=by omega
      show (p.aW.set y.cls.toNat (p.aW.getD y.cls.toNat 0+1)).getD c 0=p.cF.getD c 0+((p.aY.set y.cls.toNat (p.aY.getD y.cls.toNat []++[y.pay])).getD c []).length;rw [jI _ _ _ _ _ (by rw [ok.rl];exact hc2),jI _ _ _ _ _ (by rw [ok.bl];exact hc2)];have:=h.got c hc;split
      ·rename_i e;subst e
       rw [Vx,Xl];omega
      ·exact this
   ·split
    ·obtain ⟨k,hk,e⟩:=M5 p y
     rw [e];refine ⟨fun c hc=>?_,h.got,?_,h.dd⟩
     ·show (tally p.aG (p.cT.take k)).getD c 0+cnt (p.cT.drop k) c+(p.aX.getD c []).length=m c
      rw [xP _ _ _ fun f hf=>by rw [ok.al];exact ok.yF f (List.mem_of_mem_take hf)];have h1:=h.off c hc;have h2:cnt (p.cT.take k) c+cnt (p.cT.drop k) c=cnt p.cT c:=by rw [<-qp,List.take_append_drop]
      omega
     ·show (p.snd.drop k).aN=p.aN
      rw [<-h.JF];unfold bg.drop;split <;> rfl
    ·split
     ·unfold δ.raise
      split
      ·exact ⟨h.off,h.got,h.JF,h.dd⟩
      ·exact h
     ·exact h
theorem δ.Cons.handles:∀ {N:Nat} {p:δ} (l:List Pt),p.Cons m->p.Ok N->(∀y ∈ l,y.pay.length<=1000)->(l.foldl δ.cU p).Cons m
 |_,_,[],h,_,_=>h
 |_,_,y::l,h,ok,hl=>by
  rw [List.foldl_cons];exact δ.Cons.handles l (h.cU ok y) (ok.cU y (hl y (WG ..))) fun z hz=>hl z (Xe _ hz)
theorem δ.Cons.choose (h:p.Cons m) (ok:p.Ok N):p.choose.Cons m:=by
 rcases δ.Jl ok with ⟨r,e⟩|⟨c,d,l,r,h1,h2,h3,h4,e⟩
 ·rw [e];exact ⟨h.off,h.got,h.JF,h.dd⟩
 ·rw [e]
  refine ⟨fun k hk=>?_,h.got,h.JF,h.dd⟩;show p.aG.getD k 0+cnt (p.cT++[(c,d)]) k+((p.aX.set c l).getD k []).length=m k;rw [qp,Gi,jI _ _ _ _ _ (by rw [ok.wl];exact h1)];have:=h.off k hk;by_cases e:c=k
  ·subst e
   rw [if_pos rfl,if_pos rfl];rw [h2,VZ] at this;omega
  ·rw [if_neg e,if_neg e];omega
theorem δ.Cons.cR (h:p.Cons m) (ok:p.Ok N) {l:List Pt} (hl:∀y ∈ l,y.pay.length<=1000):(p.cR l).2.Cons m:=by
 have ok1:=ok.handles l hl;have h1:=δ.Cons.handles l h ok hl;obtain ⟨a,ha⟩:∃a,a=l.foldl δ.cU p:=⟨_,rfl⟩;rw [<-ha] at ok1 h1;have hs:∀s:Side,s.cR.dead=s.dead:=fun s=>by unfold Side.cR;split;rfl;split <;> rfl
 have h2:({ a with cS:=a.cS.cR }:δ).Cons m:=h1.cS (hs _);by_cases hst:a.cS.cR.state=2
 ·rw [δ.oF ha hst]
  have h3:=h2.choose (show δ.Ok (N+200*l.length) { a with cS:=a.cS.cR } from ok1.nY);generalize δ.choose { a with cS:=a.cS.cR }=q at h3 ⊢
  have h4:∀s,q.snd.cR.2=s->({ q with snd:=s }:δ).Cons m:=fun s e=>by
   refine ⟨h3.off,h3.got,?_,h3.dd⟩;show s.aN=q.aN;rw [<-e,<-h3.JF]
   rcases Hl q.snd with ⟨_,e⟩|⟨_,_,_,e⟩|⟨_,_,_,_,e⟩|⟨_,_,e⟩ <;> rw [e]
  rcases hq:q.snd.cR with ⟨o,s⟩
  cases o with
  |none=>exact h4 s (by rw [hq])
  |some nd=>exact h4 s (by rw [hq])
 ·rw [δ.cX ha hst]
  exact h2
theorem δ.Cons.dQ (h:p.Cons m) (ok:p.Ok N) {c:Nat} (hc:c < p.aZ.length) (d:dV):({ p with aX:=p.aX.set c (p.aX.getD c []++[d]) }:δ).Cons (fun k=>if k=c then m c+1 else m k):=by
 refine ⟨fun k hk=>?_,h.got,h.JF,h.dd⟩;show p.aG.getD k 0+cnt p.cT k+((p.aX.set c (p.aX.getD c []++[d])).getD k []).length=_;rw [jI _ _ _ _ _ (by rw [ok.wl];exact hc)];have:=h.off k hk;by_cases e:c=k
 ·subst e
  rw [if_pos rfl,if_pos rfl,Vx,Xl];omega
 ·rw [if_neg e,if_neg fun h=>e h.symm];exact this
theorem δ.Cons.take (h:p.Cons m) (ok:p.Ok N) {c:Nat} (hc:c < p.aZ.length) {d:dV} {l:List dV} (hd:p.aY.getD c []=d::l) :
  ({ p with aY:=p.aY.set c l,π:=p.π.set c (p.gv c).free,cF:=p.cF.set c (p.cF.getD c 0+1) }:δ).Cons m:=by
 refine ⟨h.off,fun k hk=>?_,h.JF,h.dd⟩;show p.aW.getD k 0=(p.cF.set c (p.cF.getD c 0+1)).getD k 0+((p.aY.set c l).getD k []).length;rw [jI _ _ _ _ _ (by rw [ok.kl];exact hc),jI _ _ _ _ _ (by rw [ok.bl];exact hc)];have:=h.got k hk;split
 ·rename_i e;subst e
  rw [hd,VZ] at this;omega
 ·exact this
theorem BK (i:Nat) (aZ:List Nat) (wi ti de:Nat):(dG i aZ wi ti de).Cons fun _=>0:=by
 have hz:∀c,(Vr aZ.length 0).getD c 0=0:=fun c=>by
  rw [Wo,WU];split <;> rfl
 refine ⟨fun c _=>?_,fun c _=>?_,rfl,rfl⟩
 ·rw [Mr]
  show (Vr aZ.length 0).getD c 0+0+0=0;rw [hz]
 ·rw [OX]
  show (Vr aZ.length 0).getD c 0=(Vr aZ.length 0).getD c 0+0;rfl
end

structure aj.Same (x y:aj):Prop where
 prt:y.prt=x.prt
 sc:y.sc=x.sc
 inc:y.inc=x.inc
 aV:y.aV=x.aV
 cF:y.cF=x.cF
 aE:y.aE=x.aE
theorem aj.Same.refl (x:aj):x.Same x:=⟨rfl,rfl,rfl,rfl,rfl,rfl⟩
theorem aj.Same.trans {x y z:aj} (h:x.Same y) (g:y.Same z):x.Same z:=⟨g.prt.trans h.prt,g.sc.trans h.sc,g.inc.trans h.inc,g.aV.trans h.aV,g.cF.trans h.cF,g.aE.trans h.aE⟩
theorem aj.Eo (x:aj) (y:Pt):x.Same (x.gG y):=by
 unfold aj.gG;split
 ·exact ⟨rfl,rfl,rfl,rfl,rfl,rfl⟩
 ·exact .refl x
theorem aj.oL:∀(ys:List Pt) (x:aj),x.Same (x.send ys)
 |[],x=>.refl x
 |y::ys,x=>(x.Eo y).trans (aj.oL ys (x.gG y))
theorem kT (c:az) (d:iw):(c.send d).2.cC=c.cC/\(c.send d).2.cB=c.cB/\(c.send d).2.bZ=c.bZ/\(c.send d).2.cP=c.cP+1/\(c.send d).2.up=c.up/\(c.send d).2.lost<=c.lost+1:=by
 unfold az.send;split
 ·exact ⟨rfl,rfl,rfl,rfl,rfl,Vu _⟩
 ·split
  ·exact ⟨rfl,rfl,rfl,rfl,rfl,Vu _⟩
  ·exact ⟨rfl,rfl,rfl,rfl,rfl,Nat.le_succ _⟩
theorem aj.vV:∀(ys:List Pt) (x:aj),(x.send ys).cD.cC=x.cD.cC/\(x.send ys).cD.cB=x.cD.cB/\(x.send ys).cD.bZ=x.cD.bZ/\(x.send ys).cD.up=x.cD.up/\x.cD.cP<=(x.send ys).cD.cP/\(x.send ys).cD.cP<=x.cD.cP+ys.length/\(x.send ys).cD.lost<=x.cD.lost+ys.length
 |[],x=>⟨rfl,rfl,rfl,rfl,Vu _,Vu _,Vu _⟩
 |y::ys,x=>by
  show ((x.gG y).send ys).cD.cC=_/\((x.gG y).send ys).cD.cB=_/\((x.gG y).send ys).cD.bZ=_/\((x.gG y).send ys).cD.up=_/\_<=((x.gG y).send ys).cD.cP/\((x.gG y).send ys).cD.cP<=_/\((x.gG y).send ys).cD.lost<=_;obtain ⟨h1,h2,h3,h4,h5,h6,h7⟩:=aj.vV ys (x.gG y);obtain ⟨e1,e2,e3,e4,e5,e6⟩:=kT x.cD (dM y.pk);rw [h1,h2,h3,h4,VZ];unfold aj.gG at h5 h6 h7 ⊢;split
  ·rename_i hv
   rw [if_pos hv] at h5 h6 h7;dsimp only at h5 h6 h7 ⊢;rw [e4] at h5 h6;exact ⟨e1,e2,e3,e5,by omega,by omega,by omega⟩
  ·rename_i hv
   rw [if_neg hv] at h5 h6 h7;exact ⟨rfl,rfl,rfl,rfl,by omega,by omega,by omega⟩
def Lk.cR (L:Lk):Lk:=⟨L.l.cR.2.send L.r.cR.1,L.r.cR.2.send L.l.cR.1⟩
theorem Bn:∀ {xs:List iw},(∀x ∈ xs,∃o,GD x o)->∀ {s:Sc},s.inside=false->∃s' os,s'.inside=false/\s'.bad<=s.bad+xs.length/\s.scan xs.flatten=(s',os)/\os.length<=xs.length/\∀p ∈ os,Good p
 |[],_,s,hs=>⟨s,[],hs,Vu _,rfl,Vu _,fun p hp=>by cases hp⟩
 |x::xs,h,s,hs=>by
  obtain ⟨o,ho⟩:=h x (WG ..);obtain ⟨s1,h1,b1,e1⟩:=LJ ho hs;obtain ⟨s2,os,h2,b2,e2,n2,g2⟩:=Bn (fun y hy=>h y (Xe _ hy)) h1;refine ⟨s2,o.toList++os,h2,by rw [VZ];omega,by rw [List.flatten_cons,Sc.lW,e1,e2],?_,fun p hp=>?_⟩
  ·rw [Vx,VZ]
   cases o <;> simp <;> omega
  ·rcases WY.1 hp with hp|hp
   ·cases o with
    |none=>cases hp
    |some q=>obtain rfl:=List.mem_singleton.1 hp;exact ho.1
   ·exact g2 p hp
theorem δ.Cons.congr {p:δ} {m m':Nat->Nat} (h:p.Cons m) (he:∀c,c < p.aZ.length->m c=m' c):p.Cons m':=⟨fun c hc=>(h.off c hc).trans (he c hc),h.got,h.JF,h.dd⟩
theorem BA {s:Sc} (x:Byte) (h1:s.inside=false->s.data=[]) (h2:s.data.length<=162):((s.push x).1.inside=false->(s.push x).1.data=[])/\(s.push x).1.data.length<=162:=by
 unfold Sc.push;split
 ·exact ⟨(fun h=>by cases h),by simp⟩
 ·split
  ·exact ⟨h1,h2⟩
  ·split
   ·exact ⟨(fun h=>by cases h),by simp;omega⟩
   ·split <;> exact ⟨fun _=>rfl,by simp⟩
theorem vz:∀(l:List Byte) {s:Sc},(s.inside=false->s.data=[])->s.data.length<=162->((s.scan l).1.inside=false->(s.scan l).1.data=[])/\(s.scan l).1.data.length<=162
 |[],_,h1,h2=>⟨h1,h2⟩
 |x::l,_,h1,h2=>vz l (BA x h1 h2).1 (BA x h1 h2).2
structure aj.Inv (x:aj) (N:Nat):Prop where
 ok:x.prt.Ok N
 wM:x.cD.Ok
 wS:∀y ∈ x.cD.aL,∃o,GD y.2 o
 out:x.sc.inside=false
 inc:x.prt.inc=x.inc
 cons:x.prt.Cons fun c=>x.aE.getD c 0
 sl:x.aE.length=x.prt.aZ.length
 tk:x.cD.cC<=N
 se:x.cD.cP<=N
 lo:x.cD.lost<=N
 bd:200*x.sc.bad<=N
 ob:∀l ∈ x.aV,l.length<=N
 tb:∀l ∈ x.cF,l.length<=N
 fb:x.cD.bZ.length<=1000
 ol:x.aV.length=x.prt.aZ.length
 tl:x.cF.length=x.prt.aZ.length
 fit:x.prt.Fit
 mi:x.prt.Min
 due:wO x.cD
 emp:x.sc.data=[]
theorem aj.Inv.mono {x:aj} {N M:Nat} (h:x.Inv N) (hm:N<=M):x.Inv M:=
 ⟨h.ok.mono hm,h.wM,h.wS,h.out,h.inc,h.cons,h.sl,VC h.tk hm,VC h.se hm,VC h.lo hm,VC h.bd hm,fun l hl=>VC (h.ob l hl) hm,fun l hl=>VC (h.tb l hl) hm,h.fb,h.ol,h.tl,h.fit,h.mi,h.due,h.emp⟩
theorem aj.kr:∀(ys:List Pt) {x:aj},x.cD.Ok->(x.send ys).cD.Ok
 |[],_,h=>h
 |y::ys,x,h=>by
  show ((x.gG y).send ys).cD.Ok;refine aj.kr ys ?_;unfold aj.gG;split
  ·exact az.kr h _
  ·exact h
theorem En {x:aj} (h:∀y ∈ x.cD.aL,∃o,GD y.2 o) (y:Pt):∀z ∈ (x.gG y).cD.aL,∃o,GD z.2 o:=by
 unfold aj.gG;split
 ·rename_i hv
  show ∀z ∈ (x.cD.send (dM y.pk)).2.aL,_;have hg:=fB.1 hv;unfold az.send;split
  ·exact h
  ·split
   ·exact h
   ·intro z hz
    rcases WY.1 (show z ∈ x.cD.aL++Vr x.cD.copies (x.cD.cC+x.cD.cB,x.cD.what (dM y.pk)) from hz) with hz|hz
    ·exact h z hz
    ·rw [(Wu.1 hz).2]
     show ∃o,GD (x.cD.what (dM y.pk)) o;unfold az.what;split
     ·exact ⟨none,ML hg _⟩
     ·exact ⟨some y.pk,hg,rfl⟩
 ·exact h
theorem xR:∀(ys:List Pt) {x:aj},(∀y ∈ x.cD.aL,∃o,GD y.2 o)->∀z ∈ (x.send ys).cD.aL,∃o,GD z.2 o
 |[],_,h=>h
 |y::ys,x,h=>xR ys (x:=x.gG y) (En h y)
theorem Bj:∀(ys:List Pt) {x:aj},x.cD.Ok->wO x.cD->wO (x.send ys).cD
 |[],_,_,h=>h
 |y::ys,x,hk,h=>by
  have h1:wO (x.gG y).cD/\(x.gG y).cD.Ok:=by
   unfold aj.gG;split
   ·exact ⟨h.send hk.d1 _,az.kr hk _⟩
   ·exact ⟨h,hk⟩
  exact Bj ys (x:=x.gG y) h1.2 h1.1
theorem aj.Inv.send {x:aj} {N:Nat} (h:x.Inv N) (ys:List Pt):(x.send ys).Inv (N+ys.length):=by
 have s:=x.oL (ys:=ys);obtain ⟨k1,k2,k3,k4,k5,k6,k7⟩:=aj.vV ys x;have h1:=h.tk;have h2:=h.se;have h3:=h.lo;have h4:=h.bd;exact ⟨by rw [s.prt];exact h.ok.mono (by omega),aj.kr ys h.wM,xR ys h.wS,by rw [s.sc];exact h.out,by rw [s.prt,s.inc];exact h.inc,by rw [s.prt,s.aE];exact h.cons,by rw [s.prt,s.aE];exact h.sl,by omega,by omega,by omega,by rw [s.sc];omega,by rw [s.aV];exact fun l hl=>VC (h.ob l hl) (WH _ _),by rw [s.cF];exact fun l hl=>VC (h.tb l hl) (WH _ _),by rw [k3];exact h.fb,by rw [s.prt,s.aV];exact h.ol,by rw [s.prt,s.cF];exact h.tl,by rw [s.prt];exact h.fit,by rw [s.prt];exact h.mi,Bj ys h.wM h.due,by rw [s.sc];exact h.emp⟩
theorem LG {N:Nat} {a:δ} (ok:a.Ok N) (l:List Pt) (hl:∀y ∈ l,y.pay.length<=1000):(a.cR l).1.length<=7:=by
 obtain ⟨a1,ha⟩:∃a1,a1=l.foldl δ.cU a:=⟨_,rfl⟩;have ok1:=ok.handles l hl;rw [<-ha] at ok1;have h4:=ok1.n4;have h5:=ok1.sl;by_cases hs:a1.cS.cR.state=2
 ·rw [δ.oF ha hs]
  have hlen:(a1.gU::a1.lT::(VV a1.base.length).map a1.j5).length<=6:=by
   simp only [VZ,VL,List.length_range];omega
  generalize δ.choose { a1 with cS:=a1.cS.cR }=q;generalize a1.gU::a1.lT::(VV a1.base.length).map a1.j5=cP at hlen ⊢
  rcases q.snd.cR with ⟨o,s⟩
  cases o with
  |none=>show cP.length<=7;omega
  |some nd=>obtain ⟨n,d⟩:=nd;show (cP++[_]).length<=7;rw [Vx];simp;omega
 ·rw [δ.cX ha hs];simp
theorem aj.Inv.found {x:aj} {N:Nat} (h:x.Inv N):∃s' os,s'.inside=false/\s'.bad<=x.sc.bad+64/\x.sc.scan x.cD.cR.1.flatten=(s',os)/\os.length<=64/\∀y ∈ os.map Pk.pt,y.pay.length<=1000:=by
 have ha:x.cD.bV.length<=64:=VC (XJ _).length_le h.wM.Ai
 obtain ⟨s',os,h1,h2,h3,h4,h5⟩:=Bn (xs:=x.cD.bV.map (·.2)) (fun z hz=>by
  obtain ⟨y,hy,rfl⟩:=Wx.1 hz;exact h.wS y ((XJ _).sublist.mem hy)) h.out
 rw [VL] at h2 h4;refine ⟨s',os,h1,by omega,h3,by omega,fun y hy=>?_⟩;obtain ⟨q,hq,rfl⟩:=Wx.1 hy;have:=(h5 q hq).pay;show q.pay.length<=1000;omega
theorem aj.Inv.cR {x:aj} {N:Nat} (h:x.Inv N):x.cR.2.Inv (N+12900)/\x.cR.1.length<=7:=by
 obtain ⟨s',os,h1,hb,h2,hn,hg⟩:=h.found;obtain ⟨k1,k2,k3⟩:=Eg x.prt (os.map Pk.pt);have t1:=h.tk;have t2:=h.se;have t3:=h.lo;have t4:=h.bd;have e:x.cR=((x.prt.cR (os.map Pk.pt)).1,{ x with prt:=(x.prt.cR (os.map Pk.pt)).2,sc:=s',cD:=x.cD.cR.2 }):=by unfold aj.cR;rw [h2]
 rw [e];refine ⟨⟨(h.ok.cR hg).mono (by rw [VL];omega),az.zk h.wM,fun y hy=>h.wS y ((List.drop_sublist ..).mem hy),h1,k2.trans h.inc,h.cons.cR h.ok hg,h.sl.trans (congrArg XT k1).symm,by show x.cD.cC+1<=_;omega,by show x.cD.cP<=_;omega,by show x.cD.lost<=_;omega,by show 200*s'.bad<=_;omega,fun l hl=>VC (h.ob l hl) (WH _ _),fun l hl=>VC (h.tb l hl) (WH _ _),h.fb,h.ol.trans (congrArg XT k1).symm,h.tl.trans (congrArg XT k1).symm,h.fit.cR h.ok _ hg,k3 h.mi,h.due.cR,by have e:=(vz x.cD.cR.1.flatten (fun _=>h.emp) (by rw [h.emp];exact VJ _)).1;rw [h2] at e;exact e h1⟩,LG h.ok _ hg⟩
def Lk.act (L:Lk) (e:iW):Nat × Lk:=
 if e.kind=3 then (0,⟨{ L.l with cD:=L.l.cD.cut },{ L.r with cD:=L.r.cD.cut }⟩)
 else if e.kind=4 then (0,⟨{ L.l with cD:=L.l.cD.mend },{ L.r with cD:=L.r.cD.mend }⟩)
 else if e.kind≠1/\e.kind≠2/\e.kind≠5 then (16,L)
 else if e.cS=0 then ((L.l.act e).1,⟨(L.l.act e).2,L.r⟩)
 else if e.cS=1 then ((L.r.act e).1,⟨L.l,(L.r.act e).2⟩)
 else (2,L)
section
variable {x:aj} {N:Nat}
theorem aj.IM (h:x.Inv N) (c:Int) (d:dV):(x.dQ c d).2.Inv (N+65):=by
 have ok:=h.ok.dQ c d;have fi:=h.fit.dQ c d;unfold aj.dQ;by_cases h0:(x.prt.dQ c d).1=0
 ·rw [if_pos h0]
  unfold δ.dQ at h0 ok fi ⊢;by_cases h1:¬x.prt.has c\/64 < d.length
  ·rw [if_pos h1] at h0;exact absurd h0 (by show ¬(2:Nat)=0;omega)
  ·rw [if_neg h1] at h0 ok fi ⊢
   by_cases h2:64<=(x.prt.aX.getD c.toNat []).length
   ·rw [if_pos h2] at h0;exact absurd h0 (by show ¬(5:Nat)=0;omega)
   ·rw [if_neg h2] at ok fi ⊢
    have hh:x.prt.has c:=ZV fun e=>h1 (.inl e)
    have hc:c.toNat < x.prt.aZ.length:=by have:=hh.1;have:=hh.2;omega
    have t1:=h.tk;have t2:=h.se;have t3:=h.lo;have t4:=h.bd;refine ⟨ok,h.wM,h.wS,h.out,h.inc,?_,?_,by show x.cD.cC<=_;omega,by show x.cD.cP<=_;omega,by show x.cD.lost<=_;omega,by show 200*x.sc.bad<=_;omega,?_,fun l hl=>VC (h.tb l hl) (WH _ _),h.fb,?_,h.tl,fi,h.mi,h.due,h.emp⟩
    ·refine (h.cons.dQ h.ok hc d).congr fun j hj=>?_
     show _=(x.aE.set c.toNat (x.aE.getD c.toNat 0+1)).getD j 0;rw [jI _ _ _ _ _ (by rw [h.sl];exact hc)];by_cases e:c.toNat=j
     ·rw [if_pos e,if_pos e.symm]
     ·rw [if_neg e,if_neg fun x=>e x.symm]
    ·show (x.aE.set _ _).length=_;rw [Wd];exact h.sl
    ·refine mem_set (P:=fun l:List dV=>l.length<=N+65) (fun l hl=>VC (h.ob l hl) (WH _ _)) ?_
     rw [Vx];have:=bM (P:=fun l:List dV=>l.length<=N) h.ob (d:=[]) (VJ _) c.toNat;show _+1<=_;omega
    ·show (x.aV.set _ _).length=_;rw [Wd];exact h.ol
 ·rw [if_neg h0]
  exact h.mono (by omega)
theorem aj.LA (h:x.Inv N) (c:Int):(x.take c).2.Inv (N+1):=by
 have ok:=h.ok.take c;have fi:=h.fit.take h.ok c;unfold aj.take;have e:x.prt.take c=((x.prt.take c).1,(x.prt.take c).2):=rfl
 cases hp:x.prt.jY c with
 |none=>
  have:x.prt.take c=(none,x.prt):=by unfold δ.take;rw [hp]
  rw [this];exact h.mono (by omega)
 |some d=>
  have hh:x.prt.has c:=by
   unfold δ.jY at hp;split at hp
   ·assumption
   ·cases hp
  have hc:c.toNat < x.prt.aZ.length:=by have:=hh.1;have:=hh.2;omega
  obtain ⟨l,hl⟩:∃l,x.prt.aY.getD c.toNat []=d::l:=by
   unfold δ.jY at hp;rw [if_pos hh] at hp
   cases hb:x.prt.aY.getD c.toNat [] with
   |nil=>rw [hb] at hp;cases hp
   |cons y l=>rw [hb] at hp;injection hp with hp;rw [hp];exact ⟨l,rfl⟩
  have ht:x.prt.take c=(some d,{ x.prt with aY:=x.prt.aY.set c.toNat l,π:=x.prt.π.set c.toNat (x.prt.gv c.toNat).free,cF:=x.prt.cF.set c.toNat (x.prt.cF.getD c.toNat 0+1) }):=by
   unfold δ.take;rw [hp];dsimp only;rw [hl];rfl
  rw [ht] at ok fi ⊢;have t1:=h.tk;have t2:=h.se;have t3:=h.lo;have t4:=h.bd;refine ⟨ok,h.wM,h.wS,h.out,h.inc,h.cons.take h.ok hc hl,h.sl,by show x.cD.cC<=_;omega,by show x.cD.cP<=_;omega,by show x.cD.lost<=_;omega,by show 200*x.sc.bad<=_;omega,fun l hl=>VC (h.ob l hl) (WH _ _),?_,h.fb,h.ol,?_,fi,h.mi,h.due,h.emp⟩
  ·refine mem_set (P:=fun l:List dV=>l.length<=N+1) (fun l hl=>VC (h.tb l hl) (WH _ _)) ?_
   rw [Vx];have:=bM (P:=fun l:List dV=>l.length<=N) h.tb (d:=[]) (VJ _) c.toNat;show _+1<=_;omega
  ·show (x.cF.set _ _).length=_;rw [Wd];exact h.tl
theorem aj.Cw (h:x.Inv N) (hN:200<=N):x.Ω.2.Inv N:=by
 unfold aj.Ω δ.Ω;by_cases hr:((x.inc:Int)+1<=x.prt.inc\/1099511627775 < (x.inc:Int)+1)
 ·rw [if_pos hr,if_neg (by show ¬(2:Nat)=0;omega)]
  exact h
 ·rw [if_neg hr,if_pos rfl]
  have hi:=h.inc;have e:((x.inc:Int)+1).toNat=x.inc+1:=by omega
  refine ⟨?_,h.wM,h.wS,rfl,?_,?_,?_,h.tk,h.se,h.lo,VJ _,h.ob,h.tb,h.fb,h.ol,h.tl,wh _ _ _ _ _,rfl,h.due,rfl⟩
  ·refine δ.Ok.mono ?_ hN
   dsimp only;exact yg h.ok.n1 h.ok.n4 h.ok.rm (by omega) (by omega) h.ok.w1 h.ok.w2 h.ok.t1 h.ok.t2 h.ok.d1 h.ok.d2
  ·show ((x.inc:Int)+1).toNat=x.inc+1;exact e
  ·refine (BK _ _ _ _ _).congr fun j _=>?_
   show 0=(Vr x.aE.length 0).getD j 0;rw [Wo,WU];split <;> rfl
  ·show (Vr x.aE.length 0).length=_;rw [WI];exact h.sl
theorem aj.Gq (h:x.Inv N) (hN:200<=N) (e:iW):(x.act e).2.Inv (N+65):=by
 unfold aj.act;split
 ·exact aj.IM h _ _
 ·split
  ·exact (aj.LA h _).mono (by omega)
  ·exact (aj.Cw h hN).mono (by omega)
theorem Gh (i:x.Inv N):({ x with cD:=x.cD.cut }:aj).Inv (N+65):=by
 have t1:=i.tk;have t2:=i.se;have t3:=i.lo;have t4:=i.bd;have t5:=i.wM.Ai;exact ⟨i.ok.mono (by omega),az.SC i.wM,(fun y hy=>by cases hy),i.out,i.inc,i.cons,i.sl,by show x.cD.cC<=_;omega,by show x.cD.cP<=_;omega,by show x.cD.lost+x.cD.aL.length<=_;omega,by show 200*x.sc.bad<=_;omega,fun l hl=>VC (i.ob l hl) (WH _ _),fun l hl=>VC (i.tb l hl) (WH _ _),i.fb,i.ol,i.tl,i.fit,i.mi,wO.cut,i.emp⟩
theorem BN (i:x.Inv N):({ x with cD:=x.cD.mend }:aj).Inv N:=⟨i.ok,az.O0 i.wM,i.wS,i.out,i.inc,i.cons,i.sl,i.tk,i.se,i.lo,i.bd,i.ob,i.tb,i.fb,i.ol,i.tl,i.fit,i.mi,i.due.mend,i.emp⟩
end
structure Lk.Fit (L:Lk) (N:Nat):Prop where
 l:L.l.Inv N
 r:L.r.Inv N
theorem Lk.Fit.mono {L:Lk} {N M:Nat} (h:L.Fit N) (hm:N<=M):L.Fit M:=⟨h.l.mono hm,h.r.mono hm⟩
theorem Lk.Fit.cR {L:Lk} {N:Nat} (h:L.Fit N):L.cR.Fit (N+13000):=
 ⟨(h.l.cR.1.send _).mono (by have:=h.r.cR.2;omega),(h.r.cR.1.send _).mono (by have:=h.l.cR.2;omega)⟩
theorem Lk.Fit.act {L:Lk} {N:Nat} (h:L.Fit N) (hN:200<=N) (e:iW):(L.act e).2.Fit (N+65):=by
 have hm:=h.mono (show N<=N+65 by omega);unfold Lk.act;split
 ·exact ⟨Gh h.l,Gh h.r⟩
 ·split
  ·exact ⟨BN hm.l,BN hm.r⟩
  ·split
   ·exact hm
   ·split
    ·exact ⟨aj.Gq h.l hN e,hm.r⟩
    ·split
     ·exact ⟨hm.l,aj.Gq h.r hN e⟩
     ·exact hm

structure wP where
 inc:Nat
 aZ:List Nat
 w:Nat
 t:Nat
 d:Nat
structure wP.Ok (c:wP):Prop where
 n1:1<=c.aZ.length
 n4:c.aZ.length<=4
 rm:∀x ∈ c.aZ,1<=x/\x<=64
 i1:1<=c.inc
 i2:c.inc<=1099511627775
 w1:1<=c.w
 w2:c.w<=128
 t1:1<=c.t
 t2:c.t<=1000
 d1:1<=c.d
 d2:c.d<=1000
def qG (a b:wP) (cB:Nat) (there back:List jV):Lk:=⟨rY a.inc a.aZ a.w a.t a.d cB back,rY b.inc b.aZ b.w b.t b.d cB there⟩
theorem wm {c:wP} (h:c.Ok) {cB:Nat} {fs:List jV} (d1:1<=cB) (d2:cB<=100) (hf:okF (-1) fs=true) (hl:fs.length<=1000):(rY c.inc c.aZ c.w c.t c.d cB fs).Inv 200:=
 ⟨yg h.n1 h.n4 h.rm h.i1 h.i2 h.w1 h.w2 h.t1 h.t2 h.d1 h.d2,az.Sj d1 d2 hf,(fun y hy=>by cases hy),rfl,rfl,(BK _ _ _ _ _).congr fun j _=>by show 0=(Vr c.aZ.length 0).getD j 0;rw [Wo,WU];split <;> rfl,WI ..,VJ _,VJ _,VJ _,VJ _,(fun l hl=>by rw [(Wu.1 hl).2];exact VJ _),(fun l hl=>by rw [(Wu.1 hl).2];exact VJ _),hl,WI ..,WI ..,wh _ _ _ _ _,rfl,wO.new _ _,rfl⟩
theorem yh {a b:wP} (ha:a.Ok) (hb:b.Ok) {cB:Nat} {there back:List jV} (d1:1<=cB) (d2:cB<=100) (h1:okF (-1) there=true) (h2:okF (-1) back=true) (l1:there.length<=1000) (l2:back.length<=1000):(qG a b cB there back).Fit 200:=
 ⟨wm ha d1 d2 h2 l2,wm hb d1 d2 h1 l1⟩
def Lk.acts (L:Lk):List iW->List Nat × Lk
 |[]=>([],L)
 |e::es=>((L.act e).1::((L.act e).2.acts es).1,((L.act e).2.acts es).2)
def Lk.step (L:Lk) (es:List iW):Lk:=(L.acts es).2.cR
theorem Lk.Fit.acts:∀(es:List iW) {L:Lk} {N:Nat},L.Fit N->200<=N->(L.acts es).2.Fit (N+65*es.length)
 |[],_,_,h,_=>h.mono (by simp)
 |e::es,L,N,h,hN=>(Lk.Fit.acts es (h.act hN e) (by omega)).mono (by rw [VZ];omega)
theorem Lk.Fit.step {L:Lk} {N:Nat} (h:L.Fit N) (hN:200<=N) (es:List iW):(L.step es).Fit (N+65*es.length+13000):=(h.acts es hN).cR
def Lk.nd (L:Lk) (n:Nat):aj:=if n=0 then L.l else L.r
theorem Lk.Fit.nd {L:Lk} {N:Nat} (h:L.Fit N) (n:Nat):(L.nd n).Inv N:=by
 unfold Lk.nd;split
 ·exact h.l
 ·exact h.r

end Go.Proofs.YtjnbanjjoomecaaGreatDoor
