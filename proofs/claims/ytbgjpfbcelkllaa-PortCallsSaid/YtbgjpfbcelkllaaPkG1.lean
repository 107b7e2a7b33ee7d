/- Lemmas of this proof (texts PorP PorD PorE PorF PorG PorH PorI PorJ PorK PorL PorA PorB PorC PorM PorN PorO PorQ PorR). -/
import Derived.Test.YtbgjpfbcelkllaaPkF1
import Derived.Test.YtbgjpfbcelkllaaPkA1
import Derived.Deep.CutBlock
import Derived.Deep.CutRange
import Derived.Deep.DeepCutAuto
import Derived.StillTailTactics
import Derived.Lib.MinMax
import Derived.IntWalk
import Derived.Deep.RegionHeld3
import Derived.Test.YtbgjpfbcelkllaaRows
import Derived.Deep.QuietTactic
import Derived.BigQuiet
import Derived.Handy
namespace Go.Proofs.Ytbgjpfbcelkllaa
set_option maxHeartbeats 64000000
section
structure Side where
 mine:Nat
 dead:Nat
 cM:Nat
 seen:Nat
 state:Nat
 silent:Nat
def newSide (mine dead:Nat):Side:=⟨mine,dead,0,0,0,0⟩
def Side.cR (s:Side):Side:=
 if s.cM=0 then s else if s.dead<=s.silent+1 then { s with state:=0,cM:=0,silent:=0 } else { s with silent:=s.silent+1 }
def Side.cO (s:Side) (mine yours:Int):Side:=
 if mine < 1\/1099511627775 < mine\/mine < s.seen then s
 else { s with seen:=mine.toNat,silent:=0,cM:=mine.toNat,state:=if yours=s.mine then 2 else 1 }
structure Side.Ok (s:Side):Prop where
 m1:1<=s.mine
 m2:s.mine<=1099511627775
 d1:1<=s.dead
 d2:s.dead<=1000
 seen:s.seen<=1099511627775
 cM:s.cM<=s.seen
 state:s.state<=2
 zero:s.cM=0↔s.state=0
 silent:s.silent < s.dead
theorem newSide_ok {a b:Nat} (h1:1<=a) (h2:a<=1099511627775) (h3:1<=b) (h4:b<=1000):(newSide a b).Ok:=
 ⟨h1,h2,h3,h4,by simp [newSide],by simp [newSide],by simp [newSide],by simp [newSide],h3⟩
theorem Side.Ok.cR {s:Side} (h:s.Ok):s.cR.Ok:=by
 obtain ⟨a1,a2,a3,a4,a5,a6,a7,a8,a9⟩:=h
 unfold Side.cR
 split
 ·exact ⟨a1,a2,a3,a4,a5,a6,a7,a8,a9⟩
 ·split
  ·exact ⟨a1,a2,a3,a4,a5,Nat.zero_le _,Nat.zero_le _,Iff.rfl,a3⟩
  ·exact ⟨a1,a2,a3,a4,a5,a6,a7,a8,by dsimp only;omega⟩
theorem Side.Ok.cO {s:Side} (h:s.Ok) (m y:Int):(s.cO m y).Ok:=by
 obtain ⟨a1,a2,a3,a4,a5,a6,a7,a8,a9⟩:=h
 unfold Side.cO
 split
 ·exact ⟨a1,a2,a3,a4,a5,a6,a7,a8,a9⟩
 ·refine ⟨a1,a2,a3,a4,by dsimp only;omega,by dsimp only;omega,?_,?_,a3⟩
  ·dsimp only;split <;> omega
  ·dsimp only;split <;> omega
structure Arb where
 ptr:Nat
 ages:List Nat
def newArb (n:Nat):Arb:=⟨0,List.replicate n 0⟩
def firstReq (req:List Bool) (ptr n:Nat):Nat->Nat->Option Nat
 |_,0=>none
 |i,k+1=>if req.getD ((ptr+i) % n) false then some ((ptr+i) % n) else firstReq req ptr n (i+1) k
def Arb.choice (a:Arb) (req:List Bool):Option Nat:=firstReq req a.ptr req.length 0 req.length
def Arb.pick (a:Arb) (req:List Bool):Option Nat × Arb:=
 (a.choice req,⟨match a.choice req with|some c=>(c+1) % req.length|none=>a.ptr,
  (List.range req.length).map fun i=>if req.getD i false=true/\some i≠a.choice req then min (a.ages.getD i 0+1) 1073741824 else 0⟩)
structure Giv where
 room:Nat
 aW:Nat
 cI:Nat
structure Tak where
 cP:Nat
 cE:Nat
def Giv.cE (g:Giv):Nat:=g.room+g.cI
def Giv.cO (g:Giv):Bool × Giv:=if g.cE<=g.aW then (false,g) else (true,{ g with aW:=g.aW+1 })
def Giv.free (g:Giv):Giv:=if g.aW<=g.cI then g else { g with cI:=g.cI+1 }
def Tak.raise (t:Tak) (l:Int):Tak:=if l < 0\/1099511627776 < l then t else { t with cE:=max t.cE l.toNat }
def Tak.take (t:Tak):Tak:=if t.cE<=t.cP then t else { t with cP:=t.cP+1 }
structure Pt where
 kind:BitVec 8
 cls:Int
 number:Int
 value:Int
 pay:dV
structure Prt where
 inc:Nat
 aZ:List Nat
 cA:Nat
 aN:Nat
 dead:Nat
 cS:Side
 arb:Arb
 aX:List (List dV)
 aY:List (List dV)
 cM:Nat
 snd:Snd
 rcv:Nat
 tak:List Tak
 giv:List Giv
 base:List Nat
 cT:List (Nat × dV)
 aG:List Nat
 aW:List Nat
 cF:List Nat
 bL:Nat
def Giv.held (g:Giv):Nat->Giv
 |0=>g
 |k+1=>(g.held k).cO.2
def Prt.begin (p:Prt) (cM:Nat):Prt:=
 { p with
  aX:=(List.range p.aX.length).map fun c=>((p.cT.filter fun f=>f.1 == c).map (·.2))++p.aX.getD c []
  cT:=[]
  cM:=cM
  snd:=newSnd p.cA p.aN
  rcv:=0
  tak:=List.replicate p.aZ.length ⟨0,0⟩
  giv:=(List.range p.aZ.length).map fun c=>Giv.held ⟨p.aZ.getD c 0,0,0⟩ (p.aY.getD c []).length
  base:=p.aY.map List.length }
def dG (inc:Nat) (aZ:List Nat) (cA aN dead:Nat):Prt:=
 Prt.begin ⟨inc,aZ,cA,aN,dead,newSide inc dead,newArb aZ.length,List.replicate aZ.length [],List.replicate aZ.length [],0,newSnd cA aN,0,
  [],[],List.replicate aZ.length 0,[],List.replicate aZ.length 0,List.replicate aZ.length 0,List.replicate aZ.length 0,0⟩ 0
def Prt.has (p:Prt) (c:Int):Prop:=0<=c/\c < p.aZ.length
instance (p:Prt) (c:Int):Decidable (p.has c):=by unfold Prt.has;infer_instance
def Prt.dQ (p:Prt) (c:Int) (d:dV):Nat × Prt:=
 if ¬p.has c\/64 < d.length then (2,p)
 else if 64<=(p.aX.getD c.toNat []).length then (5,p)
 else (0,{ p with aX:=p.aX.set c.toNat (p.aX.getD c.toNat []++[d]) })
def Prt.greet (p:Prt) (x:Pt):Prt:=
 let q:={ p with cS:=p.cS.cO x.number x.value }
 if q.cS.cM≠0/\q.cS.cM≠q.cM then q.begin q.cS.cM else q
def Prt.cO (p:Prt) (x:Pt):Prt:=
 if ¬p.has x.cls\/x.number≠(p.rcv % 256:Nat) then p
 else
  let g:=p.giv.getD x.cls.toNat ⟨0,0,0⟩
  if g.cO.1=false then { p with rcv:=p.rcv+1,bL:=p.bL+1 }
  else { p with
   rcv:=p.rcv+1
   giv:=p.giv.set x.cls.toNat g.cO.2
   aY:=p.aY.set x.cls.toNat (p.aY.getD x.cls.toNat []++[x.pay])
   aW:=p.aW.set x.cls.toNat (p.aW.getD x.cls.toNat 0+1) }
def tally (l:List Nat) (ks:List (Nat × dV)):List Nat:=ks.foldl (fun l f=>l.set f.1 (l.getD f.1 0+1)) l
def Prt.bQ (p:Prt) (x:Pt):Prt:=
 { p with snd:=(p.snd.ack x.number).2,aG:=tally p.aG (p.cT.take (p.snd.ack x.number).1),cT:=p.cT.drop (p.snd.ack x.number).1 }
def Prt.raise (p:Prt) (x:Pt):Prt:=
 if p.has x.cls then { p with tak:=p.tak.set x.cls.toNat ((p.tak.getD x.cls.toNat ⟨0,0⟩).raise x.number) } else p
def Prt.cU (p:Prt) (x:Pt):Prt:=
 if x.kind=1#8 then p.greet x
 else if ¬(p.cS.state=2/\p.cS.cM≠0/\(p.cS.cM:Int)=x.value) then p
 else if x.kind=2#8 then p.cO x
 else if x.kind=3#8 then p.bQ x
 else if x.kind=4#8 then p.raise x
 else p
def Prt.bK (p:Prt):List Bool:=(List.range p.aX.length).map fun c=>decide (0 < (p.aX.getD c []).length) && decide ((p.tak.getD c ⟨0,0⟩).cP < (p.tak.getD c ⟨0,0⟩).cE)
def Prt.choose (p:Prt):Prt:=
 if p.cA<=p.snd.cT.length then p
 else
  match (p.arb.pick p.bK).1 with
  |none=>{ p with arb:=(p.arb.pick p.bK).2 }
  |some c=>{ p with
    arb:=(p.arb.pick p.bK).2
    aX:=p.aX.set c ((p.aX.getD c []).drop 1)
    tak:=p.tak.set c (p.tak.getD c ⟨0,0⟩).take
    snd:=(p.snd.dQ ((p.aX.getD c []).getD 0 [])).2
    cT:=p.cT++[(c,(p.aX.getD c []).getD 0 [])] }
def Prt.classOf (p:Prt) (number:Nat):Nat:=(p.cT.getD ((number+256 - p.snd.aG % 256) % 256) (0,[])).1
def Prt.cR (p:Prt) (bV:List Pt):List Pt × Prt:=
 let p:=bV.foldl Prt.cU p
 let p:={ p with cS:=p.cS.cR }
 let hail:Pt:=⟨1#8,0,p.inc,p.cS.cM,[]⟩
 if p.cS.state≠2 then ([hail],p)
 else
  let cP:=hail::⟨3#8,0,(p.rcv % 256:Nat),p.inc,[]⟩::((List.range p.base.length).map fun (c:Nat)=>(⟨4#8,(c:Int),((p.giv.getD c ⟨0,0,0⟩).cE:Int) - ((p.base.getD c 0:Nat):Int),p.inc,[]⟩:Pt))
  let p:=p.choose
  match p.snd.cR with
  |(some (n,d),s)=>(cP++[⟨2#8,(Prt.classOf { p with snd:=s } n:Nat),n,p.inc,d⟩],{ p with snd:=s })
  |(none,s)=>(cP,{ p with snd:=s })
def Prt.peek (p:Prt) (c:Int):Option dV:=if p.has c then (p.aY.getD c.toNat []).head? else none
def Prt.take (p:Prt) (c:Int):Option dV × Prt:=
 match p.peek c with
 |none=>(none,p)
 |some d=>(some d,{ p with
   aY:=p.aY.set c.toNat ((p.aY.getD c.toNat []).drop 1)
   giv:=p.giv.set c.toNat (p.giv.getD c.toNat ⟨0,0,0⟩).free
   cF:=p.cF.set c.toNat (p.cF.getD c.toNat 0+1) })
def Prt.restart (p:Prt) (inc:Int):Nat × Prt:=
 if inc<=p.inc\/1099511627775 < inc then (2,p) else (0,dG inc.toNat p.aZ p.cA p.aN p.dead)
end

section
open Go.RowKit
def ePure {α : Type} (s:Nat) (f : α -> List Value) (hl:∀a,(f a).length=s) (h1:∀a,∀u ∈ f a,u.oneCell'=true):El α where
 size:=s
 rd _ _ _ cs a:=cs=f a
 len h:=by rw [h,hl]
 keep h _ _:=h
 mono h _ _:=h
 one h u hu:=h1 _ u (h ▸ hu)
def Pure {α : Type} (E:El α) (f : α -> List Value):Prop:=∀w F Z cs a,E.rd w F Z cs a↔cs=f a
theorem pure_nat:Pure dK (fun n=>[.int .i64 (n:Int)]):=fun _ _ _ _ _=>Iff.rfl
section
variable {α : Type} {E:El α} {f : α -> List Value} {w:World} {F Z:BS}
theorem Pure.len (hp:Pure E f) (a : α):(f a).length=E.size:=E.len ((hp default (fun _=>False) (fun _=>False) (f a) a).2 rfl)
theorem Pure.els (hp:Pure E f):∀ {F:BS} {us:List Value} {xs:List α},Els E w F Z us xs->us=xs.flatMap f
 |_,_,[],h=>h
 |_,_,a::xs,⟨cs,rest,_,_,e,_,_,_,h1,h2⟩=>by rw [e,(hp _ _ _ _ _).1 h1,hp.els h2,List.flatMap_cons]
theorem Pure.of (hp:Pure E f):∀(F:BS) (xs:List α),Els E w F Z (xs.flatMap f) xs
 |_,[]=>rfl
 |F,a::xs=>⟨f a,xs.flatMap f,fun _=>False,F,List.flatMap_cons,fun _ h=>h.elim,fun _ h=>h,fun _ h=>h.elim,(hp _ _ _ _ _).2 rfl,hp.of F xs⟩
theorem flatMap_set {s:Nat} (hl:∀a,(f a).length=s) {a a' : α} {u:Value} {j:Nat} (hj:j < s) (he:(f a).set j u=f a'):∀ {xs:List α} {c:Nat},xs[c]? = some a->(xs.flatMap f).set (c*s+j) u=(xs.set c a').flatMap f
 |x::xs,0,hc=>by
  obtain rfl:x=a:=by simpa using hc
  rw [List.flatMap_cons,List.set_cons_zero,List.flatMap_cons,<-he,List.set_append_left _ _ (by rw [hl];omega),Nat.zero_mul,Nat.zero_add]
 |x::xs,c+1,hc=>by
  rw [List.flatMap_cons,List.set_cons_succ,List.flatMap_cons,<-flatMap_set hl hj he (xs:=xs) (c:=c) (by simpa using hc),List.set_append_right _ _ (by rw [hl,Nat.add_mul];omega),hl]
  congr 2
  rw [Nat.add_mul];omega
theorem Sl.put {w:World} {K:BS} {T:TypeId} {s b off n cap:Nat} {us:List Value} (h:Sl w K T s (.slice (some ⟨b,off,none⟩) n cap) n us) (q:Nat) (u:Value) :
  Sl (w.setCell ⟨b,off+q,none⟩ u) K T s (.slice (some ⟨b,off,none⟩) n cap) n (us.set q u):=by
 obtain ⟨hl,⟨h,_⟩|⟨b',off',cap',cur,e,hK,hg,h1,h2,h3,h4⟩⟩:=h
 ·cases h
 ·obtain ⟨⟨rfl,rfl⟩,rfl⟩:(b=b'/\off=off')/\cap=cap':=by simpa using e
  refine ⟨by rw [List.length_set,hl],.inr ⟨b,off,cap,cur.setIfInBounds (off+q) u,rfl,hK,heap_setCell_same w b (off+q) cur T u hg,h1,h2,by rw [Array.size_setIfInBounds];exact h3,?_⟩⟩
  rw [Array.toList_setIfInBounds,List.drop_set,if_neg (by omega),List.take_set,<-h4]
  congr 1;omega
theorem Sl.free {w:World} {K:BS} {T:TypeId} {s b off n cap:Nat} {us:List Value} (h:Sl w K T s (.slice (some ⟨b,off,none⟩) n cap) n us):K b/\b < w.heap.size/\∀j,w.frozen? ⟨b,j,none⟩=false:=by
 obtain ⟨hl,⟨h,_⟩|⟨b',off',cap',cur,e,hK,hg,h1,h2,h3,h4⟩⟩:=h
 ·cases h
 ·obtain ⟨⟨rfl,rfl⟩,rfl⟩:(b=b'/\off=off')/\cap=cap':=by simpa using e
  exact ⟨hK,lt_of_block hg,fun j=>frozen_of_row w b j cur T hg⟩
theorem Sq.free {T:TypeId} {b off n cap:Nat} {xs:List α} (h:Sq E T w F Z (.slice (some ⟨b,off,none⟩) n cap) xs):n=xs.length/\F b/\b < w.heap.size/\∀j,w.frozen? ⟨b,j,none⟩=false:=by
 obtain ⟨a,c,e⟩:=h.shape
 obtain ⟨_,rfl,_⟩:some (⟨b,off,none⟩:Addr)=a/\n=xs.length/\cap=c:=by simpa using e
 obtain ⟨K,D,us,h1,h2,hK,h3,h4⟩:=h
 obtain ⟨q1,q2,q3⟩:=h3.free
 exact ⟨rfl,h1 b (.inl q1),q2,q3⟩
theorem Sq.put {T:TypeId} {b off n cap:Nat} {xs:List α} (hp:Pure E f) (h:Sq E T w F Z (.slice (some ⟨b,off,none⟩) n cap) xs) {c j:Nat} {a a' : α} {u:Value} (hc:xs[c]? = some a) (hj:j < E.size) (he:(f a).set j u=f a') :
  Sq E T (w.setCell ⟨b,off+(c*E.size+j),none⟩ u) F Z (.slice (some ⟨b,off,none⟩) n cap) (xs.set c a')/\Fr F w (w.setCell ⟨b,off+(c*E.size+j),none⟩ u):=by
 obtain ⟨rfl,hFb,_,_⟩:=h.free
 obtain ⟨K,D,us,h1,h2,hK,h3,h4⟩:=h
 refine ⟨⟨K,D,us.set (c*E.size+j) u,h1,h2,fun k hk=>by simpa using hK k hk,?_,?_⟩,(Fr.refl _ _).setCell (p:=⟨b,_,none⟩) (.inl hFb) _⟩
 ·rw [List.length_set];exact h3.put _ _
 ·rw [hp.els h4,flatMap_set hp.len hj he hc]
  exact hp.of _ _
theorem dY.put {W:World} {ts:List Th} {T:TypeId} {b off n cap:Nat} {xs:List α} (h:dY F Z W ts w) (hp:Pure E f) (i:Nat) (hi:ts[i]? = some (tSq E T (.slice (some ⟨b,off,none⟩) n cap) xs)) {c j:Nat} {a a' : α} {u:Value} (hc:xs[c]? = some a) (hj:j < E.size) (he:(f a).set j u=f a') :
  dY F Z W (ts.set i (tSq E T (.slice (some ⟨b,off,none⟩) n cap) (xs.set c a'))) (w.setCell ⟨b,off+(c*E.size+j),none⟩ u):=
 h.upd i hi fun _ _ hon _=>Sq.put hp hon hc hj he
def eOpt (E:El α):El (Option α) where
 size:=E.size
 rd w F Z cs o:=cs.length=E.size/\(∀u ∈ cs,u.oneCell'=true)/\∀a,o=some a->E.rd w F Z cs a
 len h:=h.1
 keep h hs hk:=⟨h.1,h.2.1,fun a e=>E.keep (h.2.2 a e) hs hk⟩
 mono h hF hZ:=⟨h.1,h.2.1,fun a e=>E.mono (h.2.2 a e) hF hZ⟩
 one h:=h.2.1
theorem Els.some':∀ {F:BS} {us:List Value} {xs:List α},Els E w F Z us xs->Els (eOpt E) w F Z us (xs.map some)
 |_,_,[],h=>h
 |_,_,_::_,⟨cs,rest,A,B,e,g1,g2,g3,h1,h2⟩=>⟨cs,rest,A,B,e,g1,g2,g3,⟨E.len h1,E.one h1,fun a e=>by cases e;exact h1⟩,h2.some'⟩
theorem Els.unsome:∀ {F:BS} {us:List Value} {xs:List α},Els (eOpt E) w F Z us (xs.map some)->Els E w F Z us xs
 |_,_,[],h=>h
 |_,_,a::_,⟨cs,rest,A,B,e,g1,g2,g3,h1,h2⟩=>⟨cs,rest,A,B,e,g1,g2,g3,h1.2.2 a rfl,Els.unsome h2⟩
theorem dY.join {W:World} {ts:List Th} {A B:Th} (h:dY F Z W (ts++[B]) w) (i:Nat) (hi:ts[i]? = some A):dY F Z W (ts.set i (tStar [A,B])) w:=by
 obtain ⟨L,h1,h2,h3⟩:=h
 have hil:=aA hi
 obtain ⟨L',hL⟩:∃L':Lab,∀k,L' k=if L k=ts.length+2 then i+2 else L k:=⟨_,fun _=>rfl⟩
 have hz:∀k,L.is 1 k->L'.is 1 k:=fun k hk=>by
  have hk':L k=1:=hk
  show L' k=1
  rw [hL,if_neg (by omega),hk']
 refine ⟨L',h1,fun k hk hF=>?_,fun j T hj=>?_⟩
 ·have:=h2 k hk hF
  rw [show L' k=L k by rw [hL,if_neg (by have:=this.1;omega)]];exact this
 ·have hjl:j < ts.length:=by have:=aA hj;simpa using this
  by_cases hji:j=i
  ·subst hji
   rw [List.getElem?_set_self hil] at hj
   obtain rfl:=Option.some.inj hj
   have hA:=h3 j A (by rw [List.getElem?_append_left hil];exact hi)
   have hB:=h3 ts.length B (by simp)
   refine Star.two (A.mono hA (fun _ h=>h) hz) (B.mono hB (fun _ h=>h) hz) (fun k a b=>?_) (fun k hk=>?_) fun k hk=>?_
   ·have a':L k=j+2:=a
    have b':L k=ts.length+2:=b
    omega
   ·have hk':L k=j+2:=hk
    show L' k=j+2
    rw [hL,if_neg (by omega),hk']
   ·have hk':L k=ts.length+2:=hk
    show L' k=j+2
    rw [hL,if_pos hk']
  ·rw [List.getElem?_set_ne (fun e=>hji e.symm)] at hj
   refine T.mono (h3 j T (by rw [List.getElem?_append_left hjl];exact hj)) (fun k hk=>?_) hz
   have hk':L k=j+2:=hk
   show L' k=j+2
   rw [hL,if_neg (by omega),hk']
theorem dY.out {W:World} {ts:List Th} {T1 T2:TypeId} {b off n cap:Nat} {xss:List (List α)} {xs:List α} (h:dY F Z W ts w) (i:Nat) (hi:ts[i]? = some (tSq (eSq E T1) T2 (.slice (some ⟨b,off,none⟩) n cap) xss)) {c:Nat} (hc:xss[c]? = some xs) :
  ∃vc,w.cell? ⟨b,off+c,none⟩=some vc/\dY F Z W (ts.set i (tSq (eOpt (eSq E T1)) T2 (.slice (some ⟨b,off,none⟩) n cap) ((xss.map some).set c none))++[tSq E T1 vc xs]) w:=by
 obtain ⟨G,Y,hon,hd,_,_,hback⟩:=h.use i hi
 obtain ⟨hn,_,_,_⟩:=Sq.free hon
 subst hn
 obtain ⟨K,D,us,h1,h2,hK,h3,h4⟩:=hon
 obtain ⟨cs,A,B,q1,q2,q3,q4,q5,q6⟩:=h4.some'.focus (i:=c) (a:=some xs) (by rw [List.getElem?_map,hc];rfl)
 obtain ⟨vc,rfl,hsq⟩:=q1.2.2 xs rfl
 have q5':us=us.take c++[vc]++us.drop (c+1):=by have:=q5;simpa [eOpt,eSq] using this
 have hcl:c < xss.length:=aA hc
 have hul:us.length=xss.length:=by have:=h3.1;rwa [show (eSq E T1).size=1 from rfl,Nat.mul_one] at this
 have huc:us[c]? = some vc:=by
  rw [q5',List.append_assoc,List.getElem?_append_right (by rw [List.length_take];omega),List.length_take,Nat.min_eq_left (by omega),Nat.sub_self];rfl
 refine ⟨vc,h3.cell c vc huc,?_⟩
 refine hback w _ _ ⟨Fr.refl _ _,Y,fun k h=>.inl h,Star.two (G:=fun k=>K k\/B k) (H:=A) ?_ hsq (fun k a b=>a.elim (fun a=>h2 k a (q2 k b)) fun a=>q4 k b a) (fun k a=>?_) fun k a=>?_⟩
 ·refine ⟨K,B,us,fun k hk=>hk,fun k a b=>h2 k a (q3 k b),hK,by rw [List.length_set,List.length_map];exact h3,?_⟩
  have:=q6 w [vc] none (fun _=>False) B Y (Nat.le_refl _) (fun _ _ _=>rfl) ⟨rfl,q1.2.1,fun a e=>by cases e⟩ (fun _ f=>f.elim) (fun _ h _=>h) fun _ h _=>h
  rwa [<-q5] at this
 ·have hg:=a.elim (fun a=>h1 k (.inl a)) fun a=>h1 k (.inr (q3 k a))
  exact ⟨.inl hg,fun y=>hd k hg y⟩
 ·have hg:=h1 k (.inr (q2 k a))
  exact ⟨.inl hg,fun y=>hd k hg y⟩
theorem dY.back {W:World} {ts:List Th} {T1 T2:TypeId} {b off n cap:Nat} {os:List (Option (List α))} {xs:List α} {yss:List (List α)} {vc:Value} (h:dY F Z W (ts++[tSq E T1 vc xs]) w) (i:Nat) (hi:ts[i]? = some (tSq (eOpt (eSq E T1)) T2 (.slice (some ⟨b,off,none⟩) n cap) os)) {c:Nat} (hc:c < os.length) (hos:os.set c (some xs)=yss.map some) :
  dY F Z W (ts.set i (tSq (eSq E T1) T2 (.slice (some ⟨b,off,none⟩) n cap) yss)) (w.setCell ⟨b,off+c,none⟩ vc):=by
 have hj:=h.join i hi
 have hil:=aA hi
 have:=hj.upd i (T':=tSq (eSq E T1) T2 (.slice (some ⟨b,off,none⟩) n cap) yss) (w':=w.setCell ⟨b,off+c,none⟩ vc) (by rw [List.getElem?_set_self hil]) fun G Y hon hd=>?_
 ·rwa [List.set_set] at this
 ·obtain ⟨GA,GB,hA,hB,hdab,hGA,hGB⟩:=Star.uncons hon
  have hB:=hB.get (i:=0) rfl
  obtain ⟨hn,hGb,_,_⟩:=Sq.free hA
  subst hn
  obtain ⟨K,D,us,h1,h2,hK,h3,h4⟩:=hA
  have hKb:=h3.free.1
  obtain ⟨o,ho⟩:∃o,os[c]? = some o:=⟨_,List.getElem?_eq_getElem hc⟩
  obtain ⟨cs,A,B,q1,q2,q3,q4,q5,q6⟩:=h4.focus ho
  have hkeep:∀k,k≠b->(w.setCell ⟨b,off+c,none⟩ vc).heap[k]? = w.heap[k]?:=fun k hk=>heap_setCell_other w ⟨b,off+c,none⟩ k vc hk
  have hne:∀k,D k\/Y k->k≠b:=fun k hk e=>by subst e;exact hk.elim (fun d=>h2 k hKb d) fun y=>hd k (hGA k (h1 k (.inl hKb))) y
  have hneB:∀k,GB k\/Y k->k≠b:=fun k hk e=>by subst e;exact hk.elim (fun d=>hdab k hGb d) fun y=>hd k (hGA k hGb) y
  have hsz:(w.setCell ⟨b,off+c,none⟩ vc).heap.size=w.heap.size:=by simp
  have hB':Sq E T1 (w.setCell ⟨b,off+c,none⟩ vc) GB Y vc xs:=Sq.stay hB (Nat.le_of_eq hsz.symm) fun k hk _=>hkeep k (hneB k hk)
  have hone:vc.oneCell'=true:=by obtain ⟨a,cp,rfl⟩:=Sq.shape hB;rfl
  have hnew:=q6 (w.setCell ⟨b,off+c,none⟩ vc) [vc] (some xs) GB (fun k=>B k\/GB k) Y (Nat.le_of_eq hsz.symm) (fun k hk _=>hkeep k (hne k (hk.imp (q3 k) id))) ⟨rfl,fun u hu=>by rw [List.mem_singleton.1 hu];exact hone,fun a e=>by cases e;exact ⟨vc,rfl,hB'⟩⟩
   (fun k g=>⟨.inr g,fun h=>hdab k (h1 k (.inr (q3 k h.1))) g⟩) (fun k h _=>.inl h) fun k h _=>h
  have hul:us.length=os.length:=by have:=h3.1;rwa [show (eOpt (eSq E T1)).size=1 from rfl,Nat.mul_one] at this
  have e1:us.take (c*(eOpt (eSq E T1)).size)++[vc]++us.drop ((c+1)*(eOpt (eSq E T1)).size)=us.set c vc:=by
   show us.take (c*1)++[vc]++us.drop ((c+1)*1)=_
   rw [Nat.mul_one,Nat.mul_one,List.set_eq_take_append_cons_drop,if_pos (by omega),List.append_assoc];rfl
  rw [e1,hos] at hnew
  have hyl:os.length=yss.length:=by have:=congrArg List.length hos;simpa using this
  refine ⟨⟨K,fun k=>B k\/GB k,us.set c vc,fun k hk=>?_,fun k a b=>b.elim (fun b=>h2 k a (q3 k b)) fun b=>hdab k (h1 k (.inl a)) b,fun k hk=>by rw [hsz];exact hK k hk,?_,Els.unsome hnew⟩,(Fr.refl _ _).setCell (p:=⟨b,_,none⟩) (.inl (hGA b hGb)) _⟩
  ·rcases hk with hk|hk|hk
   ·exact hGA k (h1 k (.inl hk))
   ·exact hGA k (h1 k (.inr (q3 k hk)))
   ·exact hGB k hk
  ·rw [<-hyl];exact h3.put _ _
theorem set_gap {xss:List (List α)} {c:Nat} {ys:List α}:((xss.map some).set c none).set c (some ys)=(xss.set c ys).map some:=by
 rw [List.set_set,List.map_set]
theorem dY.inner {W:World} {ts:List Th} {T1 T2:TypeId} {b off n cap:Nat} {xss:List (List α)} {xs:List α} (h:dY F Z W ts w) (i:Nat) (hi:ts[i]? = some (tSq (eSq E T1) T2 (.slice (some ⟨b,off,none⟩) n cap) xss)) {c:Nat} (hc:xss[c]? = some xs) :
  ∃vc,w.cell? ⟨b,off+c,none⟩=some vc/\(∃G Y,Sq E T1 w G Y vc xs)/\∀(nv:Value) (ys:List α),(∀G Y,Sq E T1 w G Y vc xs->Sq E T1 w G Y nv ys)->dY F Z W (ts.set i (tSq (eSq E T1) T2 (.slice (some ⟨b,off,none⟩) n cap) (xss.set c ys))) (w.setCell ⟨b,off+c,none⟩ nv):=by
 obtain ⟨vc,hv,hout⟩:=h.out i hi hc
 obtain ⟨G,Y,hsq⟩:=hout.get ts.length (T:=tSq E T1 vc xs) (by simp)
 refine ⟨vc,hv,⟨G,Y,hsq⟩,fun nv ys k=>?_⟩
 have h1:=hout.upd ts.length (T:=tSq E T1 vc xs) (T':=tSq E T1 nv ys) (w':=w) (by simp) fun G Y hon _=>⟨k G Y hon,Fr.refl _ _⟩
 rw [List.set_append_right _ _ (by simp),List.length_set,Nat.sub_self,List.set_cons_zero] at h1
 have h2:=dY.back (c:=c) (yss:=xss.set c ys) h1 i (List.getElem?_set_self (aA hi)) (by rw [List.length_set,List.length_map];exact aA hc) set_gap
 rwa [List.set_set] at h2
end
def tEx {ι : Type} (f : ι -> List Th):Th:=
 ⟨fun w F Z=>∃i,Star (f i) w F Z,fun ⟨i,h⟩ hs hk=>⟨i,h.keep hs hk⟩,fun ⟨i,h⟩ hF hZ=>⟨i,h.mono hF hZ⟩⟩
section
variable {F Z:BS} {W w w':World} {ts:List Th} {ι : Type} {f : ι -> List Th}
theorem dY.swap {T:Th} {P : ι -> Th} (h:dY F Z W ts w) (i:Nat) (hi:ts[i]? = some T) (k:∀G Y,T.on w G Y->∃x,(P x).on w G Y):∃x,dY F Z W (ts.set i (P x)) w:=by
 obtain ⟨L,h1,h2,h3⟩:=h
 obtain ⟨x,hx⟩:=k _ _ (h3 i T hi)
 refine ⟨x,L,h1,h2,fun j T' hj=>?_⟩
 by_cases hji:j=i
 ·subst hji
  rw [List.getElem?_set_self (aA hi)] at hj
  obtain rfl:=Option.some.inj hj
  exact hx
 ·rw [List.getElem?_set_ne (fun e=>hji e.symm)] at hj
  exact h3 j T' hj
theorem dY.opens (h:dY F Z W (tEx f::ts) w):∃i,dY F Z W (f i++ts) w:=by
 obtain ⟨x,hx⟩:=h.swap (P:=fun x=>tStar (f x)) 0 rfl fun G Y h=>h
 exact ⟨x,dY.unfold hx fun _ _ _ h=>h⟩
theorem dY.shut {i : ι} (h:dY F Z W (f i++ts) w):dY F Z W (tEx f::ts) w:=h.fold fun _ _ _ hs=>⟨i,hs⟩
theorem Made.of {T:Th} (h:dY (fun _=>False) (fun _=>False) w [T] w'):Made w T w':=by
 have hb:=h.below
 obtain ⟨L,h1,h2,h3⟩:=h
 refine ⟨hb,L.is 2,L.is 1,fun k hk=>?_,fun k hk=>?_,fun k a b=>?_,h3 0 T rfl⟩
 ·have hk':L k=2:=hk
  rcases Nat.lt_or_ge k w.heap.size with hl|hl
  ·have:=(h2 k hl id).1;omega
  ·exact hl
 ·have hk':L k=1:=hk
  rcases Nat.lt_or_ge k w.heap.size with hl|hl
  ·exact ((h2 k hl id).2.1 hk').elim
  ·exact hl
 ·have a':L k=2:=a
  have b':L k=1:=b
  omega
theorem dY.act {P:Program} {g:Nat} {args:Array Value} {R:Ending->Prop} {T T':Th} (h:dY F Z W ts w) (i:Nat) (hi:ts[i]? = some T)
  (k:∀G Y,Dj G Y->T.on w G Y->Calls P g args w fun e w'=>R e/\Did w G Y [T'] w'):Calls P g args w fun e w'=>R e/\dY F Z W (ts.set i T') w':=by
 obtain ⟨G,Y,hq,hd,_,_,hb⟩:=h.use i hi
 refine (k G Y hd hq).mono fun e w' ⟨he,hst⟩=>⟨he,?_⟩
 have:=hb w' _ [] hst
 rwa [List.append_nil] at this
end
theorem toList_madeCells_rep (u:Value) (s m:Nat) (hs:0 < s):(madeCells (List.replicate s u).toArray m).toList=List.replicate m u:=by
 rw [List.eq_replicate_iff]
 refine ⟨by simp [madeCells],fun b hb=>?_⟩
 simp only [madeCells,Array.mem_toList_iff,Array.mem_map] at hb
 obtain ⟨i,_,rfl⟩:=hb
 have hlt:i % (List.replicate s u).toArray.size < (List.replicate s u).toArray.size:=Nat.mod_lt _ (by simpa using hs)
 rw [getElem!_pos (List.replicate s u).toArray (i % (List.replicate s u).toArray.size) hlt]
 simp
section
variable {α : Type} {E:El α}
theorem Els.zero {w:World} {Z:BS} {cs:List Value} {a0 : α} (he:E.rd w (fun _=>False) Z cs a0):∀n,Els E w (fun _=>False) Z (List.replicate n cs).flatten (List.replicate n a0)
 |0=>rfl
 |n+1=>⟨cs,(List.replicate n cs).flatten,fun _=>False,fun _=>False,by rw [List.replicate_succ,List.flatten_cons],fun _ f=>f,fun _ f=>f,fun _ f=>f.elim,he,Els.zero he n⟩
theorem wpList_mkH {P:Program} {t e:TypeId} {z:Value} {bytes:Nat} (S:SlT P t e z E.size bytes) {u:Value} (hzz:z.cells=(List.replicate E.size u).toArray) {a0 : α} (he:∀w Z,E.rd w (fun _=>False) Z (List.replicate E.size u) a0)
  {w:World} {ops:Array Oper} {rest:List Oper} {o:Oper} {a:Act} {Q:Exit->Act->World->Prop}
  (hg:o.guard=none) (l c:Operand) (hop:o.op=Op.makeSlice t l c) (n:Nat) (hl:a.eval l=.int .i64 (n:Int)) (hc:a.eval c=.int .i64 (n:Int)) (b2:bytes*n<=281474976710656) (b3:n<=maxLen)
  (hK:∀w',Below w.heap.size w w'->Sq E e w' (fun k=>w.heap.size<=k) (fun _=>False) (.slice (some ⟨w.heap.size,0,none⟩) n n) (List.replicate n a0)->wpList P ops Q rest (a.put o.dst (.slice (some ⟨w.heap.size,0,none⟩) n n)) w') :
  wpList P ops Q (o::rest) a w:=by
 obtain ⟨i,hi,hz,hsz,hby⟩:=S.info
 refine wpList_make_full w hg l c t hop w.heap.size e i z E.size S.under hi hz hsz .i64 .i64 (n:Int) (n:Int) n hl hc rfl rfl (by rw [hby];exact b2) b3 (Nat.le_refl _) fun w' hown hgr=>?_
 rw [hzz,toList_madeCells_rep u E.size (n*E.size) S.pos] at hown
 refine hK w' ((Below.refl w.heap.size w).grown hgr (Nat.le_refl _) (fun k e=>by cases e)) ?_
 have hsl:Sl w' (fun k=>w.heap.size<=k) e E.size (.slice (some ⟨w.heap.size,0,none⟩) n n) n (List.replicate (n*E.size) u):=Sl.of_own hown fun _ h=>h
 refine ⟨fun k=>w.heap.size<=k/\k < w'.heap.size,fun _=>False,List.replicate (n*E.size) u,fun k hk=>hk.elim (·.1) False.elim,fun _ _ f=>f,fun k hk=>hk.2,?_,?_⟩
 ·rw [List.length_replicate];exact hsl.bound
 ·have:=Els.zero (E:=E) (Z:=fun _=>False) (he w' _) n
  rwa [List.flatten_replicate_replicate] at this
end
end

section
open Go.RowKit
theorem slInt:SlT Try.prog 22 3 (.int .i64 0) 1 8:=⟨Try.underlying22,info_parts (by kernel_rfl),rfl,by decide⟩
theorem slBool:SlT Try.prog 97 4 (.bool false) 1 1:=⟨Try.underlying97,info_parts (by kernel_rfl),rfl,by decide⟩
abbrev arbRow (a:Arb) (v:Value):Obj:=.cells #[.int .i64 (a.ptr:Int),v] 112
def tArb (p:Nat) (a:Arb):Th:=tEx fun v:Value=>[dJ p (arbRow a v),tSq dK 3 v a.ages]
theorem newArb_any (n:Nat) (w:World) (h1:1<=n) (h2:n<=64) :
  Calls Try.prog 26 #[.int .i64 (n:Int)] w fun e w'=>∃p,e=.returned (.tuple #[.pointer (some ⟨p,0,none⟩),.int .i64 0])/\Made w (tArb p (newArb n)) w':=by
 go_enter Try.func26,Try.ntmps26
 go_wp2_with (at_make;refine wpList_mkH (E:=dK) slInt rfl (a0:=0) (fun _ _=>rfl) rfl _ _ rfl n rfl rfl (by omega) (by unfold maxLen;omega) ?_;intro w1 hb1 hs1;have HB1:=aQ hb1;have HS1:=aQ hs1;clear hb1 hs1)
 go_ret2
 refine ⟨w1.heap.size,rfl,Made.of ?_⟩
 have h0:=(dY.start0 (fun _=>False) (fun _=>False) (fun _ f=>f.elim) w).add HB1.out (T:=tSq dK 3 (.slice (some ⟨w.heap.size,0,none⟩) n n) (List.replicate n 0)) HS1.out
 exact dY.shut (f:=fun v:Value=>[dJ w1.heap.size (arbRow (newArb n) v),tSq dK 3 v (newArb n).ages]) (ts:=[]) ((h0.new (arbRow (newArb n) (.slice (some ⟨w.heap.size,0,none⟩) n n))).pick [1,0] _ (by simp) rfl)
end

section
open Go.RowKit
theorem pure_cell {α : Type} {E:El α} {f : α -> List Value} (hp:Pure E f) {T:TypeId} {w:World} {F Z:BS} {b off n cap:Nat} {xs:List α} (h:Sq E T w F Z (.slice (some ⟨b,off,none⟩) n cap) xs) {i j:Nat} {x : α} {u:Value} (hi:xs[i]? = some x) (hj:(f x)[j]? = some u) :
  w.cell? ⟨b,off+i*E.size+j,none⟩=some u:=by
 have hp0:0 < E.size:=by have:=aA hj;rw [hp.len] at this;omega
 obtain ⟨b',off',cs,A,e,_,h2,_,h4⟩:=h.at hp0 hi
 obtain ⟨rfl,rfl⟩:b=b'/\off=off':=by simpa using e
 rw [(hp _ _ _ _ _).1 h2] at h4
 exact h4 j u hj
theorem nat_cell {T:TypeId} {w:World} {F Z:BS} {b off n cap:Nat} {xs:List Nat} (h:Sq dK T w F Z (.slice (some ⟨b,off,none⟩) n cap) xs) {i x:Nat} (hi:xs[i]? = some x):w.cell? ⟨b,off+i,none⟩=some (.int .i64 (x:Int)):=by
 have:=pure_cell pure_nat h hi (j:=0) rfl
 simpa [dK] using this
theorem pure_bool:Pure eBool (fun b=>[.bool b]):=fun _ _ _ _ _=>Iff.rfl
theorem bool_cell {T:TypeId} {w:World} {F Z:BS} {b off n cap:Nat} {xs:List Bool} (h:Sq eBool T w F Z (.slice (some ⟨b,off,none⟩) n cap) xs) {i:Nat} {x:Bool} (hi:xs[i]? = some x):w.cell? ⟨b,off+i,none⟩=some (.bool x):=by
 have:=pure_cell pure_bool h hi (j:=0) rfl
 simpa [eBool] using this
theorem min_cast (x N:Nat):min ((x:Int)+1) (N:Int)=((min (x+1) N:Nat):Int):=by omega
structure Arb.Ok (a:Arb) (n:Nat):Prop where
 n1:1<=n
 n2:n<=64
 len:a.ages.length=n
 ptr:a.ptr < n
 ages:∀x ∈ a.ages,x<=1073741824
theorem newArb_ok {n:Nat} (h1:1<=n) (h2:n<=64):(newArb n).Ok n:=⟨h1,h2,by simp [newArb],h1,by simp [newArb]⟩
theorem firstReq_lt {req:List Bool} {ptr n:Nat} (hn:0 < n):∀ {k i c:Nat},firstReq req ptr n i k=some c->c < n/\req.getD c false=true
 |0,i,c,h=>by simp [firstReq] at h
 |k+1,i,c,h=>by
  unfold firstReq at h
  split at h
  ·rename_i hr
   obtain rfl:=Option.some.inj h
   exact ⟨Nat.mod_lt _ hn,hr⟩
  ·exact firstReq_lt hn h
def agesTo (a:Arb) (req:List Bool) (ch:Option Nat) (j:Nat):List Nat:=
 (List.range req.length).map fun i=>if i < j then (if req.getD i false=true/\some i≠ch then min (a.ages.getD i 0+1) 1073741824 else 0) else a.ages.getD i 0
theorem agesTo_zero {a:Arb} {req:List Bool} (ch:Option Nat) (h:a.ages.length=req.length):agesTo a req ch 0=a.ages:=by
 apply List.ext_getElem
 ·simp [agesTo,h]
 ·intro i h1 h2
  simp [agesTo,List.getD,h2]
theorem agesTo_all (a:Arb) (req:List Bool):agesTo a req (a.choice req) req.length=(a.pick req).2.ages:=by
 unfold agesTo Arb.pick
 refine List.map_congr_left fun i hi=>?_
 rw [if_pos (by simpa using hi)]
theorem agesTo_get {a:Arb} {req:List Bool} {ch:Option Nat} {j i:Nat} (hi:i < req.length) (hj:j<=i):(agesTo a req ch j)[i]? = some (a.ages.getD i 0):=by
 unfold agesTo
 rw [List.getElem?_map,List.getElem?_range hi,Option.map_some,if_neg (by omega)]
theorem agesTo_set {a:Arb} {req:List Bool} {ch:Option Nat} {j x:Nat} (hx:x=if req.getD j false=true/\some j≠ch then min (a.ages.getD j 0+1) 1073741824 else 0):(agesTo a req ch j).set j x=agesTo a req ch (j+1):=by
 apply List.ext_getElem?
 intro i
 rw [List.getElem?_set]
 unfold agesTo
 by_cases hij:j=i
 ·subst hij
  rw [if_pos rfl]
  by_cases hl:j < req.length
  ·rw [if_pos (by simpa using hl),List.getElem?_map,List.getElem?_range hl,Option.map_some,if_pos (by omega),hx]
  ·rw [if_neg (by simpa using hl),List.getElem?_map,List.getElem?_eq_none (by simp;omega)];rfl
 ·rw [if_neg hij,List.getElem?_map,List.getElem?_map]
  by_cases hl:i < req.length
  ·rw [List.getElem?_range hl,Option.map_some,Option.map_some]
   by_cases h:i < j
   ·simp only [if_pos h,if_pos (show i < j+1 by omega)]
   ·simp only [if_neg h,if_neg (show ¬i < j+1 by omega)]
  ·rw [List.getElem?_eq_none (by simp;omega)];rfl
theorem Arb.Ok.pick {a:Arb} {req:List Bool} (h:a.Ok req.length):(a.pick req).2.Ok req.length:=by
 obtain ⟨h1,h2,h3,h4,h5⟩:=h
 refine ⟨h1,h2,by simp [Arb.pick],?_,fun x hx=>?_⟩
 ·unfold Arb.pick;dsimp only
  split
  ·exact Nat.mod_lt _ h1
  ·exact h4
 ·unfold Arb.pick at hx
  obtain ⟨i,_,rfl⟩:=List.mem_map.1 hx
  split
  ·exact Nat.min_le_right _ _
  ·omega
def chNum:Option Nat->Int
 |some c=>(c:Int)
 |none => -1
set_option maxRecDepth 100000 in
theorem pick_h {F Z:BS} {W w:World} {ts:List Th} {p:Nat} {a:Arb} {T:TypeId} {rv:Value} {req:List Bool} (h:dY F Z W ts w) (i j:Nat) (hi:ts[i]? = some (tArb p a)) (hj:ts[j]? = some (tSq eBool T rv req)) (hij:j≠i) (hok:a.Ok req.length) :
  Calls Try.prog 67 #[.pointer (some ⟨p,0,none⟩),rv] w fun e w'=>e=.returned (.tuple #[.int .i64 (chNum (a.pick req).1),.bool (a.pick req).1.isSome])/\dY F Z W (ts.set i (tArb p (a.pick req).2)) w':=by
 obtain ⟨G,Y,hon,hd,_,hoth,hback⟩:=h.use i hi
 obtain ⟨H,hGH,_,hreq⟩:=hoth j _ hij hj
 suffices hs:Calls Try.prog 67 #[.pointer (some ⟨p,0,none⟩),rv] w fun e w'=>e=.returned (.tuple #[.int .i64 (chNum (a.pick req).1),.bool (a.pick req).1.isSome])/\dY G Y w [tArb p (a.pick req).2] w' by
  refine hs.mono fun e w' ⟨he,hh⟩=>⟨he,?_⟩
  have:=hback w' _ [] hh.did
  rwa [List.append_nil] at this
 clear hback hoth h
 obtain ⟨v,hh⟩:=dY.opens (dY.start1 hon hd)
 obtain ⟨n1,n2,hal,hpt,hag⟩:=hok
 have hn1:0 < req.length:=n1
 have hage:=fun k=>show a.ages.getD k 0<=1073741824 from by
  rw [List.getD]
  cases hk:a.ages[k]? with
  |none=>simp
  |some x=>exact hag x (List.mem_of_getElem? hk)
 have hreq':=hreq
 obtain ⟨K,D,us,_,_,_,hsl,_⟩:=hreq'
 obtain ⟨rb,ro,rc,rfl,_,hrc⟩:=hsl.head hn1
 obtain ⟨_,hrH,hrl,_⟩:=Sq.free hreq
 have hrc2:rc<=9223372036854775807:=by obtain ⟨_,_,cap,e,_,h,_⟩:=hsl.rd;obtain ⟨_,rfl⟩:_/\rc=cap:=(by simpa using e);exact h
 have hrG:¬G rb:=fun g=>hGH rb g hrH
 have HRQ:=aQ (fun k (hk:k < req.length)=>show w.cell? ⟨rb,ro+k,none⟩=some (.bool (req.getD k false)) from by
  have:=bool_cell hreq (List.getElem?_eq_getElem hk)
  simpa [List.getD,hk] using this)
 clear hsl hreq hi hj hij hd hGH hon
 obtain ⟨av,ac,rfl⟩:∃av ac,v=.slice av a.ages.length ac:=by obtain ⟨_,_,h⟩:=hh.get 1 rfl;exact Sq.shape h
 obtain ⟨ab,ao,rfl⟩:∃ab ao,av=some ⟨ab,ao,none⟩:=by
  obtain ⟨_,_,K,D,us,_,_,_,h,_⟩:=hh.get 1 rfl
  obtain ⟨g,off,cap,e,_⟩:=Sl.head h (by omega)
  exact ⟨g,off,by simpa using (by simpa using e:_/\_).1⟩
 have hac:req.length<=ac/\ac<=9223372036854775807:=by
  obtain ⟨_,_,h⟩:=hh.get 1 rfl
  obtain ⟨_,cap,e,h1,h2,_⟩:=Sq.le h
  obtain ⟨_,rfl⟩:_/\ac=cap:=by simpa using e
  exact ⟨by omega,h2⟩
 obtain ⟨hac1,hac2⟩:=hac
 have HAL:=aQ hal
 rw [hal] at hh
 have HH:=aQ hh
 have hrow:=hh.blk 0 rfl
 have c0:=aJ (i:=0) hrow rfl
 have c1:=aJ (i:=1) hrow rfl
 clear hh hrow hal hag
 have hz0:((req.length:Int) == 0)=false:=by rw [beq_eq_false_iff_ne];omega
 go_enter Try.func67,Try.ntmps67
 go_upto_block 0 with fail
 go_cut [7] from 34 to 51 (fun u7 wc=>u7=.int .i64 (chNum (a.choice req))/\wc=w)
 case first=>
  go_wp2_with fail
  go_loop [35,7,8,9] (fun i c _ _=>∃k:Nat,k<=req.length/\i=.int .i64 (k:Int)/\c=.int .i64 (-1)/\Hid (firstReq req a.ptr req.length k (req.length - k)=a.choice req)) (fun i _ _ _=>req.length - (intOf i).toNat)
  case atStart=>exact ⟨0,Nat.zero_le _,rfl,rfl,aQ rfl⟩
  case round=>
   obtain ⟨k,hk,rfl,rfl,HC⟩:=hrel
   by_cases hlt:k < req.length
   ·have hkk:=HRQ.out ((a.ptr+k) % req.length) (Nat.mod_lt _ hn1)
    have hml:(a.ptr+k) % req.length < req.length:=Nat.mod_lt _ hn1
    obtain ⟨m,hm⟩:∃m,(a.ptr+k) % req.length=m:=⟨_,rfl⟩
    rw [hm] at hkk hml
    have hmz:((a.ptr:Int)+(k:Int)) % (req.length:Int)=(m:Int):=by rw [<-hm];push_cast;rfl
    have HM:=aQ hm
    clear hm
    cases hb:req.getD m false with
    |true=>
     have HB:=aQ hb
     rw [hb] at hkk
     clear hb
     have HCH:=aQ (show a.choice req=some m by
      rw [<-HC.out,show req.length - k=(req.length - k - 1)+1 by omega]
      unfold firstReq
      rw [HM.out,if_pos HB.out])
     go_wp2_with fail
     go_meet
     exact ⟨by rw [HCH.out];rfl,rfl⟩
    |false=>
     have HB:=aQ hb
     rw [hb] at hkk
     clear hb
     go_wp2_with fail
     go_round
     case rel=>
      refine ⟨k+1,by omega,by go_num,rfl,aQ ?_⟩
      rw [<-HC.out,show req.length - k=(req.length - (k+1))+1 by omega]
      conv=>rhs;unfold firstReq
      rw [HM.out,if_neg (by rw [HB.out];decide)]
     case measure=>simp [intOf];omega
   ·obtain rfl:req.length=k:=by omega
    have HCH:=aQ (show a.choice req=none by rw [<-HC.out,Nat.sub_self];rfl)
    go_wp2_with fail
    go_meet
    exact ⟨by rw [HCH.out];rfl,rfl⟩
 case rest=>
  obtain ⟨rfl,rfl⟩:=hcut
  obtain ⟨ch,hch⟩:∃ch,ch=a.choice req:=⟨_,rfl⟩
  have HCH:=aQ hch
  have hcl:=fun c (e:ch=some c)=>(firstReq_lt hn1 (show firstReq req a.ptr req.length 0 req.length=some c from by rw [<-e,hch];rfl)).1
  rw [<-hch]
  clear hch
  go_wp2_with fail
  go_loopw [54,10,11] (fun i _ _ wr=>∃k:Nat,k<=req.length/\i=.int .i64 (k:Int)/\Hid (dY G Y wc [dJ p (arbRow a (.slice (some ⟨ab,ao,none⟩) req.length ac)),tSq dK 3 (.slice (some ⟨ab,ao,none⟩) req.length ac) (agesTo a req ch k)] wr)) (fun i _ _ _=>req.length - (intOf i).toNat)
  case atStart=>exact ⟨0,Nat.zero_le _,rfl,aQ (by rw [agesTo_zero ch HAL.out];exact HH.out)⟩
  case round=>
   clear c0 c1
   obtain ⟨k,hk,rfl,HK⟩:=hrel
   by_cases hlt:k < req.length
   ·have hrow:=HK.out.blk 0 rfl
    have c1:=aJ (i:=1) hrow rfl
    have hkk:wr.cell? ⟨rb,ro+k,none⟩=some (.bool (req.getD k false)):=(World.cell?_of_block (HK.out.fr.block rb hrl hrG)).trans (HRQ.out k hlt)
    obtain ⟨_,_,hsq⟩:=HK.out.get 1 rfl
    have hfr:=(Sq.free hsq).2.2.2
    have hck:=nat_cell hsq (agesTo_get hlt (Nat.le_refl k))
    have hge:=hage k
    obtain ⟨x,hx⟩:∃x,x=a.ages.getD k 0:=⟨_,rfl⟩
    rw [<-hx] at hck hge
    have HX:=aQ hx
    have HSTEP:=aQ (fun (y:Nat) (hy:y=if req.getD k false=true/\some k≠ch then min (a.ages.getD k 0+1) 1073741824 else 0)=>
     show dY G Y wc [dJ p (arbRow a (.slice (some ⟨ab,ao,none⟩) req.length ac)),tSq dK 3 (.slice (some ⟨ab,ao,none⟩) req.length ac) (agesTo a req ch (k+1))] (wr.setCell ⟨ab,ao+k,none⟩ (.int .i64 (y:Int))) from by
      have:=HK.out.put pure_nat 1 rfl (c:=k) (j:=0) (a:=x) (a':=y) (u:=.int .i64 (y:Int)) (by rw [HX.out];exact agesTo_get hlt (Nat.le_refl k)) (by decide) rfl
      rw [agesTo_set hy] at this
      simpa [dK] using this)
    clear hsq hrow hx
    by_cases hpc:req.getD k false=true/\some k≠ch
    ·have hb1:=hpc.1
     have hb2:((k:Int) != chNum ch)=true:=by
      cases ch with
      |none=>simp [chNum]
      |some c=>
       have:k≠c:=fun e=>hpc.2 (by rw [e])
       simp [chNum];omega
     rw [hb1] at hkk
     obtain ⟨m,hm⟩:∃m,min (x+1) 1073741824=m:=⟨_,rfl⟩
     have hmi:min ((x:Int)+1) 1073741824=(m:Int):=by rw [<-hm,<-min_cast];simp
     have HS:=aQ (HSTEP.out m (by rw [if_pos hpc,<-HX.out,hm]))
     have HX1:=hge
     clear hb1 hpc HSTEP hm
     go_wp2_with fail
     have hwr:IntKind.i64.wrap ((x:Int)+1)=(x:Int)+1:=IntWalk.i64_in _ (by omega)
     refine wp_region_still_tail 15 (by kernel_rfl) (by kernel_rfl) ?_
     simp only [List.take_succ_cons,List.take_zero,List.drop_succ_cons,List.drop_zero]
     change wpStill _ _ (World.drew _) (fun a'=>wpList _ _ _ _ a' (World.drew _)) _ _
     repeat still_step
     refine wpStill_nil ?_
     go_wp2_with fail
     go_roundw
     case rel=>exact ⟨k+1,by omega,by go_num,aQ HS.out.drew⟩
     case measure=>simp [intOf];omega
    ·have HS:=aQ (HSTEP.out 0 (by rw [if_neg hpc]))
     cases hb:req.getD k false with
     |false=>
      rw [hb] at hkk
      clear hb hpc HSTEP
      go_wp2_with fail
      go_roundw
      case rel=>exact ⟨k+1,by omega,by go_num,HS⟩
      case measure=>simp [intOf];omega
     |true=>
      have hb2:((k:Int) != chNum ch)=false:=by
       have:some k=ch:=Decidable.byContradiction fun e=>hpc ⟨hb,e⟩
       rw [<-this];simp [chNum]
      rw [hb] at hkk
      clear hb hpc HSTEP
      go_wp2_with fail
      go_roundw
      case rel=>exact ⟨k+1,by omega,by go_num,HS⟩
      case measure=>simp [intOf];omega
   ·obtain rfl:req.length=k:=by omega
    have hrow:=HK.out.blk 0 rfl
    have c0:=aJ (i:=0) hrow rfl
    have cf:=fun j=>aD hrow j
    have HROW:=aQ hrow
    clear hrow
    have HPK:=aQ (show (a.pick req).1=ch by rw [HCH.out];rfl)
    have HAG:=aQ (show agesTo a req ch req.length=(a.pick req).2.ages by rw [HCH.out];exact agesTo_all a req)
    have HPL:=aQ (show (a.pick req).2.ages.length=req.length by simp [Arb.pick])
    cases ch with
    |none=>
     have HPT:=aQ (show (a.pick req).2.ptr=a.ptr by show (match a.choice req with|some c=>(c+1) % req.length|none=>a.ptr)=_;rw [<-HCH.out])
     go_wp2_with fail
     go_ret2
     refine ⟨by rw [HPK.out];rfl,dY.shut (f:=fun v:Value=>[dJ p (arbRow (a.pick req).2 v),tSq dK 3 v (a.pick req).2.ages]) (i:=.slice (some ⟨ab,ao,none⟩) req.length ac) (ts:=[]) ?_⟩
     rw [<-HAG.out,arbRow,HPT.out]
     exact HK.out
    |some c=>
     have hc:=hcl c rfl
     have HPT:=aQ (show (a.pick req).2.ptr=(c+1) % req.length by show (match a.choice req with|some c=>(c+1) % req.length|none=>a.ptr)=_;rw [<-HCH.out])
     have hch:chNum (some c)=(c:Int):=rfl
     have HCN:=aQ hch
     rw [hch]
     clear hch hcl
     go_wp2_with fail
     go_ret2
     refine ⟨by rw [HPK.out];rfl,dY.shut (f:=fun v:Value=>[dJ p (arbRow (a.pick req).2 v),tSq dK 3 v (a.pick req).2.ages]) (i:=.slice (some ⟨ab,ao,none⟩) req.length ac) (ts:=[]) ?_⟩
     rw [<-HAG.out,arbRow,HPT.out]
     have:=HK.out.set 0 rfl (.cells #[.int .i64 (((c+1) % req.length:Nat):Int),.slice (some ⟨ab,ao,none⟩) req.length ac] 112) (w':=wr.setCell ⟨p,0,none⟩ (.int .i64 (((c:Int)+1) % (req.length:Int)))) (by (repeat (first|(with_reducible (first|exact Fr.refl _ _|refine Fr.setCell ?_ ?_ _|refine Fr.drewN ?_ _|refine Fr.drew ?_))|exact Or.inl rfl))) (by (apply aS;focus (with_reducible (repeat (first|exact HROW.out|apply aU|apply aP|apply aF))));push_cast;rfl)
     exact this
end

section
open Go.RowKit
def givC (g:Giv):List Value:=[.int .i64 (g.room:Int),.int .i64 (g.aW:Int),.int .i64 (g.cI:Int)]
def takC (t:Tak):List Value:=[.int .i64 (t.cP:Int),.int .i64 (t.cE:Int)]
def eGiv:El Giv:=ePure 3 givC (fun _=>rfl) fun a u hu=>by simp [givC] at hu;rcases hu with rfl|rfl|rfl <;> rfl
def eTak:El Tak:=ePure 2 takC (fun _=>rfl) fun a u hu=>by simp [takC] at hu;rcases hu with rfl|rfl <;> rfl
theorem pure_giv:Pure eGiv givC:=fun _ _ _ _ _=>Iff.rfl
theorem pure_tak:Pure eTak takC:=fun _ _ _ _ _=>Iff.rfl
def tGiv (p:Nat) (gs:List Giv):Th:=tEx fun v:Value=>[dJ p (.cells #[v] 145),tSq eGiv 139 v gs]
def tTak (p:Nat) (ts:List Tak):Th:=tEx fun v:Value=>[dJ p (.cells #[v] 142),tSq eTak 152 v ts]
theorem giv_cells {T:TypeId} {w:World} {F Z:BS} {b off n cap:Nat} {gs:List Giv} (h:Sq eGiv T w F Z (.slice (some ⟨b,off,none⟩) n cap) gs) {c:Nat} {g:Giv} (hc:gs[c]? = some g) :
  w.cell? ⟨b,off+c*3,none⟩=some (.int .i64 (g.room:Int))/\w.cell? ⟨b,off+c*3+1,none⟩=some (.int .i64 (g.aW:Int))/\w.cell? ⟨b,off+c*3+2,none⟩=some (.int .i64 (g.cI:Int)):=
 ⟨pure_cell pure_giv h hc (j:=0) rfl,pure_cell pure_giv h hc (j:=1) rfl,pure_cell pure_giv h hc (j:=2) rfl⟩
theorem tak_cells {T:TypeId} {w:World} {F Z:BS} {b off n cap:Nat} {gs:List Tak} (h:Sq eTak T w F Z (.slice (some ⟨b,off,none⟩) n cap) gs) {c:Nat} {g:Tak} (hc:gs[c]? = some g) :
  w.cell? ⟨b,off+c*2,none⟩=some (.int .i64 (g.cP:Int))/\w.cell? ⟨b,off+c*2+1,none⟩=some (.int .i64 (g.cE:Int)):=
 ⟨pure_cell pure_tak h hc (j:=0) rfl,pure_cell pure_tak h hc (j:=1) rfl⟩
theorem bR {α : Type} {E:El α} {T:TypeId} {w:World} {F Z:BS} {v:Value} {xs:List α} (h:Sq E T w F Z v xs) (h0:0 < xs.length):∃b off cap,v=.slice (some ⟨b,off,none⟩) xs.length cap/\xs.length<=cap/\cap<=9223372036854775807:=by
 obtain ⟨a,cap,rfl,h1,h2,h3⟩:=h.le
 obtain ⟨K,D,us,_,_,_,h4,_⟩:=h
 obtain ⟨g,off,cap',e,_⟩:=h4.head h0
 obtain ⟨rfl,rfl⟩:a=some ⟨g,off,none⟩/\cap=cap':=by simpa using e
 exact ⟨g,off,cap,rfl,h1,h2⟩
theorem limF_any (a b c:Nat) (w:World) (ha:a<=4000000000000) (hc:c<=4000000000000) :
  Calls Try.prog 64 #[.agg #[.int .i64 (a:Int),.int .i64 (b:Int),.int .i64 (c:Int)]] w fun e w'=>e=.returned (.int .i64 ((a:Int)+(c:Int)))/\Below w.heap.size w w':=by
 go_enter Try.func64,Try.ntmps64
 go_wp2_with fail
 go_ret
 exact ⟨rfl,by (with_reducible (repeat (first|exact Below.refl _ _|refine Bw.alloc ?_ _|refine Bw.drewN ?_ _|refine Bw.drew ?_)))⟩
set_option maxRecDepth 100000 in
theorem withG_any (p b off n cap c fn:Nat) (caps:Array Value) (w:World) (R:Int->World->Prop) (hrow:w.heap[p]? = some (.cells #[.slice (some ⟨b,off,none⟩) n cap] 145)) (hc:c < n) (_:n<=4)
  (hf:∀args w,Sem.run Try.prog (callFunc fn args) w=.ok (.enter fn args) w)
  (hk:Calls Try.prog fn (#[.pointer (some ⟨b,off+c*3,none⟩)]++caps) w fun e w'=>∃m,e=.returned (.int .i64 m)/\R m w') :
  Calls Try.prog 62 #[.pointer (some ⟨p,0,none⟩),.int .i64 (c:Int),.func (.func fn) #[] caps] w fun e w'=>∃m,e=.returned (.int .i64 m)/\R m w':=by
 have c0:=aJ (i:=0) hrow rfl
 clear hrow
 have HK:=aQ hk
 have HF:=aQ hf
 clear hk hf
 go_enter Try.func62,Try.ntmps62
 go_wp2_with fail
 rw [HF.out,Oper.upon_enter]
 refine HK.out.mono ?_
 rintro e w' ⟨m,rfl,hr⟩
 have HR:=aQ hr
 clear hr
 go_wp2_with fail
 go_ret
 exact ⟨m,rfl,HR.out⟩
set_option maxRecDepth 100000 in
theorem withT_any (p b off n cap c fn:Nat) (caps:Array Value) (w:World) (R:Int->World->Prop) (hrow:w.heap[p]? = some (.cells #[.slice (some ⟨b,off,none⟩) n cap] 142)) (hc:c < n) (_:n<=4)
  (hf:∀args w,Sem.run Try.prog (callFunc fn args) w=.ok (.enter fn args) w)
  (hk:Calls Try.prog fn (#[.pointer (some ⟨b,off+c*2,none⟩)]++caps) w fun e w'=>∃m,e=.returned (.int .i64 m)/\R m w') :
  Calls Try.prog 85 #[.pointer (some ⟨p,0,none⟩),.int .i64 (c:Int),.func (.func fn) #[] caps] w fun e w'=>∃m,e=.returned (.int .i64 m)/\R m w':=by
 have c0:=aJ (i:=0) hrow rfl
 clear hrow
 have HK:=aQ hk
 have HF:=aQ hf
 clear hk hf
 go_enter Try.func85,Try.ntmps85
 go_wp2_with fail
 rw [HF.out,Oper.upon_enter]
 refine HK.out.mono ?_
 rintro e w' ⟨m,rfl,hr⟩
 have HR:=aQ hr
 clear hr
 go_wp2_with fail
 go_ret
 exact ⟨m,rfl,HR.out⟩
end

section
open Go.RowKit
set_option maxRecDepth 100000 in
theorem limitC_any (b o x a d f:Nat) (w:World) (g0:w.cell? ⟨b,o,none⟩=some (.int .i64 (a:Int))) (g1:w.cell? ⟨b,o+1,none⟩=some (.int .i64 (d:Int))) (g2:w.cell? ⟨b,o+2,none⟩=some (.int .i64 (f:Int)))
  (h1:a<=4000000000000) (h2:f<=4000000000000) (hx:w.heap[x]? = some (.cells #[.int .i64 0] 3)) :
  Calls Try.prog 63 #[.pointer (some ⟨b,o,none⟩),.pointer (some ⟨x,0,none⟩)] w fun e w'=>∃m,e=.returned (.int .i64 m)/\w'.heap[x]? = some (.cells #[.int .i64 ((a:Int)+(f:Int))] 3)/\Fr (fun k=>k=x) w w':=by
 have HX:=aQ hx
 clear hx
 go_enter Try.func63,Try.ntmps63
 go_wp2_with fail
 refine (limF_any a d f w h1 h2).mono ?_
 rintro e w1 ⟨rfl,hb⟩
 have hx1:=(hb.block x (lt_of_block HX.out)).trans HX.out
 have HB:=aQ hb
 have c0:=aJ (i:=0) hx1 rfl
 have cf:=fun j=>aD hx1 j
 have HX1:=aQ hx1
 clear hb hx1 g0 g1 g2
 go_wp2_with fail
 go_ret
 exact ⟨_,rfl,by (apply aS;focus (with_reducible (repeat (first|exact HX1.out|apply aU|apply aP|apply aF))));rfl,Fr.setCell (F:=fun k=>k=x) (p:=⟨x,0,none⟩) (Fr.of_below (Fr.refl _ _) HB.out) (Or.inl rfl) _⟩
set_option maxRecDepth 100000 in
theorem limit_any {w:World} {G Y:BS} {p:Nat} {gs:List Giv} (h:(tGiv p gs).on w G Y) (hgs:gs.length<=4) {c:Nat} {g:Giv} (hc:gs[c]? = some g) (h1:g.room<=4000000000000) (h2:g.cI<=4000000000000) :
  Calls Try.prog 37 #[.pointer (some ⟨p,0,none⟩),.int .i64 (c:Int)] w fun e w'=>e=.returned (.int .i64 ((g.room:Int)+(g.cI:Int)))/\Below w.heap.size w w':=by
 have hmf:∀(fn:Fn) (first cap:Array Value) (w:World),(Instr.makeFunc fn first cap).run Try.prog w=.ok (.func fn first cap) w:=fun _ _ _ _=>rfl
 have hlt:=aA hc
 obtain ⟨v,hst⟩:=h
 have hrow:=(hst.get (i:=0) rfl).1
 have hsq:=hst.get (i:=1) rfl
 obtain ⟨b,off,cap,rfl,hcap,hcm⟩:=bR hsq (by omega)
 obtain ⟨g0,g1,g2⟩:=giv_cells hsq hc
 have hpl:=lt_of_block hrow
 have hbl:=(Sq.free hsq).2.2.1
 have HROW:=aQ hrow
 clear hst hsq hrow hc
 go_enter Try.func37,Try.ntmps37
 go_wp2_with fail
 have hba:=aK w (.cells #[.int .i64 0] 3)
 refine (withG_any p b off gs.length cap c 63 #[.pointer (some ⟨w.heap.size,0,none⟩)] _ _ ((hba.block p hpl).trans HROW.out) hlt hgs (fun _ _=>rfl)
  (limitC_any b (off+c*3) w.heap.size g.room g.aW g.cI _ ((World.cell?_of_block (hba.block b hbl)).trans g0) ((World.cell?_of_block (hba.block b hbl)).trans g1) ((World.cell?_of_block (hba.block b hbl)).trans g2) h1 h2 (heap_alloc_new w _))).mono ?_
 rintro e w1 ⟨m,rfl,hx1,hf⟩
 have HB:=aQ (show Below w.heap.size w w1 from ((Fr.refl _ _).of_below hba |>.trans hf fun k hk=>.inl hk).below (B:=w.heap.size) (Nat.le_refl _) fun k hk=>by have hk':k=w.heap.size:=hk;omega)
 have c0:=aJ (i:=0) hx1 rfl
 clear hx1 hf hba g0 g1 g2
 go_wp2_with fail
 go_ret
 exact ⟨rfl,HB.out⟩
def Put1 (b o:Nat) (u:Value) (w:World) (m:Int) (r:Int) (w':World):Prop:=r=m/\∃w1,Below w.heap.size w w1/\w'=w1.setCell ⟨b,o,none⟩ u
def Put0 (w:World) (m:Int) (r:Int) (w':World):Prop:=r=m/\Below w.heap.size w w'
set_option maxRecDepth 100000 in
theorem receiveC_yes (b o a d f:Nat) (w:World) (g0:w.cell? ⟨b,o,none⟩=some (.int .i64 (a:Int))) (g1:w.cell? ⟨b,o+1,none⟩=some (.int .i64 (d:Int))) (g2:w.cell? ⟨b,o+2,none⟩=some (.int .i64 (f:Int))) (gf:∀j,w.frozen? ⟨b,j,none⟩=false)
  (h1:a<=4000000000000) (h2:f<=4000000000000) (h3:d<=4000000000000) (hd:d < a+f) :
  Calls Try.prog 79 #[.pointer (some ⟨b,o,none⟩)] w fun e w'=>∃m,e=.returned (.int .i64 m)/\Put1 b (o+1) (.int .i64 ((d:Int)+1)) w 0 m w':=by
 have hbl:=World.block_lt_of_cell? w _ g0
 dsimp only at hbl
 have hlt:decide ((d:Int)>=(a:Int)+(f:Int))=false:=by simp;omega
 have hle:decide ((a:Int)+(f:Int)<=(d:Int))=false:=by simp;omega
 clear hd
 go_enter Try.func79,Try.ntmps79
 go_wp2_with fail
 go_region_held3 (fun w'=>w'.cell? ⟨b,o,none⟩=some (.int .i64 (a:Int))/\w'.cell? ⟨b,o+1,none⟩=some (.int .i64 (d:Int))/\w'.cell? ⟨b,o+2,none⟩=some (.int .i64 (f:Int))) (first|exact ⟨g0,g1,g2⟩|exact HS1.out)
  ((go_at_call 64;refine (limF_any a d f _ h1 h2).mono ?_;rintro e w1 ⟨rfl,hb⟩;have HB:=aQ hb;have HS1:=aQ (show w1.cell? ⟨b,o,none⟩=some (.int .i64 (a:Int))/\w1.cell? ⟨b,o+1,none⟩=some (.int .i64 (d:Int))/\w1.cell? ⟨b,o+2,none⟩=some (.int .i64 (f:Int)) from ⟨(World.cell?_of_block (hb.block b hbl)).trans g0,(World.cell?_of_block (hb.block b hbl)).trans g1,(World.cell?_of_block (hb.block b hbl)).trans g2⟩);clear hb))
 clear g0 g1 g2
 obtain ⟨g0,g1,g2⟩:=HS1.out
 have gf1:∀j,w1.frozen? ⟨b,j,none⟩=false:=fun j=>(HB.out.frozen (p:=⟨b,j,none⟩) hbl).trans (gf j)
 clear gf
 go_wp2_with fail
 go_ret
 exact ⟨_,rfl,rfl,w1,(bS w 1).trans HB.out,rfl⟩
set_option maxRecDepth 100000 in
theorem receiveC_no (b o a d f:Nat) (w:World) (g0:w.cell? ⟨b,o,none⟩=some (.int .i64 (a:Int))) (g1:w.cell? ⟨b,o+1,none⟩=some (.int .i64 (d:Int))) (g2:w.cell? ⟨b,o+2,none⟩=some (.int .i64 (f:Int)))
  (h1:a<=4000000000000) (h2:f<=4000000000000) (hd:¬d < a+f) :
  Calls Try.prog 79 #[.pointer (some ⟨b,o,none⟩)] w fun e w'=>∃m,e=.returned (.int .i64 m)/\Put0 w 5 m w':=by
 have hbl:=World.block_lt_of_cell? w _ g0
 dsimp only at hbl
 have hlt:decide ((d:Int)>=(a:Int)+(f:Int))=true:=by simp;omega
 have hle:decide ((a:Int)+(f:Int)<=(d:Int))=true:=by simp;omega
 clear hd
 go_enter Try.func79,Try.ntmps79
 go_wp2_with fail
 go_region_held3 (fun w'=>w'.cell? ⟨b,o,none⟩=some (.int .i64 (a:Int))/\w'.cell? ⟨b,o+1,none⟩=some (.int .i64 (d:Int))/\w'.cell? ⟨b,o+2,none⟩=some (.int .i64 (f:Int))) (first|exact ⟨g0,g1,g2⟩|exact HS1.out)
  ((go_at_call 64;refine (limF_any a d f _ h1 h2).mono ?_;rintro e w1 ⟨rfl,hb⟩;have HB:=aQ hb;have HS1:=aQ (show w1.cell? ⟨b,o,none⟩=some (.int .i64 (a:Int))/\w1.cell? ⟨b,o+1,none⟩=some (.int .i64 (d:Int))/\w1.cell? ⟨b,o+2,none⟩=some (.int .i64 (f:Int)) from ⟨(World.cell?_of_block (hb.block b hbl)).trans g0,(World.cell?_of_block (hb.block b hbl)).trans g1,(World.cell?_of_block (hb.block b hbl)).trans g2⟩);clear hb))
 clear g0 g1 g2
 go_wp2_with fail
 go_ret
 exact ⟨_,rfl,rfl,(bS w 1).trans HB.out⟩
set_option maxRecDepth 100000 in
theorem freeC_yes (b o d f:Nat) (w:World) (g1:w.cell? ⟨b,o+1,none⟩=some (.int .i64 (d:Int))) (g2:w.cell? ⟨b,o+2,none⟩=some (.int .i64 (f:Int))) (gf:∀j,w.frozen? ⟨b,j,none⟩=false) (h3:d<=4000000000000) (hd:f < d) :
  Calls Try.prog 78 #[.pointer (some ⟨b,o,none⟩)] w fun e w'=>∃m,e=.returned (.int .i64 m)/\Put1 b (o+2) (.int .i64 ((f:Int)+1)) w 0 m w':=by
 have hle:decide (d<=f)=false:=by simp;omega
 go_enter Try.func78,Try.ntmps78
 go_wp2_with fail
 go_quiet (fail)
 go_wp2_with fail
 go_ret
 exact ⟨_,rfl,rfl,_,bS w _,rfl⟩
set_option maxRecDepth 100000 in
theorem freeC_no (b o d f:Nat) (w:World) (g1:w.cell? ⟨b,o+1,none⟩=some (.int .i64 (d:Int))) (g2:w.cell? ⟨b,o+2,none⟩=some (.int .i64 (f:Int))) (hd:¬f < d) :
  Calls Try.prog 78 #[.pointer (some ⟨b,o,none⟩)] w fun e w'=>∃m,e=.returned (.int .i64 m)/\Put0 w 7 m w':=by
 have hle:decide (d<=f)=true:=by simp;omega
 go_enter Try.func78,Try.ntmps78
 go_wp2_with fail
 go_quiet (fail)
 go_wp2_with fail
 go_ret
 exact ⟨_,rfl,rfl,bS w _⟩
end

section
open Go.RowKit
set_option maxRecDepth 100000 in
theorem raiseC_no (b o x:Nat) (l:Int) (w:World) (hx:w.heap[x]? = some (.cells #[.int .i64 l] 3)) (hl:l < 0\/1099511627776 < l) :
  Calls Try.prog 90 #[.pointer (some ⟨b,o,none⟩),.pointer (some ⟨x,0,none⟩)] w fun e w'=>∃m,e=.returned (.int .i64 m)/\Put0 w 2 m w':=by
 have c0:=aJ (i:=0) hx rfl
 clear hx
 have hl':l < 0\/(0<=l/\1099511627776 < l):=by omega
 clear hl
 rcases hl' with h1|⟨h1,h2⟩
 all_goals
  go_enter Try.func90,Try.ntmps90
  go_wp2_with fail
  go_ret
  exact ⟨_,rfl,rfl,Below.refl _ _⟩
set_option maxRecDepth 100000 in
theorem raiseC_yes (b o x t l:Nat) (w:World) (g1:w.cell? ⟨b,o+1,none⟩=some (.int .i64 (t:Int))) (gf:∀j,w.frozen? ⟨b,j,none⟩=false) (hx:w.heap[x]? = some (.cells #[.int .i64 (l:Int)] 3)) (hl:l<=1099511627776) :
  Calls Try.prog 90 #[.pointer (some ⟨b,o,none⟩),.pointer (some ⟨x,0,none⟩)] w fun e w'=>∃m,e=.returned (.int .i64 m)/\Put1 b (o+1) (.int .i64 ((max t l:Nat):Int)) w 0 m w':=by
 have c0:=aJ (i:=0) hx rfl
 clear hx
 obtain ⟨mx,hmx⟩:∃mx,max t l=mx:=⟨_,rfl⟩
 have hmi:max (t:Int) (l:Int)=(mx:Int):=by omega
 rw [hmx]
 have hl1:(l:Int)<=1099511627776:=by omega
 clear hmx
 go_enter Try.func90,Try.ntmps90
 go_wp2_with fail
 refine wp_region_still_tail 9 (by kernel_rfl) (by kernel_rfl) ?_
 simp only [List.take_succ_cons,List.take_zero,List.drop_succ_cons,List.drop_zero]
 change wpStill _ _ (World.drew _) (fun a'=>wpList _ _ _ _ a' (World.drew _)) _ _
 repeat still_step
 refine wpStill_nil ?_
 go_wp2_with fail
 go_ret
 exact ⟨_,rfl,rfl,w.drew,bS w 1,rfl⟩
set_option maxRecDepth 100000 in
theorem takeC_yes (b o t l:Nat) (w:World) (g0:w.cell? ⟨b,o,none⟩=some (.int .i64 (t:Int))) (g1:w.cell? ⟨b,o+1,none⟩=some (.int .i64 (l:Int))) (gf:∀j,w.frozen? ⟨b,j,none⟩=false) (h3:l<=4000000000000) (hd:t < l) :
  Calls Try.prog 87 #[.pointer (some ⟨b,o,none⟩)] w fun e w'=>∃m,e=.returned (.int .i64 m)/\Put1 b o (.int .i64 ((t:Int)+1)) w 0 m w':=by
 have hle:decide (l<=t)=false:=by simp;omega
 go_enter Try.func87,Try.ntmps87
 go_wp2_with fail
 go_quiet (fail)
 go_wp2_with fail
 go_ret
 exact ⟨_,rfl,rfl,_,bS w _,rfl⟩
set_option maxRecDepth 100000 in
theorem takeC_no (b o t l:Nat) (w:World) (g0:w.cell? ⟨b,o,none⟩=some (.int .i64 (t:Int))) (g1:w.cell? ⟨b,o+1,none⟩=some (.int .i64 (l:Int))) (hd:¬t < l) :
  Calls Try.prog 87 #[.pointer (some ⟨b,o,none⟩)] w fun e w'=>∃m,e=.returned (.int .i64 m)/\Put0 w 5 m w':=by
 have hle:decide (l<=t)=true:=by simp;omega
 go_enter Try.func87,Try.ntmps87
 go_wp2_with fail
 go_quiet (fail)
 go_wp2_with fail
 go_ret
 exact ⟨_,rfl,rfl,bS w _⟩
set_option maxRecDepth 100000 in
theorem leftC_any (b o x t l:Nat) (w:World) (g0:w.cell? ⟨b,o,none⟩=some (.int .i64 (t:Int))) (g1:w.cell? ⟨b,o+1,none⟩=some (.int .i64 (l:Int))) (hx:w.heap[x]? = some (.cells #[.int .i64 0] 3)) (ht:t<=4000000000000) (hl:l<=4000000000000) :
  Calls Try.prog 86 #[.pointer (some ⟨b,o,none⟩),.pointer (some ⟨x,0,none⟩)] w fun e w'=>∃m,e=.returned (.int .i64 m)/\w'.heap[x]? = some (.cells #[.int .i64 ((l:Int) - (t:Int))] 3)/\Fr (fun k=>k=x) w w':=by
 have c0:=aJ (i:=0) hx rfl
 have cf:=fun j=>aD hx j
 have HX:=aQ hx
 clear hx
 go_enter Try.func86,Try.ntmps86
 go_wp2_with fail
 refine wp_region_still_tail 9 (by kernel_rfl) (by kernel_rfl) ?_
 simp only [List.take_succ_cons,List.take_zero,List.drop_succ_cons,List.drop_zero]
 change wpStill _ _ (World.drew _) (fun a'=>wpList _ _ _ _ a' (World.drew _)) _ _
 repeat still_step
 refine wpStill_nil ?_
 go_wp2_with fail
 go_ret
 exact ⟨_,rfl,by (apply aS;focus (with_reducible (repeat (first|exact HX.out|apply aU|apply aP|apply aF))));rfl,by (repeat (first|(with_reducible (first|exact Fr.refl _ _|refine Fr.setCell ?_ ?_ _|refine Fr.drewN ?_ _|refine Fr.drew ?_))|exact Or.inl rfl))⟩
end

section
open Go.RowKit
theorem set_same' {α : Type} {l:List α} {c:Nat} {a : α} (h:l[c]? = some a):l.set c a=l:=by
 apply List.ext_getElem?
 intro i
 rw [List.getElem?_set]
 split
 ·rename_i e;subst e;rw [if_pos (aA h),h]
 ·rfl
section
variable {F Z:BS} {W w:World} {ts:List Th} {p:Nat}
theorem giv_open {G Y:BS} {gs:List Giv} (h:(tGiv p gs).on w G Y) (hd:Dj G Y) {c:Nat} {g:Giv} (hc:gs[c]? = some g):∃b off cap,dY G Y w [dJ p (.cells #[.slice (some ⟨b,off,none⟩) gs.length cap] 145),tSq eGiv 139 (.slice (some ⟨b,off,none⟩) gs.length cap) gs] w /\
  w.heap[p]? = some (.cells #[.slice (some ⟨b,off,none⟩) gs.length cap] 145)/\(w.cell? ⟨b,off+c*3,none⟩=some (.int .i64 (g.room:Int))/\w.cell? ⟨b,off+c*3+1,none⟩=some (.int .i64 (g.aW:Int))/\w.cell? ⟨b,off+c*3+2,none⟩=some (.int .i64 (g.cI:Int)))/\∀j,w.frozen? ⟨b,j,none⟩=false:=by
 obtain ⟨v,hh⟩:=dY.opens (dY.start1 h hd)
 obtain ⟨_,_,hsq⟩:=hh.get 1 rfl
 obtain ⟨b,off,cap,rfl,_,_⟩:=bR hsq (by have:=aA hc;omega)
 exact ⟨b,off,cap,hh,hh.blk 0 rfl,giv_cells hsq hc,(Sq.free hsq).2.2.2⟩
theorem giv_did {G Y:BS} {gs:List Giv} {b off n cap:Nat} (h:dY G Y w [dJ p (.cells #[.slice (some ⟨b,off,none⟩) n cap] 145),tSq eGiv 139 (.slice (some ⟨b,off,none⟩) n cap) gs] w) {w1:World} (hb:Below w.heap.size w w1) {c j:Nat} {g g':Giv} {u:Value} (hc:gs[c]? = some g) (hj:j < 3) (he:(givC g).set j u=givC g') :
  Did w G Y [tGiv p (gs.set c g')] (w1.setCell ⟨b,off+(c*3+j),none⟩ u):=
 (dY.shut (f:=fun v:Value=>[dJ p (.cells #[v] 145),tSq eGiv 139 v (gs.set c g')]) (ts:=[]) ((h.own hb).put pure_giv 1 rfl hc hj he)).did
theorem giv_did0 {G Y:BS} {gs:List Giv} {v:Value} (h:dY G Y w [dJ p (.cells #[v] 145),tSq eGiv 139 v gs] w) {w1:World} (hb:Below w.heap.size w w1):Did w G Y [tGiv p gs] w1:=
 (dY.shut (f:=fun v:Value=>[dJ p (.cells #[v] 145),tSq eGiv 139 v gs]) (ts:=[]) (h.own hb)).did
theorem tak_open {G Y:BS} {gs:List Tak} (h:(tTak p gs).on w G Y) (hd:Dj G Y) {c:Nat} {g:Tak} (hc:gs[c]? = some g):∃b off cap,dY G Y w [dJ p (.cells #[.slice (some ⟨b,off,none⟩) gs.length cap] 142),tSq eTak 152 (.slice (some ⟨b,off,none⟩) gs.length cap) gs] w /\
  w.heap[p]? = some (.cells #[.slice (some ⟨b,off,none⟩) gs.length cap] 142)/\(w.cell? ⟨b,off+c*2,none⟩=some (.int .i64 (g.cP:Int))/\w.cell? ⟨b,off+c*2+1,none⟩=some (.int .i64 (g.cE:Int)))/\∀j,w.frozen? ⟨b,j,none⟩=false:=by
 obtain ⟨v,hh⟩:=dY.opens (dY.start1 h hd)
 obtain ⟨_,_,hsq⟩:=hh.get 1 rfl
 obtain ⟨b,off,cap,rfl,_,_⟩:=bR hsq (by have:=aA hc;omega)
 exact ⟨b,off,cap,hh,hh.blk 0 rfl,tak_cells hsq hc,(Sq.free hsq).2.2.2⟩
theorem tak_did {G Y:BS} {gs:List Tak} {b off n cap:Nat} (h:dY G Y w [dJ p (.cells #[.slice (some ⟨b,off,none⟩) n cap] 142),tSq eTak 152 (.slice (some ⟨b,off,none⟩) n cap) gs] w) {w1:World} (hb:Below w.heap.size w w1) {c j:Nat} {g g':Tak} {u:Value} (hc:gs[c]? = some g) (hj:j < 2) (he:(takC g).set j u=takC g') :
  Did w G Y [tTak p (gs.set c g')] (w1.setCell ⟨b,off+(c*2+j),none⟩ u):=
 (dY.shut (f:=fun v:Value=>[dJ p (.cells #[v] 142),tSq eTak 152 v (gs.set c g')]) (ts:=[]) ((h.own hb).put pure_tak 1 rfl hc hj he)).did
theorem tak_did0 {G Y:BS} {gs:List Tak} {v:Value} (h:dY G Y w [dJ p (.cells #[v] 142),tSq eTak 152 v gs] w) {w1:World} (hb:Below w.heap.size w w1):Did w G Y [tTak p gs] w1:=
 (dY.shut (f:=fun v:Value=>[dJ p (.cells #[v] 142),tSq eTak 152 v gs]) (ts:=[]) (h.own hb)).did
set_option maxRecDepth 100000 in
theorem receiveG_h {gs:List Giv} (h:dY F Z W ts w) (i:Nat) (hi:ts[i]? = some (tGiv p gs)) (hgs:gs.length<=4) {c:Nat} {g:Giv} (hc:gs[c]? = some g) (h1:g.room<=4000000000000) (h2:g.cI<=4000000000000) (h3:g.aW<=4000000000000) :
  Calls Try.prog 55 #[.pointer (some ⟨p,0,none⟩),.int .i64 (c:Int)] w fun e w'=>e=.returned (.int .i64 (if g.cO.1 then 0 else 5))/\dY F Z W (ts.set i (tGiv p (gs.set c g.cO.2))) w':=by
 refine h.act i hi fun G Y hd hon=>?_
 obtain ⟨b,off,cap,hh,hrow,⟨g0,g1,g2⟩,gf⟩:=giv_open hon hd hc
 have hlt:=aA hc
 by_cases hr:g.aW < g.room+g.cI
 ·have hg:g.cO=(true,{ g with aW:=g.aW+1 }):=by unfold Giv.cO;rw [if_neg (by unfold Giv.cE;omega)]
  rw [hg]
  have HQ:=aQ (withG_any p b off gs.length cap c 79 #[] w _ hrow hlt hgs (fun _ _=>rfl) (receiveC_yes b (off+c*3) g.room g.aW g.cI w g0 g1 g2 gf h1 h2 h3 hr))
  have HH:=aQ hh
  clear hg hrow g0 g1 g2 gf hh hon h hi hd
  go_enter Try.func55,Try.ntmps55
  go_wp2_with fail
  refine HQ.out.mono ?_
  rintro e w' ⟨m,rfl,rfl,w1,hb,rfl⟩
  have HB:=aQ hb
  clear hb
  go_wp2_with fail
  go_ret
  exact ⟨rfl,giv_did HH.out HB.out hc (j:=1) (by decide) rfl⟩
 ·have hg:g.cO=(false,g):=by unfold Giv.cO;rw [if_pos (by unfold Giv.cE;omega)]
  rw [hg]
  have HQ:=aQ (withG_any p b off gs.length cap c 79 #[] w _ hrow hlt hgs (fun _ _=>rfl) (receiveC_no b (off+c*3) g.room g.aW g.cI w g0 g1 g2 h1 h2 hr))
  have HH:=aQ hh
  clear hg hrow g0 g1 g2 gf hh hon h hi hd
  go_enter Try.func55,Try.ntmps55
  go_wp2_with fail
  refine HQ.out.mono ?_
  rintro e w' ⟨m,rfl,rfl,hb⟩
  have HB:=aQ hb
  clear hb
  go_wp2_with fail
  go_ret
  refine ⟨rfl,?_⟩
  rw [set_same' hc]
  exact giv_did0 HH.out HB.out
set_option maxRecDepth 100000 in
theorem freeG_h {gs:List Giv} (h:dY F Z W ts w) (i:Nat) (hi:ts[i]? = some (tGiv p gs)) (hgs:gs.length<=4) {c:Nat} {g:Giv} (hc:gs[c]? = some g) (h3:g.aW<=4000000000000) :
  Calls Try.prog 48 #[.pointer (some ⟨p,0,none⟩),.int .i64 (c:Int)] w fun e w'=>(∃m,e=.returned (.int .i64 m))/\dY F Z W (ts.set i (tGiv p (gs.set c g.free))) w':=by
 refine h.act i hi fun G Y hd hon=>?_
 obtain ⟨b,off,cap,hh,hrow,⟨g0,g1,g2⟩,gf⟩:=giv_open hon hd hc
 have hlt:=aA hc
 by_cases hr:g.cI < g.aW
 ·have hg:g.free={ g with cI:=g.cI+1 }:=by unfold Giv.free;rw [if_neg (by omega)]
  rw [hg]
  have HQ:=aQ (withG_any p b off gs.length cap c 78 #[] w _ hrow hlt hgs (fun _ _=>rfl) (freeC_yes b (off+c*3) g.aW g.cI w g1 g2 gf h3 hr))
  have HH:=aQ hh
  clear hg hrow g0 g1 g2 gf hh hon h hi hd
  go_enter Try.func48,Try.ntmps48
  go_wp2_with fail
  refine HQ.out.mono ?_
  rintro e w' ⟨m,rfl,rfl,w1,hb,rfl⟩
  have HB:=aQ hb
  clear hb
  go_wp2_with fail
  go_ret
  exact ⟨⟨_,rfl⟩,giv_did HH.out HB.out hc (j:=2) (by decide) rfl⟩
 ·have hg:g.free=g:=by unfold Giv.free;rw [if_pos (by omega)]
  rw [hg]
  have HQ:=aQ (withG_any p b off gs.length cap c 78 #[] w _ hrow hlt hgs (fun _ _=>rfl) (freeC_no b (off+c*3) g.aW g.cI w g1 g2 hr))
  have HH:=aQ hh
  clear hg hrow g0 g1 g2 gf hh hon h hi hd
  go_enter Try.func48,Try.ntmps48
  go_wp2_with fail
  refine HQ.out.mono ?_
  rintro e w' ⟨m,rfl,rfl,hb⟩
  have HB:=aQ hb
  clear hb
  go_wp2_with fail
  go_ret
  refine ⟨⟨_,rfl⟩,?_⟩
  rw [set_same' hc]
  exact giv_did0 HH.out HB.out
set_option maxRecDepth 100000 in
theorem takeT_h {gs:List Tak} (h:dY F Z W ts w) (i:Nat) (hi:ts[i]? = some (tTak p gs)) (hgs:gs.length<=4) {c:Nat} {g:Tak} (hc:gs[c]? = some g) (h3:g.cE<=4000000000000) :
  Calls Try.prog 68 #[.pointer (some ⟨p,0,none⟩),.int .i64 (c:Int)] w fun e w'=>(∃m,e=.returned (.int .i64 m))/\dY F Z W (ts.set i (tTak p (gs.set c g.take))) w':=by
 refine h.act i hi fun G Y hd hon=>?_
 obtain ⟨b,off,cap,hh,hrow,⟨g0,g1⟩,gf⟩:=tak_open hon hd hc
 have hlt:=aA hc
 by_cases hr:g.cP < g.cE
 ·have hg:g.take={ g with cP:=g.cP+1 }:=by unfold Tak.take;rw [if_neg (by omega)]
  rw [hg]
  have HQ:=aQ (withT_any p b off gs.length cap c 87 #[] w _ hrow hlt hgs (fun _ _=>rfl) (takeC_yes b (off+c*2) g.cP g.cE w g0 g1 gf h3 hr))
  have HH:=aQ hh
  clear hg hrow g0 g1 gf hh hon h hi hd
  go_enter Try.func68,Try.ntmps68
  go_wp2_with fail
  refine HQ.out.mono ?_
  rintro e w' ⟨m,rfl,rfl,w1,hb,rfl⟩
  have HB:=aQ hb
  clear hb
  go_wp2_with fail
  go_ret
  exact ⟨⟨_,rfl⟩,tak_did HH.out HB.out hc (j:=0) (by decide) rfl⟩
 ·have hg:g.take=g:=by unfold Tak.take;rw [if_pos (by omega)]
  rw [hg]
  have HQ:=aQ (withT_any p b off gs.length cap c 87 #[] w _ hrow hlt hgs (fun _ _=>rfl) (takeC_no b (off+c*2) g.cP g.cE w g0 g1 hr))
  have HH:=aQ hh
  clear hg hrow g0 g1 gf hh hon h hi hd
  go_enter Try.func68,Try.ntmps68
  go_wp2_with fail
  refine HQ.out.mono ?_
  rintro e w' ⟨m,rfl,rfl,hb⟩
  have HB:=aQ hb
  clear hb
  go_wp2_with fail
  go_ret
  refine ⟨⟨_,rfl⟩,?_⟩
  rw [set_same' hc]
  exact tak_did0 HH.out HB.out
end
end

section
open Go.RowKit
theorem slGiv:SlT Try.prog 143 139 (.agg #[.int .i64 0,.int .i64 0,.int .i64 0]) 3 24:=⟨Try.underlying143,info_parts (by kernel_rfl),rfl,by decide⟩
theorem slTak:SlT Try.prog 140 152 (.agg #[.int .i64 0,.int .i64 0]) 2 16:=⟨Try.underlying140,info_parts (by kernel_rfl),rfl,by decide⟩
section
variable {F Z:BS} {W w:World} {ts:List Th} {p:Nat}
set_option maxRecDepth 100000 in
theorem raise_h {gs:List Tak} (h:dY F Z W ts w) (i:Nat) (hi:ts[i]? = some (tTak p gs)) (hgs:gs.length<=4) {c:Nat} {g:Tak} (hc:gs[c]? = some g) (l:Int) :
  Calls Try.prog 84 #[.pointer (some ⟨p,0,none⟩),.int .i64 (c:Int),.int .i64 l] w fun e w'=>(∃m,e=.returned (.int .i64 m))/\dY F Z W (ts.set i (tTak p (gs.set c (g.raise l)))) w':=by
 have hmf:∀(fn:Fn) (first cap:Array Value) (w:World),(Instr.makeFunc fn first cap).run Try.prog w=.ok (.func fn first cap) w:=fun _ _ _ _=>rfl
 refine h.act i hi fun G Y hd hon=>?_
 obtain ⟨b,off,cap,hh,hrow,⟨g0,g1⟩,gf⟩:=tak_open hon hd hc
 have hlt:=aA hc
 have hbl:b < w.heap.size:=World.block_lt_of_cell? w _ g0
 have hba:=aK w (.cells #[.int .i64 l] 3)
 have hrow':=(hba.block p (lt_of_block hrow)).trans hrow
 have g1':=(World.cell?_of_block (hba.block b hbl)).trans g1
 by_cases hr:l < 0\/1099511627776 < l
 ·have hg:g.raise l=g:=by unfold Tak.raise;rw [if_pos hr]
  rw [hg]
  have HQ:=aQ (withT_any p b off gs.length cap c 90 #[.pointer (some ⟨w.heap.size,0,none⟩)] (w.alloc (.cells #[.int .i64 l] 3)) _ hrow' hlt hgs (fun _ _=>rfl) (raiseC_no b (off+c*2) w.heap.size l _ (heap_alloc_new w _) hr))
  have HH:=aQ hh
  have HBA:=aQ hba
  clear hg hrow g0 g1 gf hh hon h hi hd g1' hrow' hba hr
  go_enter Try.func84,Try.ntmps84
  go_wp2_with fail
  refine HQ.out.mono ?_
  rintro e w' ⟨m,rfl,rfl,hb⟩
  have HB:=aQ (HBA.out.trans (hb.mono HBA.out.size))
  clear hb
  go_wp2_with fail
  go_ret
  refine ⟨⟨_,rfl⟩,?_⟩
  rw [set_same' hc]
  exact tak_did0 HH.out HB.out
 ·obtain ⟨n,rfl⟩:∃n:Nat,l=(n:Int):=⟨l.toNat,by omega⟩
  have hg:g.raise n={ g with cE:=max g.cE n }:=by unfold Tak.raise;rw [if_neg hr];rfl
  rw [hg]
  have HQ:=aQ (withT_any p b off gs.length cap c 90 #[.pointer (some ⟨w.heap.size,0,none⟩)] (w.alloc (.cells #[.int .i64 (n:Int)] 3)) _ hrow' hlt hgs (fun _ _=>rfl)
   (raiseC_yes b (off+c*2) w.heap.size g.cE n _ g1' (fun j=>(hba.frozen (p:=⟨b,j,none⟩) hbl).trans (gf j)) (heap_alloc_new w _) (by omega)))
  have HH:=aQ hh
  have HBA:=aQ hba
  clear hg hrow g0 g1 gf hh hon h hi hd g1' hrow' hba hr
  go_enter Try.func84,Try.ntmps84
  go_wp2_with fail
  refine HQ.out.mono ?_
  rintro e w' ⟨m,rfl,rfl,w1,hb,rfl⟩
  have HB:=aQ (HBA.out.trans (hb.mono HBA.out.size))
  clear hb
  go_wp2_with fail
  go_ret
  exact ⟨⟨_,rfl⟩,tak_did HH.out HB.out hc (j:=1) (by decide) rfl⟩
set_option maxRecDepth 100000 in
theorem left_h {gs:List Tak} (h:dY F Z W ts w) (i:Nat) (hi:ts[i]? = some (tTak p gs)) (hgs:gs.length<=4) {c:Nat} {g:Tak} (hc:gs[c]? = some g) (h1:g.cP<=4000000000000) (h2:g.cE<=4000000000000) :
  Calls Try.prog 66 #[.pointer (some ⟨p,0,none⟩),.int .i64 (c:Int)] w fun e w'=>e=.returned (.int .i64 ((g.cE:Int) - (g.cP:Int)))/\dY F Z W ts w':=by
 have hmf:∀(fn:Fn) (first cap:Array Value) (w:World),(Instr.makeFunc fn first cap).run Try.prog w=.ok (.func fn first cap) w:=fun _ _ _ _=>rfl
 obtain ⟨G,Y,hon,hd,_⟩:=h.use i hi
 obtain ⟨b,off,cap,hh,hrow,⟨g0,g1⟩,gf⟩:=tak_open hon hd hc
 have hlt:=aA hc
 have hbl:b < w.heap.size:=World.block_lt_of_cell? w _ g0
 have hba:=aK w (.cells #[.int .i64 0] 3)
 have hrow':=(hba.block p (lt_of_block hrow)).trans hrow
 have g0':=(World.cell?_of_block (hba.block b hbl)).trans g0
 have g1':=(World.cell?_of_block (hba.block b hbl)).trans g1
 have HQ:=aQ (withT_any p b off gs.length cap c 86 #[.pointer (some ⟨w.heap.size,0,none⟩)] (w.alloc (.cells #[.int .i64 0] 3)) _ hrow' hlt hgs (fun _ _=>rfl) (leftC_any b (off+c*2) w.heap.size g.cP g.cE _ g0' g1' (heap_alloc_new w _) h1 h2))
 have HH:=aQ h
 have HBA:=aQ hba
 clear hrow g0 g1 gf hh hon h hi hd g1' g0' hrow' hba
 go_enter Try.func66,Try.ntmps66
 go_wp2_with fail
 refine HQ.out.mono ?_
 rintro e w1 ⟨m,rfl,hx1,hf⟩
 have HB:=aQ (show Below w.heap.size w w1 from ((Fr.refl _ _).of_below HBA.out |>.trans hf fun k hk=>.inl hk).below (B:=w.heap.size) (Nat.le_refl _) fun k hk=>by have hk':k=w.heap.size:=hk;omega)
 have c0:=aJ (i:=0) hx1 rfl
 clear hx1 hf
 go_wp2_with fail
 go_ret
 exact ⟨rfl,HH.out.own HB.out⟩
end
theorem newTak_any (n:Nat) (w:World) (h1:1<=n) (h2:n<=4) :
  Calls Try.prog 53 #[.int .i64 (n:Int)] w fun e w'=>∃p,e=.returned (.tuple #[.pointer (some ⟨p,0,none⟩),.int .i64 0])/\Made w (tTak p (List.replicate n ⟨0,0⟩)) w':=by
 go_enter Try.func53,Try.ntmps53
 go_wp2_with (at_make;refine wpList_mkH (E:=eTak) slTak rfl (u:=.int .i64 0) (a0:=⟨0,0⟩) (fun _ _=>rfl) rfl _ _ rfl n rfl rfl (by omega) (by unfold maxLen;omega) ?_;intro w1 hb1 hs1;have HB1:=aQ hb1;have HS1:=aQ hs1;clear hb1 hs1)
 go_ret2
 refine ⟨w1.heap.size,rfl,Made.of ?_⟩
 have h0:=(dY.start0 (fun _=>False) (fun _=>False) (fun _ f=>f.elim) w).add HB1.out (T:=tSq eTak 152 (.slice (some ⟨w.heap.size,0,none⟩) n n) (List.replicate n ⟨0,0⟩)) HS1.out
 exact dY.shut (f:=fun v:Value=>[dJ w1.heap.size (.cells #[v] 142),tSq eTak 152 v (List.replicate n ⟨0,0⟩)]) (ts:=[]) ((h0.new (.cells #[.slice (some ⟨w.heap.size,0,none⟩) n n] 142)).pick [1,0] _ (by simp) rfl)
end

section
open Go.RowKit
def givTo (aZ:List Nat) (j:Nat):List Giv:=(List.range aZ.length).map fun i=>if i < j then ⟨aZ.getD i 0,0,0⟩ else ⟨0,0,0⟩
theorem givTo_zero (aZ:List Nat):givTo aZ 0=List.replicate aZ.length ⟨0,0,0⟩:=by
 apply List.ext_getElem
 ·simp [givTo]
 ·intro i h1 h2;simp [givTo]
theorem givTo_all (aZ:List Nat):givTo aZ aZ.length=aZ.map fun r=>⟨r,0,0⟩:=by
 apply List.ext_getElem
 ·simp [givTo]
 ·intro i h1 h2
  have h3:i < aZ.length:=by simpa [givTo] using h1
  simp [givTo,List.getD,h3]
theorem givTo_get {aZ:List Nat} {j:Nat} (hj:j < aZ.length):(givTo aZ j)[j]? = some ⟨0,0,0⟩:=by
 unfold givTo
 rw [List.getElem?_map,List.getElem?_range hj,Option.map_some,if_neg (by omega)]
theorem givTo_set {aZ:List Nat} {j:Nat}:(givTo aZ j).set j ⟨aZ.getD j 0,0,0⟩=givTo aZ (j+1):=by
 apply List.ext_getElem?
 intro i
 rw [List.getElem?_set]
 unfold givTo
 by_cases hij:j=i
 ·subst hij
  rw [if_pos rfl]
  by_cases hl:j < aZ.length
  ·rw [if_pos (by simpa using hl),List.getElem?_map,List.getElem?_range hl,Option.map_some,if_pos (by omega)]
  ·rw [if_neg (by simpa using hl),List.getElem?_map,List.getElem?_eq_none (by simp;omega)];rfl
 ·rw [if_neg hij,List.getElem?_map,List.getElem?_map]
  by_cases hl:i < aZ.length
  ·rw [List.getElem?_range hl,Option.map_some,Option.map_some]
   by_cases h:i < j
   ·simp only [if_pos h,if_pos (show i < j+1 by omega)]
   ·simp only [if_neg h,if_neg (show ¬i < j+1 by omega)]
  ·rw [List.getElem?_eq_none (by simp;omega)];rfl
set_option maxRecDepth 100000 in
theorem newGiv_any {aZ:List Nat} {rb ro rc:Nat} (w:World) (h1:1<=aZ.length) (h2:aZ.length<=4) (hr:∀x ∈ aZ,1<=x/\x<=64) (hcell:∀(k x:Nat),aZ[k]? = some x->w.cell? ⟨rb,ro+k,none⟩=some (.int .i64 (x:Int))) :
  Calls Try.prog 54 #[.slice (some ⟨rb,ro,none⟩) aZ.length rc] w fun e w'=>∃p,e=.returned (.tuple #[.pointer (some ⟨p,0,none⟩),.int .i64 0])/\Made w (tGiv p (aZ.map fun r=>⟨r,0,0⟩)) w':=by
 have hbl:rb < w.heap.size:=by
  obtain ⟨x,hx⟩:∃x,aZ[0]? = some x:=⟨aZ[0],List.getElem?_eq_getElem h1⟩
  exact World.block_lt_of_cell? w _ (hcell 0 x hx)
 have HC:=aQ hcell
 have HR:=aQ hr
 clear hcell hr
 go_enter Try.func54,Try.ntmps54
 go_wp2_with (at_make;refine wpList_mkH (E:=eGiv) slGiv rfl (u:=.int .i64 0) (a0:=⟨0,0,0⟩) (fun _ _=>rfl) rfl _ _ rfl aZ.length rfl rfl (by omega) (by unfold maxLen;omega) ?_;intro w1 hb1 hs1;have HB1:=aQ hb1;have HS1:=aQ hs1;clear hb1 hs1)
 have hh:=((dY.start0 (fun _=>False) (fun _=>False) (fun _ f=>f.elim) w).add HB1.out (T:=tSq eGiv 139 (.slice (some ⟨w.heap.size,0,none⟩) aZ.length aZ.length) (List.replicate aZ.length ⟨0,0,0⟩)) HS1.out).new (.cells #[.slice (some ⟨w.heap.size,0,none⟩) aZ.length aZ.length] 145)
 have hsz:=(Sq.free HS1.out).2.2.1
 have HH:=aQ (hh.pick [1,0] [dJ w1.heap.size (.cells #[.slice (some ⟨w.heap.size,0,none⟩) aZ.length aZ.length] 145),tSq eGiv 139 (.slice (some ⟨w.heap.size,0,none⟩) aZ.length aZ.length) (List.replicate aZ.length ⟨0,0,0⟩)] (by simp) rfl)
 clear hh
 go_loopw [22,5,6] (fun i _ _ wr=>∃k:Nat,k<=aZ.length/\i=.int .i64 (k:Int)/\Hid (dY (fun _=>False) (fun _=>False) w [dJ w1.heap.size (.cells #[.slice (some ⟨w.heap.size,0,none⟩) aZ.length aZ.length] 145),tSq eGiv 139 (.slice (some ⟨w.heap.size,0,none⟩) aZ.length aZ.length) (givTo aZ k)] wr)) (fun i _ _ _=>aZ.length - (intOf i).toNat)
 case atStart=>exact ⟨0,Nat.zero_le _,rfl,aQ (by rw [givTo_zero];exact HH.out)⟩
 case round=>
  clear HH
  obtain ⟨k,hk,rfl,HK⟩:=hrel
  by_cases hlt:k < aZ.length
  ·have hx:aZ[k]? = some (aZ.getD k 0):=by simp [List.getD,hlt]
   have hrk:=HR.out _ (List.mem_of_getElem? hx)
   have hck:=(World.cell?_of_block (HK.out.below.block rb hbl)).trans (HC.out k _ hx)
   have hc0:=aJ (i:=0) (HK.out.blk 0 rfl) rfl
   obtain ⟨_,_,hsq⟩:=HK.out.get 1 rfl
   have hfr:=(Sq.free hsq).2.2.2
   have hg0:=(giv_cells hsq (givTo_get hlt)).1
   rw [Nat.zero_add] at hg0
   have HS:=aQ (HK.out.put pure_giv 1 rfl (c:=k) (j:=0) (a:=⟨0,0,0⟩) (a':=⟨aZ.getD k 0,0,0⟩) (u:=.int .i64 ((aZ.getD k 0:Nat):Int)) (givTo_get hlt) (by decide) rfl)
   obtain ⟨x,hxx⟩:∃x,x=aZ.getD k 0:=⟨_,rfl⟩
   have HX:=aQ hxx
   rw [<-hxx] at hrk hck
   obtain ⟨hx1,hx2⟩:=hrk
   clear hx hsq hxx
   have hz:w1.heap.size≠w.heap.size:=by omega
   go_wp2_with fail
   go_roundw
   case rel=>
    refine ⟨k+1,by omega,by go_num,aQ ?_⟩
    rw [<-givTo_set,HX.out]
    have:=HS.out
    simpa [eGiv,ePure] using this
   case measure=>simp [intOf];omega
  ·obtain rfl:aZ.length=k:=by omega
   go_wp2_with fail
   go_ret2
   refine ⟨w1.heap.size,rfl,Made.of ?_⟩
   have:=HK.out
   rw [givTo_all] at this
   exact dY.shut (f:=fun v:Value=>[dJ w1.heap.size (.cells #[v] 145),tSq eGiv 139 v (aZ.map fun r=>⟨r,0,0⟩)]) (ts:=[]) this
end

section
open Go.RowKit
abbrev sideRow (s:Side) (ch:Int):Obj:=.cells #[.int .i64 (s.mine:Int),.int .i64 (s.dead:Int),.int .i64 (s.cM:Int),.int .i64 (s.seen:Int),.int .i64 (s.state:Int),.int .i64 (s.silent:Int),.int .i64 ch] 110
def SideAt (w:World) (b:Nat) (s:Side):Prop:=∃ch,w.heap[b]? = some (sideRow s ch)
theorem side_cells {w:World} {b:Nat} {s:Side} {ch:Int} (h:w.heap[b]? = some (sideRow s ch)):w.cell? ⟨b,0,none⟩=some (.int .i64 (s.mine:Int))/\w.cell? ⟨b,1,none⟩=some (.int .i64 (s.dead:Int))/\w.cell? ⟨b,2,none⟩=some (.int .i64 (s.cM:Int))/\w.cell? ⟨b,3,none⟩=some (.int .i64 (s.seen:Int)) /\
  w.cell? ⟨b,4,none⟩=some (.int .i64 (s.state:Int))/\w.cell? ⟨b,5,none⟩=some (.int .i64 (s.silent:Int))/\w.cell? ⟨b,6,none⟩=some (.int .i64 ch)/\(∀j,w.frozen? ⟨b,j,none⟩=false):=
 ⟨aJ (i:=0) h rfl,aJ (i:=1) h rfl,aJ (i:=2) h rfl,aJ (i:=3) h rfl,aJ (i:=4) h rfl,aJ (i:=5) h rfl,aJ (i:=6) h rfl,fun j=>aD h j⟩
theorem state_any (b:Nat) (s:Side) (w:World) (h:SideAt w b s):Calls Try.prog 35 #[.pointer (some ⟨b,0,none⟩)] w fun e w'=>e=.returned (.int .i64 (s.state:Int))/\w=w':=by
 obtain ⟨ch,h⟩:=h
 obtain ⟨c0,c1,c2,c3,c4,c5,c6,_⟩:=side_cells h
 clear h
 go_enter Try.func35,Try.ntmps35
 go_wp2_with fail
 go_ret
 exact ⟨rfl,rfl⟩
theorem peer_any (b:Nat) (s:Side) (w:World) (h:SideAt w b s):Calls Try.prog 81 #[.pointer (some ⟨b,0,none⟩)] w fun e w'=>e=.returned (.int .i64 (s.cM:Int))/\w=w':=by
 obtain ⟨ch,h⟩:=h
 obtain ⟨c0,c1,c2,c3,c4,c5,c6,_⟩:=side_cells h
 clear h
 go_enter Try.func81,Try.ntmps81
 go_wp2_with fail
 go_ret
 exact ⟨rfl,rfl⟩
theorem accepts_any (b:Nat) (s:Side) (w:World) (x:Int) (h:SideAt w b s):Calls Try.prog 56 #[.pointer (some ⟨b,0,none⟩),.int .i64 x] w fun e w'=>e=.returned (.bool (decide (s.cM≠0/\(s.cM:Int)=x)))/\w=w':=by
 obtain ⟨ch,h⟩:=h
 obtain ⟨c0,c1,c2,c3,c4,c5,c6,_⟩:=side_cells h
 clear h
 go_enter Try.func56,Try.ntmps56
 by_cases h0:s.cM=0
 ·have h1:((s.cM:Int) != 0)=false:=by simp [h0]
  have h2:decide (s.cM≠0/\(s.cM:Int)=x)=false:=by simp [h0]
  rw [h2]
  clear h0 h2
  go_wp2_with fail
  go_ret
  exact ⟨rfl,rfl⟩
 ·have h1:((s.cM:Int) != 0)=true:=by simp;omega
  have h2:decide (s.cM≠0/\(s.cM:Int)=x)=((s.cM:Int) == x):=by
   rw [Bool.eq_iff_iff];simp;omega
  rw [h2]
  clear h0 h2
  go_wp2_with fail
  go_ret
  exact ⟨rfl,rfl⟩
theorem become_any (b m d p se st si:Nat) (ch:Int) (w:World) (st' p':Nat) (h:w.heap[b]? = some (sideRow ⟨m,d,p,se,st,si⟩ ch)) :
  Calls Try.prog 61 #[.pointer (some ⟨b,0,none⟩),.int .i64 (st':Int),.int .i64 (p':Int)] w fun e w'=>(∃c,e=.returned (.bool c))/\(∃ch',w'.heap[b]? = some (sideRow ⟨m,d,p',se,st',si⟩ ch'))/\Fr (fun k=>k=b) w w':=by
 have H:=aQ h
 have hlt:=lt_of_block h
 obtain ⟨c0,c1,c2,c3,c4,c5,c6,cf⟩:=side_cells h
 dsimp only at *
 clear h
 obtain ⟨ch',hch⟩:∃ch',IntKind.i64.wrap (ch+1)=ch':=⟨_,rfl⟩
 go_enter Try.func61,Try.ntmps61
 by_cases h1:st=st'
 ·by_cases h2:p=p'
  ·subst h1 h2
   go_wp2_with fail
   go_ret
   exact ⟨⟨_,rfl⟩,⟨ch,H.out⟩,Fr.refl _ _⟩
  ·subst h1
   have e2:((p:Int) == (p':Int))=false:=by simp;omega
   clear h2
   go_wp2_with fail
   go_ret
   refine ⟨⟨_,rfl⟩,⟨ch',?_⟩,by (repeat (first|(with_reducible (first|exact Fr.refl _ _|refine Fr.setCell ?_ ?_ _|refine Fr.drewN ?_ _|refine Fr.drew ?_))|exact Or.inl rfl))⟩
   (apply aS;focus (with_reducible (repeat (first|exact H.out|apply aU|apply aP|apply aF))))
   rfl
 ·have e1:((st:Int) == (st':Int))=false:=by simp;omega
  clear h1
  go_wp2_with fail
  go_ret
  refine ⟨⟨_,rfl⟩,⟨ch',?_⟩,by (repeat (first|(with_reducible (first|exact Fr.refl _ _|refine Fr.setCell ?_ ?_ _|refine Fr.drewN ?_ _|refine Fr.drew ?_))|exact Or.inl rfl))⟩
  (apply aS;focus (with_reducible (repeat (first|exact H.out|apply aU|apply aP|apply aF))))
  rfl
theorem sideTick_any (b:Nat) (s:Side) (w:World) (h:SideAt w b s) (ho:s.Ok) :
  Calls Try.prog 34 #[.pointer (some ⟨b,0,none⟩)] w fun e w'=>e=.returned (.agg #[.int .i64 (s.cR.mine:Int),.int .i64 (s.cR.cM:Int)])/\SideAt w' b s.cR/\Fr (fun k=>k=b) w w':=by
 obtain ⟨ch,h⟩:=h
 have H:=aQ h
 have hlt:=lt_of_block h
 obtain ⟨c0,c1,c2,c3,c4,c5,c6,cf⟩:=side_cells h
 obtain ⟨a1,a2,a3,a4,a5,a6,a7,a8,a9⟩:=ho
 obtain ⟨m,d,p,se,st,si⟩:=s
 dsimp only at *
 clear h
 go_enter Try.func34,Try.ntmps34
 by_cases h0:p=0
 ·have ht:Side.cR ⟨m,d,p,se,st,si⟩=⟨m,d,p,se,st,si⟩:=by unfold Side.cR;rw [if_pos h0]
  have hp:((p:Int) != 0)=false:=by simp [h0]
  have HP0:=aQ h0
  rw [ht]
  clear h0 ht a8
  go_wp2_with fail
  obtain ⟨w1,hw1⟩:∃w1,w1=w.alloc (.cells #[.int .i64 0,.int .i64 0] 91):=⟨_,rfl⟩
  rw [<-hw1]
  have HR1:=aQ (show w1.heap[b]? = some (sideRow ⟨m,d,p,se,st,si⟩ ch) by rw [hw1];exact ((aK w _).block b hlt).trans H.out)
  have hg1:w1.heap[w.heap.size]? = some (.cells #[.int .i64 0,.int .i64 0] 91):=by rw [hw1];exact heap_alloc_new w _
  have HB1:=aQ (show Below w.heap.size w w1 by rw [hw1];exact aK w _)
  have g0:w1.cell? ⟨w.heap.size,0,none⟩=some (.int .i64 0):=aJ (i:=0) hg1 rfl
  have g1:w1.cell? ⟨w.heap.size,1,none⟩=some (.int .i64 0):=aJ (i:=1) hg1 rfl
  have gf:=fun j=>aD hg1 j
  have hne:b≠w.heap.size:=by omega
  clear hw1 hg1 c0 c1 c2 c3 c4 c5 c6 cf
  obtain ⟨c0,c1,c2,c3,c4,c5,c6,cf⟩:=side_cells HR1.out
  dsimp only at *
  go_region
  all_goals go_wp2_with fail
  all_goals refine bodyPost_ret (by simp [results,Try.results34,go_sem,g0,g1];try rfl) rfl ?_
  all_goals exact ⟨rfl,⟨ch,by (apply aS;focus (repeat (first|(with_reducible exact HR1.out)|(with_reducible apply aU)|(with_reducible apply aP)|(with_reducible apply aF)|(with_reducible apply bC)|(apply bN (by first|omega|(simp <;> omega))))));rfl⟩,by have hf1:Fr (fun k=>k=b) w w1:=Fr.of_below (Fr.refl _ _) HB1.out;(repeat (first|(with_reducible exact hf1)|(exact Or.inr (Nat.le_refl _))|(with_reducible refine Fr.setCell ?_ ?_ _)|(with_reducible refine Fr.drew ?_)))⟩
 ·have hp:((p:Int) != 0)=true:=by simp;omega
  have h0':1<=p:=by omega
  by_cases hd:d<=si+1
  ·have ht:Side.cR ⟨m,d,p,se,st,si⟩=⟨m,d,0,se,0,0⟩:=by unfold Side.cR;rw [if_neg h0,if_pos hd]
   rw [ht]
   clear ht a8 h0
   go_wp2_with fail
   go_quiet (fail)
   go_wp2_with fail
   generalize hw1:((w.setCell ⟨b,5,none⟩ (.int .i64 ((si:Int)+1))).alloc (.cells #[.int .i64 0,.int .i64 0] 91)).drewN _=w0
   have HF0:=aQ (show Fr (fun k=>k=b) w w0 by rw [<-hw1];exact ((Fr.setCell (F:=fun k=>k=b) (p:=⟨b,5,none⟩) (Fr.refl _ _) (Or.inl rfl) _).alloc _).drewN _)
   have HR0:=aQ (show w0.heap[b]? = some (sideRow ⟨m,d,p,se,st,si+1⟩ ch) by rw [<-hw1];(apply aS;focus (repeat (first|(with_reducible exact H.out)|(with_reducible apply aU)|(with_reducible apply aP)|(with_reducible apply aF)|(with_reducible apply bC)|(apply bN (by first|omega|(simp <;> omega))))));rfl)
   have HG0:=aQ (show w0.heap[w.heap.size]? = some (.cells #[.int .i64 0,.int .i64 0] 91) by
    rw [<-hw1]
    have h:=heap_alloc_new (w.setCell ⟨b,5,none⟩ (.int .i64 ((si:Int)+1))) (.cells #[.int .i64 0,.int .i64 0] 91)
    rw [World.size_setCell] at h
    exact h)
   have hne:b≠w.heap.size:=by omega
   clear hw1 c0 c1 c2 c3 c4 c5 c6 cf
   refine (become_any b m d p se st (si+1) ch w0 0 0 HR0.out).mono ?_
   rintro e w2 ⟨⟨c,rfl⟩,⟨ch',hr⟩,hf⟩
   have HR2:=aQ hr
   have HG2:=aQ ((hf.block _ (lt_of_block HG0.out) (fun e=>hne e.symm)).trans HG0.out)
   have HF2:=aQ (HF0.out.trans hf fun k hk=>.inl hk)
   obtain ⟨c0,c1,c2,c3,c4,c5,c6,cf⟩:=side_cells HR2.out
   clear hr hf
   go_wp2_with fail
   generalize hw1:w2.setCell ⟨b,5,none⟩ (.int .i64 0)=w1
   have HF1:=aQ (show Fr (fun k=>k=b) w w1 by rw [<-hw1];exact Fr.setCell (p:=⟨b,5,none⟩) HF2.out (Or.inl rfl) _)
   have HR1:=aQ (show w1.heap[b]? = some (sideRow ⟨m,d,0,se,0,0⟩ ch') by rw [<-hw1];(apply aS;focus (repeat (first|(with_reducible exact HR2.out)|(with_reducible apply aU)|(with_reducible apply aP)|(with_reducible apply aF)|(with_reducible apply bC)|(apply bN (by first|omega|(simp <;> omega))))));rfl)
   have hg1:w1.heap[w.heap.size]? = some (.cells #[.int .i64 0,.int .i64 0] 91):=by rw [<-hw1];(apply aS;focus (repeat (first|(with_reducible exact HG2.out)|(with_reducible apply aU)|(with_reducible apply aP)|(with_reducible apply aF)|(with_reducible apply bC)|(apply bN (by first|omega|(simp <;> omega))))));rfl
   have g0:w1.cell? ⟨w.heap.size,0,none⟩=some (.int .i64 0):=aJ (i:=0) hg1 rfl
   have g1:w1.cell? ⟨w.heap.size,1,none⟩=some (.int .i64 0):=aJ (i:=1) hg1 rfl
   have gf:=fun j=>aD hg1 j
   clear hw1 hg1 c0 c1 c2 c3 c4 c5 c6 cf
   obtain ⟨c0,_,c2,_,_,_,_,cf⟩:=side_cells HR1.out
   have d2:w1.cell? ⟨b,2,none⟩=some (.int .i64 0):=c2
   clear c2
   dsimp only at *
   go_region
   all_goals go_wp2_with fail
   all_goals refine bodyPost_ret (by simp [results,Try.results34,go_sem,g0,g1];try rfl) rfl ?_
   all_goals exact ⟨rfl,⟨ch',by (apply aS;focus (repeat (first|(with_reducible exact HR1.out)|(with_reducible apply aU)|(with_reducible apply aP)|(with_reducible apply aF)|(with_reducible apply bC)|(apply bN (by first|omega|(simp <;> omega))))));rfl⟩,by have hf1:=HF1.out;(repeat (first|(with_reducible exact hf1)|(exact Or.inr (Nat.le_refl _))|(with_reducible refine Fr.setCell ?_ ?_ _)|(with_reducible refine Fr.drew ?_)))⟩
  ·have ht:Side.cR ⟨m,d,p,se,st,si⟩=⟨m,d,p,se,st,si+1⟩:=by unfold Side.cR;rw [if_neg h0,if_neg hd]
   rw [ht]
   clear ht a8 h0
   go_wp2_with fail
   go_quiet (fail)
   go_wp2_with fail
   generalize hw1:((w.setCell ⟨b,5,none⟩ (.int .i64 ((si:Int)+1))).alloc (.cells #[.int .i64 0,.int .i64 0] 91)).drewN _=w1
   have HF1:=aQ (show Fr (fun k=>k=b) w w1 by rw [<-hw1];exact ((Fr.setCell (F:=fun k=>k=b) (p:=⟨b,5,none⟩) (Fr.refl _ _) (Or.inl rfl) _).alloc _).drewN _)
   have HR1:=aQ (show w1.heap[b]? = some (sideRow ⟨m,d,p,se,st,si+1⟩ ch) by rw [<-hw1];(apply aS;focus (repeat (first|(with_reducible exact H.out)|(with_reducible apply aU)|(with_reducible apply aP)|(with_reducible apply aF)|(with_reducible apply bC)|(apply bN (by first|omega|(simp <;> omega))))));rfl)
   have hg1:w1.heap[w.heap.size]? = some (.cells #[.int .i64 0,.int .i64 0] 91):=by
    rw [<-hw1]
    have h:=heap_alloc_new (w.setCell ⟨b,5,none⟩ (.int .i64 ((si:Int)+1))) (.cells #[.int .i64 0,.int .i64 0] 91)
    rw [World.size_setCell] at h
    exact h
   have g0:w1.cell? ⟨w.heap.size,0,none⟩=some (.int .i64 0):=aJ (i:=0) hg1 rfl
   have g1:w1.cell? ⟨w.heap.size,1,none⟩=some (.int .i64 0):=aJ (i:=1) hg1 rfl
   have gf:=fun j=>aD hg1 j
   have hne:b≠w.heap.size:=by omega
   clear hw1 hg1 c0 c1 c2 c3 c4 c5 c6 cf
   obtain ⟨c0,c1,c2,c3,c4,c5,c6,cf⟩:=side_cells HR1.out
   dsimp only at *
   go_region
   all_goals go_wp2_with fail
   all_goals refine bodyPost_ret (by simp [results,Try.results34,go_sem,g0,g1];try rfl) rfl ?_
   all_goals exact ⟨rfl,⟨ch,by (apply aS;focus (repeat (first|(with_reducible exact HR1.out)|(with_reducible apply aU)|(with_reducible apply aP)|(with_reducible apply aF)|(with_reducible apply bC)|(apply bN (by first|omega|(simp <;> omega))))));rfl⟩,by have hf1:=HF1.out;(repeat (first|(with_reducible exact hf1)|(exact Or.inr (Nat.le_refl _))|(with_reducible refine Fr.setCell ?_ ?_ _)|(with_reducible refine Fr.drew ?_)))⟩
end

section
open Go.RowKit
theorem incOk_any (x:Int) (w:World):Calls Try.prog 50 #[.int .i64 x] w fun e w'=>e=.returned (.bool (decide (1<=x/\x<=1099511627775)))/\w=w':=by
 go_enter Try.func50,Try.ntmps50
 by_cases h1:1<=x
 ·have e:decide (1<=x/\x<=1099511627775)=decide (x<=1099511627775):=by simp [h1]
  rw [e]
  clear e
  go_wp2_with fail
  go_ret
  exact ⟨rfl,rfl⟩
 ·have e:decide (1<=x/\x<=1099511627775)=false:=by simp;omega
  rw [e]
  clear e
  go_wp2_with fail
  go_ret
  exact ⟨rfl,rfl⟩
theorem sideReceive_any (b:Nat) (s:Side) (w:World) (x y:Int) (h:SideAt w b s) :
  Calls Try.prog 80 #[.pointer (some ⟨b,0,none⟩),.agg #[.int .i64 x,.int .i64 y]] w fun e w'=>(∃c,e=.returned (.bool c))/\SideAt w' b (s.cO x y)/\Fr (fun k=>k=b) w w':=by
 obtain ⟨ch,h⟩:=h
 have H:=aQ h
 have hlt:=lt_of_block h
 obtain ⟨m,d,p,se,st,si⟩:=s
 clear h
 go_enter Try.func80,Try.ntmps80
 go_wp2_with fail
 obtain ⟨w1,hw1⟩:∃w1,w1=w.alloc (.cells #[.int .i64 x,.int .i64 y] 91):=⟨_,rfl⟩
 rw [<-hw1]
 have HR1:=aQ (show w1.heap[b]? = some (sideRow ⟨m,d,p,se,st,si⟩ ch) by rw [hw1];exact ((aK w _).block b hlt).trans H.out)
 have hg1:w1.heap[w.heap.size]? = some (.cells #[.int .i64 x,.int .i64 y] 91):=by rw [hw1];exact heap_alloc_new w _
 have HB1:=aQ (show Below w.heap.size w w1 by rw [hw1];exact aK w _)
 have HG1:=aQ hg1
 have g0:w1.cell? ⟨w.heap.size,0,none⟩=some (.int .i64 x):=aJ (i:=0) hg1 rfl
 have g1:w1.cell? ⟨w.heap.size,1,none⟩=some (.int .i64 y):=aJ (i:=1) hg1 rfl
 have hne:b≠w.heap.size:=by omega
 clear hw1 hg1
 obtain ⟨c0,c1,c2,c3,c4,c5,c6,cf⟩:=side_cells HR1.out
 dsimp only at *
 by_cases hv:1<=x/\x<=1099511627775
 ·have hv':decide (1<=x/\x<=1099511627775)=true:=by simpa using hv
  obtain ⟨n,rfl⟩:∃n:Nat,x=(n:Int):=⟨x.toNat,by omega⟩
  by_cases hs:(n:Int) < (se:Int)
  ·have ht:Side.cO ⟨m,d,p,se,st,si⟩ n y=⟨m,d,p,se,st,si⟩:=by unfold Side.cO;rw [if_pos (by dsimp only;omega)]
   have HT:=aQ ht
   clear ht hv
   go_quiet (exact Calls.quiet_of_same ((incOk_any _ _).mono fun e w' h=>⟨show e=.returned (.bool true) from by rw [h.1,hv'],h.2.symm⟩))
   go_wp2_with fail
   go_ret
   exact ⟨⟨_,rfl⟩,by rw [HT.out];exact ⟨ch,by (apply aS;focus (repeat (first|(with_reducible exact HR1.out)|(with_reducible apply aU)|(with_reducible apply aP)|(with_reducible apply aF)|(with_reducible apply bC)|(apply bN (by first|omega|(simp <;> omega))))));rfl⟩,by have hf1:Fr (fun k=>k=b) w w1:=Fr.of_below (Fr.refl _ _) HB1.out;(repeat (first|(with_reducible exact hf1)|(with_reducible refine Fr.drewN ?_ _)|(with_reducible refine Fr.drew ?_)))⟩
  ·have ht:Side.cO ⟨m,d,p,se,st,si⟩ n y=⟨m,d,n,n,if y=(m:Int) then 2 else 1,0⟩:=by unfold Side.cO;rw [if_neg (by dsimp only;omega)];rfl
   have HT:=aQ ht
   clear ht hv
   by_cases hy:y=(m:Int)
   ·have hy':(y == (m:Int))=true:=by simpa using hy
    have HY:=aQ hy
    clear hy
    go_quiet (exact Calls.quiet_of_same ((incOk_any _ _).mono fun e w' h=>⟨show e=.returned (.bool true) from by rw [h.1,hv'],h.2.symm⟩))
    go_wp2_with fail
    go_quiet (fail)
    go_wp2_with fail
    generalize hw2:(((w1.drewN _).setCell ⟨b,3,none⟩ (.int .i64 (n:Int))).setCell ⟨b,5,none⟩ (.int .i64 0)).drewN _=w2
    have HF2:=aQ (show Fr (fun k=>k=b) w w2 by rw [<-hw2];exact (Fr.setCell (p:=⟨b,5,none⟩) (Fr.setCell (p:=⟨b,3,none⟩) (Fr.drewN (F:=fun k=>k=b) (Fr.of_below (Fr.refl _ _) HB1.out) _) (Or.inl rfl) _) (Or.inl rfl) _).drewN _)
    have HR2:=aQ (show w2.heap[b]? = some (sideRow ⟨m,d,p,n,st,0⟩ ch) by rw [<-hw2];(apply aS;focus (repeat (first|(with_reducible exact HR1.out)|(with_reducible apply aU)|(with_reducible apply aP)|(with_reducible apply aF)|(with_reducible apply bC)|(apply bN (by first|omega|(simp <;> omega))))));rfl)
    clear hw2
    refine (become_any b m d p n st 0 ch w2 2 n HR2.out).mono ?_
    rintro e w3 ⟨⟨c,rfl⟩,⟨ch',hr⟩,hf⟩
    have HR3:=aQ hr
    have HF3:=aQ (HF2.out.trans hf fun k hk=>.inl hk)
    clear hr hf c0 c1 c2 c3 c4 c5 c6 cf g0 g1
    go_wp2_with fail
    go_ret
    exact ⟨⟨_,rfl⟩,by rw [HT.out,if_pos HY.out];exact ⟨ch',HR3.out⟩,HF3.out⟩
   ·have hy':(y == (m:Int))=false:=by simpa using hy
    have HY:=aQ hy
    clear hy
    go_quiet (exact Calls.quiet_of_same ((incOk_any _ _).mono fun e w' h=>⟨show e=.returned (.bool true) from by rw [h.1,hv'],h.2.symm⟩))
    go_wp2_with fail
    go_quiet (fail)
    go_wp2_with fail
    generalize hw2:(((w1.drewN _).setCell ⟨b,3,none⟩ (.int .i64 (n:Int))).setCell ⟨b,5,none⟩ (.int .i64 0)).drewN _=w2
    have HF2:=aQ (show Fr (fun k=>k=b) w w2 by rw [<-hw2];exact (Fr.setCell (p:=⟨b,5,none⟩) (Fr.setCell (p:=⟨b,3,none⟩) (Fr.drewN (F:=fun k=>k=b) (Fr.of_below (Fr.refl _ _) HB1.out) _) (Or.inl rfl) _) (Or.inl rfl) _).drewN _)
    have HR2:=aQ (show w2.heap[b]? = some (sideRow ⟨m,d,p,n,st,0⟩ ch) by rw [<-hw2];(apply aS;focus (repeat (first|(with_reducible exact HR1.out)|(with_reducible apply aU)|(with_reducible apply aP)|(with_reducible apply aF)|(with_reducible apply bC)|(apply bN (by first|omega|(simp <;> omega))))));rfl)
    clear hw2
    refine (become_any b m d p n st 0 ch w2 1 n HR2.out).mono ?_
    rintro e w3 ⟨⟨c,rfl⟩,⟨ch',hr⟩,hf⟩
    have HR3:=aQ hr
    have HF3:=aQ (HF2.out.trans hf fun k hk=>.inl hk)
    clear hr hf c0 c1 c2 c3 c4 c5 c6 cf g0 g1
    go_wp2_with fail
    go_ret
    exact ⟨⟨_,rfl⟩,by rw [HT.out,if_neg HY.out];exact ⟨ch',HR3.out⟩,HF3.out⟩
 ·have hv':decide (1<=x/\x<=1099511627775)=false:=by simpa using hv
  have ht:Side.cO ⟨m,d,p,se,st,si⟩ x y=⟨m,d,p,se,st,si⟩:=by unfold Side.cO;rw [if_pos (by omega)]
  have HT:=aQ ht
  clear ht hv
  go_quiet (exact Calls.quiet_of_same ((incOk_any _ _).mono fun e w' h=>⟨show e=.returned (.bool false) from by rw [h.1,hv'],h.2.symm⟩))
  go_wp2_with fail
  go_ret
  exact ⟨⟨_,rfl⟩,by rw [HT.out];exact ⟨ch,by (apply aS;focus (repeat (first|(with_reducible exact HR1.out)|(with_reducible apply aU)|(with_reducible apply aP)|(with_reducible apply aF)|(with_reducible apply bC)|(apply bN (by first|omega|(simp <;> omega))))));rfl⟩,by have hf1:Fr (fun k=>k=b) w w1:=Fr.of_below (Fr.refl _ _) HB1.out;(repeat (first|(with_reducible exact hf1)|(with_reducible refine Fr.drewN ?_ _)|(with_reducible refine Fr.drew ?_)))⟩
end

section
open Go.RowKit
theorem newSide_any (m d:Nat) (w:World) (h1:1<=m) (h2:m<=1099511627775) (h3:1<=d) (h4:d<=1000) :
  Calls Try.prog 25 #[.int .i64 (m:Int),.int .i64 (d:Int)] w fun e w'=>e=.returned (.tuple #[.pointer (some ⟨w.heap.size,0,none⟩),.int .i64 0])/\SideAt w' w.heap.size (newSide m d)/\Below w.heap.size w w':=by
 have hv:decide (1<=(m:Int)/\(m:Int)<=1099511627775)=true:=by simp;omega
 go_enter Try.func25,Try.ntmps25
 go_wp2_with fail
 refine (incOk_any (m:Int) w).mono ?_
 rintro e w' ⟨rfl,rfl⟩
 rw [hv]
 go_wp2_with fail
 go_ret2
 exact ⟨rfl,⟨0,heap_alloc_new w _⟩,by (with_reducible (repeat (first|exact Below.refl _ _|refine Bw.alloc ?_ _|refine Bw.drewN ?_ _|refine Bw.drew ?_)))⟩
end

section
open Go.RowKit
def tSide (p:Nat) (s:Side):Th:=⟨fun w F _=>F p/\SideAt w p s,fun h _ hk=>by
  obtain ⟨f,ch,h⟩:=h
  have hl:=lt_of_block h
  exact ⟨⟨f,hl⟩,ch,(hk p (.inl f) hl).trans h⟩,fun h hF _=>⟨hF _ h.1,h.2⟩⟩
def tSnd (p:Nat) (s:Snd):Th:=tOld (SnO.thing p s)
abbrev rcvRow (n:Nat):Obj:=.cells #[.int .i64 (n:Int)] 123
def tRcv (p n:Nat):Th:=dJ p (rcvRow n)
def eKept:El (Nat × List (BitVec 8)):=eProd dK eBy
structure PV where
 rv:Value
 sp:Nat
 ap:Nat
 wv:Value
 bv:Value
 snp:Nat
 rcp:Nat
 tkp:Nat
 gvp:Nat
 bsv:Value
 kv:Value
 acv:Value
 rev:Value
 tav:Value
abbrev portRow (a:Prt) (x:PV):Obj:=
 .cells #[.int .i64 (a.inc:Int),x.rv,.int .i64 (a.cA:Int),.int .i64 (a.aN:Int),.int .i64 (a.dead:Int),.pointer (some ⟨x.sp,0,none⟩),.pointer (some ⟨x.ap,0,none⟩),x.wv,x.bv,.int .i64 (a.cM:Int),
  .pointer (some ⟨x.snp,0,none⟩),.pointer (some ⟨x.rcp,0,none⟩),.pointer (some ⟨x.tkp,0,none⟩),.pointer (some ⟨x.gvp,0,none⟩),x.bsv,x.kv,x.acv,x.rev,x.tav,.int .i64 (a.bL:Int)] 80
abbrev bX (p:Nat) (a:Prt) (x:PV):List Th:=
 [dJ p (portRow a x),tSq dK 3 x.rv a.aZ,tSide x.sp a.cS,tArb x.ap a.arb,tSq (eSq eBy 27) 54 x.wv a.aX,tSq (eSq eBy 27) 54 x.bv a.aY,
  tSnd x.snp a.snd,tRcv x.rcp a.rcv,tTak x.tkp a.tak,tGiv x.gvp a.giv,tSq dK 3 x.bsv a.base,tSq eKept 114 x.kv a.cT,tSq dK 3 x.acv a.aG,tSq dK 3 x.rev a.aW,tSq dK 3 x.tav a.cF]
def bP (p:Nat) (a:Prt):Th:=tEx (bX p a)
structure Prt.Ok (N:Nat) (p:Prt):Prop where
 n1:1<=p.aZ.length
 n4:p.aZ.length<=4
 rm:∀x ∈ p.aZ,1<=x/\x<=64
 i1:1<=p.inc
 i2:p.inc<=1099511627775
 w1:1<=p.cA
 w2:p.cA<=128
 t1:1<=p.aN
 t2:p.aN<=1000
 d1:1<=p.dead
 d2:p.dead<=1000
 cS:p.cS.Ok
 arb:p.arb.Ok p.aZ.length
 wl:p.aX.length=p.aZ.length
 bl:p.aY.length=p.aZ.length
 tl:p.tak.length=p.aZ.length
 gl:p.giv.length=p.aZ.length
 sl:p.base.length=p.aZ.length
 al:p.aG.length=p.aZ.length
 rl:p.aW.length=p.aZ.length
 kl:p.cF.length=p.aZ.length
 cM:p.cM<=1099511627775
 snd:p.snd.Ok
 win:p.snd.cA=p.cA
 tot:p.snd.total<=N
 rcv:p.rcv<=N
 cT:p.cT.map (·.2)=p.snd.cT
 kcl:∀f ∈ p.cT,f.1 < p.aZ.length
 wsz:∀l ∈ p.aX,∀d ∈ l,d.length<=64
 wln:∀l ∈ p.aX,l.length<=N
 bsz:∀l ∈ p.aY,∀d ∈ l,d.length<=1000
 bln:∀l ∈ p.aY,l.length<=N
 tak:∀t ∈ p.tak,t.cP<=t.cE/\t.cE<=1099511627776
 giv:∀g ∈ p.giv,g.room<=64/\g.cI<=g.aW/\g.aW<=N
 bas:∀x ∈ p.base,x<=N
 acn:∀x ∈ p.aG,x<=N
 ren:∀x ∈ p.aW,x<=N
 tan:∀x ∈ p.cF,x<=N
 ovn:p.bL<=N
section
variable {w:World} {F Z:BS} {W:World} {ts:List Th} {p:Nat} {a:Prt} {x:PV}
theorem aB (h:w.heap[p]? = some (portRow a x)) :
  w.cell? ⟨p,0,none⟩=some (.int .i64 (a.inc:Int))/\w.cell? ⟨p,1,none⟩=some x.rv/\w.cell? ⟨p,2,none⟩=some (.int .i64 (a.cA:Int))/\w.cell? ⟨p,3,none⟩=some (.int .i64 (a.aN:Int))/\w.cell? ⟨p,4,none⟩=some (.int .i64 (a.dead:Int)) /\
  w.cell? ⟨p,5,none⟩=some (.pointer (some ⟨x.sp,0,none⟩))/\w.cell? ⟨p,6,none⟩=some (.pointer (some ⟨x.ap,0,none⟩))/\w.cell? ⟨p,7,none⟩=some x.wv/\w.cell? ⟨p,8,none⟩=some x.bv/\w.cell? ⟨p,9,none⟩=some (.int .i64 (a.cM:Int)) /\
  w.cell? ⟨p,10,none⟩=some (.pointer (some ⟨x.snp,0,none⟩))/\w.cell? ⟨p,11,none⟩=some (.pointer (some ⟨x.rcp,0,none⟩))/\w.cell? ⟨p,12,none⟩=some (.pointer (some ⟨x.tkp,0,none⟩))/\w.cell? ⟨p,13,none⟩=some (.pointer (some ⟨x.gvp,0,none⟩)) /\
  w.cell? ⟨p,14,none⟩=some x.bsv/\w.cell? ⟨p,15,none⟩=some x.kv/\w.cell? ⟨p,16,none⟩=some x.acv/\w.cell? ⟨p,17,none⟩=some x.rev/\w.cell? ⟨p,18,none⟩=some x.tav/\w.cell? ⟨p,19,none⟩=some (.int .i64 (a.bL:Int)):=
 ⟨aJ h rfl,aJ h rfl,aJ h rfl,aJ h rfl,aJ h rfl,aJ h rfl,aJ h rfl,aJ h rfl,aJ h rfl,aJ h rfl,aJ h rfl,aJ h rfl,aJ h rfl,aJ h rfl,aJ h rfl,aJ h rfl,aJ h rfl,aJ h rfl,aJ h rfl,aJ h rfl⟩
theorem dY.port {G Y:BS} (h:(bP p a).on w G Y) (hd:Dj G Y):∃x,dY G Y w (bX p a x) w:=by
 obtain ⟨x,h⟩:=dY.opens (dY.start1 h hd)
 exact ⟨x,by simpa using h⟩
theorem dY.dX {G Y:BS} {w0:World} (h:dY G Y w0 (bX p a x) w):Did w0 G Y [bP p a] w:=(dY.shut (f:=bX p a) (ts:=[]) (by simpa using h)).did
theorem exists_yes {n:Nat} (c:Nat) (ra:Option Addr) (rc:Nat) (hc:c < n) (h1:w.cell? ⟨p,1,none⟩=some (.slice ra n rc)) :
  Calls Try.prog 31 #[.pointer (some ⟨p,0,none⟩),.int .i64 (c:Int)] w fun e w'=>e=.returned (.bool true)/\w=w':=by
 go_enter Try.func31,Try.ntmps31
 go_wp2_with fail
 go_ret
 exact ⟨by simp,rfl⟩
theorem exists_no {n:Nat} (c:Int) (ra:Option Addr) (rc:Nat) (hc:c < 0\/(n:Int)<=c) (h1:w.cell? ⟨p,1,none⟩=some (.slice ra n rc)) :
  Calls Try.prog 31 #[.pointer (some ⟨p,0,none⟩),.int .i64 c] w fun e w'=>e=.returned (.bool false)/\w=w':=by
 have hc':c < 0\/(0<=c/\(n:Int)<=c):=by omega
 clear hc
 rcases hc' with h0|⟨h0,h2⟩
 all_goals
  go_enter Try.func31,Try.ntmps31
  go_wp2_with fail
  go_ret
  exact ⟨by first|rfl|simp;try omega,rfl⟩
theorem up_any (h:dY F Z W ts w) (i:Nat) (hi:ts[i]? = some (bP p a)):Calls Try.prog 19 #[.pointer (some ⟨p,0,none⟩)] w fun e w'=>e=.returned (.bool (decide (a.cS.state=2)))/\w=w':=by
 obtain ⟨G,Y,x,hst⟩:=h.get i hi
 have c5:=(aB (hst.get (i:=0) rfl).1).2.2.2.2.2.1
 have hs:=(hst.get (i:=2) rfl).2
 have HQ:=aQ (state_any x.sp a.cS w hs)
 have hb:((a.cS.state:Int) == 2)=decide (a.cS.state=2):=by rw [Bool.eq_iff_iff];simp;omega
 rw [<-hb]
 clear hst hs hi h hb
 go_enter Try.func19,Try.ntmps19
 go_wp2_with (go_at_call 35;refine HQ.out.mono ?_;rintro e w' ⟨rfl,rfl⟩)
 go_ret
 exact ⟨rfl,rfl⟩
theorem overflows_any (h:dY F Z W ts w) (i:Nat) (hi:ts[i]? = some (bP p a)):Calls Try.prog 20 #[.pointer (some ⟨p,0,none⟩)] w fun e w'=>e=.returned (.int .i64 (a.bL:Int))/\w=w':=by
 obtain ⟨G,Y,x,hst⟩:=h.get i hi
 have c19:=(aB (hst.get (i:=0) rfl).1).2.2.2.2.2.2.2.2.2.2.2.2.2.2.2.2.2.2.2
 clear hst hi h
 go_enter Try.func20,Try.ntmps20
 go_wp2_with fail
 go_ret
 exact ⟨rfl,rfl⟩
end
end

section
open Go.RowKit
theorem sqsq_at {α : Type} {E:El α} {T1 T2:TypeId} {w:World} {F Z:BS} {b off n cap:Nat} {xss:List (List α)} {xs:List α} {c:Nat} (h:Sq (eSq E T1) T2 w F Z (.slice (some ⟨b,off,none⟩) n cap) xss) (hc:xss[c]? = some xs) :
  ∃v A,w.cell? ⟨b,off+c,none⟩=some v/\Sq E T1 w A Z v xs/\∀k,A k->F k:=by
 obtain ⟨b',off',cs,A,e,_,⟨v,rfl,h2⟩,h3,h4⟩:=h.at (by decide:0 < 1) hc
 obtain ⟨rfl,rfl⟩:b=b'/\off=off':=by simpa using e
 exact ⟨v,A,by simpa [eSq] using h4 0 v rfl,h2,h3⟩
theorem sqby_at {T:TypeId} {w:World} {F Z:BS} {b off n cap:Nat} {xs:List (List (BitVec 8))} {d:List (BitVec 8)} {i:Nat} (h:Sq eBy T w F Z (.slice (some ⟨b,off,none⟩) n cap) xs) (hi:xs[i]? = some d) :
  ∃v,w.cell? ⟨b,off+i,none⟩=some v/\ByZ w Z v d:=by
 obtain ⟨b',off',cs,A,e,_,⟨v,rfl,h2⟩,_,h4⟩:=h.at (by decide:0 < 1) hi
 obtain ⟨rfl,rfl⟩:b=b'/\off=off':=by simpa using e
 exact ⟨v,by simpa [eBy] using h4 0 v rfl,h2⟩
theorem Ow.byZ {T:TypeId} {w:World} {base:Nat} {v:Value} {bs:List (BitVec 8)} (h:Ow T w base v bs):ByZ w (fun k=>base<=k) v bs:=⟨h.by,fun _ b hb=>(h.byD.2 b hb).1⟩
theorem bT {α : Type} {l:List α} {i:Nat} {d : α} (h:i < l.length):l[i]? = some (l.getD i d):=by simp [List.getD,h]
section
variable {w:World} {F Z:BS} {W:World} {ts:List Th} {p:Nat} {a:Prt}
theorem counts_any {N:Nat} (h:dY F Z W ts w) (i:Nat) (hi:ts[i]? = some (bP p a)) (hok:a.Ok N) (_:N<=1000000000) (c:Nat) (hc:c < a.aZ.length) :
  Calls Try.prog 21 #[.pointer (some ⟨p,0,none⟩),.int .i64 (c:Int)] w fun e w'=>e=.returned (.tuple #[.int .i64 ((a.aG.getD c 0:Nat):Int),.int .i64 ((a.aW.getD c 0:Nat):Int),.int .i64 ((a.cF.getD c 0:Nat):Int)])/\dY F Z W ts w':=by
 obtain ⟨G,Y,x,hst⟩:=h.get i hi
 obtain ⟨rv,sp,ap,wv,bv,snp,rcp,tkp,gvp,bsv,kv,acv,rev,tav⟩:=x
 have hrow:=(hst.get (i:=0) rfl).1
 obtain ⟨_,c1,_,_,_,_,_,_,_,_,_,_,_,_,_,_,c16,c17,c18,_⟩:=aB hrow
 have hr:=hst.get (i:=1) rfl
 have h16:=hst.get (i:=12) rfl
 have h17:=hst.get (i:=13) rfl
 have h18:=hst.get (i:=14) rfl
 dsimp only at *
 have n1:=hok.n1;have n4:=hok.n4;have al:=hok.al;have rl:=hok.rl;have kl:=hok.kl
 obtain ⟨rb,ro,rc,rfl,_,_⟩:=bR hr n1
 obtain ⟨b1,o1,k1,rfl,m1,m1'⟩:=bR h16 (by omega)
 obtain ⟨b2,o2,k2,rfl,m2,m2'⟩:=bR h17 (by omega)
 obtain ⟨b3,o3,k3,rfl,m3,m3'⟩:=bR h18 (by omega)
 have e1:=nat_cell h16 (bT (d:=0) (show c < a.aG.length by omega))
 have e2:=nat_cell h17 (bT (d:=0) (show c < a.aW.length by omega))
 have e3:=nat_cell h18 (bT (d:=0) (show c < a.cF.length by omega))
 rw [al] at c16;rw [rl] at c17;rw [kl] at c18
 have HH:=aQ h
 have HQ:=aQ (exists_yes (p:=p) (w:=w) c (some ⟨rb,ro,none⟩) rc hc c1)
 clear hst hrow hr h16 h17 h18 hi h hok al rl kl c1 m1 m2 m3 m1' m2' m3'
 go_enter Try.func21,Try.ntmps21
 go_wp2_with (go_at_call 31;refine HQ.out.mono ?_;rintro e w' ⟨rfl,rfl⟩)
 go_quiet (fail)
 go_wp2_with fail
 go_ret3
 exact ⟨rfl,HH.out.drewN _⟩
theorem counts_no {n:Nat} (c:Int) (ra:Option Addr) (rc:Nat) (hc:c < 0\/(n:Int)<=c) (h1:w.cell? ⟨p,1,none⟩=some (.slice ra n rc)) :
  Calls Try.prog 21 #[.pointer (some ⟨p,0,none⟩),.int .i64 c] w fun e w'=>e=.returned (.tuple #[.int .i64 0,.int .i64 0,.int .i64 0])/\w=w':=by
 have HQ:=aQ (exists_no (p:=p) (w:=w) c ra rc hc h1)
 clear h1 hc
 go_enter Try.func21,Try.ntmps21
 go_wp2_with (go_at_call 31;refine HQ.out.mono ?_;rintro e w' ⟨rfl,rfl⟩)
 go_ret3
 exact ⟨rfl,rfl⟩
theorem peek_no {N:Nat} (h:dY F Z W ts w) (i:Nat) (hi:ts[i]? = some (bP p a)) (hok:a.Ok N) (c:Int) (hc:a.peek c=none) :
  Calls Try.prog 13 #[.pointer (some ⟨p,0,none⟩),.int .i64 c] w fun e w'=>e=.returned (.tuple #[.slice none 0 0,.bool false])/\w=w':=by
 obtain ⟨G,Y,x,hst⟩:=h.get i hi
 obtain ⟨rv,sp,ap,wv,bv,snp,rcp,tkp,gvp,bsv,kv,acv,rev,tav⟩:=x
 have hrow:=(hst.get (i:=0) rfl).1
 obtain ⟨_,c1,_,_,_,_,_,_,c8,_⟩:=aB hrow
 have hr:=hst.get (i:=1) rfl
 have hb:=hst.get (i:=5) rfl
 dsimp only at *
 have n1:=hok.n1;have n4:=hok.n4;have bl:=hok.bl
 obtain ⟨rb,ro,rc,rfl,_,_⟩:=bR hr n1
 by_cases h0:0<=c/\c < a.aZ.length
 ·obtain ⟨m,rfl⟩:∃m:Nat,c=(m:Int):=⟨c.toNat,by omega⟩
  have hm:m < a.aZ.length:=by omega
  obtain ⟨b1,o1,k1,rfl,m1,m1'⟩:=bR hb (by omega)
  have hx:=bT (d:=[]) (show m < a.aY.length by omega)
  have he:a.aY.getD m []=[]:=by
   unfold Prt.peek at hc
   rw [if_pos (show a.has m from h0)] at hc
   simpa using hc
  rw [he] at hx
  obtain ⟨v,A,hv,hsq,_⟩:=sqsq_at hb hx
  obtain ⟨av,cv,rfl⟩:=hsq.shape
  rw [show ([]:List (List (BitVec 8))).length=0 from rfl] at hv
  rw [bl] at c8
  have HQ:=aQ (exists_yes (p:=p) (w:=w) m (some ⟨rb,ro,none⟩) rc hm c1)
  clear hst hrow hr hb hi h hok bl c1 m1 m1' hsq hx he hc h0
  go_enter Try.func13,Try.ntmps13
  go_wp2_with (go_at_call 31;refine HQ.out.mono ?_;rintro e w' ⟨rfl,rfl⟩)
  go_ret2
  exact ⟨rfl,rfl⟩
 ·have HQ:=aQ (exists_no (p:=p) (w:=w) c (some ⟨rb,ro,none⟩) rc (n:=a.aZ.length) (by omega) c1)
  clear hst hrow hr hb hi h hok bl c1 hc h0
  go_enter Try.func13,Try.ntmps13
  go_wp2_with (go_at_call 31;refine HQ.out.mono ?_;rintro e w' ⟨rfl,rfl⟩)
  go_ret2
  exact ⟨rfl,rfl⟩
theorem peek_yes {N:Nat} (h:dY F Z W ts w) (i:Nat) (hi:ts[i]? = some (bP p a)) (hok:a.Ok N) (_:N<=1000000000) (m:Nat) (hm:m < a.aZ.length) (d:dV) (l:List dV) (hl:a.aY.getD m []=d::l) :
  Calls Try.prog 13 #[.pointer (some ⟨p,0,none⟩),.int .i64 (m:Int)] w fun e w'=>∃v,e=.returned (.tuple #[v,.bool true])/\dY F Z W (ts++[tBy v d]) w':=by
 obtain ⟨G,Y,x,hst⟩:=h.get i hi
 obtain ⟨rv,sp,ap,wv,bv,snp,rcp,tkp,gvp,bsv,kv,acv,rev,tav⟩:=x
 have hrow:=(hst.get (i:=0) rfl).1
 obtain ⟨_,c1,_,_,_,_,_,_,c8,_⟩:=aB hrow
 have hr:=hst.get (i:=1) rfl
 have hb:=hst.get (i:=5) rfl
 dsimp only at *
 have n1:=hok.n1;have n4:=hok.n4;have bl:=hok.bl
 obtain ⟨rb,ro,rc,rfl,_,_⟩:=bR hr n1
 obtain ⟨b1,o1,k1,rfl,m1,m1'⟩:=bR hb (by omega)
 have hx:=bT (d:=[]) (show m < a.aY.length by omega)
 have hln:=hok.bln _ (List.mem_of_getElem? hx)
 have hds:=hok.bsz _ (List.mem_of_getElem? hx) d
 rw [hl] at hx hln hds
 obtain ⟨v,A,hv,hsq,_⟩:=sqsq_at hb hx
 obtain ⟨b2,o2,k2,rfl,m2,m2'⟩:=bR hsq (by simp)
 obtain ⟨v2,hv2,hby⟩:=sqby_at hsq (i:=0) (d:=d) rfl
 rw [Nat.add_zero] at hv2
 rw [show (d::l).length=l.length+1 from rfl] at hv m2 hln
 rw [bl] at c8 m1
 have hd:=hds List.mem_cons_self
 have HQ:=aQ (exists_yes (p:=p) (w:=w) m (some ⟨rb,ro,none⟩) rc hm c1)
 have HC:=aQ (cV v2 d w hby.1 (by omega))
 have HH:=aQ h
 clear hst hrow hr hb hi h hok bl c1 m1 m1' hsq hx hl hds hby
 go_enter Try.func13,Try.ntmps13
 go_wp2_with (first
  |(go_at_call 31;refine HQ.out.mono ?_;rintro e w' ⟨rfl,rfl⟩)
  |(go_at_call 32;refine HC.out.mono ?_;rintro e w1 ⟨v1,rfl,ho,hb⟩;have HO:=aQ ho;have HB:=aQ hb;clear ho hb))
 go_ret2
 exact ⟨_,rfl,HH.out.addZ HB.out (T:=tBy v1 d) HO.out.byZ⟩
end
end

section
open Go.RowKit
theorem dY.putN {F Z:BS} {W w:World} {ts:List Th} {T:TypeId} {b off n cap:Nat} {xs:List Nat} (h:dY F Z W ts w) (i:Nat) (hi:ts[i]? = some (tSq dK T (.slice (some ⟨b,off,none⟩) n cap) xs)) {c y:Nat} (hc:c < xs.length) {u:Int} (hu:u=(y:Int)) :
  dY F Z W (ts.set i (tSq dK T (.slice (some ⟨b,off,none⟩) n cap) (xs.set c y))) (w.setCell ⟨b,off+c,none⟩ (.int .i64 u)):=by
 subst hu
 have:=h.put pure_nat i hi (c:=c) (j:=0) (a:=xs.getD c 0) (a':=y) (u:=.int .i64 (y:Int)) (bT hc) (by decide) rfl
 simpa [dK] using this
section
variable {w:World} {F Z:BS} {W:World} {ts:List Th} {p:Nat} {a:Prt}
theorem take_no {N:Nat} (h:dY F Z W ts w) (i:Nat) (hi:ts[i]? = some (bP p a)) (hok:a.Ok N) (c:Int) (hc:a.peek c=none) :
  Calls Try.prog 14 #[.pointer (some ⟨p,0,none⟩),.int .i64 c] w fun e w'=>e=.returned (.tuple #[.slice none 0 0,.bool false])/\w=w':=by
 have HQ:=aQ (peek_no h i hi hok c hc)
 clear hc hi h hok
 go_enter Try.func14,Try.ntmps14
 go_wp2_with (go_at_call 13;refine HQ.out.mono ?_;rintro e w' ⟨rfl,rfl⟩)
 go_ret2
 exact ⟨rfl,rfl⟩
set_option maxRecDepth 100000 in
theorem take_yes {N:Nat} (h:dY F Z W ts w) (i:Nat) (hi:ts[i]? = some (bP p a)) (hok:a.Ok N) (hN:N<=1000000000) (m:Nat) (hm:m < a.aZ.length) (d:dV) (l:List dV) (hl:a.aY.getD m []=d::l) :
  Calls Try.prog 14 #[.pointer (some ⟨p,0,none⟩),.int .i64 (m:Int)] w fun e w'=>∃v,e=.returned (.tuple #[v,.bool true])/\dY F Z W (ts.set i (bP p (a.take m).2)++[tBy v d]) w':=by
 obtain ⟨G,Y,hon,hd,_,_,hback⟩:=h.use i hi
 suffices hs:Calls Try.prog 14 #[.pointer (some ⟨p,0,none⟩),.int .i64 (m:Int)] w fun e w'=>∃v,e=.returned (.tuple #[v,.bool true])/\dY G Y w [bP p (a.take m).2,tBy v d] w' from
  hs.mono fun e w' ⟨v,he,hh⟩=>⟨v,he,hback w' _ [tBy v d] hh.did⟩
 clear hback h hi
 have hP:=dY.start1 hon hd
 have HQ:=aQ (peek_yes hP 0 rfl hok hN m hm d l hl)
 have HOK:=aQ hok
 have HL:=aQ hl
 have HTK:=aQ (show (a.take m).2={ a with aY:=a.aY.set m l,giv:=a.giv.set m (a.giv.getD m ⟨0,0,0⟩).free,cF:=a.cF.set m (a.cF.getD m 0+1) } by
  unfold Prt.take Prt.peek
  rw [if_pos (show a.has (m:Int) from ⟨by omega,by omega⟩)]
  simp only [Int.toNat_natCast,hl];rfl)
 clear hP hd hon hok hl
 go_enter Try.func14,Try.ntmps14
 go_wp2_with fail
 refine HQ.out.mono ?_
 rintro e w1 ⟨v1,rfl,hh⟩
 obtain ⟨x,hst⟩:=dY.opens (show dY G Y w (tEx (bX p a)::[tBy v1 d]) w1 from hh)
 clear hh
 obtain ⟨rv,sp,ap,wv,bv,snp,rcp,tkp,gvp,bsv,kv,acv,rev,tav⟩:=x
 have hrow:=hst.blk 0 rfl
 obtain ⟨_,_,_,_,_,_,_,_,c8,_⟩:=aB hrow
 have bl:=HOK.out.bl;have n4:=HOK.out.n4;have kl:=HOK.out.kl;have gl:=HOK.out.gl
 obtain ⟨_,_,hb⟩:=hst.get 5 rfl
 obtain ⟨b1,o1,k1,e1,m1,m1'⟩:=bR (show Sq (eSq eBy 27) 54 w1 _ _ bv a.aY from hb) (by omega)
 subst e1
 have hx:=bT (d:=[]) (show m < a.aY.length by omega)
 rw [HL.out] at hx
 have hbf:=(Sq.free (show Sq (eSq eBy 27) 54 w1 _ _ (.slice (some ⟨b1,o1,none⟩) a.aY.length k1) a.aY from hb)).2.2.2
 obtain ⟨vc,hvc,⟨_,_,hsq⟩,hinner⟩:=hst.inner 5 rfl hx
 obtain ⟨b2,o2,k2,rfl,m2,m2'⟩:=bR hsq (by simp)
 have HBACK:=aQ hinner
 clear hb hsq hinner hrow hst hx
 rw [show (d::l).length=l.length+1 from rfl] at hvc m2
 rw [bl] at c8 m1
 dsimp only at c8
 have h1l:(1:Int)<=(l.length:Int)+1:=by omega
 have HS2:=aQ (HBACK.out (.slice (if k2=1 then some ⟨b2,o2,none⟩ else some ⟨b2,o2+1,none⟩) l.length (k2 - 1)) l fun G Y h=>by
   obtain ⟨g,off,e,_,_,h'⟩:=h.drop (k:=1) (by decide) (by simp)
   obtain ⟨rfl,rfl⟩:b2=g/\o2=off:=by simpa using e
   simpa [eBy] using h')
 clear HBACK
 obtain ⟨na,hna⟩:∃na,(if k2=1 then some (⟨b2,o2,none⟩:Addr) else some ⟨b2,o2+1,none⟩)=na:=⟨_,rfl⟩
 have hsl1:l.length+1 - 1=l.length:=rfl
 have hm2:((l.length:Int)+1)<=(k2:Int):=by omega
 rw [hna] at HS2
 clear m2 hsl1
 go_wp2_with fail
 refine wp_region_still_tail 14 (by kernel_rfl) (by kernel_rfl) ?_
 simp only [List.take_succ_cons,List.take_zero,List.drop_succ_cons,List.drop_zero]
 change wpStill _ _ (World.drew _) (fun a'=>wpList _ _ _ _ a' (World.drew _)) _ _
 repeat still_step
 refine wpStill_nil ?_
 clear hna
 go_upto_region 4 with fail
 have hs3:=HS2.out.drew
 generalize hw2:World.drew _=w2 at hs3 ⊢
 clear hw2 HS2 c8 hbf hvc h1l hm2 m2'
 have hrow:=hs3.blk 0 rfl
 have c13:=(aB hrow).2.2.2.2.2.2.2.2.2.2.2.2.2.1
 have hg:=bT (d:=(⟨0,0,0⟩:Giv)) (show m < a.giv.length by omega)
 have HQ2:=aQ (freeG_h hs3 9 rfl (by omega) hg (by have:=(HOK.out.giv _ (List.mem_of_getElem? hg)).2.2;omega))
 clear hrow hs3 hg
 go_wp2_with fail
 refine HQ2.out.mono ?_
 rintro e w3 ⟨⟨_,rfl⟩,hs4⟩
 clear HQ2 c13
 have HS4:=aQ (show dY G Y w (bX p { a with aY:=a.aY.set m l,giv:=a.giv.set m (a.giv.getD m ⟨0,0,0⟩).free } ⟨rv,sp,ap,wv,.slice (some ⟨b1,o1,none⟩) a.aY.length k1,snp,rcp,tkp,gvp,bsv,kv,acv,rev,tav⟩++[tBy v1 d]) w3 from hs4)
 clear hs4
 have hrow:=HS4.out.blk 0 rfl
 have c18:=(aB hrow).2.2.2.2.2.2.2.2.2.2.2.2.2.2.2.2.2.2.1
 dsimp only at c18
 obtain ⟨_,_,hb⟩:=HS4.out.get 14 rfl
 obtain ⟨b3,o3,k3,e3,m3,m3'⟩:=bR (show Sq dK 3 w3 _ _ tav a.cF from hb) (by omega)
 subst e3
 have hx3:=bT (d:=0) (show m < a.cF.length by omega)
 have ht3:=HOK.out.tan _ (List.mem_of_getElem? hx3)
 have hc3:=nat_cell hb hx3
 have hf3:=(Sq.free hb).2.2.2
 have HS5:=aQ (HS4.out.putN (xs:=a.cF) 14 rfl (c:=m) (y:=a.cF.getD m 0+1) (u:=(a.cF.getD m 0:Int)+1) (by omega) (by omega))
 obtain ⟨z,hz⟩:∃z,z=a.cF.getD m 0:=⟨_,rfl⟩
 have HZ:=aQ hz
 rw [<-hz] at ht3 hc3
 rw [kl] at c18
 clear hrow hb hx3 hz
 go_wp2_with fail
 go_ret2
 refine ⟨v1,rfl,?_⟩
 rw [HTK.out]
 refine dY.shut (f:=bX p _) (i:=⟨rv,sp,ap,wv,.slice (some ⟨b1,o1,none⟩) a.aY.length k1,snp,rcp,tkp,gvp,bsv,kv,acv,rev,.slice (some ⟨b3,o3,none⟩) a.cF.length k3⟩) (ts:=[tBy v1 d]) ?_
 have hz:=HZ.out
 subst hz
 exact HS5.out
end
end

section
open Go.RowKit
theorem cell_ne {w:World} {p b i j:Nat} {u v:Value} (hne:p≠b) (h:w.cell? ⟨p,j,none⟩=some v):(w.setCell ⟨b,i,none⟩ u).cell? ⟨p,j,none⟩=some v:=
 (World.cell?_of_block (heap_setCell_other w ⟨b,i,none⟩ p u hne)).trans h
theorem dY.apart {F Z:BS} {W w:World} {ts:List Th} {A B:Th} {p q:Nat} (h:dY F Z W ts w) (i j:Nat) (hij:i≠j) (hi:ts[i]? = some A) (hj:ts[j]? = some B) (ha:∀G Y,A.on w G Y->G p) (hb:∀G Y,B.on w G Y->G q):p≠q:=by
 obtain ⟨L,_,_,h3⟩:=h
 intro e
 subst e
 have h1:L p=i+2:=ha _ _ (h3 i A hi)
 have h2:L p=j+2:=hb _ _ (h3 j B hj)
 omega
def Reads (T:Th) (v:Value) (d:dV):Prop:=∀(w:World) (G Y:BS),T.on w G Y->By w v d
theorem reads_by (v:Value) (d:dV):Reads (tBy v d) v d:=fun _ _ _ h=>h.1
section
variable {w:World} {F Z:BS} {W:World} {ts:List Th} {p:Nat} {a:Prt}
theorem poffer_range {n:Nat} (c:Int) (da:Option Addr) (dn dc:Nat) (ra:Option Addr) (rc:Nat) (_:n<=4) (hdn:dn<=9223372036854775807) (hc:c < 0\/(n:Int)<=c\/64 < dn) (h1:w.cell? ⟨p,1,none⟩=some (.slice ra n rc)) :
  Calls Try.prog 8 #[.pointer (some ⟨p,0,none⟩),.int .i64 c,.slice da dn dc] w fun e w'=>e=.returned (.int .i64 2)/\w=w':=by
 by_cases h0:c < 0\/(n:Int)<=c
 ·have HQ:=aQ (exists_no (p:=p) (w:=w) c ra rc h0 h1)
  clear h1 hc h0
  go_enter Try.func8,Try.ntmps8
  go_wp2_with (go_at_call 31;refine HQ.out.mono ?_;rintro e w' ⟨rfl,rfl⟩)
  go_ret
  exact ⟨rfl,rfl⟩
 ·obtain ⟨m,rfl⟩:∃m:Nat,c=(m:Int):=⟨c.toNat,by omega⟩
  have hd:64 < dn:=by omega
  have HQ:=aQ (exists_yes (p:=p) (w:=w) m ra rc (by omega) h1)
  clear h1 hc h0
  go_enter Try.func8,Try.ntmps8
  go_wp2_with (go_at_call 31;refine HQ.out.mono ?_;rintro e w' ⟨rfl,rfl⟩)
  go_ret
  exact ⟨rfl,rfl⟩
set_option maxRecDepth 100000 in
theorem poffer_full {N:Nat} (h:dY F Z W ts w) (i:Nat) (hi:ts[i]? = some (bP p a)) (hok:a.Ok N) (_:N<=1000000000) (m:Nat) (hm:m < a.aZ.length) (da:Option Addr) (dn dc:Nat) (hd:dn<=64) (hf:64<=(a.aX.getD m []).length) :
  Calls Try.prog 8 #[.pointer (some ⟨p,0,none⟩),.int .i64 (m:Int),.slice da dn dc] w fun e w'=>e=.returned (.int .i64 5)/\w=w':=by
 obtain ⟨G,Y,x,hst⟩:=h.get i hi
 obtain ⟨rv,sp,ap,wv,bv,snp,rcp,tkp,gvp,bsv,kv,acv,rev,tav⟩:=x
 have hrow:=(hst.get (i:=0) rfl).1
 obtain ⟨_,c1,_,_,_,_,_,c7,_⟩:=aB hrow
 have hr:=hst.get (i:=1) rfl
 have hb:=hst.get (i:=4) rfl
 dsimp only at *
 have n1:=hok.n1;have n4:=hok.n4;have wl:=hok.wl
 obtain ⟨rb,ro,rc,rfl,_,_⟩:=bR hr n1
 obtain ⟨b1,o1,k1,rfl,m1,m1'⟩:=bR hb (by omega)
 have hx:=bT (d:=[]) (show m < a.aX.length by omega)
 have hln:=hok.wln _ (List.mem_of_getElem? hx)
 obtain ⟨v,A,hv,hsq,_⟩:=sqsq_at hb hx
 obtain ⟨b2,o2,k2,rfl,m2,m2'⟩:=bR hsq (by omega)
 rw [wl] at c7 m1
 generalize (a.aX.getD m []).length=q at *
 have HQ:=aQ (exists_yes (p:=p) (w:=w) m (some ⟨rb,ro,none⟩) rc hm c1)
 clear hst hrow hr hb hi h hok wl c1 m1' hsq hx
 go_enter Try.func8,Try.ntmps8
 go_wp2_with (go_at_call 31;refine HQ.out.mono ?_;rintro e w' ⟨rfl,rfl⟩)
 go_ret
 exact ⟨rfl,rfl⟩
set_option maxRecDepth 100000 in
theorem poffer_yesT {N:Nat} (h:dY F Z W ts w) (i j:Nat) (hi:ts[i]? = some (bP p a)) (hok:a.Ok N) (_:N<=1000000000) (m:Nat) (hm:m < a.aZ.length) (dv:Value) (d:dV) {T:Th} (hT:Reads T dv d) (hj:ts[j]? = some T) (hij:j≠i) (hd:d.length<=64) (hf:(a.aX.getD m []).length < 64) :
  Calls Try.prog 8 #[.pointer (some ⟨p,0,none⟩),.int .i64 (m:Int),dv] w fun e w'=>e=.returned (.int .i64 0)/\dY F Z W (ts.set i (bP p { a with aX:=a.aX.set m (a.aX.getD m []++[d]) })) w':=by
 obtain ⟨G,Y,hon,hdGY,_,hoth,hback⟩:=h.use i hi
 obtain ⟨H,_,_,hbT⟩:=hoth j _ hij hj
 have hby:=hT _ _ _ hbT
 clear hbT hT
 suffices hs:Calls Try.prog 8 #[.pointer (some ⟨p,0,none⟩),.int .i64 (m:Int),dv] w fun e w'=>e=.returned (.int .i64 0)/\Did w G Y [bP p { a with aX:=a.aX.set m (a.aX.getD m []++[d]) }] w' from
  hs.mono fun e w' ⟨he,hh⟩=>⟨he,by have:=hback w' _ [] hh;rwa [List.append_nil] at this⟩
 clear hback hoth h hi hj
 obtain ⟨x,hst⟩:=dY.port hon hdGY
 clear hon
 obtain ⟨rv,sp,ap,wv,bv,snp,rcp,tkp,gvp,bsv,kv,acv,rev,tav⟩:=x
 have hrow:=hst.blk 0 rfl
 obtain ⟨_,c1,_,_,_,_,_,c7,_⟩:=aB hrow
 obtain ⟨_,_,hr⟩:=hst.get 1 rfl
 obtain ⟨_,_,hb⟩:=hst.get 4 rfl
 have n1:=hok.n1;have n4:=hok.n4;have wl:=hok.wl
 obtain ⟨rb,ro,rc,e1,_,_⟩:=bR (show Sq dK 3 w _ _ rv a.aZ from hr) n1
 obtain ⟨b1,o1,k1,e2,m1,m1'⟩:=bR (show Sq (eSq eBy 27) 54 w _ _ wv a.aX from hb) (by omega)
 subst e1 e2
 have hbf:=(Sq.free (show Sq (eSq eBy 27) 54 w _ _ (.slice (some ⟨b1,o1,none⟩) a.aX.length k1) a.aX from hb)).2.2.2
 have hx:=bT (d:=[]) (show m < a.aX.length by omega)
 have hpb:p≠b1:=hst.apart 0 4 (by decide) rfl rfl (fun _ _ h=>h.2) fun _ _ h=>(Sq.free (show Sq _ _ _ _ _ _ _ from h)).2.1
 obtain ⟨vc,hvc,hout⟩:=hst.out 4 rfl hx
 obtain ⟨_,_,hsq⟩:=hout.get 15 rfl
 obtain ⟨va,k2,e3⟩:=Sq.shape (show Sq eBy 27 w _ _ vc (a.aX.getD m []) from hsq)
 subst e3
 obtain ⟨da,dc,e4⟩:=hby.slice
 subst e4
 obtain ⟨xs,hxs⟩:∃xs,xs=a.aX.getD m []:=⟨_,rfl⟩
 have HXS:=aQ hxs
 rw [<-hxs] at hf hvc hout
 have HQ:=aQ (exists_yes (p:=p) (w:=w) m (some ⟨rb,ro,none⟩) rc hm c1)
 have HBY:=aQ hby
 have HOUT:=aQ hout
 rw [wl] at c7 m1
 dsimp only at c7
 clear hst hrow hr hb hby hout hsq hx hxs c1 m1'
 have hf1:decide (64<=xs.length)=false:=by simp;omega
 have hd1:decide (64 < d.length)=false:=by simp;omega
 go_enter Try.func8,Try.ntmps8
 go_wp2_with (go_at_call 31;refine HQ.out.mono ?_;rintro e w' ⟨rfl,rfl⟩)
 refine wp_region_held_drew (S:=fun w'=>w'.cell? ⟨p,7,none⟩=some (.slice (some ⟨b1,o1,none⟩) a.aZ.length k1)) (by kernel_rfl) c7 (fun hS0=>?_)
 change wpAnyH _ _ _ _ _ (7+11) _ _ _
 refine aH 0 11 (by kernel_rfl) hS0 (fun _ _ _ _ _ h=>h) ?_
 simp only [List.drop_zero,List.take_succ_cons,List.take_zero]
 iterate 11 (refine aR (v:=?_) (by rfl) ?_ ?_;rotate_left 1;(focus ((intro w' hS';go_simp);try with_reducible rfl));simp only [Act.put,List.setIfInBounds_toArray,List.set_cons_zero,List.set_cons_succ])
 refine aT ?_
 change wpAnyH _ _ _ _ _ (6+1) _ _ _
 refine aH 12 1 (by kernel_rfl) hS0 (fun _ _ _ _ _ h=>h) ?_
 simp only [List.drop_succ_cons,List.drop_zero,List.take_succ_cons,List.take_zero]
 (refine aR (v:=?_) (by rfl) ?_ ?_;rotate_left 1;(focus ((intro w' hS';go_simp);try with_reducible rfl));simp only [Act.put,List.setIfInBounds_toArray,List.set_cons_zero,List.set_cons_succ])
 refine aT ?_
 refine wpAnyH_two 11 13 (by kernel_rfl) rfl rfl (fun K hK=>?_) (fun K hK=>?_)
 focus
  go_simp
  refine hK.out _ _ c7 ?_
  clear hK K
  refine aM 13 (by kernel_rfl) rfl (fun K hK=>?_)
  (refine step_call (f:=?_) (args:=?_) (by rfl) ?_ ?_;rotate_left 2;(focus (go_simp;first|(with_reducible rfl)|(refine ⟨?_,?_⟩ <;> with_reducible rfl)));(refine (cV _ d _ (HBY.out.drewN 1) (by omega)).mono ?_);rintro e' w1 ⟨v1,rfl,ho,hb1⟩)
  refine ⟨_,rfl,?_⟩
  simp only [Act.put,List.setIfInBounds_toArray,List.set_cons_zero,List.set_cons_succ]
  have hb1':Below w.heap.size w w1:=(bS w 1).trans hb1
  obtain ⟨va1,vk1,rfl⟩:=ow_shape ho
  have hp1:p < w.heap.size:=World.block_lt_of_cell? w _ c7
  have hl1:b1 < w.heap.size:=World.block_lt_of_cell? w _ hvc
  have hS1:w1.cell? ⟨p,7,none⟩=some (.slice (some ⟨b1,o1,none⟩) a.aZ.length k1)/\w1.cell? ⟨b1,o1+m,none⟩=some (.slice va xs.length k2):=⟨(World.cell?_of_block (hb1'.block p hp1)).trans c7,(World.cell?_of_block (hb1'.block b1 hl1)).trans hvc⟩
  have HA:=HOUT.out.addZ hb1' (T:=tBy (.slice va1 d.length vk1) d) ho.byZ
  have HB1:=aQ hb1'
  obtain ⟨Kx,us,hsl,hKn,hback⟩:=HA.app 15 rfl
  have hKp:¬Kx p:=hKn p 0 _ (by decide) rfl fun H Y h=>.inl h.2
  have hKb:¬Kx b1:=hKn b1 4 _ (by decide) rfl fun H Y h=>.inl (Sq.free (show Sq _ _ _ H Y _ _ from h)).2.1
  have HBACK:=aQ hback
  have HSL:=aQ hsl
  clear hb1 hb1' ho HA hKn hback hsl
  have hba:=aK w1 (.cells #[.slice va1 d.length vk1] 27)
  have hS2:(w1.alloc (.cells #[.slice va1 d.length vk1] 27)).cell? ⟨p,7,none⟩=some (.slice (some ⟨b1,o1,none⟩) a.aZ.length k1)/\(w1.alloc (.cells #[.slice va1 d.length vk1] 27)).cell? ⟨b1,o1+m,none⟩=some (.slice va xs.length k2):=⟨aI _ _ hS1.1,aI _ _ hS1.2⟩
  have HARM:=aQ (fun (v2:Value) (w2:World) (hsl2:Sl w2 (fun k=>Kx k\/(w1.alloc (.cells #[.slice va1 d.length vk1] 27)).heap.size<=k) 27 1 v2 (xs.length+1) (us++[.slice va1 d.length vk1])) (hfr2:Fr Kx (w1.alloc (.cells #[.slice va1 d.length vk1] 27)) w2)=>
   show ∃g2 off2 cap2,v2=.slice (some ⟨g2,off2,none⟩) (xs.length+1) cap2/\w2.cell? ⟨b1,o1+m,none⟩=some (.slice va xs.length k2)/\(∀j,w2.frozen? ⟨b1,j,none⟩=false)/\w2.cell? ⟨p,7,none⟩=some (.slice (some ⟨b1,o1,none⟩) a.aZ.length k1)/\Hid (dY G Y w (bX p { a with aX:=a.aX.set m (xs++[d]) } ⟨.slice (some ⟨rb,ro,none⟩) a.aZ.length rc,sp,ap,.slice (some ⟨b1,o1,none⟩) a.aX.length k1,bv,snp,rcp,tkp,gvp,bsv,kv,acv,rev,tav⟩) (w2.setCell ⟨b1,o1+m,none⟩ (.slice (some ⟨g2,off2,none⟩) (xs.length+1) cap2))) from by
   obtain ⟨g2,off2,cap2,rfl,_⟩:=Sl.head hsl2 (by omega)
   have hpA:p < (w1.alloc (.cells #[.slice va1 d.length vk1] 27)).heap.size:=World.block_lt_of_cell? _ _ hS2.1
   have hbA:b1 < (w1.alloc (.cells #[.slice va1 d.length vk1] 27)).heap.size:=World.block_lt_of_cell? _ _ hS2.2
   have hS3:w2.cell? ⟨p,7,none⟩=some (.slice (some ⟨b1,o1,none⟩) a.aZ.length k1)/\w2.cell? ⟨b1,o1+m,none⟩=some (.slice va xs.length k2):=⟨(World.cell?_of_block (hfr2.block p hpA hKp)).trans hS2.1,(World.cell?_of_block (hfr2.block b1 hbA hKb)).trans hS2.2⟩
   have hs4:=HBACK.out _ w2 [.slice va1 d.length vk1] [d] _ hba hsl2 hfr2 fun Y hO=>by
    obtain ⟨H,_,hh⟩:=hO 16 _ (by decide) rfl
    exact ⟨fun _=>False,Y,fun _ f=>f.elim,fun _ y=>.inl y,fun _ f=>f.elim,Els.single (E:=eBy) ⟨_,rfl,ByZ.below hh hba⟩⟩
   have hs5:dY G Y w ((bX p a ⟨.slice (some ⟨rb,ro,none⟩) a.aZ.length rc,sp,ap,.slice (some ⟨b1,o1,none⟩) a.aX.length k1,bv,snp,rcp,tkp,gvp,bsv,kv,acv,rev,tav⟩).set 4 (tSq (eOpt (eSq eBy 27)) 54 (.slice (some ⟨b1,o1,none⟩) a.aX.length k1) ((a.aX.map some).set m none))++[tSq eBy 27 (.slice (some ⟨g2,off2,none⟩) (xs.length+1) cap2) (xs++[d])]) w2:=
    hs4.pick [0,1,2,3,4,5,6,7,8,9,10,11,12,13,14,15] _ (by decide) rfl
   have HS5:=aQ (dY.back (c:=m) (yss:=a.aX.set m (xs++[d])) hs5 4 rfl (by rw [List.length_set,List.length_map];omega) set_gap)
   have hbf2:∀j,w2.frozen? ⟨b1,j,none⟩=false:=by
    obtain ⟨_,_,hh⟩:=hs5.get 4 rfl
    exact (Sq.free (show Sq (eOpt (eSq eBy 27)) 54 w2 _ _ (.slice (some ⟨b1,o1,none⟩) a.aX.length k1) ((a.aX.map some).set m none) from hh)).2.2.2
   exact ⟨g2,off2,cap2,rfl,hS3.2,hbf2,hS3.1,HS5⟩)
  have hw2:=hS1.2
  have hw3:=hS2.2
  have hw1:=hS1.1
  have hw4:=hS2.1
  clear hS1 hS2 hba HBACK hKp hKb
  refine hK.out _ _ hw1 ?_
  clear hK K
  refine aM 14 (by kernel_rfl) rfl (fun K hK=>?_)
  go_simp
  refine hK.out _ _ hw4 ?_
  clear hK K
 rotate_left
 focus
  (refine step_call (f:=?_) (args:=?_) (by rfl) ?_ ?_;rotate_left 2;(focus (go_simp;first|(with_reducible rfl)|(refine ⟨?_,?_⟩ <;> with_reducible rfl)));(refine (cV _ d _ (HBY.out.drewN 1) (by omega)).mono ?_);rintro e' w1 ⟨v1,rfl,ho,hb1⟩)
  refine ⟨_,rfl,?_⟩
  simp only [Act.put,List.setIfInBounds_toArray,List.set_cons_zero,List.set_cons_succ]
  have hb1':Below w.heap.size w w1:=(bS w 1).trans hb1
  obtain ⟨va1,vk1,rfl⟩:=ow_shape ho
  have hp1:p < w.heap.size:=World.block_lt_of_cell? w _ c7
  have hl1:b1 < w.heap.size:=World.block_lt_of_cell? w _ hvc
  have hS1:w1.cell? ⟨p,7,none⟩=some (.slice (some ⟨b1,o1,none⟩) a.aZ.length k1)/\w1.cell? ⟨b1,o1+m,none⟩=some (.slice va xs.length k2):=⟨(World.cell?_of_block (hb1'.block p hp1)).trans c7,(World.cell?_of_block (hb1'.block b1 hl1)).trans hvc⟩
  have HA:=HOUT.out.addZ hb1' (T:=tBy (.slice va1 d.length vk1) d) ho.byZ
  have HB1:=aQ hb1'
  obtain ⟨Kx,us,hsl,hKn,hback⟩:=HA.app 15 rfl
  have hKp:¬Kx p:=hKn p 0 _ (by decide) rfl fun H Y h=>.inl h.2
  have hKb:¬Kx b1:=hKn b1 4 _ (by decide) rfl fun H Y h=>.inl (Sq.free (show Sq _ _ _ H Y _ _ from h)).2.1
  have HBACK:=aQ hback
  have HSL:=aQ hsl
  clear hb1 hb1' ho HA hKn hback hsl
  have hba:=aK w1 (.cells #[.slice va1 d.length vk1] 27)
  have hS2:(w1.alloc (.cells #[.slice va1 d.length vk1] 27)).cell? ⟨p,7,none⟩=some (.slice (some ⟨b1,o1,none⟩) a.aZ.length k1)/\(w1.alloc (.cells #[.slice va1 d.length vk1] 27)).cell? ⟨b1,o1+m,none⟩=some (.slice va xs.length k2):=⟨aI _ _ hS1.1,aI _ _ hS1.2⟩
  have HARM:=aQ (fun (v2:Value) (w2:World) (hsl2:Sl w2 (fun k=>Kx k\/(w1.alloc (.cells #[.slice va1 d.length vk1] 27)).heap.size<=k) 27 1 v2 (xs.length+1) (us++[.slice va1 d.length vk1])) (hfr2:Fr Kx (w1.alloc (.cells #[.slice va1 d.length vk1] 27)) w2)=>
   show ∃g2 off2 cap2,v2=.slice (some ⟨g2,off2,none⟩) (xs.length+1) cap2/\w2.cell? ⟨b1,o1+m,none⟩=some (.slice va xs.length k2)/\(∀j,w2.frozen? ⟨b1,j,none⟩=false)/\w2.cell? ⟨p,7,none⟩=some (.slice (some ⟨b1,o1,none⟩) a.aZ.length k1)/\Hid (dY G Y w (bX p { a with aX:=a.aX.set m (xs++[d]) } ⟨.slice (some ⟨rb,ro,none⟩) a.aZ.length rc,sp,ap,.slice (some ⟨b1,o1,none⟩) a.aX.length k1,bv,snp,rcp,tkp,gvp,bsv,kv,acv,rev,tav⟩) (w2.setCell ⟨b1,o1+m,none⟩ (.slice (some ⟨g2,off2,none⟩) (xs.length+1) cap2))) from by
   obtain ⟨g2,off2,cap2,rfl,_⟩:=Sl.head hsl2 (by omega)
   have hpA:p < (w1.alloc (.cells #[.slice va1 d.length vk1] 27)).heap.size:=World.block_lt_of_cell? _ _ hS2.1
   have hbA:b1 < (w1.alloc (.cells #[.slice va1 d.length vk1] 27)).heap.size:=World.block_lt_of_cell? _ _ hS2.2
   have hS3:w2.cell? ⟨p,7,none⟩=some (.slice (some ⟨b1,o1,none⟩) a.aZ.length k1)/\w2.cell? ⟨b1,o1+m,none⟩=some (.slice va xs.length k2):=⟨(World.cell?_of_block (hfr2.block p hpA hKp)).trans hS2.1,(World.cell?_of_block (hfr2.block b1 hbA hKb)).trans hS2.2⟩
   have hs4:=HBACK.out _ w2 [.slice va1 d.length vk1] [d] _ hba hsl2 hfr2 fun Y hO=>by
    obtain ⟨H,_,hh⟩:=hO 16 _ (by decide) rfl
    exact ⟨fun _=>False,Y,fun _ f=>f.elim,fun _ y=>.inl y,fun _ f=>f.elim,Els.single (E:=eBy) ⟨_,rfl,ByZ.below hh hba⟩⟩
   have hs5:dY G Y w ((bX p a ⟨.slice (some ⟨rb,ro,none⟩) a.aZ.length rc,sp,ap,.slice (some ⟨b1,o1,none⟩) a.aX.length k1,bv,snp,rcp,tkp,gvp,bsv,kv,acv,rev,tav⟩).set 4 (tSq (eOpt (eSq eBy 27)) 54 (.slice (some ⟨b1,o1,none⟩) a.aX.length k1) ((a.aX.map some).set m none))++[tSq eBy 27 (.slice (some ⟨g2,off2,none⟩) (xs.length+1) cap2) (xs++[d])]) w2:=
    hs4.pick [0,1,2,3,4,5,6,7,8,9,10,11,12,13,14,15] _ (by decide) rfl
   have HS5:=aQ (dY.back (c:=m) (yss:=a.aX.set m (xs++[d])) hs5 4 rfl (by rw [List.length_set,List.length_map];omega) set_gap)
   have hbf2:∀j,w2.frozen? ⟨b1,j,none⟩=false:=by
    obtain ⟨_,_,hh⟩:=hs5.get 4 rfl
    exact (Sq.free (show Sq (eOpt (eSq eBy 27)) 54 w2 _ _ (.slice (some ⟨b1,o1,none⟩) a.aX.length k1) ((a.aX.map some).set m none) from hh)).2.2.2
   exact ⟨g2,off2,cap2,rfl,hS3.2,hbf2,hS3.1,HS5⟩)
  have hw2:=hS1.2
  have hw3:=hS2.2
  have hw1:=hS1.1
  have hw4:=hS2.1
  clear hS1 hS2 hba HBACK hKp hKb
  refine hK.out _ _ hw1 ?_
  clear hK K
  refine wpAnyH_two 11 14 (by kernel_rfl) rfl rfl (fun K hK=>?_) (fun K hK=>?_)
  focus
   go_simp
   refine hK.out _ _ hw1 ?_
   clear hK K
   refine aM 14 (by kernel_rfl) rfl (fun K hK=>?_)
   go_simp
   refine hK.out _ _ hw4 ?_
   clear hK K
  rotate_left
  focus
   go_simp
   refine hK.out _ _ hw4 ?_
   clear hK K
   refine aM 11 (by kernel_rfl) rfl (fun K hK=>?_)
   go_simp
   refine hK.out _ _ hw4 ?_
   clear hK K
 all_goals
  refine aM 15 (by kernel_rfl) rfl (fun K hK=>?_)
  refine step_app_sl slBB rfl _ _ rfl Kx (.slice va xs.length k2) xs.length us rfl (HSL.out.alloc _) _ 1 [.slice va1 d.length vk1] rfl (rd_one _ _ _ _ rfl) (by intro u hu;simp at hu;subst hu;rfl) (by unfold maxLen;omega) (by omega) ?_
  intro v2 w2 hsl2 hfr2
  obtain ⟨g2,off2,cap2,rfl,k0,kf,kp,HS5⟩:=HARM.out v2 w2 hsl2 hfr2
  clear hsl2 hfr2
  refine hK.out _ _ kp ?_
  clear hK K
  simp only [Act.put,List.setIfInBounds_toArray,List.set_cons_zero,List.set_cons_succ]
  refine aM 16 (by kernel_rfl) rfl (fun K hK=>?_)
  go_simp
  refine hK.out _ _ kp ?_
  clear hK K
  refine aM 17 (by kernel_rfl) rfl (fun K hK=>?_)
  go_simp
  refine hK.out _ _ (cell_ne hpb kp) ?_
  clear hK K
  refine wpAnyH_done (by kernel_rfl) ?_ _
  go_wp2_with fail
  go_ret
  exact ⟨rfl,by rw [<-HXS.out];exact dY.dX HS5.out⟩
end
end

section
open Go.RowKit
section
variable {F Z:BS} {W w wr:World} {ts:List Th}
theorem dY.front {T:Th} (h:dY F Z W (ts++[T]) w):dY F Z W (T::ts) w:=by
 obtain ⟨L,h1,h2,h3⟩:=h
 obtain ⟨L',hL⟩:∃L':Lab,∀k,L' k=if L k<=1 then L k else if L k=ts.length+2 then 2 else if L k < ts.length+2 then L k+1 else 0:=⟨_,fun _=>rfl⟩
 have hz:∀k,L.is 1 k->L'.is 1 k:=fun k hk=>by
  have hk':L k=1:=hk
  show L' k=1
  rw [hL,if_pos (by omega),hk']
 refine ⟨L',h1,fun k hk hF=>?_,fun j T' hj=>?_⟩
 ·have:=h2 k hk hF
  rw [show L' k=L k by rw [hL,if_pos (by have:=this.1;omega)]];exact this
 ·match j,hj with
  |0,hj=>
   obtain rfl:T=T':=by simpa using hj
   refine T.mono (h3 ts.length T (by simp)) (fun k hk=>?_) hz
   have hk':L k=ts.length+2:=hk
   show L' k=0+2
   rw [hL,if_neg (by omega),if_pos hk']
  |j+1,hj=>
   have hj':ts[j]? = some T':=by simpa using hj
   have hjl:=aA hj'
   refine T'.mono (h3 j T' (by rw [List.getElem?_append_left hjl];exact hj')) (fun k hk=>?_) hz
   have hk':L k=j+2:=hk
   show L' k=j+1+2
   rw [hL,if_neg (by omega),if_neg (by omega),if_pos (by omega),hk']
theorem dY.rear {T:Th} (h:dY F Z W (T::ts) w):dY F Z W (ts++[T]) w:=by
 obtain ⟨L,h1,h2,h3⟩:=h
 obtain ⟨L',hL⟩:∃L':Lab,∀k,L' k=if L k<=1 then L k else if L k=2 then ts.length+2 else L k - 1:=⟨_,fun _=>rfl⟩
 have hz:∀k,L.is 1 k->L'.is 1 k:=fun k hk=>by
  have hk':L k=1:=hk
  show L' k=1
  rw [hL,if_pos (by omega),hk']
 refine ⟨L',h1,fun k hk hF=>?_,fun j T' hj=>?_⟩
 ·have:=h2 k hk hF
  rw [show L' k=L k by rw [hL,if_pos (by have:=this.1;omega)]];exact this
 ·by_cases hjl:j < ts.length
  ·rw [List.getElem?_append_left hjl] at hj
   refine T'.mono (h3 (j+1) T' (by simpa using hj)) (fun k hk=>?_) hz
   have hk':L k=j+1+2:=hk
   show L' k=j+2
   rw [hL,if_neg (by omega),if_neg (by omega),hk'];omega
  ·rw [List.getElem?_append_right (Nat.le_of_not_lt hjl)] at hj
   obtain ⟨rfl,rfl⟩:j=ts.length/\T=T':=by
    have h0:j - ts.length=0:=by have:=aA hj;simp at this;omega
    rw [h0] at hj
    exact ⟨by omega,by simpa using hj⟩
   refine T.mono (h3 0 T rfl) (fun k hk=>?_) hz
   have hk':L k=0+2:=hk
   show L' k=ts.length+2
   rw [hL,if_neg (by omega),if_pos (by omega)]
theorem dY.tail {T:Th} (h:dY F Z W (T::ts) w):dY F Z W ts w:=by
 obtain ⟨L,h1,h2,h3⟩:=h
 obtain ⟨L',hL⟩:∃L':Lab,∀k,L' k=if L k<=1 then L k else if L k=2 then 0 else L k - 1:=⟨_,fun _=>rfl⟩
 refine ⟨L',h1,fun k hk hF=>?_,fun j T' hj=>?_⟩
 ·have:=h2 k hk hF
  rw [show L' k=L k by rw [hL,if_pos (by have:=this.1;omega)]];exact this
 ·refine T'.mono (h3 (j+1) T' (by simpa using hj)) (fun k hk=>?_) fun k hk=>?_
  ·have hk':L k=j+1+2:=hk
   show L' k=j+2
   rw [hL,if_neg (by omega),if_neg (by omega),hk'];omega
  ·have hk':L k=1:=hk
   show L' k=1
   rw [hL,if_pos (by omega),hk']
theorem dY.appY {α : Type} {E:El α} {T:TypeId} {av:Value} {xs:List α} (h:dY F Z W ts wr) (i:Nat) (hi:ts[i]? = some (tSq E T av xs)) :
  ∃K us Y,Sl wr K T E.size av xs.length us/\(∀(b:Nat) (j:Nat) (T':Th),j≠i->ts[j]? = some T'->(∀H Y,T'.on wr H Y->H b\/Y b)->¬K b)/\Others ts i wr Y /\
   ∀(w1 w2:World) (news:List Value) (ys:List α) (u2:Value),Below wr.heap.size wr w1->Sl w2 (fun k=>K k\/w1.heap.size<=k) T E.size u2 (xs.length+ys.length) (us++news)->Fr K w1 w2 ->
    (∃N X:BS,(∀k,N k->wr.heap.size<=k)/\(∀k,X k->Y k\/wr.heap.size<=k)/\Dj N X/\Els E w1 N X news ys)->dY F Z W (ts.set i (tSq E T u2 (xs++ys))) w2:=by
 obtain ⟨G,Y,⟨K,D,us,hKD,hdj,hKs,hsl,hel⟩,hd,_,hoth,hback⟩:=h.use i hi
 refine ⟨K,us,Y,hsl,fun b j T' hj hT hb hK=>?_,fun j T' hj hT=>by obtain ⟨H,_,h2,h3⟩:=hoth j T' hj hT;exact ⟨H,h2,h3⟩,fun w1 w2 news ys u2 hb hsl2 hf hnew=>?_⟩
 ·obtain ⟨H,h1,_,h3⟩:=hoth j T' hj hT
  exact (hb H Y h3).elim (fun hh=>h1 b (hKD b (.inl hK)) hh) fun hy=>hd b (hKD b (.inl hK)) hy
 ·obtain ⟨N,X,n1,n2,n3,n4⟩:=hnew
  have hs1:=hb.size
  have hs2:=hf.size
  have hfw:Fr K wr w2:=⟨hf.os.trans hb.os,hf.tape.trans hb.tape,hf.output.trans hb.output,Nat.le_trans hs1 hs2,fun k hl hn=>(hf.block k (by omega) hn).trans (hb.block k hl)⟩
  have hn4:Els E w2 (fun k=>N k/\k < w1.heap.size) (fun k=>X k/\k < w1.heap.size) news ys:=n4.keep hs2 fun k hh hl=>hf.block k hl fun hK=>by
   have hkl:=hKs k hK
   rcases hh with hh|hh
   ·have:=n1 k hh;omega
   ·rcases n2 k hh with hy|hy
    ·exact hd k (hKD k (.inl hK)) hy
    ·omega
  have hsq':Sq E T w2 (fun k=>(G k\/wr.heap.size<=k)/\¬((Y k/\k < wr.heap.size)\/(X k/\k < w1.heap.size))) (fun k=>(Y k/\k < wr.heap.size)\/(X k/\k < w1.heap.size)) u2 (xs++ys):=by
   refine ⟨fun k=>(K k\/w1.heap.size<=k)/\k < w2.heap.size,fun k=>(D k/\k < wr.heap.size)\/(N k/\k < w1.heap.size),us++news,?_,?_,fun k h=>h.2,?_,?_⟩
   ·rintro k (⟨h|h,_⟩|h|h)
    ·have hkl:=hKs k h
     refine ⟨.inl (hKD k (.inl h)),?_⟩
     rintro (⟨hy,_⟩|⟨hx,_⟩)
     ·exact hd k (hKD k (.inl h)) hy
     ·rcases n2 k hx with hy|hy
      ·exact hd k (hKD k (.inl h)) hy
      ·omega
    ·refine ⟨.inr (by omega),?_⟩
     rintro (⟨_,hl⟩|⟨_,hl⟩) <;> omega
    ·refine ⟨.inl (hKD k (.inr h.1)),?_⟩
     rintro (⟨hy,_⟩|⟨hx,_⟩)
     ·exact hd k (hKD k (.inr h.1)) hy
     ·rcases n2 k hx with hy|hy
      ·exact hd k (hKD k (.inr h.1)) hy
      ·omega
    ·have hn:=n1 k h.1
     refine ⟨.inr hn,?_⟩
     rintro (⟨_,hl⟩|⟨hx,_⟩)
     ·omega
     ·exact n3 k h.1 hx
   ·rintro k ⟨h|h,h0⟩ (h'|h')
    ·exact hdj k h h'.1
    ·have:=hKs k h;have:=n1 k h'.1;omega
    ·omega
    ·omega
   ·rw [List.length_append];exact hsl2.bound
   ·refine ((hel.keep hfw.size fun k hh hl=>hfw.block k hl fun h=>hh.elim (fun d=>hdj k h d) fun z=>hd k (hKD k (.inl h)) z).mono (fun _ h=>h) fun k h=>.inl h).append (hn4.mono (fun _ h=>h) fun k h=>.inr h) (fun k a b=>?_) (fun k h=>.inl h) fun k h=>.inr h
    have:=n1 k b.1;omega
  have hg:Fr G wr w2:=hfw.mono fun k hk=>hKD k (.inl hk)
  have:=hback w2 (tSq E T u2 (xs++ys)) [] ⟨hg,_,fun k hk=>?_,Star.one hsq'⟩
  ·rwa [List.append_nil] at this
  ·rcases hk with hk|hk
   ·exact .inl hk.1
   ·rcases n2 k hk.1 with hy|hy
    ·exact .inl hy
    ·exact .inr (.inr hy)
end
theorem dY.pickL {F Z:BS} {W w:World} {us vs ts:List Th} (h:dY F Z W (us++ts) w) (js:List Nat) (hn:js.Nodup) (he:js.map (fun j=>us[j]?)=vs.map some):dY F Z W (vs++ts) w:=by
 have hlt:∀j ∈ js,j < us.length:=fun j hj=>by
  have hm:us[j]? ∈ vs.map some:=by rw [<-he];exact List.mem_map.2 ⟨j,hj,rfl⟩
  obtain ⟨v,_,e⟩:=List.mem_map.1 hm
  exact aA e.symm
 refine h.pick (js++(List.range ts.length).map (· + us.length)) (vs++ts) ?_ ?_
 ·rw [List.nodup_append]
  refine ⟨hn,?_,fun x hx y hy e=>?_⟩
  ·rw [List.Nodup,List.pairwise_map]
   exact List.nodup_range.imp fun h e=>h (by omega)
  ·obtain ⟨i,_,rfl⟩:=List.mem_map.1 hy
   have:=hlt x hx
   omega
 ·rw [List.map_append,List.map_append,<-he]
  congr 1
  ·refine List.map_congr_left fun j hj=>?_
   rw [List.getElem?_append_left (hlt j hj)]
  ·rw [List.map_map]
   apply List.ext_getElem?
   intro i
   rw [List.getElem?_map,List.getElem?_map]
   by_cases hi:i < ts.length
   ·rw [List.getElem?_range hi,List.getElem?_eq_getElem hi]
    simp only [Option.map_some,Function.comp]
    rw [List.getElem?_append_right (by omega),Nat.add_sub_cancel,List.getElem?_eq_getElem hi]
   ·rw [List.getElem?_eq_none (by simpa using hi),List.getElem?_eq_none (by omega)];rfl
theorem Els.later {α : Type} {E:El α} {w w':World} {F Z:BS} {us:List Value} {xs:List α} (h:Els E w F Z us xs) (hb:Below w.heap.size w w'):Els E w' F Z us xs:=
 (h.keep hb.size fun k _ hl=>hb.block k hl).mono (fun _ h=>h.1) fun _ h=>h.1
theorem els_by {w:World} {Z:BS}:∀ {F:BS} {us:List Value} {xs:List (List (BitVec 8))},Els eBy w F Z us xs->Els eBy w (fun _=>False) Z us xs
 |_,_,[],h=>h
 |_,_,_::_,⟨cs,rest,_,_,e,_,_,_,h1,h2⟩=>⟨cs,rest,fun _=>False,fun _=>False,e,fun _ f=>f,fun _ f=>f,fun _ f=>f.elim,h1,els_by h2⟩
end

end Go.Proofs.Ytbgjpfbcelkllaa
