/- Lemmas; no condition on the program. -/
import Derived.Test.YtjnbanjjoomecaaGreatDoorPkF1
import Derived.Test.YtjnbanjjoomecaaGreatDoorPkA1
import Derived.Test.YtjnbanjjoomecaaGreatDoorPkE1
import Derived.Deep.CutBlock
import Derived.Deep.CutRange
import Derived.Deep.DeepCutAuto
import Derived.StillTailTactics
import Derived.Lib.MinMax
import Derived.IntWalk
import Derived.Deep.RegionHeld3
import Derived.Test.YtjnbanjjoomecaaGreatDoorRows
import Derived.Deep.QuietTactic
import Derived.BigQuiet
import Derived.Handy
namespace Go.Proofs.YtjnbanjjoomecaaGreatDoor
open Go.RowKit
open List renaming replicate→Vr, getElem?_eq_getElem→Vw, take_succ_cons→Vy, drop_succ_cons→Vz, mem_of_getElem?→VD, append_assoc→VE, getElem?_map→VG, drop_zero→VH, take_zero→VI, length_map→VL, getElem?_append_left→VO, getElem?_append_right→VP, getElem?_eq_none→VT, range→VV, length_take→VW, getElem?_range→VY, length_set→Wd, getElem?_set_self→Wm, getD→Wo, append_nil→Wp, mem_map→Wx, ext_getElem?→WQ, map_append→W9, map_congr_left→Xb, flatMap_cons→Xh, set_set→Xo, getElem?_set→Xx, ext_getElem→XB, map_map→XR, length→XT, set_append_right→YT, getElem?_set_ne→YW, filter→ZL
open _root_.Go.Proofs.Tryz renaming prog→Vs
open World renaming cell?_of_block→Vt, block_lt_of_cell?→Vv, drew→V3, size_setCell→Y1
open Nat renaming le_refl→Vu, zero_le→VJ, zero_add→V5, add_mul→WK, lt_or_ge→WV, mul_one→Xi, mod_lt→Ya, sub_self→YF, le_of_eq→ZK
open Act renaming put→VF
open Option.some renaming inj→VM
open _root_.Go.RowKit.Below renaming refl→VQ
open Option renaming map_some→V_
open Calls renaming quiet_of_same→Wq
open Decidable renaming byContradiction→Yi
open Instr renaming makeFunc→YE
open Iff renaming rfl→YU
open Oper renaming upon_enter→Zq
open Bool renaming eq_iff_iff→Zx
set_option maxRecDepth 100000
set_option maxHeartbeats 64000000
structure Side where
 mine:Nat
 dead:Nat
 cM:Nat
 seen:Nat
 state:Nat
 silent:Nat
def gP (mine dead:Nat):Side:=⟨mine,dead,0,0,0,0⟩
def Side.cR (s:Side):Side:=
 if s.cM=0 then s else if s.dead<=s.silent+1 then { s with state:=0,cM:=0,silent:=0 } else { s with silent:=s.silent+1 }
def Side.cO (s:Side) (mine yours:Int):Side:=
 if mine < 1\/1099511627775 < mine\/mine < s.seen then s
 else { s with seen:=mine.toNat,silent:=0,cM:=mine.toNat,state:=if yours=s.mine then 2 else 1 }
structure Side.Ok (s:Side):Prop where
 m1:1<=s.mine
 m2:s.mine<=1099511627775
 d1:1<=s.dead
 d2:s.dead<=1000
 seen:s.seen<=1099511627775
 cM:s.cM<=s.seen
 state:s.state<=2
 zero:s.cM=0↔s.state=0
 silent:s.silent < s.dead
theorem EM {a b:Nat} (h1:1<=a) (h2:a<=1099511627775) (h3:1<=b) (h4:b<=1000):(gP a b).Ok:=
 ⟨h1,h2,h3,h4,by simp [gP],by simp [gP],by simp [gP],by simp [gP],h3⟩
theorem Side.Ok.cR {s:Side} (h:s.Ok):s.cR.Ok:=by
 obtain ⟨a1,a2,a3,a4,a5,a6,a7,a8,a9⟩:=h;unfold Side.cR;split
 ·exact ⟨a1,a2,a3,a4,a5,a6,a7,a8,a9⟩
 ·split
  ·exact ⟨a1,a2,a3,a4,a5,VJ _,VJ _,YU,a3⟩
  ·exact ⟨a1,a2,a3,a4,a5,a6,a7,a8,by dsimp only;omega⟩
theorem Side.Ok.cO {s:Side} (h:s.Ok) (m y:Int):(s.cO m y).Ok:=by
 obtain ⟨a1,a2,a3,a4,a5,a6,a7,a8,a9⟩:=h;unfold Side.cO;split
 ·exact ⟨a1,a2,a3,a4,a5,a6,a7,a8,a9⟩
 ·refine ⟨a1,a2,a3,a4,by dsimp only;omega,by dsimp only;omega,?_,?_,a3⟩
  ·dsimp only;split <;> omega
  ·dsimp only;split <;> omega
structure sZ where
 ptr:Nat
 jc:List Nat
def ji (n:Nat):sZ:=⟨0,Vr n 0⟩
def eQ (χ:List Bool) (ptr n:Nat):Nat->Nat->Option Nat
 |_,0=>none
 |i,k+1=>if χ.getD ((ptr+i) % n) false then some ((ptr+i) % n) else eQ χ ptr n (i+1) k
def sZ.choice (a:sZ) (χ:List Bool):Option Nat:=eQ χ a.ptr χ.length 0 χ.length
def sZ.pick (a:sZ) (χ:List Bool):Option Nat × sZ:=
 (a.choice χ,⟨match a.choice χ with|some c=>(c+1) % χ.length|none=>a.ptr,
  (VV χ.length).map fun i=>if χ.getD i false=true/\some i≠a.choice χ then min (a.jc.getD i 0+1) 1073741824 else 0⟩)
structure fV where
 room:Nat
 aW:Nat
 cI:Nat
structure jC where
 cP:Nat
 cE:Nat
def fV.cE (g:fV):Nat:=g.room+g.cI
def fV.cO (g:fV):Bool × fV:=if g.cE<=g.aW then (false,g) else (true,{ g with aW:=g.aW+1 })
def fV.free (g:fV):fV:=if g.aW<=g.cI then g else { g with cI:=g.cI+1 }
def jC.raise (t:jC) (l:Int):jC:=if l < 0\/1099511627776 < l then t else { t with cE:=max t.cE l.toNat }
def jC.take (t:jC):jC:=if t.cE<=t.cP then t else { t with cP:=t.cP+1 }
structure Pt where
 kind:BitVec 8
 cls:Int
 number:Int
 value:Int
 pay:dV
structure δ where
 inc:Nat
 aZ:List Nat
 cA:Nat
 aN:Nat
 dead:Nat
 cS:Side
 dE:sZ
 aX:List (List dV)
 aY:List (List dV)
 cM:Nat
 snd:bg
 rcv:Nat
 bu:List jC
 π:List fV
 base:List Nat
 cT:List (Nat × dV)
 aG:List Nat
 aW:List Nat
 cF:List Nat
 bL:Nat
def fV.held (g:fV):Nat->fV
 |0=>g
 |k+1=>(g.held k).cO.2
def δ.begin (p:δ) (cM:Nat):δ:=
 { p with
  aX:=(VV p.aX.length).map fun c=>((p.cT.filter fun f=>f.1 == c).map (·.2))++p.aX.getD c []
  cT:=[]
  cM:=cM
  snd:=eH p.cA p.aN
  rcv:=0
  bu:=Vr p.aZ.length ⟨0,0⟩
  π:=(VV p.aZ.length).map fun c=>fV.held ⟨p.aZ.getD c 0,0,0⟩ (p.aY.getD c []).length
  base:=p.aY.map XT }
def dG (inc:Nat) (aZ:List Nat) (cA aN dead:Nat):δ:=
 δ.begin ⟨inc,aZ,cA,aN,dead,gP inc dead,ji aZ.length,Vr aZ.length [],Vr aZ.length [],0,eH cA aN,0,
  [],[],Vr aZ.length 0,[],Vr aZ.length 0,Vr aZ.length 0,Vr aZ.length 0,0⟩ 0
def δ.has (p:δ) (c:Int):Prop:=0<=c/\c < p.aZ.length
instance (p:δ) (c:Int):Decidable (p.has c):=by unfold δ.has;infer_instance
def δ.dQ (p:δ) (c:Int) (d:dV):Nat × δ:=
 if ¬p.has c\/64 < d.length then (2,p)
 else if 64<=(p.aX.getD c.toNat []).length then (5,p)
 else (0,{ p with aX:=p.aX.set c.toNat (p.aX.getD c.toNat []++[d]) })
def δ.gy (p:δ) (x:Pt):δ:=
 let q:={ p with cS:=p.cS.cO x.number x.value }
 if q.cS.cM≠0/\q.cS.cM≠q.cM then q.begin q.cS.cM else q
def δ.cO (p:δ) (x:Pt):δ:=
 if ¬p.has x.cls\/x.number≠(p.rcv % 256:Nat) then p
 else
  let g:=p.π.getD x.cls.toNat ⟨0,0,0⟩
  if g.cO.1=false then { p with rcv:=p.rcv+1,bL:=p.bL+1 }
  else { p with
   rcv:=p.rcv+1
   π:=p.π.set x.cls.toNat g.cO.2
   aY:=p.aY.set x.cls.toNat (p.aY.getD x.cls.toNat []++[x.pay])
   aW:=p.aW.set x.cls.toNat (p.aW.getD x.cls.toNat 0+1) }
def tally (l:List Nat) (ks:List (Nat × dV)):List Nat:=ks.foldl (fun l f=>l.set f.1 (l.getD f.1 0+1)) l
def δ.bQ (p:δ) (x:Pt):δ:=
 { p with snd:=(p.snd.nJ x.number).2,aG:=tally p.aG (p.cT.take (p.snd.nJ x.number).1),cT:=p.cT.drop (p.snd.nJ x.number).1 }
def δ.raise (p:δ) (x:Pt):δ:=
 if p.has x.cls then { p with bu:=p.bu.set x.cls.toNat ((p.bu.getD x.cls.toNat ⟨0,0⟩).raise x.number) } else p
def δ.cU (p:δ) (x:Pt):δ:=
 if x.kind=1#8 then p.gy x
 else if ¬(p.cS.state=2/\p.cS.cM≠0/\(p.cS.cM:Int)=x.value) then p
 else if x.kind=2#8 then p.cO x
 else if x.kind=3#8 then p.bQ x
 else if x.kind=4#8 then p.raise x
 else p
def δ.bK (p:δ):List Bool:=(VV p.aX.length).map fun c=>decide (0 < (p.aX.getD c []).length) && decide ((p.bu.getD c ⟨0,0⟩).cP < (p.bu.getD c ⟨0,0⟩).cE)
def δ.choose (p:δ):δ:=
 if p.cA<=p.snd.cT.length then p
 else
  match (p.dE.pick p.bK).1 with
  |none=>{ p with dE:=(p.dE.pick p.bK).2 }
  |some c=>{ p with
    dE:=(p.dE.pick p.bK).2
    aX:=p.aX.set c ((p.aX.getD c []).drop 1)
    bu:=p.bu.set c (p.bu.getD c ⟨0,0⟩).take
    snd:=(p.snd.dQ ((p.aX.getD c []).getD 0 [])).2
    cT:=p.cT++[(c,(p.aX.getD c []).getD 0 [])] }
def δ.lC (p:δ) (number:Nat):Nat:=(p.cT.getD ((number+256 - p.snd.aG % 256) % 256) (0,[])).1
def δ.cR (p:δ) (bV:List Pt):List Pt × δ:=
 let p:=bV.foldl δ.cU p
 let p:={ p with cS:=p.cS.cR }
 let gU:Pt:=⟨1#8,0,p.inc,p.cS.cM,[]⟩
 if p.cS.state≠2 then ([gU],p)
 else
  let cP:=gU::⟨3#8,0,(p.rcv % 256:Nat),p.inc,[]⟩::((VV p.base.length).map fun (c:Nat)=>(⟨4#8,(c:Int),((p.π.getD c ⟨0,0,0⟩).cE:Int) - ((p.base.getD c 0:Nat):Int),p.inc,[]⟩:Pt))
  let p:=p.choose
  match p.snd.cR with
  |(some (n,d),s)=>(cP++[⟨2#8,(δ.lC { p with snd:=s } n:Nat),n,p.inc,d⟩],{ p with snd:=s })
  |(none,s)=>(cP,{ p with snd:=s })
def δ.jY (p:δ) (c:Int):Option dV:=if p.has c then (p.aY.getD c.toNat []).head? else none
def δ.take (p:δ) (c:Int):Option dV × δ:=
 match p.jY c with
 |none=>(none,p)
 |some d=>(some d,{ p with
   aY:=p.aY.set c.toNat ((p.aY.getD c.toNat []).drop 1)
   π:=p.π.set c.toNat (p.π.getD c.toNat ⟨0,0,0⟩).free
   cF:=p.cF.set c.toNat (p.cF.getD c.toNat 0+1) })
def δ.Ω (p:δ) (inc:Int):Nat × δ:=
 if inc<=p.inc\/1099511627775 < inc then (2,p) else (0,dG inc.toNat p.aZ p.cA p.aN p.dead)

def KI {α : Type} (s:Nat) (f : α -> List Value) (hl:∀a,(f a).length=s) (h1:∀a,∀u ∈ f a,u.oneCell'=true):El α where
 size:=s
 rd _ _ _ cs a:=cs=f a
 len h:=by rw [h,hl]
 keep h _ _:=h
 mono h _ _:=h
 one h u hu:=h1 _ u (h ▸ hu)
def Pure {α : Type} (E:El α) (f : α -> List Value):Prop:=∀w F Z cs a,E.rd w F Z cs a↔cs=f a
theorem jG:Pure dK (fun n=>[.int .i64 (n:Int)]):=fun _ _ _ _ _=>YU
section
variable {α : Type} {E:El α} {f : α -> List Value} {w:World} {F Z:BS}
theorem Pure.len (hp:Pure E f) (a : α):(f a).length=E.size:=E.len ((hp default (fun _=>False) (fun _=>False) (f a) a).2 rfl)
theorem Pure.els (hp:Pure E f):∀ {F:BS} {us:List Value} {xs:List α},fK E w F Z us xs->us=xs.flatMap f
 |_,_,[],h=>h
 |_,_,a::xs,⟨cs,rest,_,_,e,_,_,_,h1,h2⟩=>by rw [e,(hp _ _ _ _ _).1 h1,hp.els h2,Xh]
theorem Pure.of (hp:Pure E f):∀(F:BS) (xs:List α),fK E w F Z (xs.flatMap f) xs
 |_,[]=>rfl
 |F,a::xs=>⟨f a,xs.flatMap f,fun _=>False,F,Xh,fun _ h=>h.elim,fun _ h=>h,fun _ h=>h.elim,(hp _ _ _ _ _).2 rfl,hp.of F xs⟩
theorem tT {s:Nat} (hl:∀a,(f a).length=s) {a a' : α} {u:Value} {j:Nat} (hj:j < s) (he:(f a).set j u=f a'):∀ {xs:List α} {c:Nat},xs[c]? = some a->(xs.flatMap f).set (c*s+j) u=(xs.set c a').flatMap f
 |x::xs,0,hc=>by
  obtain rfl:x=a:=by simpa using hc
  rw [Xh,Ψ,Xh,<-he,List.set_append_left _ _ (by rw [hl];omega),Nat.zero_mul,V5]
 |x::xs,c+1,hc=>by
  rw [Xh,ae,Xh,<-tT hl hj he (xs:=xs) (c:=c) (by simpa using hc),YT _ _ (by rw [hl,WK];omega),hl];congr 2;rw [WK];omega
theorem Sl.put {w:World} {K:BS} {T:TypeId} {s b off n cap:Nat} {us:List Value} (h:Sl w K T s (.slice (some ⟨b,off,none⟩) n cap) n us) (q:Nat) (u:Value) :
  Sl (w.setCell ⟨b,off+q,none⟩ u) K T s (.slice (some ⟨b,off,none⟩) n cap) n (us.set q u):=by
 obtain ⟨hl,⟨h,_⟩|⟨b',off',cap',cur,e,hK,hg,h1,h2,h3,h4⟩⟩:=h
 ·cases h
 ·obtain ⟨⟨rfl,rfl⟩,rfl⟩:(b=b'/\off=off')/\cap=cap':=by simpa using e
  refine ⟨by rw [Wd,hl],.inr ⟨b,off,cap,cur.setIfInBounds (off+q) u,rfl,hK,heap_setCell_same w b (off+q) cur T u hg,h1,h2,by rw [Array.size_setIfInBounds];exact h3,?_⟩⟩;rw [Array.toList_setIfInBounds,List.drop_set,if_neg (by omega),List.take_set,<-h4];congr 1;omega
theorem Sl.free {w:World} {K:BS} {T:TypeId} {s b off n cap:Nat} {us:List Value} (h:Sl w K T s (.slice (some ⟨b,off,none⟩) n cap) n us):K b/\b < w.heap.size/\∀j,w.frozen? ⟨b,j,none⟩=false:=by
 obtain ⟨hl,⟨h,_⟩|⟨b',off',cap',cur,e,hK,hg,h1,h2,h3,h4⟩⟩:=h
 ·cases h
 ·obtain ⟨⟨rfl,rfl⟩,rfl⟩:(b=b'/\off=off')/\cap=cap':=by simpa using e
  exact ⟨hK,lt_of_block hg,fun j=>frozen_of_row w b j cur T hg⟩
theorem Sq.free {T:TypeId} {b off n cap:Nat} {xs:List α} (h:Sq E T w F Z (.slice (some ⟨b,off,none⟩) n cap) xs):n=xs.length/\F b/\b < w.heap.size/\∀j,w.frozen? ⟨b,j,none⟩=false:=by
 obtain ⟨a,c,e⟩:=h.shape;obtain ⟨_,rfl,_⟩:some (⟨b,off,none⟩:Addr)=a/\n=xs.length/\cap=c:=by simpa using e
 obtain ⟨K,D,us,h1,h2,hK,h3,h4⟩:=h;obtain ⟨q1,q2,q3⟩:=h3.free;exact ⟨rfl,h1 b (.inl q1),q2,q3⟩
theorem Sq.put {T:TypeId} {b off n cap:Nat} {xs:List α} (hp:Pure E f) (h:Sq E T w F Z (.slice (some ⟨b,off,none⟩) n cap) xs) {c j:Nat} {a a' : α} {u:Value} (hc:xs[c]? = some a) (hj:j < E.size) (he:(f a).set j u=f a') :
  Sq E T (w.setCell ⟨b,off+(c*E.size+j),none⟩ u) F Z (.slice (some ⟨b,off,none⟩) n cap) (xs.set c a')/\Fr F w (w.setCell ⟨b,off+(c*E.size+j),none⟩ u):=by
 obtain ⟨rfl,hFb,_,_⟩:=h.free;obtain ⟨K,D,us,h1,h2,hK,h3,h4⟩:=h;refine ⟨⟨K,D,us.set (c*E.size+j) u,h1,h2,fun k hk=>by simpa using hK k hk,?_,?_⟩,(Fr.refl _ _).setCell (p:=⟨b,_,none⟩) (.inl hFb) _⟩
 ·rw [Wd];exact h3.put _ _
 ·rw [hp.els h4,tT hp.len hj he hc]
  exact hp.of _ _
theorem dY.put {W:World} {ts:List Th} {T:TypeId} {b off n cap:Nat} {xs:List α} (h:dY F Z W ts w) (hp:Pure E f) (i:Nat) (hi:ts[i]? = some (ζ E T (.slice (some ⟨b,off,none⟩) n cap) xs)) {c j:Nat} {a a' : α} {u:Value} (hc:xs[c]? = some a) (hj:j < E.size) (he:(f a).set j u=f a') :
  dY F Z W (ts.set i (ζ E T (.slice (some ⟨b,off,none⟩) n cap) (xs.set c a'))) (w.setCell ⟨b,off+(c*E.size+j),none⟩ u):=
 h.upd i hi fun _ _ hon _=>Sq.put hp hon hc hj he
def jm (E:El α):El (Option α) where
 size:=E.size
 rd w F Z cs o:=cs.length=E.size/\(∀u ∈ cs,u.oneCell'=true)/\∀a,o=some a->E.rd w F Z cs a
 len h:=h.1
 keep h hs hk:=⟨h.1,h.2.1,fun a e=>E.keep (h.2.2 a e) hs hk⟩
 mono h hF hZ:=⟨h.1,h.2.1,fun a e=>E.mono (h.2.2 a e) hF hZ⟩
 one h:=h.2.1
theorem fK.P8:∀ {F:BS} {us:List Value} {xs:List α},fK E w F Z us xs->fK (jm E) w F Z us (xs.map some)
 |_,_,[],h=>h
 |_,_,_::_,⟨cs,rest,A,B,e,g1,g2,g3,h1,h2⟩=>⟨cs,rest,A,B,e,g1,g2,g3,⟨E.len h1,E.one h1,fun a e=>by cases e;exact h1⟩,h2.P8⟩
theorem fK.KP:∀ {F:BS} {us:List Value} {xs:List α},fK (jm E) w F Z us (xs.map some)->fK E w F Z us xs
 |_,_,[],h=>h
 |_,_,a::_,⟨cs,rest,A,B,e,g1,g2,g3,h1,h2⟩=>⟨cs,rest,A,B,e,g1,g2,g3,h1.2.2 a rfl,fK.KP h2⟩
theorem dY.join {W:World} {ts:List Th} {A B:Th} (h:dY F Z W (ts++[B]) w) (i:Nat) (hi:ts[i]? = some A):dY F Z W (ts.set i (Kw [A,B])) w:=by
 obtain ⟨L,h1,h2,h3⟩:=h;have hil:=aA hi;obtain ⟨L',hL⟩:∃L':Lab,∀k,L' k=if L k=ts.length+2 then i+2 else L k:=⟨_,fun _=>rfl⟩
 have hz:∀k,L.is 1 k->L'.is 1 k:=fun k hk=>by
  have hk':L k=1:=hk;show L' k=1;rw [hL,if_neg (by omega),hk']
 refine ⟨L',h1,fun k hk hF=>?_,fun j T hj=>?_⟩
 ·have:=h2 k hk hF
  rw [show L' k=L k by rw [hL,if_neg (by have:=this.1;omega)]];exact this
 ·have hjl:j < ts.length:=by have:=aA hj;simpa using this
  by_cases hji:j=i
  ·subst hji
   rw [Wm hil] at hj;obtain rfl:=VM hj;have hA:=h3 j A (by rw [VO hil];exact hi);have hB:=h3 ts.length B (by simp);refine Star.two (A.mono hA (fun _ h=>h) hz) (B.mono hB (fun _ h=>h) hz) (fun k a b=>?_) (fun k hk=>?_) fun k hk=>?_
   ·have a':L k=j+2:=a
    have b':L k=ts.length+2:=b;omega
   ·have hk':L k=j+2:=hk
    show L' k=j+2;rw [hL,if_neg (by omega),hk']
   ·have hk':L k=ts.length+2:=hk
    show L' k=j+2;rw [hL,if_pos hk']
  ·rw [YW (fun e=>hji e.symm)] at hj
   refine T.mono (h3 j T (by rw [VO hjl];exact hj)) (fun k hk=>?_) hz;have hk':L k=j+2:=hk;show L' k=j+2;rw [hL,if_neg (by omega),hk']
theorem dY.out {W:World} {ts:List Th} {T1 T2:TypeId} {b off n cap:Nat} {iI:List (List α)} {xs:List α} (h:dY F Z W ts w) (i:Nat) (hi:ts[i]? = some (ζ (df E T1) T2 (.slice (some ⟨b,off,none⟩) n cap) iI)) {c:Nat} (hc:iI[c]? = some xs) :
  ∃vc,w.cell? ⟨b,off+c,none⟩=some vc/\dY F Z W (ts.set i (ζ (jm (df E T1)) T2 (.slice (some ⟨b,off,none⟩) n cap) ((iI.map some).set c none))++[ζ E T1 vc xs]) w:=by
 obtain ⟨G,Y,hon,hd,_,_,hback⟩:=h.use i hi;obtain ⟨hn,_,_,_⟩:=Sq.free hon;subst hn;obtain ⟨K,D,us,h1,h2,hK,h3,h4⟩:=hon;obtain ⟨cs,A,B,q1,q2,q3,q4,q5,q6⟩:=h4.P8.focus (i:=c) (a:=some xs) (by rw [VG,hc];rfl);obtain ⟨vc,rfl,eD⟩:=q1.2.2 xs rfl;have q5':us=us.take c++[vc]++us.drop (c+1):=by have:=q5;simpa [jm,df] using this
 have hcl:c < iI.length:=aA hc;have Jw:us.length=iI.length:=by have:=h3.1;rwa [show (df E T1).size=1 from rfl,Xi] at this
 have huc:us[c]? = some vc:=by
  rw [q5',VE,VP (by rw [VW];omega),VW,Nat.min_eq_left (by omega),YF];rfl
 refine ⟨vc,h3.cell c vc huc,?_⟩;refine hback w _ _ ⟨Fr.refl _ _,Y,fun k h=>.inl h,Star.two (G:=fun k=>K k\/B k) (H:=A) ?_ eD (fun k a b=>a.elim (fun a=>h2 k a (q2 k b)) fun a=>q4 k b a) (fun k a=>?_) fun k a=>?_⟩
 ·refine ⟨K,B,us,fun k hk=>hk,fun k a b=>h2 k a (q3 k b),hK,by rw [Wd,VL];exact h3,?_⟩
  have:=q6 w [vc] none (fun _=>False) B Y (Vu _) (fun _ _ _=>rfl) ⟨rfl,q1.2.1,fun a e=>by cases e⟩ (fun _ f=>f.elim) (fun _ h _=>h) fun _ h _=>h
  rwa [<-q5] at this
 ·have hg:=a.elim (fun a=>h1 k (.inl a)) fun a=>h1 k (.inr (q3 k a))
  exact ⟨.inl hg,fun y=>hd k hg y⟩
 ·have hg:=h1 k (.inr (q2 k a))
  exact ⟨.inl hg,fun y=>hd k hg y⟩
theorem dY.back {W:World} {ts:List Th} {T1 T2:TypeId} {b off n cap:Nat} {os:List (Option (List α))} {xs:List α} {Gr:List (List α)} {vc:Value} (h:dY F Z W (ts++[ζ E T1 vc xs]) w) (i:Nat) (hi:ts[i]? = some (ζ (jm (df E T1)) T2 (.slice (some ⟨b,off,none⟩) n cap) os)) {c:Nat} (hc:c < os.length) (hos:os.set c (some xs)=Gr.map some) :
  dY F Z W (ts.set i (ζ (df E T1) T2 (.slice (some ⟨b,off,none⟩) n cap) Gr)) (w.setCell ⟨b,off+c,none⟩ vc):=by
 have hj:=h.join i hi;have hil:=aA hi;have:=hj.upd i (T':=ζ (df E T1) T2 (.slice (some ⟨b,off,none⟩) n cap) Gr) (w':=w.setCell ⟨b,off+c,none⟩ vc) (by rw [Wm hil]) fun G Y hon hd=>?_
 ·rwa [Xo] at this
 ·obtain ⟨GA,GB,hA,hB,Rq,Ub,hGB⟩:=Star.yY hon
  have hB:=hB.get (i:=0) rfl;obtain ⟨hn,hGb,_,_⟩:=Sq.free hA;subst hn;obtain ⟨K,D,us,h1,h2,hK,h3,h4⟩:=hA;have hKb:=h3.free.1;obtain ⟨o,ho⟩:∃o,os[c]? = some o:=⟨_,Vw hc⟩;obtain ⟨cs,A,B,q1,q2,q3,q4,q5,q6⟩:=h4.focus ho;have hkeep:∀k,k≠b->(w.setCell ⟨b,off+c,none⟩ vc).heap[k]? = w.heap[k]?:=fun k hk=>heap_setCell_other w ⟨b,off+c,none⟩ k vc hk
  have hne:∀k,D k\/Y k->k≠b:=fun k hk e=>by subst e;exact hk.elim (fun d=>h2 k hKb d) fun y=>hd k (Ub k (h1 k (.inl hKb))) y
  have aaK:∀k,GB k\/Y k->k≠b:=fun k hk e=>by subst e;exact hk.elim (fun d=>Rq k hGb d) fun y=>hd k (Ub k hGb) y
  have hsz:(w.setCell ⟨b,off+c,none⟩ vc).heap.size=w.heap.size:=by simp
  have hB':Sq E T1 (w.setCell ⟨b,off+c,none⟩ vc) GB Y vc xs:=Sq.stay hB (ZK hsz.symm) fun k hk _=>hkeep k (aaK k hk)
  have hone:vc.oneCell'=true:=by obtain ⟨a,cp,rfl⟩:=Sq.shape hB;rfl
  have hnew:=q6 (w.setCell ⟨b,off+c,none⟩ vc) [vc] (some xs) GB (fun k=>B k\/GB k) Y (ZK hsz.symm) (fun k hk _=>hkeep k (hne k (hk.imp (q3 k) id))) ⟨rfl,fun u hu=>by rw [List.mem_singleton.1 hu];exact hone,fun a e=>by cases e;exact ⟨vc,rfl,hB'⟩⟩
   (fun k g=>⟨.inr g,fun h=>Rq k (h1 k (.inr (q3 k h.1))) g⟩) (fun k h _=>.inl h) fun k h _=>h
  have Jw:us.length=os.length:=by have:=h3.1;rwa [show (jm (df E T1)).size=1 from rfl,Xi] at this
  have e1:us.take (c*(jm (df E T1)).size)++[vc]++us.drop ((c+1)*(jm (df E T1)).size)=us.set c vc:=by
   show us.take (c*1)++[vc]++us.drop ((c+1)*1)=_;rw [Xi,Xi,List.set_eq_take_append_cons_drop,if_pos (by omega),VE];rfl
  rw [e1,hos] at hnew;have hyl:os.length=Gr.length:=by have:=congrArg XT hos;simpa using this
  refine ⟨⟨K,fun k=>B k\/GB k,us.set c vc,fun k hk=>?_,fun k a b=>b.elim (fun b=>h2 k a (q3 k b)) fun b=>Rq k (h1 k (.inl a)) b,fun k hk=>by rw [hsz];exact hK k hk,?_,fK.KP hnew⟩,(Fr.refl _ _).setCell (p:=⟨b,_,none⟩) (.inl (Ub b hGb)) _⟩
  ·rcases hk with hk|hk|hk
   ·exact Ub k (h1 k (.inl hk))
   ·exact Ub k (h1 k (.inr (q3 k hk)))
   ·exact hGB k hk
  ·rw [<-hyl];exact h3.put _ _
theorem j_ {iI:List (List α)} {c:Nat} {ys:List α}:((iI.map some).set c none).set c (some ys)=(iI.set c ys).map some:=by
 rw [Xo,List.map_set]
theorem dY.inner {W:World} {ts:List Th} {T1 T2:TypeId} {b off n cap:Nat} {iI:List (List α)} {xs:List α} (h:dY F Z W ts w) (i:Nat) (hi:ts[i]? = some (ζ (df E T1) T2 (.slice (some ⟨b,off,none⟩) n cap) iI)) {c:Nat} (hc:iI[c]? = some xs) :
  ∃vc,w.cell? ⟨b,off+c,none⟩=some vc/\(∃G Y,Sq E T1 w G Y vc xs)/\∀(nv:Value) (ys:List α),(∀G Y,Sq E T1 w G Y vc xs->Sq E T1 w G Y nv ys)->dY F Z W (ts.set i (ζ (df E T1) T2 (.slice (some ⟨b,off,none⟩) n cap) (iI.set c ys))) (w.setCell ⟨b,off+c,none⟩ nv):=by
 obtain ⟨vc,hv,hout⟩:=h.out i hi hc;obtain ⟨G,Y,eD⟩:=hout.get ts.length (T:=ζ E T1 vc xs) (by simp);refine ⟨vc,hv,⟨G,Y,eD⟩,fun nv ys k=>?_⟩;have h1:=hout.upd ts.length (T:=ζ E T1 vc xs) (T':=ζ E T1 nv ys) (w':=w) (by simp) fun G Y hon _=>⟨k G Y hon,Fr.refl _ _⟩
 rw [YT _ _ (by simp),Wd,YF,Ψ] at h1;have h2:=dY.back (c:=c) (Gr:=iI.set c ys) h1 i (Wm (aA hi)) (by rw [Wd,VL];exact aA hc) j_;rwa [Xo] at h2
end
def Na {ι : Type} (f : ι -> List Th):Th:=
 ⟨fun w F Z=>∃i,Star (f i) w F Z,fun ⟨i,h⟩ hs hk=>⟨i,h.keep hs hk⟩,fun ⟨i,h⟩ hF hZ=>⟨i,h.mono hF hZ⟩⟩
section
variable {F Z:BS} {W w w':World} {ts:List Th} {ι : Type} {f : ι -> List Th}
theorem dY.swap {T:Th} {P : ι -> Th} (h:dY F Z W ts w) (i:Nat) (hi:ts[i]? = some T) (k:∀G Y,T.on w G Y->∃x,(P x).on w G Y):∃x,dY F Z W (ts.set i (P x)) w:=by
 obtain ⟨L,h1,h2,h3⟩:=h;obtain ⟨x,hx⟩:=k _ _ (h3 i T hi);refine ⟨x,L,h1,h2,fun j T' hj=>?_⟩;by_cases hji:j=i
 ·subst hji
  rw [Wm (aA hi)] at hj;obtain rfl:=VM hj;exact hx
 ·rw [YW (fun e=>hji e.symm)] at hj
  exact h3 j T' hj
theorem dY.opens (h:dY F Z W (Na f::ts) w):∃i,dY F Z W (f i++ts) w:=by
 obtain ⟨x,hx⟩:=h.swap (P:=fun x=>Kw (f x)) 0 rfl fun G Y h=>h
 exact ⟨x,dY.unfold hx fun _ _ _ h=>h⟩
theorem dY.shut {i : ι} (h:dY F Z W (f i++ts) w):dY F Z W (Na f::ts) w:=h.fold fun _ _ _ hs=>⟨i,hs⟩
theorem Made.of {T:Th} (h:dY (fun _=>False) (fun _=>False) w [T] w'):Made w T w':=by
 have hb:=h.below;obtain ⟨L,h1,h2,h3⟩:=h;refine ⟨hb,L.is 2,L.is 1,fun k hk=>?_,fun k hk=>?_,fun k a b=>?_,h3 0 T rfl⟩
 ·have hk':L k=2:=hk
  rcases WV k w.heap.size with hl|hl
  ·have:=(h2 k hl id).1;omega
  ·exact hl
 ·have hk':L k=1:=hk
  rcases WV k w.heap.size with hl|hl
  ·exact ((h2 k hl id).2.1 hk').elim
  ·exact hl
 ·have a':L k=2:=a
  have b':L k=1:=b;omega
theorem dY.act {P:Program} {g:Nat} {args:Array Value} {R:Ending->Prop} {T T':Th} (h:dY F Z W ts w) (i:Nat) (hi:ts[i]? = some T)
  (k:∀G Y,Dj G Y->T.on w G Y->Calls P g args w fun e w'=>R e/\lS w G Y [T'] w'):Calls P g args w fun e w'=>R e/\dY F Z W (ts.set i T') w':=by
 obtain ⟨G,Y,hq,hd,_,_,hb⟩:=h.use i hi;refine (k G Y hd hq).mono fun e w' ⟨he,hst⟩=>⟨he,?_⟩
 have:=hb w' _ [] hst;rwa [Wp] at this
end
theorem oD (u:Value) (s m:Nat) (hs:0 < s):(madeCells (Vr s u).toArray m).toList=Vr m u:=by
 rw [List.eq_replicate_iff];refine ⟨by simp [madeCells],fun b hb=>?_⟩;simp only [madeCells,Array.mem_toList_iff,Array.mem_map] at hb;obtain ⟨i,_,rfl⟩:=hb;have hlt:i % (Vr s u).toArray.size < (Vr s u).toArray.size:=Ya _ (by simpa using hs);rw [getElem!_pos (Vr s u).toArray (i % (Vr s u).toArray.size) hlt];simp
section
variable {α : Type} {E:El α}
theorem fK.zero {w:World} {Z:BS} {cs:List Value} {a0 : α} (he:E.rd w (fun _=>False) Z cs a0):∀n,fK E w (fun _=>False) Z (Vr n cs).flatten (Vr n a0)
 |0=>rfl
 |n+1=>⟨cs,(Vr n cs).flatten,fun _=>False,fun _=>False,by rw [List.replicate_succ,List.flatten_cons],fun _ f=>f,fun _ f=>f,fun _ f=>f.elim,he,fK.zero he n⟩
theorem jB {P:Program} {t e:TypeId} {z:Value} {bytes:Nat} (S:o8 P t e z E.size bytes) {u:Value} (hzz:z.cells=(Vr E.size u).toArray) {a0 : α} (he:∀w Z,E.rd w (fun _=>False) Z (Vr E.size u) a0)
  {w:World} {ops:Array Oper} {rest:List Oper} {o:Oper} {a:Act} {Q:Exit->Act->World->Prop}
  (hg:o.guard=none) (l c:Operand) (hop:o.op=Op.makeSlice t l c) (n:Nat) (hl:a.eval l=.int .i64 (n:Int)) (hc:a.eval c=.int .i64 (n:Int)) (b2:bytes*n<=281474976710656) (b3:n<=maxLen)
  (hK:∀w',Below w.heap.size w w'->Sq E e w' (fun k=>w.heap.size<=k) (fun _=>False) (.slice (some ⟨w.heap.size,0,none⟩) n n) (Vr n a0)->wpList P ops Q rest (a.put o.dst (.slice (some ⟨w.heap.size,0,none⟩) n n)) w') :
  wpList P ops Q (o::rest) a w:=by
 obtain ⟨i,hi,hz,hsz,hby⟩:=S.info;refine wpList_make_full w hg l c t hop w.heap.size e i z E.size S.under hi hz hsz .i64 .i64 (n:Int) (n:Int) n hl hc rfl rfl (by rw [hby];exact b2) b3 (Vu _) fun w' hown hgr=>?_
 rw [hzz,oD u E.size (n*E.size) S.pos] at hown;refine hK w' ((VQ w.heap.size w).grown hgr (Vu _) (fun k e=>by cases e)) ?_;have hsl:Sl w' (fun k=>w.heap.size<=k) e E.size (.slice (some ⟨w.heap.size,0,none⟩) n n) n (Vr (n*E.size) u):=Sl.mQ hown fun _ h=>h
 refine ⟨fun k=>w.heap.size<=k/\k < w'.heap.size,fun _=>False,Vr (n*E.size) u,fun k hk=>hk.elim (·.1) False.elim,fun _ _ f=>f,fun k hk=>hk.2,?_,?_⟩
 ·rw [List.length_replicate];exact hsl.bound
 ·have:=fK.zero (E:=E) (Z:=fun _=>False) (he w' _) n
  rwa [List.flatten_replicate_replicate] at this
end

theorem kI:o8 Vs 22 3 (.int .i64 0) 1 8:=⟨Tryz.underlying22,info_parts (by kernel_rfl),rfl,by decide⟩
theorem KS:o8 Vs 173 4 (.bool false) 1 1:=⟨Tryz.underlying173,info_parts (by kernel_rfl),rfl,by decide⟩
abbrev mR (a:sZ) (v:Value):Obj:=.cells #[.int .i64 (a.ptr:Int),v] 223
def Dv (p:Nat) (a:sZ):Th:=Na fun v:Value=>[dJ p (mR a v),ζ dK 3 v a.jc]
theorem EO (n:Nat) (w:World) (h1:1<=n) (h2:n<=64) :
  Calls Vs 89 #[.int .i64 (n:Int)] w fun e w'=>∃p,e=.returned (.tuple #[.pointer (some ⟨p,0,none⟩),.int .i64 0])/\Made w (Dv p (ji n)) w':=by
 go_enter Tryz.func89,Tryz.ntmps89;go_wp2_with (at_make;refine jB (E:=dK) kI rfl (a0:=0) (fun _ _=>rfl) rfl _ _ rfl n rfl rfl (by omega) (by unfold maxLen;omega) ?_;intro w1 hb1 hs1;have HB1:=aQ hb1;have jU:=aQ hs1;clear hb1 hs1);go_ret2;refine ⟨w1.heap.size,rfl,Made.of ?_⟩;have h0:=(dY.mO (fun _=>False) (fun _=>False) (fun _ f=>f.elim) w).add HB1.out (T:=ζ dK 3 (.slice (some ⟨w.heap.size,0,none⟩) n n) (Vr n 0)) jU.out;exact dY.shut (f:=fun v:Value=>[dJ w1.heap.size (mR (ji n) v),ζ dK 3 v (ji n).jc]) (ts:=[]) ((h0.new (mR (ji n) (.slice (some ⟨w.heap.size,0,none⟩) n n))).pick [1,0] _ (by simp) rfl)

theorem fO {α : Type} {E:El α} {f : α -> List Value} (hp:Pure E f) {T:TypeId} {w:World} {F Z:BS} {b off n cap:Nat} {xs:List α} (h:Sq E T w F Z (.slice (some ⟨b,off,none⟩) n cap) xs) {i j:Nat} {x : α} {u:Value} (hi:xs[i]? = some x) (hj:(f x)[j]? = some u) :
  w.cell? ⟨b,off+i*E.size+j,none⟩=some u:=by
 have hp0:0 < E.size:=by have:=aA hj;rw [hp.len] at this;omega
 obtain ⟨b',off',cs,A,e,_,h2,_,h4⟩:=h.at hp0 hi;obtain ⟨rfl,rfl⟩:b=b'/\off=off':=by simpa using e
 rw [(hp _ _ _ _ _).1 h2] at h4;exact h4 j u hj
theorem dP {T:TypeId} {w:World} {F Z:BS} {b off n cap:Nat} {xs:List Nat} (h:Sq dK T w F Z (.slice (some ⟨b,off,none⟩) n cap) xs) {i x:Nat} (hi:xs[i]? = some x):w.cell? ⟨b,off+i,none⟩=some (.int .i64 (x:Int)):=by
 have:=fO jG h hi (j:=0) rfl;simpa [dK] using this
theorem xW:Pure gV (fun b=>[.bool b]):=fun _ _ _ _ _=>YU
theorem mG {T:TypeId} {w:World} {F Z:BS} {b off n cap:Nat} {xs:List Bool} (h:Sq gV T w F Z (.slice (some ⟨b,off,none⟩) n cap) xs) {i:Nat} {x:Bool} (hi:xs[i]? = some x):w.cell? ⟨b,off+i,none⟩=some (.bool x):=by
 have:=fO xW h hi (j:=0) rfl;simpa [gV] using this
theorem BM (x N:Nat):min ((x:Int)+1) (N:Int)=((min (x+1) N:Nat):Int):=by omega
structure sZ.Ok (a:sZ) (n:Nat):Prop where
 n1:1<=n
 n2:n<=64
 len:a.jc.length=n
 ptr:a.ptr < n
 jc:∀x ∈ a.jc,x<=1073741824
theorem IV {n:Nat} (h1:1<=n) (h2:n<=64):(ji n).Ok n:=⟨h1,h2,by simp [ji],h1,by simp [ji]⟩
theorem jN {χ:List Bool} {ptr n:Nat} (hn:0 < n):∀ {k i c:Nat},eQ χ ptr n i k=some c->c < n/\χ.getD c false=true
 |0,i,c,h=>by simp [eQ] at h
 |k+1,i,c,h=>by
  unfold eQ at h;split at h
  ·rename_i hr
   obtain rfl:=VM h;exact ⟨Ya _ hn,hr⟩
  ·exact jN hn h
def h_ (a:sZ) (χ:List Bool) (ch:Option Nat) (j:Nat):List Nat:=
 (VV χ.length).map fun i=>if i < j then (if χ.getD i false=true/\some i≠ch then min (a.jc.getD i 0+1) 1073741824 else 0) else a.jc.getD i 0
theorem ug {a:sZ} {χ:List Bool} (ch:Option Nat) (h:a.jc.length=χ.length):h_ a χ ch 0=a.jc:=by
 apply XB
 ·simp [h_,h]
 ·intro i h1 h2
  simp [h_,Wo,h2]
theorem wH (a:sZ) (χ:List Bool):h_ a χ (a.choice χ) χ.length=(a.pick χ).2.jc:=by
 unfold h_ sZ.pick;refine Xb fun i hi=>?_
 rw [if_pos (by simpa using hi)]
theorem nA {a:sZ} {χ:List Bool} {ch:Option Nat} {j i:Nat} (hi:i < χ.length) (hj:j<=i):(h_ a χ ch j)[i]? = some (a.jc.getD i 0):=by
 unfold h_;rw [VG,VY hi,V_,if_neg (by omega)]
theorem wG {a:sZ} {χ:List Bool} {ch:Option Nat} {j x:Nat} (hx:x=if χ.getD j false=true/\some j≠ch then min (a.jc.getD j 0+1) 1073741824 else 0):(h_ a χ ch j).set j x=h_ a χ ch (j+1):=by
 apply WQ;intro i;rw [Xx];unfold h_;by_cases hij:j=i
 ·subst hij
  rw [if_pos rfl];by_cases hl:j < χ.length
  ·rw [if_pos (by simpa using hl),VG,VY hl,V_,if_pos (by omega),hx]
  ·rw [if_neg (by simpa using hl),VG,VT (by simp;omega)];rfl
 ·rw [if_neg hij,VG,VG]
  by_cases hl:i < χ.length
  ·rw [VY hl,V_,V_]
   by_cases h:i < j
   ·simp only [if_pos h,if_pos (show i < j+1 by omega)]
   ·simp only [if_neg h,if_neg (show ¬i < j+1 by omega)]
  ·rw [VT (by simp;omega)];rfl
theorem sZ.Ok.pick {a:sZ} {χ:List Bool} (h:a.Ok χ.length):(a.pick χ).2.Ok χ.length:=by
 obtain ⟨h1,h2,h3,h4,h5⟩:=h;refine ⟨h1,h2,by simp [sZ.pick],?_,fun x hx=>?_⟩
 ·unfold sZ.pick;dsimp only
  split
  ·exact Ya _ h1
  ·exact h4
 ·unfold sZ.pick at hx
  obtain ⟨i,_,rfl⟩:=Wx.1 hx;split
  ·exact Nat.min_le_right _ _
  ·omega
def iY:Option Nat->Int
 |some c=>(c:Int)
 |none => -1
theorem Sa {F Z:BS} {W w:World} {ts:List Th} {p:Nat} {a:sZ} {T:TypeId} {rv:Value} {χ:List Bool} (h:dY F Z W ts w) (i j:Nat) (hi:ts[i]? = some (Dv p a)) (hj:ts[j]? = some (ζ gV T rv χ)) (hij:j≠i) (hok:a.Ok χ.length) :
  Calls Vs 145 #[.pointer (some ⟨p,0,none⟩),rv] w fun e w'=>e=.returned (.tuple #[.int .i64 (iY (a.pick χ).1),.bool (a.pick χ).1.isSome])/\dY F Z W (ts.set i (Dv p (a.pick χ).2)) w':=by
 obtain ⟨G,Y,hon,hd,_,hoth,hback⟩:=h.use i hi;obtain ⟨H,Ua,_,yN⟩:=hoth j _ hij hj
 suffices hs:Calls Vs 145 #[.pointer (some ⟨p,0,none⟩),rv] w fun e w'=>e=.returned (.tuple #[.int .i64 (iY (a.pick χ).1),.bool (a.pick χ).1.isSome])/\dY G Y w [Dv p (a.pick χ).2] w' by
  refine hs.mono fun e w' ⟨he,hh⟩=>⟨he,?_⟩
  have:=hback w' _ [] hh.did;rwa [Wp] at this
 clear hback hoth h;obtain ⟨v,hh⟩:=dY.opens (dY.nT hon hd);obtain ⟨n1,n2,hal,hpt,hag⟩:=hok;have hn1:0 < χ.length:=n1
 have Rv:=fun k=>show a.jc.getD k 0<=1073741824 from by
  rw [Wo]
  cases hk:a.jc[k]? with
  |none=>simp
  |some x=>exact hag x (VD hk)
 have KC:=yN;obtain ⟨K,D,us,_,_,_,hsl,_⟩:=KC;obtain ⟨rb,ro,rc,rfl,_,hrc⟩:=hsl.head hn1;obtain ⟨_,hrH,hrl,_⟩:=Sq.free yN;have UY:rc<=9223372036854775807:=by obtain ⟨_,_,cap,e,_,h,_⟩:=hsl.rd;obtain ⟨_,rfl⟩:_/\rc=cap:=(by simpa using e);exact h
 have hrG:¬G rb:=fun g=>Ua rb g hrH
 have Uo:=aQ (fun k (hk:k < χ.length)=>show w.cell? ⟨rb,ro+k,none⟩=some (.bool (χ.getD k false)) from by
  have:=mG yN (Vw hk);simpa [Wo,hk] using this)
 clear hsl yN hi hj hij hd Ua hon;obtain ⟨av,ac,rfl⟩:∃av ac,v=.slice av a.jc.length ac:=by obtain ⟨_,_,h⟩:=hh.get 1 rfl;exact Sq.shape h
 obtain ⟨ab,ao,rfl⟩:∃ab ao,av=some ⟨ab,ao,none⟩:=by
  obtain ⟨_,_,K,D,us,_,_,_,h,_⟩:=hh.get 1 rfl;obtain ⟨g,off,cap,e,_⟩:=Sl.head h (by omega);exact ⟨g,off,by simpa using (by simpa using e:_/\_).1⟩
 have hac:χ.length<=ac/\ac<=9223372036854775807:=by
  obtain ⟨_,_,h⟩:=hh.get 1 rfl;obtain ⟨_,cap,e,h1,h2,_⟩:=Sq.le h;obtain ⟨_,rfl⟩:_/\ac=cap:=by simpa using e
  exact ⟨by omega,h2⟩
 obtain ⟨U6,aaW⟩:=hac;have NK:=aQ hal;rw [hal] at hh;have HH:=aQ hh;have hrow:=hh.blk 0 rfl;have c0:=aJ (i:=0) hrow rfl;have c1:=aJ (i:=1) hrow rfl;clear hh hrow hal hag;have hz0:((χ.length:Int) == 0)=false:=by rw [beq_eq_false_iff_ne];omega
 go_enter Tryz.func145,Tryz.ntmps145;go_upto_block 0 with fail
 go_cut [7] from 34 to 51 (fun u7 wc=>u7=.int .i64 (iY (a.choice χ))/\wc=w)
 case first=>
  go_wp2_with fail
  go_loop [35,7,8,9] (fun i c _ _=>∃k:Nat,k<=χ.length/\i=.int .i64 (k:Int)/\c=.int .i64 (-1)/\Hid (eQ χ a.ptr χ.length k (χ.length - k)=a.choice χ)) (fun i _ _ _=>χ.length - (intOf i).toNat)
  case atStart=>exact ⟨0,VJ _,rfl,rfl,aQ rfl⟩
  case round=>
   obtain ⟨k,hk,rfl,rfl,HC⟩:=hrel;by_cases hlt:k < χ.length
   ·have hkk:=Uo.out ((a.ptr+k) % χ.length) (Ya _ hn1)
    have Dn:(a.ptr+k) % χ.length < χ.length:=Ya _ hn1;obtain ⟨m,hm⟩:∃m,(a.ptr+k) % χ.length=m:=⟨_,rfl⟩;rw [hm] at hkk Dn;have hmz:((a.ptr:Int)+(k:Int)) % (χ.length:Int)=(m:Int):=by rw [<-hm];push_cast;rfl
    have HM:=aQ hm;clear hm
    cases hb:χ.getD m false with
    |true=>
     have HB:=aQ hb;rw [hb] at hkk;clear hb
     have Aw:=aQ (show a.choice χ=some m by
      rw [<-HC.out,show χ.length - k=(χ.length - k - 1)+1 by omega];unfold eQ;rw [HM.out,if_pos HB.out])
     go_wp2_with fail;go_meet;exact ⟨by rw [Aw.out];rfl,rfl⟩
    |false=>
     have HB:=aQ hb;rw [hb] at hkk;clear hb;go_wp2_with fail
     go_round
     case rel=>
      refine ⟨k+1,by omega,by go_num,rfl,aQ ?_⟩;rw [<-HC.out,show χ.length - k=(χ.length - (k+1))+1 by omega]
      conv=>rhs;unfold eQ
      rw [HM.out,if_neg (by rw [HB.out];decide)]
     case measure=>simp [intOf];omega
   ·obtain rfl:χ.length=k:=by omega
    have Aw:=aQ (show a.choice χ=none by rw [<-HC.out,YF];rfl);go_wp2_with fail;go_meet;exact ⟨by rw [Aw.out];rfl,rfl⟩
 case rest=>
  obtain ⟨rfl,rfl⟩:=hcut;obtain ⟨ch,hch⟩:∃ch,ch=a.choice χ:=⟨_,rfl⟩;have Aw:=aQ hch;have hcl:=fun c (e:ch=some c)=>(jN hn1 (show eQ χ a.ptr χ.length 0 χ.length=some c from by rw [<-e,hch];rfl)).1
  rw [<-hch];clear hch;go_wp2_with fail;go_loopw [54,10,11] (fun i _ _ wr=>∃k:Nat,k<=χ.length/\i=.int .i64 (k:Int)/\Hid (dY G Y wc [dJ p (mR a (.slice (some ⟨ab,ao,none⟩) χ.length ac)),ζ dK 3 (.slice (some ⟨ab,ao,none⟩) χ.length ac) (h_ a χ ch k)] wr)) (fun i _ _ _=>χ.length - (intOf i).toNat)
  case atStart=>exact ⟨0,VJ _,rfl,aQ (by rw [ug ch NK.out];exact HH.out)⟩
  case round=>
   clear c0 c1;obtain ⟨k,hk,rfl,HK⟩:=hrel;by_cases hlt:k < χ.length
   ·have hrow:=HK.out.blk 0 rfl
    have c1:=aJ (i:=1) hrow rfl;have hkk:wr.cell? ⟨rb,ro+k,none⟩=some (.bool (χ.getD k false)):=(Vt (HK.out.fr.block rb hrl hrG)).trans (Uo.out k hlt);obtain ⟨_,_,eD⟩:=HK.out.get 1 rfl;have hfr:=(Sq.free eD).2.2.2;have hck:=dP eD (nA hlt (Vu k));have hge:=Rv k;obtain ⟨x,hx⟩:∃x,x=a.jc.getD k 0:=⟨_,rfl⟩;rw [<-hx] at hck hge;have HX:=aQ hx
    have jX:=aQ (fun (y:Nat) (hy:y=if χ.getD k false=true/\some k≠ch then min (a.jc.getD k 0+1) 1073741824 else 0)=>
     show dY G Y wc [dJ p (mR a (.slice (some ⟨ab,ao,none⟩) χ.length ac)),ζ dK 3 (.slice (some ⟨ab,ao,none⟩) χ.length ac) (h_ a χ ch (k+1))] (wr.setCell ⟨ab,ao+k,none⟩ (.int .i64 (y:Int))) from by
      have:=HK.out.put jG 1 rfl (c:=k) (j:=0) (a:=x) (a':=y) (u:=.int .i64 (y:Int)) (by rw [HX.out];exact nA hlt (Vu k)) (by decide) rfl;rw [wG hy] at this;simpa [dK] using this)
    clear eD hrow hx;by_cases hpc:χ.getD k false=true/\some k≠ch
    ·have hb1:=hpc.1
     have hb2:((k:Int) != iY ch)=true:=by
      cases ch with
      |none=>simp [iY]
      |some c=>
       have:k≠c:=fun e=>hpc.2 (by rw [e])
       simp [iY];omega
     rw [hb1] at hkk;obtain ⟨m,hm⟩:∃m,min (x+1) 1073741824=m:=⟨_,rfl⟩;have Ti:min ((x:Int)+1) 1073741824=(m:Int):=by rw [<-hm,<-BM];simp
     have HS:=aQ (jX.out m (by rw [if_pos hpc,<-HX.out,hm]));have xC:=hge;clear hb1 hpc jX hm;go_wp2_with fail;have hwr:IntKind.i64.wrap ((x:Int)+1)=(x:Int)+1:=IntWalk.i64_in _ (by omega);refine wp_region_still_tail 15 (by kernel_rfl) (by kernel_rfl) ?_;simp only [Vy,VI,Vz,VH];change wpStill _ _ (V3 _) (fun a'=>wpList _ _ _ _ a' (V3 _)) _ _
     repeat still_step
     refine wpStill_nil ?_;go_wp2_with fail;go_roundw
     case rel=>exact ⟨k+1,by omega,by go_num,aQ HS.out.drew⟩
     case measure=>simp [intOf];omega
    ·have HS:=aQ (jX.out 0 (by rw [if_neg hpc]))
     cases hb:χ.getD k false with
     |false=>
      rw [hb] at hkk;clear hb hpc jX;go_wp2_with fail;go_roundw
      case rel=>exact ⟨k+1,by omega,by go_num,HS⟩
      case measure=>simp [intOf];omega
     |true=>
      have hb2:((k:Int) != iY ch)=false:=by
       have:some k=ch:=Yi fun e=>hpc ⟨hb,e⟩
       rw [<-this];simp [iY]
      rw [hb] at hkk;clear hb hpc jX;go_wp2_with fail;go_roundw
      case rel=>exact ⟨k+1,by omega,by go_num,HS⟩
      case measure=>simp [intOf];omega
   ·obtain rfl:χ.length=k:=by omega
    have hrow:=HK.out.blk 0 rfl;have c0:=aJ (i:=0) hrow rfl;have cf:=fun j=>aD hrow j
    have θ:=aQ hrow;clear hrow;have Dh:=aQ (show (a.pick χ).1=ch by rw [Aw.out];rfl);have HAG:=aQ (show h_ a χ ch χ.length=(a.pick χ).2.jc by rw [Aw.out];exact wH a χ);have Av:=aQ (show (a.pick χ).2.jc.length=χ.length by simp [sZ.pick])
    cases ch with
    |none=>
     have QW:=aQ (show (a.pick χ).2.ptr=a.ptr by show (match a.choice χ with|some c=>(c+1) % χ.length|none=>a.ptr)=_;rw [<-Aw.out]);go_wp2_with fail;go_ret2;refine ⟨by rw [Dh.out];rfl,dY.shut (f:=fun v:Value=>[dJ p (mR (a.pick χ).2 v),ζ dK 3 v (a.pick χ).2.jc]) (i:=.slice (some ⟨ab,ao,none⟩) χ.length ac) (ts:=[]) ?_⟩;rw [<-HAG.out,mR,QW.out];exact HK.out
    |some c=>
     have hc:=hcl c rfl;have QW:=aQ (show (a.pick χ).2.ptr=(c+1) % χ.length by show (match a.choice χ with|some c=>(c+1) % χ.length|none=>a.ptr)=_;rw [<-Aw.out]);have hch:iY (some c)=(c:Int):=rfl;have JC:=aQ hch;rw [hch];clear hch hcl;go_wp2_with fail;go_ret2;refine ⟨by rw [Dh.out];rfl,dY.shut (f:=fun v:Value=>[dJ p (mR (a.pick χ).2 v),ζ dK 3 v (a.pick χ).2.jc]) (i:=.slice (some ⟨ab,ao,none⟩) χ.length ac) (ts:=[]) ?_⟩;rw [<-HAG.out,mR,QW.out];have:=HK.out.set 0 rfl (.cells #[.int .i64 (((c+1) % χ.length:Nat):Int),.slice (some ⟨ab,ao,none⟩) χ.length ac] 223) (w':=wr.setCell ⟨p,0,none⟩ (.int .i64 (((c:Int)+1) % (χ.length:Int)))) (by exact eZ) (by (refine aS (Ξ θ.out) ?_);push_cast;rfl);exact this

def GQ (g:fV):List Value:=[.int .i64 (g.room:Int),.int .i64 (g.aW:Int),.int .i64 (g.cI:Int)]
def GK (t:jC):List Value:=[.int .i64 (t.cP:Int),.int .i64 (t.cE:Int)]
def qC:El fV:=KI 3 GQ (fun _=>rfl) fun a u hu=>by simp [GQ] at hu;rcases hu with rfl|rfl|rfl <;> rfl
def uO:El jC:=KI 2 GK (fun _=>rfl) fun a u hu=>by simp [GK] at hu;rcases hu with rfl|rfl <;> rfl
theorem oh:Pure qC GQ:=fun _ _ _ _ _=>YU
theorem vF:Pure uO GK:=fun _ _ _ _ _=>YU
def nO (p:Nat) (gs:List fV):Th:=Na fun v:Value=>[dJ p (.cells #[v] 254),ζ qC 256 v gs]
def nL (p:Nat) (ts:List jC):Th:=Na fun v:Value=>[dJ p (.cells #[v] 251),ζ uO 265 v ts]
theorem sJ {T:TypeId} {w:World} {F Z:BS} {b off n cap:Nat} {gs:List fV} (h:Sq qC T w F Z (.slice (some ⟨b,off,none⟩) n cap) gs) {c:Nat} {g:fV} (hc:gs[c]? = some g) :
  w.cell? ⟨b,off+c*3,none⟩=some (.int .i64 (g.room:Int))/\w.cell? ⟨b,off+c*3+1,none⟩=some (.int .i64 (g.aW:Int))/\w.cell? ⟨b,off+c*3+2,none⟩=some (.int .i64 (g.cI:Int)):=
 ⟨fO oh h hc (j:=0) rfl,fO oh h hc (j:=1) rfl,fO oh h hc (j:=2) rfl⟩
theorem Hd {T:TypeId} {w:World} {F Z:BS} {b off n cap:Nat} {gs:List jC} (h:Sq uO T w F Z (.slice (some ⟨b,off,none⟩) n cap) gs) {c:Nat} {g:jC} (hc:gs[c]? = some g) :
  w.cell? ⟨b,off+c*2,none⟩=some (.int .i64 (g.cP:Int))/\w.cell? ⟨b,off+c*2+1,none⟩=some (.int .i64 (g.cE:Int)):=
 ⟨fO vF h hc (j:=0) rfl,fO vF h hc (j:=1) rfl⟩
theorem bR {α : Type} {E:El α} {T:TypeId} {w:World} {F Z:BS} {v:Value} {xs:List α} (h:Sq E T w F Z v xs) (h0:0 < xs.length):∃b off cap,v=.slice (some ⟨b,off,none⟩) xs.length cap/\xs.length<=cap/\cap<=9223372036854775807:=by
 obtain ⟨a,cap,rfl,h1,h2,h3⟩:=h.le;obtain ⟨K,D,us,_,_,_,h4,_⟩:=h;obtain ⟨g,off,cap',e,_⟩:=h4.head h0;obtain ⟨rfl,rfl⟩:a=some ⟨g,off,none⟩/\cap=cap':=by simpa using e
 exact ⟨g,off,cap,rfl,h1,h2⟩
theorem vJ (a b c:Nat) (w:World) (ha:a<=4000000000000) (hc:c<=4000000000000) :
  Calls Vs 142 #[.agg #[.int .i64 (a:Int),.int .i64 (b:Int),.int .i64 (c:Int)]] w fun e w'=>e=.returned (.int .i64 ((a:Int)+(c:Int)))/\Below w.heap.size w w':=by
 go_enter Tryz.func142,Tryz.ntmps142;go_wp2_with fail;go_ret;exact ⟨rfl,by exact dC⟩
theorem mh (p b off n cap c fn:Nat) (Kq:Array Value) (w:World) (R:Int->World->Prop) (hrow:w.heap[p]? = some (.cells #[.slice (some ⟨b,off,none⟩) n cap] 254)) (hc:c < n) (_:n<=4)
  (hf:∀args w,Sem.run Vs (callFunc fn args) w=.ok (.enter fn args) w)
  (hk:Calls Vs fn (#[.pointer (some ⟨b,off+c*3,none⟩)]++Kq) w fun e w'=>∃m,e=.returned (.int .i64 m)/\R m w') :
  Calls Vs 140 #[.pointer (some ⟨p,0,none⟩),.int .i64 (c:Int),.func (.func fn) #[] Kq] w fun e w'=>∃m,e=.returned (.int .i64 m)/\R m w':=by
 have c0:=aJ (i:=0) hrow rfl;clear hrow;have HK:=aQ hk;have HF:=aQ hf;clear hk hf;go_enter Tryz.func140,Tryz.ntmps140;go_wp2_with fail;rw [HF.out,Zq];refine HK.out.mono ?_;rintro e w' ⟨m,rfl,hr⟩;have HR:=aQ hr;clear hr;go_wp2_with fail;go_ret;exact ⟨m,rfl,HR.out⟩
theorem mg (p b off n cap c fn:Nat) (Kq:Array Value) (w:World) (R:Int->World->Prop) (hrow:w.heap[p]? = some (.cells #[.slice (some ⟨b,off,none⟩) n cap] 251)) (hc:c < n) (_:n<=4)
  (hf:∀args w,Sem.run Vs (callFunc fn args) w=.ok (.enter fn args) w)
  (hk:Calls Vs fn (#[.pointer (some ⟨b,off+c*2,none⟩)]++Kq) w fun e w'=>∃m,e=.returned (.int .i64 m)/\R m w') :
  Calls Vs 162 #[.pointer (some ⟨p,0,none⟩),.int .i64 (c:Int),.func (.func fn) #[] Kq] w fun e w'=>∃m,e=.returned (.int .i64 m)/\R m w':=by
 have c0:=aJ (i:=0) hrow rfl;clear hrow;have HK:=aQ hk;have HF:=aQ hf;clear hk hf;go_enter Tryz.func162,Tryz.ntmps162;go_wp2_with fail;rw [HF.out,Zq];refine HK.out.mono ?_;rintro e w' ⟨m,rfl,hr⟩;have HR:=aQ hr;clear hr;go_wp2_with fail;go_ret;exact ⟨m,rfl,HR.out⟩

theorem EP (b o x a d f:Nat) (w:World) (g0:w.cell? ⟨b,o,none⟩=some (.int .i64 (a:Int))) (g1:w.cell? ⟨b,o+1,none⟩=some (.int .i64 (d:Int))) (g2:w.cell? ⟨b,o+2,none⟩=some (.int .i64 (f:Int)))
  (h1:a<=4000000000000) (h2:f<=4000000000000) (hx:w.heap[x]? = some (.cells #[.int .i64 0] 3)) :
  Calls Vs 141 #[.pointer (some ⟨b,o,none⟩),.pointer (some ⟨x,0,none⟩)] w fun e w'=>∃m,e=.returned (.int .i64 m)/\w'.heap[x]? = some (.cells #[.int .i64 ((a:Int)+(f:Int))] 3)/\Fr (fun k=>k=x) w w':=by
 have HX:=aQ hx;clear hx;go_enter Tryz.func141,Tryz.ntmps141;go_wp2_with fail;refine (vJ a d f w h1 h2).mono ?_;rintro e w1 ⟨rfl,hb⟩;have hx1:=(hb.block x (lt_of_block HX.out)).trans HX.out;have HB:=aQ hb;have c0:=aJ (i:=0) hx1 rfl;have cf:=fun j=>aD hx1 j
 have xC:=aQ hx1;clear hb hx1 g0 g1 g2;go_wp2_with fail;go_ret;exact ⟨_,rfl,by (refine aS (Ξ xC.out) ?_);rfl,Fr.setCell (F:=fun k=>k=x) (p:=⟨x,0,none⟩) (Fr.of_below (Fr.refl _ _) HB.out) (Or.inl rfl) _⟩
theorem IW {w:World} {G Y:BS} {p:Nat} {gs:List fV} (h:(nO p gs).on w G Y) (hgs:gs.length<=4) {c:Nat} {g:fV} (hc:gs[c]? = some g) (h1:g.room<=4000000000000) (h2:g.cI<=4000000000000) :
  Calls Vs 102 #[.pointer (some ⟨p,0,none⟩),.int .i64 (c:Int)] w fun e w'=>e=.returned (.int .i64 ((g.room:Int)+(g.cI:Int)))/\Below w.heap.size w w':=by
 have hmf:∀(fn:Fn) (first cap:Array Value) (w:World),(YE fn first cap).run Vs w=.ok (.func fn first cap) w:=fun _ _ _ _=>rfl
 have hlt:=aA hc;obtain ⟨v,hst⟩:=h;have hrow:=(hst.get (i:=0) rfl).1;have eD:=hst.get (i:=1) rfl;obtain ⟨b,off,cap,rfl,hcap,hcm⟩:=bR eD (by omega);obtain ⟨g0,g1,g2⟩:=sJ eD hc;have hpl:=lt_of_block hrow;have hbl:=(Sq.free eD).2.2.1;have θ:=aQ hrow;clear hst eD hrow hc;go_enter Tryz.func102,Tryz.ntmps102;go_wp2_with fail;have iq:=aK w (.cells #[.int .i64 0] 3)
 refine (mh p b off gs.length cap c 141 #[.pointer (some ⟨w.heap.size,0,none⟩)] _ _ ((iq.block p hpl).trans θ.out) hlt hgs (fun _ _=>rfl)
  (EP b (off+c*3) w.heap.size g.room g.aW g.cI _ ((Vt (iq.block b hbl)).trans g0) ((Vt (iq.block b hbl)).trans g1) ((Vt (iq.block b hbl)).trans g2) h1 h2 (heap_alloc_new w _))).mono ?_
 rintro e w1 ⟨m,rfl,hx1,hf⟩;have HB:=aQ (show Below w.heap.size w w1 from ((Fr.refl _ _).of_below iq |>.trans hf fun k hk=>.inl hk).below (B:=w.heap.size) (Vu _) fun k hk=>by have hk':k=w.heap.size:=hk;omega);have c0:=aJ (i:=0) hx1 rfl;clear hx1 hf iq g0 g1 g2;go_wp2_with fail;go_ret;exact ⟨rfl,HB.out⟩
def Ob (b o:Nat) (u:Value) (w:World) (m:Int) (r:Int) (w':World):Prop:=r=m/\∃w1,Below w.heap.size w w1/\w'=w1.setCell ⟨b,o,none⟩ u
def Oc (w:World) (m:Int) (r:Int) (w':World):Prop:=r=m/\Below w.heap.size w w'
theorem zZ (b o a d f:Nat) (w:World) (g0:w.cell? ⟨b,o,none⟩=some (.int .i64 (a:Int))) (g1:w.cell? ⟨b,o+1,none⟩=some (.int .i64 (d:Int))) (g2:w.cell? ⟨b,o+2,none⟩=some (.int .i64 (f:Int))) (gf:∀j,w.frozen? ⟨b,j,none⟩=false)
  (h1:a<=4000000000000) (h2:f<=4000000000000) (h3:d<=4000000000000) (hd:d < a+f) :
  Calls Vs 153 #[.pointer (some ⟨b,o,none⟩)] w fun e w'=>∃m,e=.returned (.int .i64 m)/\Ob b (o+1) (.int .i64 ((d:Int)+1)) w 0 m w':=by
 have hbl:=Vv w _ g0;dsimp only at hbl;have hlt:decide ((d:Int)>=(a:Int)+(f:Int))=false:=by simp;omega
 have hle:decide ((a:Int)+(f:Int)<=(d:Int))=false:=by simp;omega
 clear hd;go_enter Tryz.func153,Tryz.ntmps153;go_wp2_with fail
 go_region_held3 (fun w'=>w'.cell? ⟨b,o,none⟩=some (.int .i64 (a:Int))/\w'.cell? ⟨b,o+1,none⟩=some (.int .i64 (d:Int))/\w'.cell? ⟨b,o+2,none⟩=some (.int .i64 (f:Int))) (first|exact ⟨g0,g1,g2⟩|exact jU.out)
  ((go_at_call 142;refine (vJ a d f _ h1 h2).mono ?_;rintro e w1 ⟨rfl,hb⟩;have HB:=aQ hb;have jU:=aQ (show w1.cell? ⟨b,o,none⟩=some (.int .i64 (a:Int))/\w1.cell? ⟨b,o+1,none⟩=some (.int .i64 (d:Int))/\w1.cell? ⟨b,o+2,none⟩=some (.int .i64 (f:Int)) from ⟨(Vt (hb.block b hbl)).trans g0,(Vt (hb.block b hbl)).trans g1,(Vt (hb.block b hbl)).trans g2⟩);clear hb))
 clear g0 g1 g2;obtain ⟨g0,g1,g2⟩:=jU.out;have gf1:∀j,w1.frozen? ⟨b,j,none⟩=false:=fun j=>(HB.out.frozen (p:=⟨b,j,none⟩) hbl).trans (gf j)
 clear gf;go_wp2_with fail;go_ret;exact ⟨_,rfl,rfl,w1,(bS w 1).trans HB.out,rfl⟩
theorem CJ (b o a d f:Nat) (w:World) (g0:w.cell? ⟨b,o,none⟩=some (.int .i64 (a:Int))) (g1:w.cell? ⟨b,o+1,none⟩=some (.int .i64 (d:Int))) (g2:w.cell? ⟨b,o+2,none⟩=some (.int .i64 (f:Int)))
  (h1:a<=4000000000000) (h2:f<=4000000000000) (hd:¬d < a+f) :
  Calls Vs 153 #[.pointer (some ⟨b,o,none⟩)] w fun e w'=>∃m,e=.returned (.int .i64 m)/\Oc w 5 m w':=by
 have hbl:=Vv w _ g0;dsimp only at hbl;have hlt:decide ((d:Int)>=(a:Int)+(f:Int))=true:=by simp;omega
 have hle:decide ((a:Int)+(f:Int)<=(d:Int))=true:=by simp;omega
 clear hd;go_enter Tryz.func153,Tryz.ntmps153;go_wp2_with fail
 go_region_held3 (fun w'=>w'.cell? ⟨b,o,none⟩=some (.int .i64 (a:Int))/\w'.cell? ⟨b,o+1,none⟩=some (.int .i64 (d:Int))/\w'.cell? ⟨b,o+2,none⟩=some (.int .i64 (f:Int))) (first|exact ⟨g0,g1,g2⟩|exact jU.out)
  ((go_at_call 142;refine (vJ a d f _ h1 h2).mono ?_;rintro e w1 ⟨rfl,hb⟩;have HB:=aQ hb;have jU:=aQ (show w1.cell? ⟨b,o,none⟩=some (.int .i64 (a:Int))/\w1.cell? ⟨b,o+1,none⟩=some (.int .i64 (d:Int))/\w1.cell? ⟨b,o+2,none⟩=some (.int .i64 (f:Int)) from ⟨(Vt (hb.block b hbl)).trans g0,(Vt (hb.block b hbl)).trans g1,(Vt (hb.block b hbl)).trans g2⟩);clear hb))
 clear g0 g1 g2;go_wp2_with fail;go_ret;exact ⟨_,rfl,rfl,(bS w 1).trans HB.out⟩
theorem I7 (b o d f:Nat) (w:World) (g1:w.cell? ⟨b,o+1,none⟩=some (.int .i64 (d:Int))) (g2:w.cell? ⟨b,o+2,none⟩=some (.int .i64 (f:Int))) (gf:∀j,w.frozen? ⟨b,j,none⟩=false) (h3:d<=4000000000000) (hd:f < d) :
  Calls Vs 154 #[.pointer (some ⟨b,o,none⟩)] w fun e w'=>∃m,e=.returned (.int .i64 m)/\Ob b (o+2) (.int .i64 ((f:Int)+1)) w 0 m w':=by
 have hle:decide (d<=f)=false:=by simp;omega
 go_enter Tryz.func154,Tryz.ntmps154;go_wp2_with fail;go_quiet (fail);go_wp2_with fail;go_ret;exact ⟨_,rfl,rfl,_,bS w _,rfl⟩
theorem MK (b o d f:Nat) (w:World) (g1:w.cell? ⟨b,o+1,none⟩=some (.int .i64 (d:Int))) (g2:w.cell? ⟨b,o+2,none⟩=some (.int .i64 (f:Int))) (hd:¬f < d) :
  Calls Vs 154 #[.pointer (some ⟨b,o,none⟩)] w fun e w'=>∃m,e=.returned (.int .i64 m)/\Oc w 7 m w':=by
 have hle:decide (d<=f)=true:=by simp;omega
 go_enter Tryz.func154,Tryz.ntmps154;go_wp2_with fail;go_quiet (fail);go_wp2_with fail;go_ret;exact ⟨_,rfl,rfl,bS w _⟩

theorem Iz (b o x:Nat) (l:Int) (w:World) (hx:w.heap[x]? = some (.cells #[.int .i64 l] 3)) (hl:l < 0\/1099511627776 < l) :
  Calls Vs 167 #[.pointer (some ⟨b,o,none⟩),.pointer (some ⟨x,0,none⟩)] w fun e w'=>∃m,e=.returned (.int .i64 m)/\Oc w 2 m w':=by
 have c0:=aJ (i:=0) hx rfl;clear hx;have hl':l < 0\/(0<=l/\1099511627776 < l):=by omega
 clear hl
 rcases hl' with h1|⟨h1,h2⟩
 all_goals
  go_enter Tryz.func167,Tryz.ntmps167;go_wp2_with fail;go_ret;exact ⟨_,rfl,rfl,VQ _ _⟩
theorem EC (b o x t l:Nat) (w:World) (g1:w.cell? ⟨b,o+1,none⟩=some (.int .i64 (t:Int))) (gf:∀j,w.frozen? ⟨b,j,none⟩=false) (hx:w.heap[x]? = some (.cells #[.int .i64 (l:Int)] 3)) (hl:l<=1099511627776) :
  Calls Vs 167 #[.pointer (some ⟨b,o,none⟩),.pointer (some ⟨x,0,none⟩)] w fun e w'=>∃m,e=.returned (.int .i64 m)/\Ob b (o+1) (.int .i64 ((max t l:Nat):Int)) w 0 m w':=by
 have c0:=aJ (i:=0) hx rfl;clear hx;obtain ⟨mx,hmx⟩:∃mx,max t l=mx:=⟨_,rfl⟩;have Ti:max (t:Int) (l:Int)=(mx:Int):=by omega
 rw [hmx];have hl1:(l:Int)<=1099511627776:=by omega
 clear hmx;go_enter Tryz.func167,Tryz.ntmps167;go_wp2_with fail;refine wp_region_still_tail 9 (by kernel_rfl) (by kernel_rfl) ?_;simp only [Vy,VI,Vz,VH];change wpStill _ _ (V3 _) (fun a'=>wpList _ _ _ _ a' (V3 _)) _ _
 repeat still_step
 refine wpStill_nil ?_;go_wp2_with fail;go_ret;exact ⟨_,rfl,rfl,w.drew,bS w 1,rfl⟩
theorem Ha (b o t l:Nat) (w:World) (g0:w.cell? ⟨b,o,none⟩=some (.int .i64 (t:Int))) (g1:w.cell? ⟨b,o+1,none⟩=some (.int .i64 (l:Int))) (gf:∀j,w.frozen? ⟨b,j,none⟩=false) (h3:l<=4000000000000) (hd:t < l) :
  Calls Vs 164 #[.pointer (some ⟨b,o,none⟩)] w fun e w'=>∃m,e=.returned (.int .i64 m)/\Ob b o (.int .i64 ((t:Int)+1)) w 0 m w':=by
 have hle:decide (l<=t)=false:=by simp;omega
 go_enter Tryz.func164,Tryz.ntmps164;go_wp2_with fail;go_quiet (fail);go_wp2_with fail;go_ret;exact ⟨_,rfl,rfl,_,bS w _,rfl⟩
theorem LB (b o t l:Nat) (w:World) (g0:w.cell? ⟨b,o,none⟩=some (.int .i64 (t:Int))) (g1:w.cell? ⟨b,o+1,none⟩=some (.int .i64 (l:Int))) (hd:¬t < l) :
  Calls Vs 164 #[.pointer (some ⟨b,o,none⟩)] w fun e w'=>∃m,e=.returned (.int .i64 m)/\Oc w 5 m w':=by
 have hle:decide (l<=t)=true:=by simp;omega
 go_enter Tryz.func164,Tryz.ntmps164;go_wp2_with fail;go_quiet (fail);go_wp2_with fail;go_ret;exact ⟨_,rfl,rfl,bS w _⟩
theorem IX (b o x t l:Nat) (w:World) (g0:w.cell? ⟨b,o,none⟩=some (.int .i64 (t:Int))) (g1:w.cell? ⟨b,o+1,none⟩=some (.int .i64 (l:Int))) (hx:w.heap[x]? = some (.cells #[.int .i64 0] 3)) (ht:t<=4000000000000) (hl:l<=4000000000000) :
  Calls Vs 163 #[.pointer (some ⟨b,o,none⟩),.pointer (some ⟨x,0,none⟩)] w fun e w'=>∃m,e=.returned (.int .i64 m)/\w'.heap[x]? = some (.cells #[.int .i64 ((l:Int) - (t:Int))] 3)/\Fr (fun k=>k=x) w w':=by
 have c0:=aJ (i:=0) hx rfl;have cf:=fun j=>aD hx j
 have HX:=aQ hx;clear hx;go_enter Tryz.func163,Tryz.ntmps163;go_wp2_with fail;refine wp_region_still_tail 9 (by kernel_rfl) (by kernel_rfl) ?_;simp only [Vy,VI,Vz,VH];change wpStill _ _ (V3 _) (fun a'=>wpList _ _ _ _ a' (V3 _)) _ _
 repeat still_step
 refine wpStill_nil ?_;go_wp2_with fail;go_ret;exact ⟨_,rfl,by (refine aS (Ξ HX.out) ?_);rfl,by exact eZ⟩

theorem jy {α : Type} {l:List α} {c:Nat} {a : α} (h:l[c]? = some a):l.set c a=l:=by
 apply WQ;intro i;rw [Xx];split
 ·rename_i e;subst e;rw [if_pos (aA h),h]
 ·rfl
section
variable {F Z:BS} {W w:World} {ts:List Th} {p:Nat}
theorem BR {G Y:BS} {gs:List fV} (h:(nO p gs).on w G Y) (hd:Dj G Y) {c:Nat} {g:fV} (hc:gs[c]? = some g):∃b off cap,dY G Y w [dJ p (.cells #[.slice (some ⟨b,off,none⟩) gs.length cap] 254),ζ qC 256 (.slice (some ⟨b,off,none⟩) gs.length cap) gs] w /\
  w.heap[p]? = some (.cells #[.slice (some ⟨b,off,none⟩) gs.length cap] 254)/\(w.cell? ⟨b,off+c*3,none⟩=some (.int .i64 (g.room:Int))/\w.cell? ⟨b,off+c*3+1,none⟩=some (.int .i64 (g.aW:Int))/\w.cell? ⟨b,off+c*3+2,none⟩=some (.int .i64 (g.cI:Int)))/\∀j,w.frozen? ⟨b,j,none⟩=false:=by
 obtain ⟨v,hh⟩:=dY.opens (dY.nT h hd);obtain ⟨_,_,eD⟩:=hh.get 1 rfl;obtain ⟨b,off,cap,rfl,_,_⟩:=bR eD (by have:=aA hc;omega);exact ⟨b,off,cap,hh,hh.blk 0 rfl,sJ eD hc,(Sq.free eD).2.2.2⟩
theorem Gb {G Y:BS} {gs:List fV} {b off n cap:Nat} (h:dY G Y w [dJ p (.cells #[.slice (some ⟨b,off,none⟩) n cap] 254),ζ qC 256 (.slice (some ⟨b,off,none⟩) n cap) gs] w) {w1:World} (hb:Below w.heap.size w w1) {c j:Nat} {g g':fV} {u:Value} (hc:gs[c]? = some g) (hj:j < 3) (he:(GQ g).set j u=GQ g') :
  lS w G Y [nO p (gs.set c g')] (w1.setCell ⟨b,off+(c*3+j),none⟩ u):=
 (dY.shut (f:=fun v:Value=>[dJ p (.cells #[v] 254),ζ qC 256 v (gs.set c g')]) (ts:=[]) ((h.own hb).put oh 1 rfl hc hj he)).did
theorem BU {G Y:BS} {gs:List fV} {v:Value} (h:dY G Y w [dJ p (.cells #[v] 254),ζ qC 256 v gs] w) {w1:World} (hb:Below w.heap.size w w1):lS w G Y [nO p gs] w1:=
 (dY.shut (f:=fun v:Value=>[dJ p (.cells #[v] 254),ζ qC 256 v gs]) (ts:=[]) (h.own hb)).did
theorem vg {G Y:BS} {gs:List jC} (h:(nL p gs).on w G Y) (hd:Dj G Y) {c:Nat} {g:jC} (hc:gs[c]? = some g):∃b off cap,dY G Y w [dJ p (.cells #[.slice (some ⟨b,off,none⟩) gs.length cap] 251),ζ uO 265 (.slice (some ⟨b,off,none⟩) gs.length cap) gs] w /\
  w.heap[p]? = some (.cells #[.slice (some ⟨b,off,none⟩) gs.length cap] 251)/\(w.cell? ⟨b,off+c*2,none⟩=some (.int .i64 (g.cP:Int))/\w.cell? ⟨b,off+c*2+1,none⟩=some (.int .i64 (g.cE:Int)))/\∀j,w.frozen? ⟨b,j,none⟩=false:=by
 obtain ⟨v,hh⟩:=dY.opens (dY.nT h hd);obtain ⟨_,_,eD⟩:=hh.get 1 rfl;obtain ⟨b,off,cap,rfl,_,_⟩:=bR eD (by have:=aA hc;omega);exact ⟨b,off,cap,hh,hh.blk 0 rfl,Hd eD hc,(Sq.free eD).2.2.2⟩
theorem FU {G Y:BS} {gs:List jC} {b off n cap:Nat} (h:dY G Y w [dJ p (.cells #[.slice (some ⟨b,off,none⟩) n cap] 251),ζ uO 265 (.slice (some ⟨b,off,none⟩) n cap) gs] w) {w1:World} (hb:Below w.heap.size w w1) {c j:Nat} {g g':jC} {u:Value} (hc:gs[c]? = some g) (hj:j < 2) (he:(GK g).set j u=GK g') :
  lS w G Y [nL p (gs.set c g')] (w1.setCell ⟨b,off+(c*2+j),none⟩ u):=
 (dY.shut (f:=fun v:Value=>[dJ p (.cells #[v] 251),ζ uO 265 v (gs.set c g')]) (ts:=[]) ((h.own hb).put vF 1 rfl hc hj he)).did
theorem Bf {G Y:BS} {gs:List jC} {v:Value} (h:dY G Y w [dJ p (.cells #[v] 251),ζ uO 265 v gs] w) {w1:World} (hb:Below w.heap.size w w1):lS w G Y [nL p gs] w1:=
 (dY.shut (f:=fun v:Value=>[dJ p (.cells #[v] 251),ζ uO 265 v gs]) (ts:=[]) (h.own hb)).did
theorem vZ {gs:List fV} (h:dY F Z W ts w) (i:Nat) (hi:ts[i]? = some (nO p gs)) (hgs:gs.length<=4) {c:Nat} {g:fV} (hc:gs[c]? = some g) (h1:g.room<=4000000000000) (h2:g.cI<=4000000000000) (h3:g.aW<=4000000000000) :
  Calls Vs 130 #[.pointer (some ⟨p,0,none⟩),.int .i64 (c:Int)] w fun e w'=>e=.returned (.int .i64 (if g.cO.1 then 0 else 5))/\dY F Z W (ts.set i (nO p (gs.set c g.cO.2))) w':=by
 refine h.act i hi fun G Y hd hon=>?_
 obtain ⟨b,off,cap,hh,hrow,⟨g0,g1,g2⟩,gf⟩:=BR hon hd hc;have hlt:=aA hc;by_cases hr:g.aW < g.room+g.cI
 ·have hg:g.cO=(true,{ g with aW:=g.aW+1 }):=by unfold fV.cO;rw [if_neg (by unfold fV.cE;omega)]
  rw [hg];have HQ:=aQ (mh p b off gs.length cap c 153 #[] w _ hrow hlt hgs (fun _ _=>rfl) (zZ b (off+c*3) g.room g.aW g.cI w g0 g1 g2 gf h1 h2 h3 hr));have HH:=aQ hh;clear hg hrow g0 g1 g2 gf hh hon h hi hd;go_enter Tryz.func130,Tryz.ntmps130;go_wp2_with fail;refine HQ.out.mono ?_;rintro e w' ⟨m,rfl,rfl,w1,hb,rfl⟩;have HB:=aQ hb;clear hb;go_wp2_with fail;go_ret;exact ⟨rfl,Gb HH.out HB.out hc (j:=1) (by decide) rfl⟩
 ·have hg:g.cO=(false,g):=by unfold fV.cO;rw [if_pos (by unfold fV.cE;omega)]
  rw [hg];have HQ:=aQ (mh p b off gs.length cap c 153 #[] w _ hrow hlt hgs (fun _ _=>rfl) (CJ b (off+c*3) g.room g.aW g.cI w g0 g1 g2 h1 h2 hr));have HH:=aQ hh;clear hg hrow g0 g1 g2 gf hh hon h hi hd;go_enter Tryz.func130,Tryz.ntmps130;go_wp2_with fail;refine HQ.out.mono ?_;rintro e w' ⟨m,rfl,rfl,hb⟩;have HB:=aQ hb;clear hb;go_wp2_with fail;go_ret;refine ⟨rfl,?_⟩;rw [jy hc];exact BU HH.out HB.out
theorem O7 {gs:List fV} (h:dY F Z W ts w) (i:Nat) (hi:ts[i]? = some (nO p gs)) (hgs:gs.length<=4) {c:Nat} {g:fV} (hc:gs[c]? = some g) (h3:g.aW<=4000000000000) :
  Calls Vs 131 #[.pointer (some ⟨p,0,none⟩),.int .i64 (c:Int)] w fun e w'=>(∃m,e=.returned (.int .i64 m))/\dY F Z W (ts.set i (nO p (gs.set c g.free))) w':=by
 refine h.act i hi fun G Y hd hon=>?_
 obtain ⟨b,off,cap,hh,hrow,⟨g0,g1,g2⟩,gf⟩:=BR hon hd hc;have hlt:=aA hc;by_cases hr:g.cI < g.aW
 ·have hg:g.free={ g with cI:=g.cI+1 }:=by unfold fV.free;rw [if_neg (by omega)]
  rw [hg];have HQ:=aQ (mh p b off gs.length cap c 154 #[] w _ hrow hlt hgs (fun _ _=>rfl) (I7 b (off+c*3) g.aW g.cI w g1 g2 gf h3 hr));have HH:=aQ hh;clear hg hrow g0 g1 g2 gf hh hon h hi hd;go_enter Tryz.func131,Tryz.ntmps131;go_wp2_with fail;refine HQ.out.mono ?_;rintro e w' ⟨m,rfl,rfl,w1,hb,rfl⟩;have HB:=aQ hb;clear hb;go_wp2_with fail;go_ret;exact ⟨⟨_,rfl⟩,Gb HH.out HB.out hc (j:=2) (by decide) rfl⟩
 ·have hg:g.free=g:=by unfold fV.free;rw [if_pos (by omega)]
  rw [hg];have HQ:=aQ (mh p b off gs.length cap c 154 #[] w _ hrow hlt hgs (fun _ _=>rfl) (MK b (off+c*3) g.aW g.cI w g1 g2 hr));have HH:=aQ hh;clear hg hrow g0 g1 g2 gf hh hon h hi hd;go_enter Tryz.func131,Tryz.ntmps131;go_wp2_with fail;refine HQ.out.mono ?_;rintro e w' ⟨m,rfl,rfl,hb⟩;have HB:=aQ hb;clear hb;go_wp2_with fail;go_ret;refine ⟨⟨_,rfl⟩,?_⟩;rw [jy hc];exact BU HH.out HB.out
theorem Ot {gs:List jC} (h:dY F Z W ts w) (i:Nat) (hi:ts[i]? = some (nL p gs)) (hgs:gs.length<=4) {c:Nat} {g:jC} (hc:gs[c]? = some g) (h3:g.cE<=4000000000000) :
  Calls Vs 146 #[.pointer (some ⟨p,0,none⟩),.int .i64 (c:Int)] w fun e w'=>(∃m,e=.returned (.int .i64 m))/\dY F Z W (ts.set i (nL p (gs.set c g.take))) w':=by
 refine h.act i hi fun G Y hd hon=>?_
 obtain ⟨b,off,cap,hh,hrow,⟨g0,g1⟩,gf⟩:=vg hon hd hc;have hlt:=aA hc;by_cases hr:g.cP < g.cE
 ·have hg:g.take={ g with cP:=g.cP+1 }:=by unfold jC.take;rw [if_neg (by omega)]
  rw [hg];have HQ:=aQ (mg p b off gs.length cap c 164 #[] w _ hrow hlt hgs (fun _ _=>rfl) (Ha b (off+c*2) g.cP g.cE w g0 g1 gf h3 hr));have HH:=aQ hh;clear hg hrow g0 g1 gf hh hon h hi hd;go_enter Tryz.func146,Tryz.ntmps146;go_wp2_with fail;refine HQ.out.mono ?_;rintro e w' ⟨m,rfl,rfl,w1,hb,rfl⟩;have HB:=aQ hb;clear hb;go_wp2_with fail;go_ret;exact ⟨⟨_,rfl⟩,FU HH.out HB.out hc (j:=0) (by decide) rfl⟩
 ·have hg:g.take=g:=by unfold jC.take;rw [if_pos (by omega)]
  rw [hg];have HQ:=aQ (mg p b off gs.length cap c 164 #[] w _ hrow hlt hgs (fun _ _=>rfl) (LB b (off+c*2) g.cP g.cE w g0 g1 hr));have HH:=aQ hh;clear hg hrow g0 g1 gf hh hon h hi hd;go_enter Tryz.func146,Tryz.ntmps146;go_wp2_with fail;refine HQ.out.mono ?_;rintro e w' ⟨m,rfl,rfl,hb⟩;have HB:=aQ hb;clear hb;go_wp2_with fail;go_ret;refine ⟨⟨_,rfl⟩,?_⟩;rw [jy hc];exact Bf HH.out HB.out
end

theorem Vj:o8 Vs 252 256 (.agg #[.int .i64 0,.int .i64 0,.int .i64 0]) 3 24:=⟨Tryz.underlying252,info_parts (by kernel_rfl),rfl,by decide⟩
theorem Vi:o8 Vs 249 265 (.agg #[.int .i64 0,.int .i64 0]) 2 16:=⟨Tryz.underlying249,info_parts (by kernel_rfl),rfl,by decide⟩
section
variable {F Z:BS} {W w:World} {ts:List Th} {p:Nat}
theorem OM {gs:List jC} (h:dY F Z W ts w) (i:Nat) (hi:ts[i]? = some (nL p gs)) (hgs:gs.length<=4) {c:Nat} {g:jC} (hc:gs[c]? = some g) (l:Int) :
  Calls Vs 161 #[.pointer (some ⟨p,0,none⟩),.int .i64 (c:Int),.int .i64 l] w fun e w'=>(∃m,e=.returned (.int .i64 m))/\dY F Z W (ts.set i (nL p (gs.set c (g.raise l)))) w':=by
 have hmf:∀(fn:Fn) (first cap:Array Value) (w:World),(YE fn first cap).run Vs w=.ok (.func fn first cap) w:=fun _ _ _ _=>rfl
 refine h.act i hi fun G Y hd hon=>?_
 obtain ⟨b,off,cap,hh,hrow,⟨g0,g1⟩,gf⟩:=vg hon hd hc;have hlt:=aA hc;have hbl:b < w.heap.size:=Vv w _ g0;have iq:=aK w (.cells #[.int .i64 l] 3);have hrow':=(iq.block p (lt_of_block hrow)).trans hrow;have g1':=(Vt (iq.block b hbl)).trans g1;by_cases hr:l < 0\/1099511627776 < l
 ·have hg:g.raise l=g:=by unfold jC.raise;rw [if_pos hr]
  rw [hg];have HQ:=aQ (mg p b off gs.length cap c 167 #[.pointer (some ⟨w.heap.size,0,none⟩)] (w.alloc (.cells #[.int .i64 l] 3)) _ hrow' hlt hgs (fun _ _=>rfl) (Iz b (off+c*2) w.heap.size l _ (heap_alloc_new w _) hr));have HH:=aQ hh;have Q5:=aQ iq;clear hg hrow g0 g1 gf hh hon h hi hd g1' hrow' iq hr;go_enter Tryz.func161,Tryz.ntmps161;go_wp2_with fail;refine HQ.out.mono ?_;rintro e w' ⟨m,rfl,rfl,hb⟩;have HB:=aQ (Q5.out.trans (hb.mono Q5.out.size));clear hb;go_wp2_with fail;go_ret;refine ⟨⟨_,rfl⟩,?_⟩;rw [jy hc];exact Bf HH.out HB.out
 ·obtain ⟨n,rfl⟩:∃n:Nat,l=(n:Int):=⟨l.toNat,by omega⟩
  have hg:g.raise n={ g with cE:=max g.cE n }:=by unfold jC.raise;rw [if_neg hr];rfl
  rw [hg]
  have HQ:=aQ (mg p b off gs.length cap c 167 #[.pointer (some ⟨w.heap.size,0,none⟩)] (w.alloc (.cells #[.int .i64 (n:Int)] 3)) _ hrow' hlt hgs (fun _ _=>rfl)
   (EC b (off+c*2) w.heap.size g.cE n _ g1' (fun j=>(iq.frozen (p:=⟨b,j,none⟩) hbl).trans (gf j)) (heap_alloc_new w _) (by omega)))
  have HH:=aQ hh;have Q5:=aQ iq;clear hg hrow g0 g1 gf hh hon h hi hd g1' hrow' iq hr;go_enter Tryz.func161,Tryz.ntmps161;go_wp2_with fail;refine HQ.out.mono ?_;rintro e w' ⟨m,rfl,rfl,w1,hb,rfl⟩;have HB:=aQ (Q5.out.trans (hb.mono Q5.out.size));clear hb;go_wp2_with fail;go_ret;exact ⟨⟨_,rfl⟩,FU HH.out HB.out hc (j:=1) (by decide) rfl⟩
theorem Sn {gs:List jC} (h:dY F Z W ts w) (i:Nat) (hi:ts[i]? = some (nL p gs)) (hgs:gs.length<=4) {c:Nat} {g:jC} (hc:gs[c]? = some g) (h1:g.cP<=4000000000000) (h2:g.cE<=4000000000000) :
  Calls Vs 144 #[.pointer (some ⟨p,0,none⟩),.int .i64 (c:Int)] w fun e w'=>e=.returned (.int .i64 ((g.cE:Int) - (g.cP:Int)))/\dY F Z W ts w':=by
 have hmf:∀(fn:Fn) (first cap:Array Value) (w:World),(YE fn first cap).run Vs w=.ok (.func fn first cap) w:=fun _ _ _ _=>rfl
 obtain ⟨G,Y,hon,hd,_⟩:=h.use i hi;obtain ⟨b,off,cap,hh,hrow,⟨g0,g1⟩,gf⟩:=vg hon hd hc;have hlt:=aA hc;have hbl:b < w.heap.size:=Vv w _ g0;have iq:=aK w (.cells #[.int .i64 0] 3);have hrow':=(iq.block p (lt_of_block hrow)).trans hrow;have g0':=(Vt (iq.block b hbl)).trans g0;have g1':=(Vt (iq.block b hbl)).trans g1;have HQ:=aQ (mg p b off gs.length cap c 163 #[.pointer (some ⟨w.heap.size,0,none⟩)] (w.alloc (.cells #[.int .i64 0] 3)) _ hrow' hlt hgs (fun _ _=>rfl) (IX b (off+c*2) w.heap.size g.cP g.cE _ g0' g1' (heap_alloc_new w _) h1 h2));have HH:=aQ h;have Q5:=aQ iq;clear hrow g0 g1 gf hh hon h hi hd g1' g0' hrow' iq;go_enter Tryz.func144,Tryz.ntmps144;go_wp2_with fail;refine HQ.out.mono ?_;rintro e w1 ⟨m,rfl,hx1,hf⟩;have HB:=aQ (show Below w.heap.size w w1 from ((Fr.refl _ _).of_below Q5.out |>.trans hf fun k hk=>.inl hk).below (B:=w.heap.size) (Vu _) fun k hk=>by have hk':k=w.heap.size:=hk;omega);have c0:=aJ (i:=0) hx1 rfl;clear hx1 hf;go_wp2_with fail;go_ret;exact ⟨rfl,HH.out.own HB.out⟩
end
theorem EL (n:Nat) (w:World) (h1:1<=n) (h2:n<=4) :
  Calls Vs 128 #[.int .i64 (n:Int)] w fun e w'=>∃p,e=.returned (.tuple #[.pointer (some ⟨p,0,none⟩),.int .i64 0])/\Made w (nL p (Vr n ⟨0,0⟩)) w':=by
 go_enter Tryz.func128,Tryz.ntmps128;go_wp2_with (at_make;refine jB (E:=uO) Vi rfl (u:=.int .i64 0) (a0:=⟨0,0⟩) (fun _ _=>rfl) rfl _ _ rfl n rfl rfl (by omega) (by unfold maxLen;omega) ?_;intro w1 hb1 hs1;have HB1:=aQ hb1;have jU:=aQ hs1;clear hb1 hs1);go_ret2;refine ⟨w1.heap.size,rfl,Made.of ?_⟩;have h0:=(dY.mO (fun _=>False) (fun _=>False) (fun _ f=>f.elim) w).add HB1.out (T:=ζ uO 265 (.slice (some ⟨w.heap.size,0,none⟩) n n) (Vr n ⟨0,0⟩)) jU.out;exact dY.shut (f:=fun v:Value=>[dJ w1.heap.size (.cells #[v] 251),ζ uO 265 v (Vr n ⟨0,0⟩)]) (ts:=[]) ((h0.new (.cells #[.slice (some ⟨w.heap.size,0,none⟩) n n] 251)).pick [1,0] _ (by simp) rfl)

def lV (aZ:List Nat) (j:Nat):List fV:=(VV aZ.length).map fun i=>if i < j then ⟨aZ.getD i 0,0,0⟩ else ⟨0,0,0⟩
theorem ES (aZ:List Nat):lV aZ 0=Vr aZ.length ⟨0,0,0⟩:=by
 apply XB
 ·simp [lV]
 ·intro i h1 h2;simp [lV]
theorem I1 (aZ:List Nat):lV aZ aZ.length=aZ.map fun r=>⟨r,0,0⟩:=by
 apply XB
 ·simp [lV]
 ·intro i h1 h2
  have h3:i < aZ.length:=by simpa [lV] using h1
  simp [lV,Wo,h3]
theorem yl {aZ:List Nat} {j:Nat} (hj:j < aZ.length):(lV aZ j)[j]? = some ⟨0,0,0⟩:=by
 unfold lV;rw [VG,VY hj,V_,if_neg (by omega)]
theorem IZ {aZ:List Nat} {j:Nat}:(lV aZ j).set j ⟨aZ.getD j 0,0,0⟩=lV aZ (j+1):=by
 apply WQ;intro i;rw [Xx];unfold lV;by_cases hij:j=i
 ·subst hij
  rw [if_pos rfl];by_cases hl:j < aZ.length
  ·rw [if_pos (by simpa using hl),VG,VY hl,V_,if_pos (by omega)]
  ·rw [if_neg (by simpa using hl),VG,VT (by simp;omega)];rfl
 ·rw [if_neg hij,VG,VG]
  by_cases hl:i < aZ.length
  ·rw [VY hl,V_,V_]
   by_cases h:i < j
   ·simp only [if_pos h,if_pos (show i < j+1 by omega)]
   ·simp only [if_neg h,if_neg (show ¬i < j+1 by omega)]
  ·rw [VT (by simp;omega)];rfl
theorem EN {aZ:List Nat} {rb ro rc:Nat} (w:World) (h1:1<=aZ.length) (h2:aZ.length<=4) (hr:∀x ∈ aZ,1<=x/\x<=64) (hcell:∀(k x:Nat),aZ[k]? = some x->w.cell? ⟨rb,ro+k,none⟩=some (.int .i64 (x:Int))) :
  Calls Vs 129 #[.slice (some ⟨rb,ro,none⟩) aZ.length rc] w fun e w'=>∃p,e=.returned (.tuple #[.pointer (some ⟨p,0,none⟩),.int .i64 0])/\Made w (nO p (aZ.map fun r=>⟨r,0,0⟩)) w':=by
 have hbl:rb < w.heap.size:=by
  obtain ⟨x,hx⟩:∃x,aZ[0]? = some x:=⟨aZ[0],Vw h1⟩;exact Vv w _ (hcell 0 x hx)
 have HC:=aQ hcell;have HR:=aQ hr;clear hcell hr;go_enter Tryz.func129,Tryz.ntmps129;go_wp2_with (at_make;refine jB (E:=qC) Vj rfl (u:=.int .i64 0) (a0:=⟨0,0,0⟩) (fun _ _=>rfl) rfl _ _ rfl aZ.length rfl rfl (by omega) (by unfold maxLen;omega) ?_;intro w1 hb1 hs1;have HB1:=aQ hb1;have jU:=aQ hs1;clear hb1 hs1);have hh:=((dY.mO (fun _=>False) (fun _=>False) (fun _ f=>f.elim) w).add HB1.out (T:=ζ qC 256 (.slice (some ⟨w.heap.size,0,none⟩) aZ.length aZ.length) (Vr aZ.length ⟨0,0,0⟩)) jU.out).new (.cells #[.slice (some ⟨w.heap.size,0,none⟩) aZ.length aZ.length] 254);have hsz:=(Sq.free jU.out).2.2.1;have HH:=aQ (hh.pick [1,0] [dJ w1.heap.size (.cells #[.slice (some ⟨w.heap.size,0,none⟩) aZ.length aZ.length] 254),ζ qC 256 (.slice (some ⟨w.heap.size,0,none⟩) aZ.length aZ.length) (Vr aZ.length ⟨0,0,0⟩)] (by simp) rfl);clear hh;go_loopw [22,5,6] (fun i _ _ wr=>∃k:Nat,k<=aZ.length/\i=.int .i64 (k:Int)/\Hid (dY (fun _=>False) (fun _=>False) w [dJ w1.heap.size (.cells #[.slice (some ⟨w.heap.size,0,none⟩) aZ.length aZ.length] 254),ζ qC 256 (.slice (some ⟨w.heap.size,0,none⟩) aZ.length aZ.length) (lV aZ k)] wr)) (fun i _ _ _=>aZ.length - (intOf i).toNat)
 case atStart=>exact ⟨0,VJ _,rfl,aQ (by rw [ES];exact HH.out)⟩
 case round=>
  clear HH;obtain ⟨k,hk,rfl,HK⟩:=hrel;by_cases hlt:k < aZ.length
  ·have hx:aZ[k]? = some (aZ.getD k 0):=by simp [Wo,hlt]
   have hrk:=HR.out _ (VD hx);have hck:=(Vt (HK.out.below.block rb hbl)).trans (HC.out k _ hx);have hc0:=aJ (i:=0) (HK.out.blk 0 rfl) rfl;obtain ⟨_,_,eD⟩:=HK.out.get 1 rfl;have hfr:=(Sq.free eD).2.2.2;have hg0:=(sJ eD (yl hlt)).1;rw [V5] at hg0;have HS:=aQ (HK.out.put oh 1 rfl (c:=k) (j:=0) (a:=⟨0,0,0⟩) (a':=⟨aZ.getD k 0,0,0⟩) (u:=.int .i64 ((aZ.getD k 0:Nat):Int)) (yl hlt) (by decide) rfl);obtain ⟨x,hxx⟩:∃x,x=aZ.getD k 0:=⟨_,rfl⟩;have HX:=aQ hxx;rw [<-hxx] at hrk hck;obtain ⟨hx1,hx2⟩:=hrk;clear hx eD hxx;have hz:w1.heap.size≠w.heap.size:=by omega
   go_wp2_with fail;go_roundw
   case rel=>
    refine ⟨k+1,by omega,by go_num,aQ ?_⟩;rw [<-IZ,HX.out];have:=HS.out;simpa [qC,KI] using this
   case measure=>simp [intOf];omega
  ·obtain rfl:aZ.length=k:=by omega
   go_wp2_with fail;go_ret2;refine ⟨w1.heap.size,rfl,Made.of ?_⟩;have:=HK.out;rw [I1] at this;exact dY.shut (f:=fun v:Value=>[dJ w1.heap.size (.cells #[v] 254),ζ qC 256 v (aZ.map fun r=>⟨r,0,0⟩)]) (ts:=[]) this

abbrev jk (s:Side) (ch:Int):Obj:=.cells #[.int .i64 (s.mine:Int),.int .i64 (s.dead:Int),.int .i64 (s.cM:Int),.int .i64 (s.seen:Int),.int .i64 (s.state:Int),.int .i64 (s.silent:Int),.int .i64 ch] 186
def mU (w:World) (b:Nat) (s:Side):Prop:=∃ch,w.heap[b]? = some (jk s ch)
theorem gp {w:World} {b:Nat} {s:Side} {ch:Int} (h:w.heap[b]? = some (jk s ch)):w.cell? ⟨b,0,none⟩=some (.int .i64 (s.mine:Int))/\w.cell? ⟨b,1,none⟩=some (.int .i64 (s.dead:Int))/\w.cell? ⟨b,2,none⟩=some (.int .i64 (s.cM:Int))/\w.cell? ⟨b,3,none⟩=some (.int .i64 (s.seen:Int)) /\
  w.cell? ⟨b,4,none⟩=some (.int .i64 (s.state:Int))/\w.cell? ⟨b,5,none⟩=some (.int .i64 (s.silent:Int))/\w.cell? ⟨b,6,none⟩=some (.int .i64 ch)/\(∀j,w.frozen? ⟨b,j,none⟩=false):=
 ⟨aJ (i:=0) h rfl,aJ (i:=1) h rfl,aJ (i:=2) h rfl,aJ (i:=3) h rfl,aJ (i:=4) h rfl,aJ (i:=5) h rfl,aJ (i:=6) h rfl,fun j=>aD h j⟩
theorem mq (b:Nat) (s:Side) (w:World) (h:mU w b s):Calls Vs 45 #[.pointer (some ⟨b,0,none⟩)] w fun e w'=>e=.returned (.int .i64 (s.state:Int))/\w=w':=by
 obtain ⟨ch,h⟩:=h;obtain ⟨c0,c1,c2,c3,c4,c5,c6,_⟩:=gp h;clear h;go_enter Tryz.func45,Tryz.ntmps45;go_wp2_with fail;go_ret;exact ⟨rfl,rfl⟩
theorem Mk (b:Nat) (s:Side) (w:World) (h:mU w b s):Calls Vs 158 #[.pointer (some ⟨b,0,none⟩)] w fun e w'=>e=.returned (.int .i64 (s.cM:Int))/\w=w':=by
 obtain ⟨ch,h⟩:=h;obtain ⟨c0,c1,c2,c3,c4,c5,c6,_⟩:=gp h;clear h;go_enter Tryz.func158,Tryz.ntmps158;go_wp2_with fail;go_ret;exact ⟨rfl,rfl⟩
theorem uh (b:Nat) (s:Side) (w:World) (x:Int) (h:mU w b s):Calls Vs 134 #[.pointer (some ⟨b,0,none⟩),.int .i64 x] w fun e w'=>e=.returned (.bool (decide (s.cM≠0/\(s.cM:Int)=x)))/\w=w':=by
 obtain ⟨ch,h⟩:=h;obtain ⟨c0,c1,c2,c3,c4,c5,c6,_⟩:=gp h;clear h;go_enter Tryz.func134,Tryz.ntmps134;by_cases h0:s.cM=0
 ·have h1:((s.cM:Int) != 0)=false:=by simp [h0]
  have h2:decide (s.cM≠0/\(s.cM:Int)=x)=false:=by simp [h0]
  rw [h2];clear h0 h2;go_wp2_with fail;go_ret;exact ⟨rfl,rfl⟩
 ·have h1:((s.cM:Int) != 0)=true:=by simp;omega
  have h2:decide (s.cM≠0/\(s.cM:Int)=x)=((s.cM:Int) == x):=by
   rw [Zx];simp;omega
  rw [h2];clear h0 h2;go_wp2_with fail;go_ret;exact ⟨rfl,rfl⟩
theorem qx (b m d p se st si:Nat) (ch:Int) (w:World) (st' p':Nat) (h:w.heap[b]? = some (jk ⟨m,d,p,se,st,si⟩ ch)) :
  Calls Vs 139 #[.pointer (some ⟨b,0,none⟩),.int .i64 (st':Int),.int .i64 (p':Int)] w fun e w'=>(∃c,e=.returned (.bool c))/\(∃ch',w'.heap[b]? = some (jk ⟨m,d,p',se,st',si⟩ ch'))/\Fr (fun k=>k=b) w w':=by
 have H:=aQ h;have hlt:=lt_of_block h;obtain ⟨c0,c1,c2,c3,c4,c5,c6,cf⟩:=gp h;dsimp only at *;clear h;obtain ⟨ch',hch⟩:∃ch',IntKind.i64.wrap (ch+1)=ch':=⟨_,rfl⟩;go_enter Tryz.func139,Tryz.ntmps139;by_cases h1:st=st'
 ·by_cases h2:p=p'
  ·subst h1 h2
   go_wp2_with fail;go_ret;exact ⟨⟨_,rfl⟩,⟨ch,H.out⟩,Fr.refl _ _⟩
  ·subst h1
   have e2:((p:Int) == (p':Int))=false:=by simp;omega
   clear h2;go_wp2_with fail;go_ret;refine ⟨⟨_,rfl⟩,⟨ch',?_⟩,by exact eZ⟩
   (refine aS (Ξ H.out) ?_)
   rfl
 ·have e1:((st:Int) == (st':Int))=false:=by simp;omega
  clear h1;go_wp2_with fail;go_ret;refine ⟨⟨_,rfl⟩,⟨ch',?_⟩,by exact eZ⟩
  (refine aS (Ξ H.out) ?_)
  rfl
theorem zG (b:Nat) (s:Side) (w:World) (h:mU w b s) (ho:s.Ok) :
  Calls Vs 100 #[.pointer (some ⟨b,0,none⟩)] w fun e w'=>e=.returned (.agg #[.int .i64 (s.cR.mine:Int),.int .i64 (s.cR.cM:Int)])/\mU w' b s.cR/\Fr (fun k=>k=b) w w':=by
 obtain ⟨ch,h⟩:=h;have H:=aQ h;have hlt:=lt_of_block h;obtain ⟨c0,c1,c2,c3,c4,c5,c6,cf⟩:=gp h;obtain ⟨a1,a2,a3,a4,a5,a6,a7,a8,a9⟩:=ho;obtain ⟨m,d,p,se,st,si⟩:=s;dsimp only at *;clear h;go_enter Tryz.func100,Tryz.ntmps100;by_cases h0:p=0
 ·have ht:Side.cR ⟨m,d,p,se,st,si⟩=⟨m,d,p,se,st,si⟩:=by unfold Side.cR;rw [if_pos h0]
  have hp:((p:Int) != 0)=false:=by simp [h0]
  have Tv:=aQ h0;rw [ht];clear h0 ht a8;go_wp2_with fail;obtain ⟨w1,hw1⟩:∃w1,w1=w.alloc (.cells #[.int .i64 0,.int .i64 0] 202):=⟨_,rfl⟩;rw [<-hw1];have HR1:=aQ (show w1.heap[b]? = some (jk ⟨m,d,p,se,st,si⟩ ch) by rw [hw1];exact ((aK w _).block b hlt).trans H.out);have hg1:w1.heap[w.heap.size]? = some (.cells #[.int .i64 0,.int .i64 0] 202):=by rw [hw1];exact heap_alloc_new w _
  have HB1:=aQ (show Below w.heap.size w w1 by rw [hw1];exact aK w _);have g0:w1.cell? ⟨w.heap.size,0,none⟩=some (.int .i64 0):=aJ (i:=0) hg1 rfl;have g1:w1.cell? ⟨w.heap.size,1,none⟩=some (.int .i64 0):=aJ (i:=1) hg1 rfl;have gf:=fun j=>aD hg1 j
  have hne:b≠w.heap.size:=by omega
  clear hw1 hg1 c0 c1 c2 c3 c4 c5 c6 cf;obtain ⟨c0,c1,c2,c3,c4,c5,c6,cf⟩:=gp HR1.out;dsimp only at *
  go_region
  all_goals go_wp2_with fail
  all_goals refine bodyPost_ret (by simp [results,Tryz.results100,go_sem,g0,g1];try rfl) rfl ?_
  all_goals exact ⟨rfl,⟨ch,by (refine aS (fe HR1.out) ?_);rfl⟩,by have hf1:Fr (fun k=>k=b) w w1:=Fr.of_below (Fr.refl _ _) HB1.out;(repeat (first|(with_reducible exact hf1)|(exact Or.inr (Vu _))|(with_reducible refine Fr.setCell ?_ ?_ _)|(with_reducible refine Fr.drew ?_)))⟩
 ·have hp:((p:Int) != 0)=true:=by simp;omega
  have h0':1<=p:=by omega
  by_cases hd:d<=si+1
  ·have ht:Side.cR ⟨m,d,p,se,st,si⟩=⟨m,d,0,se,0,0⟩:=by unfold Side.cR;rw [if_neg h0,if_pos hd]
   rw [ht];clear ht a8 h0;go_wp2_with fail;go_quiet (fail);go_wp2_with fail;generalize hw1:((w.setCell ⟨b,5,none⟩ (.int .i64 ((si:Int)+1))).alloc (.cells #[.int .i64 0,.int .i64 0] 202)).drewN _=w0;have HF0:=aQ (show Fr (fun k=>k=b) w w0 by rw [<-hw1];exact ((Fr.setCell (F:=fun k=>k=b) (p:=⟨b,5,none⟩) (Fr.refl _ _) (Or.inl rfl) _).alloc _).drewN _);have HR0:=aQ (show w0.heap[b]? = some (jk ⟨m,d,p,se,st,si+1⟩ ch) by rw [<-hw1];(refine aS (fe H.out) ?_);rfl)
   have HG0:=aQ (show w0.heap[w.heap.size]? = some (.cells #[.int .i64 0,.int .i64 0] 202) by
    rw [<-hw1];have h:=heap_alloc_new (w.setCell ⟨b,5,none⟩ (.int .i64 ((si:Int)+1))) (.cells #[.int .i64 0,.int .i64 0] 202);rw [Y1] at h;exact h)
   have hne:b≠w.heap.size:=by omega
   clear hw1 c0 c1 c2 c3 c4 c5 c6 cf;refine (qx b m d p se st (si+1) ch w0 0 0 HR0.out).mono ?_;rintro e w2 ⟨⟨c,rfl⟩,⟨ch',hr⟩,hf⟩;have HR2:=aQ hr;have HG2:=aQ ((hf.block _ (lt_of_block HG0.out) (fun e=>hne e.symm)).trans HG0.out);have xE:=aQ (HF0.out.trans hf fun k hk=>.inl hk);obtain ⟨c0,c1,c2,c3,c4,c5,c6,cf⟩:=gp HR2.out;clear hr hf;go_wp2_with fail;generalize hw1:w2.setCell ⟨b,5,none⟩ (.int .i64 0)=w1;have NI:=aQ (show Fr (fun k=>k=b) w w1 by rw [<-hw1];exact Fr.setCell (p:=⟨b,5,none⟩) xE.out (Or.inl rfl) _);have HR1:=aQ (show w1.heap[b]? = some (jk ⟨m,d,0,se,0,0⟩ ch') by rw [<-hw1];(refine aS (fe HR2.out) ?_);rfl);have hg1:w1.heap[w.heap.size]? = some (.cells #[.int .i64 0,.int .i64 0] 202):=by rw [<-hw1];(refine aS (fe HG2.out) ?_);rfl
   have g0:w1.cell? ⟨w.heap.size,0,none⟩=some (.int .i64 0):=aJ (i:=0) hg1 rfl;have g1:w1.cell? ⟨w.heap.size,1,none⟩=some (.int .i64 0):=aJ (i:=1) hg1 rfl;have gf:=fun j=>aD hg1 j
   clear hw1 hg1 c0 c1 c2 c3 c4 c5 c6 cf;obtain ⟨c0,_,c2,_,_,_,_,cf⟩:=gp HR1.out;have d2:w1.cell? ⟨b,2,none⟩=some (.int .i64 0):=c2;clear c2;dsimp only at *
   go_region
   all_goals go_wp2_with fail
   all_goals refine bodyPost_ret (by simp [results,Tryz.results100,go_sem,g0,g1];try rfl) rfl ?_
   all_goals exact ⟨rfl,⟨ch',by (refine aS (fe HR1.out) ?_);rfl⟩,by have hf1:=NI.out;(repeat (first|(with_reducible exact hf1)|(exact Or.inr (Vu _))|(with_reducible refine Fr.setCell ?_ ?_ _)|(with_reducible refine Fr.drew ?_)))⟩
  ·have ht:Side.cR ⟨m,d,p,se,st,si⟩=⟨m,d,p,se,st,si+1⟩:=by unfold Side.cR;rw [if_neg h0,if_neg hd]
   rw [ht];clear ht a8 h0;go_wp2_with fail;go_quiet (fail);go_wp2_with fail;generalize hw1:((w.setCell ⟨b,5,none⟩ (.int .i64 ((si:Int)+1))).alloc (.cells #[.int .i64 0,.int .i64 0] 202)).drewN _=w1;have NI:=aQ (show Fr (fun k=>k=b) w w1 by rw [<-hw1];exact ((Fr.setCell (F:=fun k=>k=b) (p:=⟨b,5,none⟩) (Fr.refl _ _) (Or.inl rfl) _).alloc _).drewN _);have HR1:=aQ (show w1.heap[b]? = some (jk ⟨m,d,p,se,st,si+1⟩ ch) by rw [<-hw1];(refine aS (fe H.out) ?_);rfl)
   have hg1:w1.heap[w.heap.size]? = some (.cells #[.int .i64 0,.int .i64 0] 202):=by
    rw [<-hw1];have h:=heap_alloc_new (w.setCell ⟨b,5,none⟩ (.int .i64 ((si:Int)+1))) (.cells #[.int .i64 0,.int .i64 0] 202);rw [Y1] at h;exact h
   have g0:w1.cell? ⟨w.heap.size,0,none⟩=some (.int .i64 0):=aJ (i:=0) hg1 rfl;have g1:w1.cell? ⟨w.heap.size,1,none⟩=some (.int .i64 0):=aJ (i:=1) hg1 rfl;have gf:=fun j=>aD hg1 j
   have hne:b≠w.heap.size:=by omega
   clear hw1 hg1 c0 c1 c2 c3 c4 c5 c6 cf;obtain ⟨c0,c1,c2,c3,c4,c5,c6,cf⟩:=gp HR1.out;dsimp only at *
   go_region
   all_goals go_wp2_with fail
   all_goals refine bodyPost_ret (by simp [results,Tryz.results100,go_sem,g0,g1];try rfl) rfl ?_
   all_goals exact ⟨rfl,⟨ch,by (refine aS (fe HR1.out) ?_);rfl⟩,by have hf1:=NI.out;(repeat (first|(with_reducible exact hf1)|(exact Or.inr (Vu _))|(with_reducible refine Fr.setCell ?_ ?_ _)|(with_reducible refine Fr.drew ?_)))⟩

theorem mr (x:Int) (w:World):Calls Vs 125 #[.int .i64 x] w fun e w'=>e=.returned (.bool (decide (1<=x/\x<=1099511627775)))/\w=w':=by
 go_enter Tryz.func125,Tryz.ntmps125;by_cases h1:1<=x
 ·have e:decide (1<=x/\x<=1099511627775)=decide (x<=1099511627775):=by simp [h1]
  rw [e];clear e;go_wp2_with fail;go_ret;exact ⟨rfl,rfl⟩
 ·have e:decide (1<=x/\x<=1099511627775)=false:=by simp;omega
  rw [e];clear e;go_wp2_with fail;go_ret;exact ⟨rfl,rfl⟩
theorem uo (b:Nat) (s:Side) (w:World) (x y:Int) (h:mU w b s) :
  Calls Vs 157 #[.pointer (some ⟨b,0,none⟩),.agg #[.int .i64 x,.int .i64 y]] w fun e w'=>(∃c,e=.returned (.bool c))/\mU w' b (s.cO x y)/\Fr (fun k=>k=b) w w':=by
 obtain ⟨ch,h⟩:=h;have H:=aQ h;have hlt:=lt_of_block h;obtain ⟨m,d,p,se,st,si⟩:=s;clear h;go_enter Tryz.func157,Tryz.ntmps157;go_wp2_with fail;obtain ⟨w1,hw1⟩:∃w1,w1=w.alloc (.cells #[.int .i64 x,.int .i64 y] 202):=⟨_,rfl⟩;rw [<-hw1];have HR1:=aQ (show w1.heap[b]? = some (jk ⟨m,d,p,se,st,si⟩ ch) by rw [hw1];exact ((aK w _).block b hlt).trans H.out);have hg1:w1.heap[w.heap.size]? = some (.cells #[.int .i64 x,.int .i64 y] 202):=by rw [hw1];exact heap_alloc_new w _
 have HB1:=aQ (show Below w.heap.size w w1 by rw [hw1];exact aK w _);have HG1:=aQ hg1;have g0:w1.cell? ⟨w.heap.size,0,none⟩=some (.int .i64 x):=aJ (i:=0) hg1 rfl;have g1:w1.cell? ⟨w.heap.size,1,none⟩=some (.int .i64 y):=aJ (i:=1) hg1 rfl;have hne:b≠w.heap.size:=by omega
 clear hw1 hg1;obtain ⟨c0,c1,c2,c3,c4,c5,c6,cf⟩:=gp HR1.out;dsimp only at *;by_cases hv:1<=x/\x<=1099511627775
 ·have hv':decide (1<=x/\x<=1099511627775)=true:=by simpa using hv
  obtain ⟨n,rfl⟩:∃n:Nat,x=(n:Int):=⟨x.toNat,by omega⟩;by_cases hs:(n:Int) < (se:Int)
  ·have ht:Side.cO ⟨m,d,p,se,st,si⟩ n y=⟨m,d,p,se,st,si⟩:=by unfold Side.cO;rw [if_pos (by dsimp only;omega)]
   have HT:=aQ ht;clear ht hv;go_quiet (exact Wq ((mr _ _).mono fun e w' h=>⟨show e=.returned (.bool true) from by rw [h.1,hv'],h.2.symm⟩));go_wp2_with fail;go_ret;exact ⟨⟨_,rfl⟩,by rw [HT.out];exact ⟨ch,by (refine aS (fe HR1.out) ?_);rfl⟩,by have hf1:Fr (fun k=>k=b) w w1:=Fr.of_below (Fr.refl _ _) HB1.out;(repeat (first|(with_reducible exact hf1)|(with_reducible refine Fr.drewN ?_ _)|(with_reducible refine Fr.drew ?_)))⟩
  ·have ht:Side.cO ⟨m,d,p,se,st,si⟩ n y=⟨m,d,n,n,if y=(m:Int) then 2 else 1,0⟩:=by unfold Side.cO;rw [if_neg (by dsimp only;omega)];rfl
   have HT:=aQ ht;clear ht hv;by_cases hy:y=(m:Int)
   ·have hy':(y == (m:Int))=true:=by simpa using hy
    have HY:=aQ hy;clear hy;go_quiet (exact Wq ((mr _ _).mono fun e w' h=>⟨show e=.returned (.bool true) from by rw [h.1,hv'],h.2.symm⟩));go_wp2_with fail;go_quiet (fail);go_wp2_with fail;generalize hw2:(((w1.drewN _).setCell ⟨b,3,none⟩ (.int .i64 (n:Int))).setCell ⟨b,5,none⟩ (.int .i64 0)).drewN _=w2;have xE:=aQ (show Fr (fun k=>k=b) w w2 by rw [<-hw2];exact (Fr.setCell (p:=⟨b,5,none⟩) (Fr.setCell (p:=⟨b,3,none⟩) (Fr.drewN (F:=fun k=>k=b) (Fr.of_below (Fr.refl _ _) HB1.out) _) (Or.inl rfl) _) (Or.inl rfl) _).drewN _);have HR2:=aQ (show w2.heap[b]? = some (jk ⟨m,d,p,n,st,0⟩ ch) by rw [<-hw2];(refine aS (fe HR1.out) ?_);rfl);clear hw2;refine (qx b m d p n st 0 ch w2 2 n HR2.out).mono ?_;rintro e w3 ⟨⟨c,rfl⟩,⟨ch',hr⟩,hf⟩;have HR3:=aQ hr;have UA:=aQ (xE.out.trans hf fun k hk=>.inl hk);clear hr hf c0 c1 c2 c3 c4 c5 c6 cf g0 g1;go_wp2_with fail;go_ret;exact ⟨⟨_,rfl⟩,by rw [HT.out,if_pos HY.out];exact ⟨ch',HR3.out⟩,UA.out⟩
   ·have hy':(y == (m:Int))=false:=by simpa using hy
    have HY:=aQ hy;clear hy;go_quiet (exact Wq ((mr _ _).mono fun e w' h=>⟨show e=.returned (.bool true) from by rw [h.1,hv'],h.2.symm⟩));go_wp2_with fail;go_quiet (fail);go_wp2_with fail;generalize hw2:(((w1.drewN _).setCell ⟨b,3,none⟩ (.int .i64 (n:Int))).setCell ⟨b,5,none⟩ (.int .i64 0)).drewN _=w2;have xE:=aQ (show Fr (fun k=>k=b) w w2 by rw [<-hw2];exact (Fr.setCell (p:=⟨b,5,none⟩) (Fr.setCell (p:=⟨b,3,none⟩) (Fr.drewN (F:=fun k=>k=b) (Fr.of_below (Fr.refl _ _) HB1.out) _) (Or.inl rfl) _) (Or.inl rfl) _).drewN _);have HR2:=aQ (show w2.heap[b]? = some (jk ⟨m,d,p,n,st,0⟩ ch) by rw [<-hw2];(refine aS (fe HR1.out) ?_);rfl);clear hw2;refine (qx b m d p n st 0 ch w2 1 n HR2.out).mono ?_;rintro e w3 ⟨⟨c,rfl⟩,⟨ch',hr⟩,hf⟩;have HR3:=aQ hr;have UA:=aQ (xE.out.trans hf fun k hk=>.inl hk);clear hr hf c0 c1 c2 c3 c4 c5 c6 cf g0 g1;go_wp2_with fail;go_ret;exact ⟨⟨_,rfl⟩,by rw [HT.out,if_neg HY.out];exact ⟨ch',HR3.out⟩,UA.out⟩
 ·have hv':decide (1<=x/\x<=1099511627775)=false:=by simpa using hv
  have ht:Side.cO ⟨m,d,p,se,st,si⟩ x y=⟨m,d,p,se,st,si⟩:=by unfold Side.cO;rw [if_pos (by omega)]
  have HT:=aQ ht;clear ht hv;go_quiet (exact Wq ((mr _ _).mono fun e w' h=>⟨show e=.returned (.bool false) from by rw [h.1,hv'],h.2.symm⟩));go_wp2_with fail;go_ret;exact ⟨⟨_,rfl⟩,by rw [HT.out];exact ⟨ch,by (refine aS (fe HR1.out) ?_);rfl⟩,by have hf1:Fr (fun k=>k=b) w w1:=Fr.of_below (Fr.refl _ _) HB1.out;(repeat (first|(with_reducible exact hf1)|(with_reducible refine Fr.drewN ?_ _)|(with_reducible refine Fr.drew ?_)))⟩

theorem CV (m d:Nat) (w:World) (h1:1<=m) (h2:m<=1099511627775) (h3:1<=d) (h4:d<=1000) :
  Calls Vs 88 #[.int .i64 (m:Int),.int .i64 (d:Int)] w fun e w'=>e=.returned (.tuple #[.pointer (some ⟨w.heap.size,0,none⟩),.int .i64 0])/\mU w' w.heap.size (gP m d)/\Below w.heap.size w w':=by
 have hv:decide (1<=(m:Int)/\(m:Int)<=1099511627775)=true:=by simp;omega
 go_enter Tryz.func88,Tryz.ntmps88;go_wp2_with fail;refine (mr (m:Int) w).mono ?_;rintro e w' ⟨rfl,rfl⟩;rw [hv];go_wp2_with fail;go_ret2;exact ⟨rfl,⟨0,heap_alloc_new w _⟩,by exact dC⟩

def o9 (p:Nat) (s:Side):Th:=⟨fun w F _=>F p/\mU w p s,fun h _ hk=>by
  obtain ⟨f,ch,h⟩:=h;have hl:=lt_of_block h;exact ⟨⟨f,hl⟩,ch,(hk p (.inl f) hl).trans h⟩,fun h hF _=>⟨hF _ h.1,h.2⟩⟩
def kY (p:Nat) (s:bg):Th:=aay (Al.thing p s)
abbrev R8 (n:Nat):Obj:=.cells #[.int .i64 (n:Int)] 238
def rP (p n:Nat):Th:=dJ p (R8 n)
def jg:El (Nat × List (BitVec 8)):=aah dK ψ
structure PV where
 rv:Value
 sp:Nat
 ap:Nat
 wv:Value
 bv:Value
 fu:Nat
 eO:Nat
 fq:Nat
 fw:Nat
 ig:Value
 kv:Value
 fM:Value
 rev:Value
 fD:Value
abbrev ky (a:δ) (x:PV):Obj:=
 .cells #[.int .i64 (a.inc:Int),x.rv,.int .i64 (a.cA:Int),.int .i64 (a.aN:Int),.int .i64 (a.dead:Int),.pointer (some ⟨x.sp,0,none⟩),.pointer (some ⟨x.ap,0,none⟩),x.wv,x.bv,.int .i64 (a.cM:Int),
  .pointer (some ⟨x.fu,0,none⟩),.pointer (some ⟨x.eO,0,none⟩),.pointer (some ⟨x.fq,0,none⟩),.pointer (some ⟨x.fw,0,none⟩),x.ig,x.kv,x.fM,x.rev,x.fD,.int .i64 (a.bL:Int)] 130
abbrev bX (p:Nat) (a:δ) (x:PV):List Th:=
 [dJ p (ky a x),ζ dK 3 x.rv a.aZ,o9 x.sp a.cS,Dv x.ap a.dE,ζ (df ψ 40) 51 x.wv a.aX,ζ (df ψ 40) 51 x.bv a.aY,
  kY x.fu a.snd,rP x.eO a.rcv,nL x.fq a.bu,nO x.fw a.π,ζ dK 3 x.ig a.base,ζ jg 225 x.kv a.cT,ζ dK 3 x.fM a.aG,ζ dK 3 x.rev a.aW,ζ dK 3 x.fD a.cF]
def bP (p:Nat) (a:δ):Th:=Na (bX p a)
structure δ.Ok (N:Nat) (p:δ):Prop where
 n1:1<=p.aZ.length
 n4:p.aZ.length<=4
 rm:∀x ∈ p.aZ,1<=x/\x<=64
 i1:1<=p.inc
 i2:p.inc<=1099511627775
 w1:1<=p.cA
 w2:p.cA<=128
 t1:1<=p.aN
 t2:p.aN<=1000
 d1:1<=p.dead
 d2:p.dead<=1000
 cS:p.cS.Ok
 dE:p.dE.Ok p.aZ.length
 wl:p.aX.length=p.aZ.length
 bl:p.aY.length=p.aZ.length
 tl:p.bu.length=p.aZ.length
 gl:p.π.length=p.aZ.length
 sl:p.base.length=p.aZ.length
 al:p.aG.length=p.aZ.length
 rl:p.aW.length=p.aZ.length
 kl:p.cF.length=p.aZ.length
 cM:p.cM<=1099511627775
 snd:p.snd.Ok
 win:p.snd.cA=p.cA
 tot:p.snd.total<=N
 rcv:p.rcv<=N
 cT:p.cT.map (·.2)=p.snd.cT
 yF:∀f ∈ p.cT,f.1 < p.aZ.length
 xz:∀l ∈ p.aX,∀d ∈ l,d.length<=64
 qy:∀l ∈ p.aX,l.length<=N
 yI:∀l ∈ p.aY,∀d ∈ l,d.length<=1000
 rO:∀l ∈ p.aY,l.length<=N
 bu:∀t ∈ p.bu,t.cP<=t.cE/\t.cE<=1099511627776
 π:∀g ∈ p.π,g.room<=64/\g.cI<=g.aW/\g.aW<=N
 rG:∀x ∈ p.base,x<=N
 Ak:∀x ∈ p.aG,x<=N
 ren:∀x ∈ p.aW,x<=N
 tan:∀x ∈ p.cF,x<=N
 C_:p.bL<=N
section
variable {w:World} {F Z:BS} {W:World} {ts:List Th} {p:Nat} {a:δ} {x:PV}
theorem aB (h:w.heap[p]? = some (ky a x)) :
  w.cell? ⟨p,0,none⟩=some (.int .i64 (a.inc:Int))/\w.cell? ⟨p,1,none⟩=some x.rv/\w.cell? ⟨p,2,none⟩=some (.int .i64 (a.cA:Int))/\w.cell? ⟨p,3,none⟩=some (.int .i64 (a.aN:Int))/\w.cell? ⟨p,4,none⟩=some (.int .i64 (a.dead:Int)) /\
  w.cell? ⟨p,5,none⟩=some (.pointer (some ⟨x.sp,0,none⟩))/\w.cell? ⟨p,6,none⟩=some (.pointer (some ⟨x.ap,0,none⟩))/\w.cell? ⟨p,7,none⟩=some x.wv/\w.cell? ⟨p,8,none⟩=some x.bv/\w.cell? ⟨p,9,none⟩=some (.int .i64 (a.cM:Int)) /\
  w.cell? ⟨p,10,none⟩=some (.pointer (some ⟨x.fu,0,none⟩))/\w.cell? ⟨p,11,none⟩=some (.pointer (some ⟨x.eO,0,none⟩))/\w.cell? ⟨p,12,none⟩=some (.pointer (some ⟨x.fq,0,none⟩))/\w.cell? ⟨p,13,none⟩=some (.pointer (some ⟨x.fw,0,none⟩)) /\
  w.cell? ⟨p,14,none⟩=some x.ig/\w.cell? ⟨p,15,none⟩=some x.kv/\w.cell? ⟨p,16,none⟩=some x.fM/\w.cell? ⟨p,17,none⟩=some x.rev/\w.cell? ⟨p,18,none⟩=some x.fD/\w.cell? ⟨p,19,none⟩=some (.int .i64 (a.bL:Int)):=
 ⟨aJ h rfl,aJ h rfl,aJ h rfl,aJ h rfl,aJ h rfl,aJ h rfl,aJ h rfl,aJ h rfl,aJ h rfl,aJ h rfl,aJ h rfl,aJ h rfl,aJ h rfl,aJ h rfl,aJ h rfl,aJ h rfl,aJ h rfl,aJ h rfl,aJ h rfl,aJ h rfl⟩
theorem dY.port {G Y:BS} (h:(bP p a).on w G Y) (hd:Dj G Y):∃x,dY G Y w (bX p a x) w:=by
 obtain ⟨x,h⟩:=dY.opens (dY.nT h hd);exact ⟨x,by simpa using h⟩
theorem dY.dX {G Y:BS} {w0:World} (h:dY G Y w0 (bX p a x) w):lS w0 G Y [bP p a] w:=(dY.shut (f:=bX p a) (ts:=[]) (by simpa using h)).did
theorem iD {n:Nat} (c:Nat) (ra:Option Addr) (rc:Nat) (hc:c < n) (h1:w.cell? ⟨p,1,none⟩=some (.slice ra n rc)) :
  Calls Vs 46 #[.pointer (some ⟨p,0,none⟩),.int .i64 (c:Int)] w fun e w'=>e=.returned (.bool true)/\w=w':=by
 go_enter Tryz.func46,Tryz.ntmps46;go_wp2_with fail;go_ret;exact ⟨by simp,rfl⟩
theorem oP {n:Nat} (c:Int) (ra:Option Addr) (rc:Nat) (hc:c < 0\/(n:Int)<=c) (h1:w.cell? ⟨p,1,none⟩=some (.slice ra n rc)) :
  Calls Vs 46 #[.pointer (some ⟨p,0,none⟩),.int .i64 c] w fun e w'=>e=.returned (.bool false)/\w=w':=by
 have hc':c < 0\/(0<=c/\(n:Int)<=c):=by omega
 clear hc
 rcases hc' with h0|⟨h0,h2⟩
 all_goals
  go_enter Tryz.func46,Tryz.ntmps46;go_wp2_with fail;go_ret;exact ⟨by first|rfl|simp;try omega,rfl⟩
theorem yX (h:dY F Z W ts w) (i:Nat) (hi:ts[i]? = some (bP p a)):Calls Vs 14 #[.pointer (some ⟨p,0,none⟩)] w fun e w'=>e=.returned (.bool (decide (a.cS.state=2)))/\w=w':=by
 obtain ⟨G,Y,x,hst⟩:=h.get i hi;have c5:=(aB (hst.get (i:=0) rfl).1).2.2.2.2.2.1;have hs:=(hst.get (i:=2) rfl).2;have HQ:=aQ (mq x.sp a.cS w hs);have hb:((a.cS.state:Int) == 2)=decide (a.cS.state=2):=by rw [Zx];simp;omega
 rw [<-hb];clear hst hs hi h hb;go_enter Tryz.func14,Tryz.ntmps14;go_wp2_with (go_at_call 45;refine HQ.out.mono ?_;rintro e w' ⟨rfl,rfl⟩);go_ret;exact ⟨rfl,rfl⟩
theorem pU (h:dY F Z W ts w) (i:Nat) (hi:ts[i]? = some (bP p a)):Calls Vs 13 #[.pointer (some ⟨p,0,none⟩)] w fun e w'=>e=.returned (.int .i64 (a.bL:Int))/\w=w':=by
 obtain ⟨G,Y,x,hst⟩:=h.get i hi;have c19:=(aB (hst.get (i:=0) rfl).1).2.2.2.2.2.2.2.2.2.2.2.2.2.2.2.2.2.2.2;clear hst hi h;go_enter Tryz.func13,Tryz.ntmps13;go_wp2_with fail;go_ret;exact ⟨rfl,rfl⟩
end

theorem iQ {α : Type} {E:El α} {T1 T2:TypeId} {w:World} {F Z:BS} {b off n cap:Nat} {iI:List (List α)} {xs:List α} {c:Nat} (h:Sq (df E T1) T2 w F Z (.slice (some ⟨b,off,none⟩) n cap) iI) (hc:iI[c]? = some xs) :
  ∃v A,w.cell? ⟨b,off+c,none⟩=some v/\Sq E T1 w A Z v xs/\∀k,A k->F k:=by
 obtain ⟨b',off',cs,A,e,_,⟨v,rfl,h2⟩,h3,h4⟩:=h.at (by decide:0 < 1) hc;obtain ⟨rfl,rfl⟩:b=b'/\off=off':=by simpa using e
 exact ⟨v,A,by simpa [df] using h4 0 v rfl,h2,h3⟩
theorem oG {T:TypeId} {w:World} {F Z:BS} {b off n cap:Nat} {xs:List (List (BitVec 8))} {d:List (BitVec 8)} {i:Nat} (h:Sq ψ T w F Z (.slice (some ⟨b,off,none⟩) n cap) xs) (hi:xs[i]? = some d) :
  ∃v,w.cell? ⟨b,off+i,none⟩=some v/\fE w Z v d:=by
 obtain ⟨b',off',cs,A,e,_,⟨v,rfl,h2⟩,_,h4⟩:=h.at (by decide:0 < 1) hi;obtain ⟨rfl,rfl⟩:b=b'/\off=off':=by simpa using e
 exact ⟨v,by simpa [ψ] using h4 0 v rfl,h2⟩
theorem Ow.Jz {T:TypeId} {w:World} {base:Nat} {v:Value} {bs:List (BitVec 8)} (h:Ow T w base v bs):fE w (fun k=>base<=k) v bs:=⟨h.by,fun _ b hb=>(h.Ue.2 b hb).1⟩
theorem bT {α : Type} {l:List α} {i:Nat} {d : α} (h:i < l.length):l[i]? = some (l.getD i d):=by simp [Wo,h]
section
variable {w:World} {F Z:BS} {W:World} {ts:List Th} {p:Nat} {a:δ}
theorem nu {N:Nat} (h:dY F Z W ts w) (i:Nat) (hi:ts[i]? = some (bP p a)) (hok:a.Ok N) (_:N<=1000000000) (c:Nat) (hc:c < a.aZ.length) :
  Calls Vs 15 #[.pointer (some ⟨p,0,none⟩),.int .i64 (c:Int)] w fun e w'=>e=.returned (.tuple #[.int .i64 ((a.aG.getD c 0:Nat):Int),.int .i64 ((a.aW.getD c 0:Nat):Int),.int .i64 ((a.cF.getD c 0:Nat):Int)])/\dY F Z W ts w':=by
 obtain ⟨G,Y,x,hst⟩:=h.get i hi;obtain ⟨rv,sp,ap,wv,bv,fu,eO,fq,fw,ig,kv,fM,rev,fD⟩:=x;have hrow:=(hst.get (i:=0) rfl).1;obtain ⟨_,c1,_,_,_,_,_,_,_,_,_,_,_,_,_,_,c16,c17,c18,_⟩:=aB hrow;have hr:=hst.get (i:=1) rfl;have h16:=hst.get (i:=12) rfl;have Gy:=hst.get (i:=13) rfl;have h18:=hst.get (i:=14) rfl;dsimp only at *;have n1:=hok.n1;have n4:=hok.n4;have al:=hok.al;have rl:=hok.rl;have kl:=hok.kl;obtain ⟨rb,ro,rc,rfl,_,_⟩:=bR hr n1;obtain ⟨b1,o1,k1,rfl,m1,nG⟩:=bR h16 (by omega);obtain ⟨b2,o2,k2,rfl,m2,Gw⟩:=bR Gy (by omega);obtain ⟨b3,o3,k3,rfl,m3,QJ⟩:=bR h18 (by omega);have e1:=dP h16 (bT (d:=0) (show c < a.aG.length by omega));have e2:=dP Gy (bT (d:=0) (show c < a.aW.length by omega));have e3:=dP h18 (bT (d:=0) (show c < a.cF.length by omega));rw [al] at c16;rw [rl] at c17;rw [kl] at c18;have HH:=aQ h;have HQ:=aQ (iD (p:=p) (w:=w) c (some ⟨rb,ro,none⟩) rc hc c1);clear hst hrow hr h16 Gy h18 hi h hok al rl kl c1 m1 m2 m3 nG Gw QJ;go_enter Tryz.func15,Tryz.ntmps15;go_wp2_with (go_at_call 46;refine HQ.out.mono ?_;rintro e w' ⟨rfl,rfl⟩);go_quiet (fail);go_wp2_with fail
 go_ret3
 exact ⟨rfl,HH.out.drewN _⟩
theorem zu {N:Nat} (h:dY F Z W ts w) (i:Nat) (hi:ts[i]? = some (bP p a)) (hok:a.Ok N) (c:Int) (hc:a.jY c=none) :
  Calls Vs 47 #[.pointer (some ⟨p,0,none⟩),.int .i64 c] w fun e w'=>e=.returned (.tuple #[.slice none 0 0,.bool false])/\w=w':=by
 obtain ⟨G,Y,x,hst⟩:=h.get i hi;obtain ⟨rv,sp,ap,wv,bv,fu,eO,fq,fw,ig,kv,fM,rev,fD⟩:=x;have hrow:=(hst.get (i:=0) rfl).1;obtain ⟨_,c1,_,_,_,_,_,_,c8,_⟩:=aB hrow;have hr:=hst.get (i:=1) rfl;have hb:=hst.get (i:=5) rfl;dsimp only at *;have n1:=hok.n1;have n4:=hok.n4;have bl:=hok.bl;obtain ⟨rb,ro,rc,rfl,_,_⟩:=bR hr n1;by_cases h0:0<=c/\c < a.aZ.length
 ·obtain ⟨m,rfl⟩:∃m:Nat,c=(m:Int):=⟨c.toNat,by omega⟩
  have hm:m < a.aZ.length:=by omega
  obtain ⟨b1,o1,k1,rfl,m1,nG⟩:=bR hb (by omega);have hx:=bT (d:=[]) (show m < a.aY.length by omega)
  have he:a.aY.getD m []=[]:=by
   unfold δ.jY at hc;rw [if_pos (show a.has m from h0)] at hc;simpa using hc
  rw [he] at hx;obtain ⟨v,A,hv,eD,_⟩:=iQ hb hx;obtain ⟨av,cv,rfl⟩:=eD.shape;rw [show ([]:List (List (BitVec 8))).length=0 from rfl] at hv;rw [bl] at c8;have HQ:=aQ (iD (p:=p) (w:=w) m (some ⟨rb,ro,none⟩) rc hm c1);clear hst hrow hr hb hi h hok bl c1 m1 nG eD hx he hc h0;go_enter Tryz.func47,Tryz.ntmps47;go_wp2_with (go_at_call 46;refine HQ.out.mono ?_;rintro e w' ⟨rfl,rfl⟩);go_ret2;exact ⟨rfl,rfl⟩
 ·have HQ:=aQ (oP (p:=p) (w:=w) c (some ⟨rb,ro,none⟩) rc (n:=a.aZ.length) (by omega) c1)
  clear hst hrow hr hb hi h hok bl c1 hc h0;go_enter Tryz.func47,Tryz.ntmps47;go_wp2_with (go_at_call 46;refine HQ.out.mono ?_;rintro e w' ⟨rfl,rfl⟩);go_ret2;exact ⟨rfl,rfl⟩
theorem vH {N:Nat} (h:dY F Z W ts w) (i:Nat) (hi:ts[i]? = some (bP p a)) (hok:a.Ok N) (_:N<=1000000000) (m:Nat) (hm:m < a.aZ.length) (d:dV) (l:List dV) (hl:a.aY.getD m []=d::l) :
  Calls Vs 47 #[.pointer (some ⟨p,0,none⟩),.int .i64 (m:Int)] w fun e w'=>∃v,e=.returned (.tuple #[v,.bool true])/\dY F Z W (ts++[dD v d]) w':=by
 obtain ⟨G,Y,x,hst⟩:=h.get i hi;obtain ⟨rv,sp,ap,wv,bv,fu,eO,fq,fw,ig,kv,fM,rev,fD⟩:=x;have hrow:=(hst.get (i:=0) rfl).1;obtain ⟨_,c1,_,_,_,_,_,_,c8,_⟩:=aB hrow;have hr:=hst.get (i:=1) rfl;have hb:=hst.get (i:=5) rfl;dsimp only at *;have n1:=hok.n1;have n4:=hok.n4;have bl:=hok.bl;obtain ⟨rb,ro,rc,rfl,_,_⟩:=bR hr n1;obtain ⟨b1,o1,k1,rfl,m1,nG⟩:=bR hb (by omega);have hx:=bT (d:=[]) (show m < a.aY.length by omega);have hln:=hok.rO _ (VD hx);have hds:=hok.yI _ (VD hx) d;rw [hl] at hx hln hds;obtain ⟨v,A,hv,eD,_⟩:=iQ hb hx;obtain ⟨b2,o2,k2,rfl,m2,Gw⟩:=bR eD (by simp);obtain ⟨v2,hv2,hby⟩:=oG eD (i:=0) (d:=d) rfl;rw [Nat.add_zero] at hv2;rw [show (d::l).length=l.length+1 from rfl] at hv m2 hln;rw [bl] at c8 m1;have hd:=hds List.mem_cons_self;have HQ:=aQ (iD (p:=p) (w:=w) m (some ⟨rb,ro,none⟩) rc hm c1);have HC:=aQ (cV v2 d w hby.1 (by omega));have HH:=aQ h;clear hst hrow hr hb hi h hok bl c1 m1 nG eD hx hl hds hby;go_enter Tryz.func47,Tryz.ntmps47
 go_wp2_with (first
  |(go_at_call 46;refine HQ.out.mono ?_;rintro e w' ⟨rfl,rfl⟩)
  |(go_at_call 69;refine HC.out.mono ?_;rintro e w1 ⟨v1,rfl,ho,hb⟩;have HO:=aQ ho;have HB:=aQ hb;clear ho hb))
 go_ret2;exact ⟨_,rfl,HH.out.mM HB.out (T:=dD v1 d) HO.out.Jz⟩
end

theorem dY.yM {F Z:BS} {W w:World} {ts:List Th} {T:TypeId} {b off n cap:Nat} {xs:List Nat} (h:dY F Z W ts w) (i:Nat) (hi:ts[i]? = some (ζ dK T (.slice (some ⟨b,off,none⟩) n cap) xs)) {c y:Nat} (hc:c < xs.length) {u:Int} (hu:u=(y:Int)) :
  dY F Z W (ts.set i (ζ dK T (.slice (some ⟨b,off,none⟩) n cap) (xs.set c y))) (w.setCell ⟨b,off+c,none⟩ (.int .i64 u)):=by
 subst hu;have:=h.put jG i hi (c:=c) (j:=0) (a:=xs.getD c 0) (a':=y) (u:=.int .i64 (y:Int)) (bT hc) (by decide) rfl;simpa [dK] using this
section
variable {w:World} {F Z:BS} {W:World} {ts:List Th} {p:Nat} {a:δ}
theorem Oq {N:Nat} (h:dY F Z W ts w) (i:Nat) (hi:ts[i]? = some (bP p a)) (hok:a.Ok N) (c:Int) (hc:a.jY c=none) :
  Calls Vs 93 #[.pointer (some ⟨p,0,none⟩),.int .i64 c] w fun e w'=>e=.returned (.tuple #[.slice none 0 0,.bool false])/\w=w':=by
 have HQ:=aQ (zu h i hi hok c hc);clear hc hi h hok;go_enter Tryz.func93,Tryz.ntmps93;go_wp2_with (go_at_call 47;refine HQ.out.mono ?_;rintro e w' ⟨rfl,rfl⟩);go_ret2;exact ⟨rfl,rfl⟩
theorem Lv {N:Nat} (h:dY F Z W ts w) (i:Nat) (hi:ts[i]? = some (bP p a)) (hok:a.Ok N) (hN:N<=1000000000) (m:Nat) (hm:m < a.aZ.length) (d:dV) (l:List dV) (hl:a.aY.getD m []=d::l) :
  Calls Vs 93 #[.pointer (some ⟨p,0,none⟩),.int .i64 (m:Int)] w fun e w'=>∃v,e=.returned (.tuple #[v,.bool true])/\dY F Z W (ts.set i (bP p (a.take m).2)++[dD v d]) w':=by
 obtain ⟨G,Y,hon,hd,_,_,hback⟩:=h.use i hi
 suffices hs:Calls Vs 93 #[.pointer (some ⟨p,0,none⟩),.int .i64 (m:Int)] w fun e w'=>∃v,e=.returned (.tuple #[v,.bool true])/\dY G Y w [bP p (a.take m).2,dD v d] w' from
  hs.mono fun e w' ⟨v,he,hh⟩=>⟨v,he,hback w' _ [dD v d] hh.did⟩
 clear hback h hi;have hP:=dY.nT hon hd;have HQ:=aQ (vH hP 0 rfl hok hN m hm d l hl);have bz:=aQ hok;have HL:=aQ hl
 have sV:=aQ (show (a.take m).2={ a with aY:=a.aY.set m l,π:=a.π.set m (a.π.getD m ⟨0,0,0⟩).free,cF:=a.cF.set m (a.cF.getD m 0+1) } by
  unfold δ.take δ.jY;rw [if_pos (show a.has (m:Int) from ⟨by omega,by omega⟩)];simp only [Int.toNat_natCast,hl];rfl)
 clear hP hd hon hok hl;go_enter Tryz.func93,Tryz.ntmps93;go_wp2_with fail;refine HQ.out.mono ?_;rintro e w1 ⟨v1,rfl,hh⟩;obtain ⟨x,hst⟩:=dY.opens (show dY G Y w (Na (bX p a)::[dD v1 d]) w1 from hh);clear hh;obtain ⟨rv,sp,ap,wv,bv,fu,eO,fq,fw,ig,kv,fM,rev,fD⟩:=x;have hrow:=hst.blk 0 rfl;obtain ⟨_,_,_,_,_,_,_,_,c8,_⟩:=aB hrow;have bl:=bz.out.bl;have n4:=bz.out.n4;have kl:=bz.out.kl;have gl:=bz.out.gl;obtain ⟨_,_,hb⟩:=hst.get 5 rfl;obtain ⟨b1,o1,k1,e1,m1,nG⟩:=bR (show Sq (df ψ 40) 51 w1 _ _ bv a.aY from hb) (by omega);subst e1;have hx:=bT (d:=[]) (show m < a.aY.length by omega);rw [HL.out] at hx;have hbf:=(Sq.free (show Sq (df ψ 40) 51 w1 _ _ (.slice (some ⟨b1,o1,none⟩) a.aY.length k1) a.aY from hb)).2.2.2;obtain ⟨vc,je,⟨_,_,eD⟩,jT⟩:=hst.inner 5 rfl hx;obtain ⟨b2,o2,k2,rfl,m2,Gw⟩:=bR eD (by simp);have fP:=aQ jT;clear hb eD jT hrow hst hx;rw [show (d::l).length=l.length+1 from rfl] at je m2;rw [bl] at c8 m1;dsimp only at c8;have QO:(1:Int)<=(l.length:Int)+1:=by omega
 have HS2:=aQ (fP.out (.slice (if k2=1 then some ⟨b2,o2,none⟩ else some ⟨b2,o2+1,none⟩) l.length (k2 - 1)) l fun G Y h=>by
   obtain ⟨g,off,e,_,_,h'⟩:=h.drop (k:=1) (by decide) (by simp);obtain ⟨rfl,rfl⟩:b2=g/\o2=off:=by simpa using e
   simpa [ψ] using h')
 clear fP;obtain ⟨na,hna⟩:∃na,(if k2=1 then some (⟨b2,o2,none⟩:Addr) else some ⟨b2,o2+1,none⟩)=na:=⟨_,rfl⟩;have hsl1:l.length+1 - 1=l.length:=rfl;have hm2:((l.length:Int)+1)<=(k2:Int):=by omega
 rw [hna] at HS2;clear m2 hsl1;go_wp2_with fail;refine wp_region_still_tail 14 (by kernel_rfl) (by kernel_rfl) ?_;simp only [Vy,VI,Vz,VH];change wpStill _ _ (V3 _) (fun a'=>wpList _ _ _ _ a' (V3 _)) _ _
 repeat still_step
 refine wpStill_nil ?_;clear hna;go_upto_region 4 with fail
 have hs3:=HS2.out.drew;generalize hw2:V3 _=w2 at hs3 ⊢;clear hw2 HS2 c8 hbf je QO hm2 Gw;have hrow:=hs3.blk 0 rfl;have c13:=(aB hrow).2.2.2.2.2.2.2.2.2.2.2.2.2.1;have hg:=bT (d:=(⟨0,0,0⟩:fV)) (show m < a.π.length by omega);have fA:=aQ (O7 hs3 9 rfl (by omega) hg (by have:=(bz.out.π _ (VD hg)).2.2;omega));clear hrow hs3 hg;go_wp2_with fail;refine fA.out.mono ?_;rintro e w3 ⟨⟨_,rfl⟩,hs4⟩;clear fA c13;have nH:=aQ (show dY G Y w (bX p { a with aY:=a.aY.set m l,π:=a.π.set m (a.π.getD m ⟨0,0,0⟩).free } ⟨rv,sp,ap,wv,.slice (some ⟨b1,o1,none⟩) a.aY.length k1,fu,eO,fq,fw,ig,kv,fM,rev,fD⟩++[dD v1 d]) w3 from hs4);clear hs4;have hrow:=nH.out.blk 0 rfl;have c18:=(aB hrow).2.2.2.2.2.2.2.2.2.2.2.2.2.2.2.2.2.2.1;dsimp only at c18;obtain ⟨_,_,hb⟩:=nH.out.get 14 rfl;obtain ⟨b3,o3,k3,e3,m3,QJ⟩:=bR (show Sq dK 3 w3 _ _ fD a.cF from hb) (by omega);subst e3;have hx3:=bT (d:=0) (show m < a.cF.length by omega);have ht3:=bz.out.tan _ (VD hx3);have hc3:=dP hb hx3;have hf3:=(Sq.free hb).2.2.2;have qz:=aQ (nH.out.yM (xs:=a.cF) 14 rfl (c:=m) (y:=a.cF.getD m 0+1) (u:=(a.cF.getD m 0:Int)+1) (by omega) (by omega));obtain ⟨z,hz⟩:∃z,z=a.cF.getD m 0:=⟨_,rfl⟩;have HZ:=aQ hz;rw [<-hz] at ht3 hc3;rw [kl] at c18;clear hrow hb hx3 hz;go_wp2_with fail;go_ret2;refine ⟨v1,rfl,?_⟩;rw [sV.out];refine dY.shut (f:=bX p _) (i:=⟨rv,sp,ap,wv,.slice (some ⟨b1,o1,none⟩) a.aY.length k1,fu,eO,fq,fw,ig,kv,fM,rev,.slice (some ⟨b3,o3,none⟩) a.cF.length k3⟩) (ts:=[dD v1 d]) ?_;have hz:=HZ.out;subst hz;exact qz.out
end

theorem oI {w:World} {p b i j:Nat} {u v:Value} (hne:p≠b) (h:w.cell? ⟨p,j,none⟩=some v):(w.setCell ⟨b,i,none⟩ u).cell? ⟨p,j,none⟩=some v:=
 (Vt (heap_setCell_other w ⟨b,i,none⟩ p u hne)).trans h
theorem dY.apart {F Z:BS} {W w:World} {ts:List Th} {A B:Th} {p q:Nat} (h:dY F Z W ts w) (i j:Nat) (hij:i≠j) (hi:ts[i]? = some A) (hj:ts[j]? = some B) (ha:∀G Y,A.on w G Y->G p) (hb:∀G Y,B.on w G Y->G q):p≠q:=by
 obtain ⟨L,_,_,h3⟩:=h;intro e;subst e;have h1:L p=i+2:=ha _ _ (h3 i A hi);have h2:L p=j+2:=hb _ _ (h3 j B hj);omega
def Reads (T:Th) (v:Value) (d:dV):Prop:=∀(w:World) (G Y:BS),T.on w G Y->By w v d
theorem Bq (v:Value) (d:dV):Reads (dD v d) v d:=fun _ _ _ h=>h.1
section
variable {w:World} {F Z:BS} {W:World} {ts:List Th} {p:Nat} {a:δ}
theorem z_ {n:Nat} (c:Int) (da:Option Addr) (dn dc:Nat) (ra:Option Addr) (rc:Nat) (_:n<=4) (hdn:dn<=9223372036854775807) (hc:c < 0\/(n:Int)<=c\/64 < dn) (h1:w.cell? ⟨p,1,none⟩=some (.slice ra n rc)) :
  Calls Vs 92 #[.pointer (some ⟨p,0,none⟩),.int .i64 c,.slice da dn dc] w fun e w'=>e=.returned (.int .i64 2)/\w=w':=by
 by_cases h0:c < 0\/(n:Int)<=c
 ·have HQ:=aQ (oP (p:=p) (w:=w) c ra rc h0 h1)
  clear h1 hc h0;go_enter Tryz.func92,Tryz.ntmps92;go_wp2_with (go_at_call 46;refine HQ.out.mono ?_;rintro e w' ⟨rfl,rfl⟩);go_ret;exact ⟨rfl,rfl⟩
 ·obtain ⟨m,rfl⟩:∃m:Nat,c=(m:Int):=⟨c.toNat,by omega⟩
  have hd:64 < dn:=by omega
  have HQ:=aQ (iD (p:=p) (w:=w) m ra rc (by omega) h1);clear h1 hc h0;go_enter Tryz.func92,Tryz.ntmps92;go_wp2_with (go_at_call 46;refine HQ.out.mono ?_;rintro e w' ⟨rfl,rfl⟩);go_ret;exact ⟨rfl,rfl⟩
theorem CR {N:Nat} (h:dY F Z W ts w) (i:Nat) (hi:ts[i]? = some (bP p a)) (hok:a.Ok N) (_:N<=1000000000) (m:Nat) (hm:m < a.aZ.length) (da:Option Addr) (dn dc:Nat) (hd:dn<=64) (hf:64<=(a.aX.getD m []).length) :
  Calls Vs 92 #[.pointer (some ⟨p,0,none⟩),.int .i64 (m:Int),.slice da dn dc] w fun e w'=>e=.returned (.int .i64 5)/\w=w':=by
 obtain ⟨G,Y,x,hst⟩:=h.get i hi;obtain ⟨rv,sp,ap,wv,bv,fu,eO,fq,fw,ig,kv,fM,rev,fD⟩:=x;have hrow:=(hst.get (i:=0) rfl).1;obtain ⟨_,c1,_,_,_,_,_,c7,_⟩:=aB hrow;have hr:=hst.get (i:=1) rfl;have hb:=hst.get (i:=4) rfl;dsimp only at *;have n1:=hok.n1;have n4:=hok.n4;have wl:=hok.wl;obtain ⟨rb,ro,rc,rfl,_,_⟩:=bR hr n1;obtain ⟨b1,o1,k1,rfl,m1,nG⟩:=bR hb (by omega);have hx:=bT (d:=[]) (show m < a.aX.length by omega);have hln:=hok.qy _ (VD hx);obtain ⟨v,A,hv,eD,_⟩:=iQ hb hx;obtain ⟨b2,o2,k2,rfl,m2,Gw⟩:=bR eD (by omega);rw [wl] at c7 m1;generalize (a.aX.getD m []).length=q at *;have HQ:=aQ (iD (p:=p) (w:=w) m (some ⟨rb,ro,none⟩) rc hm c1);clear hst hrow hr hb hi h hok wl c1 nG eD hx;go_enter Tryz.func92,Tryz.ntmps92;go_wp2_with (go_at_call 46;refine HQ.out.mono ?_;rintro e w' ⟨rfl,rfl⟩);go_ret;exact ⟨rfl,rfl⟩
theorem CQ {N:Nat} (h:dY F Z W ts w) (i j:Nat) (hi:ts[i]? = some (bP p a)) (hok:a.Ok N) (_:N<=1000000000) (m:Nat) (hm:m < a.aZ.length) (dv:Value) (d:dV) {T:Th} (hT:Reads T dv d) (hj:ts[j]? = some T) (hij:j≠i) (hd:d.length<=64) (hf:(a.aX.getD m []).length < 64) :
  Calls Vs 92 #[.pointer (some ⟨p,0,none⟩),.int .i64 (m:Int),dv] w fun e w'=>e=.returned (.int .i64 0)/\dY F Z W (ts.set i (bP p { a with aX:=a.aX.set m (a.aX.getD m []++[d]) })) w':=by
 obtain ⟨G,Y,hon,Rs,_,hoth,hback⟩:=h.use i hi;obtain ⟨H,_,_,JM⟩:=hoth j _ hij hj;have hby:=hT _ _ _ JM;clear JM hT
 suffices hs:Calls Vs 92 #[.pointer (some ⟨p,0,none⟩),.int .i64 (m:Int),dv] w fun e w'=>e=.returned (.int .i64 0)/\lS w G Y [bP p { a with aX:=a.aX.set m (a.aX.getD m []++[d]) }] w' from
  hs.mono fun e w' ⟨he,hh⟩=>⟨he,by have:=hback w' _ [] hh;rwa [Wp] at this⟩
 clear hback hoth h hi hj;obtain ⟨x,hst⟩:=dY.port hon Rs;clear hon;obtain ⟨rv,sp,ap,wv,bv,fu,eO,fq,fw,ig,kv,fM,rev,fD⟩:=x;have hrow:=hst.blk 0 rfl;obtain ⟨_,c1,_,_,_,_,_,c7,_⟩:=aB hrow;obtain ⟨_,_,hr⟩:=hst.get 1 rfl;obtain ⟨_,_,hb⟩:=hst.get 4 rfl;have n1:=hok.n1;have n4:=hok.n4;have wl:=hok.wl;obtain ⟨rb,ro,rc,e1,_,_⟩:=bR (show Sq dK 3 w _ _ rv a.aZ from hr) n1;obtain ⟨b1,o1,k1,e2,m1,nG⟩:=bR (show Sq (df ψ 40) 51 w _ _ wv a.aX from hb) (by omega);subst e1 e2;have hbf:=(Sq.free (show Sq (df ψ 40) 51 w _ _ (.slice (some ⟨b1,o1,none⟩) a.aX.length k1) a.aX from hb)).2.2.2;have hx:=bT (d:=[]) (show m < a.aX.length by omega);have hpb:p≠b1:=hst.apart 0 4 (by decide) rfl rfl (fun _ _ h=>h.2) fun _ _ h=>(Sq.free (show Sq _ _ _ _ _ _ _ from h)).2.1
 obtain ⟨vc,je,hout⟩:=hst.out 4 rfl hx;obtain ⟨_,_,eD⟩:=hout.get 15 rfl;obtain ⟨va,k2,e3⟩:=Sq.shape (show Sq ψ 40 w _ _ vc (a.aX.getD m []) from eD);subst e3;obtain ⟨da,dc,e4⟩:=hby.slice;subst e4;obtain ⟨xs,hxs⟩:∃xs,xs=a.aX.getD m []:=⟨_,rfl⟩;have uA:=aQ hxs;rw [<-hxs] at hf je hout;have HQ:=aQ (iD (p:=p) (w:=w) m (some ⟨rb,ro,none⟩) rc hm c1);have nK:=aQ hby;have DT:=aQ hout;rw [wl] at c7 m1;dsimp only at c7;clear hst hrow hr hb hby hout eD hx hxs c1 nG;have hf1:decide (64<=xs.length)=false:=by simp;omega
 have hd1:decide (64 < d.length)=false:=by simp;omega
 go_enter Tryz.func92,Tryz.ntmps92;go_wp2_with (go_at_call 46;refine HQ.out.mono ?_;rintro e w' ⟨rfl,rfl⟩);refine wp_region_held_drew (S:=fun w'=>w'.cell? ⟨p,7,none⟩=some (.slice (some ⟨b1,o1,none⟩) a.aZ.length k1)) (by kernel_rfl) c7 (fun hS0=>?_);refine Φ 0 11 hS0 ?_
 iterate 11 (refine aR (v:=?_) (by rfl) ?_ ?_;rotate_left 1;(focus ((intro w' hS';go_simp);try with_reducible rfl));simp only [VF,ag,Ψ,ae])
 refine aT ?_;refine Φ 12 1 hS0 ?_;refine dI ?_;refine aT ?_;refine gm 11 13 (by kernel_rfl) rfl rfl (fun K hK=>?_) (fun K hK=>?_)
 focus
  go_simp;refine hK.out _ _ c7 ?_;clear hK K;refine ah 13 (fun K hK=>?_)
  (refine ν (f:=?_) (args:=?_) (by rfl) ?_ ?_;rotate_left 2;(focus (go_simp;first|(with_reducible rfl)|(refine ⟨?_,?_⟩ <;> with_reducible rfl)));(refine (cV _ d _ (nK.out.drewN 1) (by omega)).mono ?_);rintro e' w1 ⟨v1,rfl,ho,hb1⟩)
  refine ⟨_,rfl,?_⟩;simp only [VF,ag,Ψ,ae];have hb1':Below w.heap.size w w1:=(bS w 1).trans hb1;obtain ⟨pW,pV,rfl⟩:=gX ho;have hp1:p < w.heap.size:=Vv w _ c7;have hl1:b1 < w.heap.size:=Vv w _ je;have hS1:w1.cell? ⟨p,7,none⟩=some (.slice (some ⟨b1,o1,none⟩) a.aZ.length k1)/\w1.cell? ⟨b1,o1+m,none⟩=some (.slice va xs.length k2):=⟨(Vt (hb1'.block p hp1)).trans c7,(Vt (hb1'.block b1 hl1)).trans je⟩;have HA:=DT.out.mM hb1' (T:=dD (.slice pW d.length pV) d) ho.Jz;have HB1:=aQ hb1';obtain ⟨Kx,us,hsl,hKn,hback⟩:=HA.app 15 rfl;have o5:¬Kx p:=hKn p 0 _ (by decide) rfl fun H Y h=>.inl h.2
  have hKb:¬Kx b1:=hKn b1 4 _ (by decide) rfl fun H Y h=>.inl (Sq.free (show Sq _ _ _ H Y _ _ from h)).2.1
  have fP:=aQ hback;have gK:=aQ hsl;clear hb1 hb1' ho HA hKn hback hsl;have iq:=aK w1 (.cells #[.slice pW d.length pV] 40);have hS2:(w1.alloc (.cells #[.slice pW d.length pV] 40)).cell? ⟨p,7,none⟩=some (.slice (some ⟨b1,o1,none⟩) a.aZ.length k1)/\(w1.alloc (.cells #[.slice pW d.length pV] 40)).cell? ⟨b1,o1+m,none⟩=some (.slice va xs.length k2):=⟨aI _ _ hS1.1,aI _ _ hS1.2⟩
  have iT:=aQ (fun (v2:Value) (w2:World) (hsl2:Sl w2 (fun k=>Kx k\/(w1.alloc (.cells #[.slice pW d.length pV] 40)).heap.size<=k) 40 1 v2 (xs.length+1) (us++[.slice pW d.length pV])) (hfr2:Fr Kx (w1.alloc (.cells #[.slice pW d.length pV] 40)) w2)=>
   show ∃g2 cz cap2,v2=.slice (some ⟨g2,cz,none⟩) (xs.length+1) cap2/\w2.cell? ⟨b1,o1+m,none⟩=some (.slice va xs.length k2)/\(∀j,w2.frozen? ⟨b1,j,none⟩=false)/\w2.cell? ⟨p,7,none⟩=some (.slice (some ⟨b1,o1,none⟩) a.aZ.length k1)/\Hid (dY G Y w (bX p { a with aX:=a.aX.set m (xs++[d]) } ⟨.slice (some ⟨rb,ro,none⟩) a.aZ.length rc,sp,ap,.slice (some ⟨b1,o1,none⟩) a.aX.length k1,bv,fu,eO,fq,fw,ig,kv,fM,rev,fD⟩) (w2.setCell ⟨b1,o1+m,none⟩ (.slice (some ⟨g2,cz,none⟩) (xs.length+1) cap2))) from by
   obtain ⟨g2,cz,cap2,rfl,_⟩:=Sl.head hsl2 (by omega);have TU:p < (w1.alloc (.cells #[.slice pW d.length pV] 40)).heap.size:=Vv _ _ hS2.1;have TZ:b1 < (w1.alloc (.cells #[.slice pW d.length pV] 40)).heap.size:=Vv _ _ hS2.2;have fU:w2.cell? ⟨p,7,none⟩=some (.slice (some ⟨b1,o1,none⟩) a.aZ.length k1)/\w2.cell? ⟨b1,o1+m,none⟩=some (.slice va xs.length k2):=⟨(Vt (hfr2.block p TU o5)).trans hS2.1,(Vt (hfr2.block b1 TZ hKb)).trans hS2.2⟩
   have hs4:=fP.out _ w2 [.slice pW d.length pV] [d] _ iq hsl2 hfr2 fun Y hO=>by
    obtain ⟨H,_,hh⟩:=hO 16 _ (by decide) rfl;exact ⟨fun _=>False,Y,fun _ f=>f.elim,fun _ y=>.inl y,fun _ f=>f.elim,fK.single (E:=ψ) ⟨_,rfl,fE.below hh iq⟩⟩
   have hs5:dY G Y w ((bX p a ⟨.slice (some ⟨rb,ro,none⟩) a.aZ.length rc,sp,ap,.slice (some ⟨b1,o1,none⟩) a.aX.length k1,bv,fu,eO,fq,fw,ig,kv,fM,rev,fD⟩).set 4 (ζ (jm (df ψ 40)) 51 (.slice (some ⟨b1,o1,none⟩) a.aX.length k1) ((a.aX.map some).set m none))++[ζ ψ 40 (.slice (some ⟨g2,cz,none⟩) (xs.length+1) cap2) (xs++[d])]) w2:=
    hs4.pick [0,1,2,3,4,5,6,7,8,9,10,11,12,13,14,15] _ (by decide) rfl
   have qz:=aQ (dY.back (c:=m) (Gr:=a.aX.set m (xs++[d])) hs5 4 rfl (by rw [Wd,VL];omega) j_)
   have DL:∀j,w2.frozen? ⟨b1,j,none⟩=false:=by
    obtain ⟨_,_,hh⟩:=hs5.get 4 rfl;exact (Sq.free (show Sq (jm (df ψ 40)) 51 w2 _ _ (.slice (some ⟨b1,o1,none⟩) a.aX.length k1) ((a.aX.map some).set m none) from hh)).2.2.2
   exact ⟨g2,cz,cap2,rfl,fU.2,DL,fU.1,qz⟩)
  have hw2:=hS1.2;have hw3:=hS2.2;have hw1:=hS1.1;have hw4:=hS2.1;clear hS1 hS2 iq fP o5 hKb;refine hK.out _ _ hw1 ?_;clear hK K;refine ah 14 (fun K hK=>?_);go_simp;refine hK.out _ _ hw4 ?_;clear hK K
 rotate_left
 focus
  (refine ν (f:=?_) (args:=?_) (by rfl) ?_ ?_;rotate_left 2;(focus (go_simp;first|(with_reducible rfl)|(refine ⟨?_,?_⟩ <;> with_reducible rfl)));(refine (cV _ d _ (nK.out.drewN 1) (by omega)).mono ?_);rintro e' w1 ⟨v1,rfl,ho,hb1⟩)
  refine ⟨_,rfl,?_⟩;simp only [VF,ag,Ψ,ae];have hb1':Below w.heap.size w w1:=(bS w 1).trans hb1;obtain ⟨pW,pV,rfl⟩:=gX ho;have hp1:p < w.heap.size:=Vv w _ c7;have hl1:b1 < w.heap.size:=Vv w _ je;have hS1:w1.cell? ⟨p,7,none⟩=some (.slice (some ⟨b1,o1,none⟩) a.aZ.length k1)/\w1.cell? ⟨b1,o1+m,none⟩=some (.slice va xs.length k2):=⟨(Vt (hb1'.block p hp1)).trans c7,(Vt (hb1'.block b1 hl1)).trans je⟩;have HA:=DT.out.mM hb1' (T:=dD (.slice pW d.length pV) d) ho.Jz;have HB1:=aQ hb1';obtain ⟨Kx,us,hsl,hKn,hback⟩:=HA.app 15 rfl;have o5:¬Kx p:=hKn p 0 _ (by decide) rfl fun H Y h=>.inl h.2
  have hKb:¬Kx b1:=hKn b1 4 _ (by decide) rfl fun H Y h=>.inl (Sq.free (show Sq _ _ _ H Y _ _ from h)).2.1
  have fP:=aQ hback;have gK:=aQ hsl;clear hb1 hb1' ho HA hKn hback hsl;have iq:=aK w1 (.cells #[.slice pW d.length pV] 40);have hS2:(w1.alloc (.cells #[.slice pW d.length pV] 40)).cell? ⟨p,7,none⟩=some (.slice (some ⟨b1,o1,none⟩) a.aZ.length k1)/\(w1.alloc (.cells #[.slice pW d.length pV] 40)).cell? ⟨b1,o1+m,none⟩=some (.slice va xs.length k2):=⟨aI _ _ hS1.1,aI _ _ hS1.2⟩
  have iT:=aQ (fun (v2:Value) (w2:World) (hsl2:Sl w2 (fun k=>Kx k\/(w1.alloc (.cells #[.slice pW d.length pV] 40)).heap.size<=k) 40 1 v2 (xs.length+1) (us++[.slice pW d.length pV])) (hfr2:Fr Kx (w1.alloc (.cells #[.slice pW d.length pV] 40)) w2)=>
   show ∃g2 cz cap2,v2=.slice (some ⟨g2,cz,none⟩) (xs.length+1) cap2/\w2.cell? ⟨b1,o1+m,none⟩=some (.slice va xs.length k2)/\(∀j,w2.frozen? ⟨b1,j,none⟩=false)/\w2.cell? ⟨p,7,none⟩=some (.slice (some ⟨b1,o1,none⟩) a.aZ.length k1)/\Hid (dY G Y w (bX p { a with aX:=a.aX.set m (xs++[d]) } ⟨.slice (some ⟨rb,ro,none⟩) a.aZ.length rc,sp,ap,.slice (some ⟨b1,o1,none⟩) a.aX.length k1,bv,fu,eO,fq,fw,ig,kv,fM,rev,fD⟩) (w2.setCell ⟨b1,o1+m,none⟩ (.slice (some ⟨g2,cz,none⟩) (xs.length+1) cap2))) from by
   obtain ⟨g2,cz,cap2,rfl,_⟩:=Sl.head hsl2 (by omega);have TU:p < (w1.alloc (.cells #[.slice pW d.length pV] 40)).heap.size:=Vv _ _ hS2.1;have TZ:b1 < (w1.alloc (.cells #[.slice pW d.length pV] 40)).heap.size:=Vv _ _ hS2.2;have fU:w2.cell? ⟨p,7,none⟩=some (.slice (some ⟨b1,o1,none⟩) a.aZ.length k1)/\w2.cell? ⟨b1,o1+m,none⟩=some (.slice va xs.length k2):=⟨(Vt (hfr2.block p TU o5)).trans hS2.1,(Vt (hfr2.block b1 TZ hKb)).trans hS2.2⟩
   have hs4:=fP.out _ w2 [.slice pW d.length pV] [d] _ iq hsl2 hfr2 fun Y hO=>by
    obtain ⟨H,_,hh⟩:=hO 16 _ (by decide) rfl;exact ⟨fun _=>False,Y,fun _ f=>f.elim,fun _ y=>.inl y,fun _ f=>f.elim,fK.single (E:=ψ) ⟨_,rfl,fE.below hh iq⟩⟩
   have hs5:dY G Y w ((bX p a ⟨.slice (some ⟨rb,ro,none⟩) a.aZ.length rc,sp,ap,.slice (some ⟨b1,o1,none⟩) a.aX.length k1,bv,fu,eO,fq,fw,ig,kv,fM,rev,fD⟩).set 4 (ζ (jm (df ψ 40)) 51 (.slice (some ⟨b1,o1,none⟩) a.aX.length k1) ((a.aX.map some).set m none))++[ζ ψ 40 (.slice (some ⟨g2,cz,none⟩) (xs.length+1) cap2) (xs++[d])]) w2:=
    hs4.pick [0,1,2,3,4,5,6,7,8,9,10,11,12,13,14,15] _ (by decide) rfl
   have qz:=aQ (dY.back (c:=m) (Gr:=a.aX.set m (xs++[d])) hs5 4 rfl (by rw [Wd,VL];omega) j_)
   have DL:∀j,w2.frozen? ⟨b1,j,none⟩=false:=by
    obtain ⟨_,_,hh⟩:=hs5.get 4 rfl;exact (Sq.free (show Sq (jm (df ψ 40)) 51 w2 _ _ (.slice (some ⟨b1,o1,none⟩) a.aX.length k1) ((a.aX.map some).set m none) from hh)).2.2.2
   exact ⟨g2,cz,cap2,rfl,fU.2,DL,fU.1,qz⟩)
  have hw2:=hS1.2;have hw3:=hS2.2;have hw1:=hS1.1;have hw4:=hS2.1;clear hS1 hS2 iq fP o5 hKb;refine hK.out _ _ hw1 ?_;clear hK K;refine gm 11 14 (by kernel_rfl) rfl rfl (fun K hK=>?_) (fun K hK=>?_)
  focus
   go_simp;refine hK.out _ _ hw1 ?_;clear hK K;refine ah 14 (fun K hK=>?_);go_simp;refine hK.out _ _ hw4 ?_;clear hK K
  rotate_left
  focus
   go_simp;refine hK.out _ _ hw4 ?_;clear hK K;refine ah 11 (fun K hK=>?_);go_simp;refine hK.out _ _ hw4 ?_;clear hK K
 all_goals
  refine ah 15 (fun K hK=>?_);refine υ qA rfl _ _ rfl Kx (.slice va xs.length k2) xs.length us rfl (gK.out.alloc _) _ 1 [.slice pW d.length pV] rfl (iA _ _ _ _ rfl) (by intro u hu;simp at hu;subst hu;rfl) (by unfold maxLen;omega) (by omega) ?_;intro v2 w2 hsl2 hfr2;obtain ⟨g2,cz,cap2,rfl,k0,kf,kp,qz⟩:=iT.out v2 w2 hsl2 hfr2;clear hsl2 hfr2;refine hK.out _ _ kp ?_;clear hK K;simp only [VF,ag,Ψ,ae];refine ah 16 (fun K hK=>?_);go_simp;refine hK.out _ _ kp ?_;clear hK K;refine ah 17 (fun K hK=>?_);go_simp;refine hK.out _ _ (oI hpb kp) ?_;clear hK K;refine fZ ?_;go_wp2_with fail;go_ret;exact ⟨rfl,by rw [<-uA.out];exact dY.dX qz.out⟩
end

section
variable {F Z:BS} {W w wr:World} {ts:List Th}
theorem dY.front {T:Th} (h:dY F Z W (ts++[T]) w):dY F Z W (T::ts) w:=by
 obtain ⟨L,h1,h2,h3⟩:=h;obtain ⟨L',hL⟩:∃L':Lab,∀k,L' k=if L k<=1 then L k else if L k=ts.length+2 then 2 else if L k < ts.length+2 then L k+1 else 0:=⟨_,fun _=>rfl⟩
 have hz:∀k,L.is 1 k->L'.is 1 k:=fun k hk=>by
  have hk':L k=1:=hk;show L' k=1;rw [hL,if_pos (by omega),hk']
 refine ⟨L',h1,fun k hk hF=>?_,fun j T' hj=>?_⟩
 ·have:=h2 k hk hF
  rw [show L' k=L k by rw [hL,if_pos (by have:=this.1;omega)]];exact this
 ·match j,hj with
  |0,hj=>
   obtain rfl:T=T':=by simpa using hj
   refine T.mono (h3 ts.length T (by simp)) (fun k hk=>?_) hz;have hk':L k=ts.length+2:=hk;show L' k=0+2;rw [hL,if_neg (by omega),if_pos hk']
  |j+1,hj=>
   have hj':ts[j]? = some T':=by simpa using hj
   have hjl:=aA hj';refine T'.mono (h3 j T' (by rw [VO hjl];exact hj')) (fun k hk=>?_) hz;have hk':L k=j+2:=hk;show L' k=j+1+2;rw [hL,if_neg (by omega),if_neg (by omega),if_pos (by omega),hk']
theorem dY.wT {T:Th} (h:dY F Z W (T::ts) w):dY F Z W (ts++[T]) w:=by
 obtain ⟨L,h1,h2,h3⟩:=h;obtain ⟨L',hL⟩:∃L':Lab,∀k,L' k=if L k<=1 then L k else if L k=2 then ts.length+2 else L k - 1:=⟨_,fun _=>rfl⟩
 have hz:∀k,L.is 1 k->L'.is 1 k:=fun k hk=>by
  have hk':L k=1:=hk;show L' k=1;rw [hL,if_pos (by omega),hk']
 refine ⟨L',h1,fun k hk hF=>?_,fun j T' hj=>?_⟩
 ·have:=h2 k hk hF
  rw [show L' k=L k by rw [hL,if_pos (by have:=this.1;omega)]];exact this
 ·by_cases hjl:j < ts.length
  ·rw [VO hjl] at hj
   refine T'.mono (h3 (j+1) T' (by simpa using hj)) (fun k hk=>?_) hz;have hk':L k=j+1+2:=hk;show L' k=j+2;rw [hL,if_neg (by omega),if_neg (by omega),hk'];omega
  ·rw [VP (Nat.le_of_not_lt hjl)] at hj
   obtain ⟨rfl,rfl⟩:j=ts.length/\T=T':=by
    have h0:j - ts.length=0:=by have:=aA hj;simp at this;omega
    rw [h0] at hj;exact ⟨by omega,by simpa using hj⟩
   refine T.mono (h3 0 T rfl) (fun k hk=>?_) hz;have hk':L k=0+2:=hk;show L' k=ts.length+2;rw [hL,if_neg (by omega),if_pos (by omega)]
theorem dY.tail {T:Th} (h:dY F Z W (T::ts) w):dY F Z W ts w:=by
 obtain ⟨L,h1,h2,h3⟩:=h;obtain ⟨L',hL⟩:∃L':Lab,∀k,L' k=if L k<=1 then L k else if L k=2 then 0 else L k - 1:=⟨_,fun _=>rfl⟩
 refine ⟨L',h1,fun k hk hF=>?_,fun j T' hj=>?_⟩
 ·have:=h2 k hk hF
  rw [show L' k=L k by rw [hL,if_pos (by have:=this.1;omega)]];exact this
 ·refine T'.mono (h3 (j+1) T' (by simpa using hj)) (fun k hk=>?_) fun k hk=>?_
  ·have hk':L k=j+1+2:=hk
   show L' k=j+2;rw [hL,if_neg (by omega),if_neg (by omega),hk'];omega
  ·have hk':L k=1:=hk
   show L' k=1;rw [hL,if_pos (by omega),hk']
theorem dY.yT {α : Type} {E:El α} {T:TypeId} {av:Value} {xs:List α} (h:dY F Z W ts wr) (i:Nat) (hi:ts[i]? = some (ζ E T av xs)) :
  ∃K us Y,Sl wr K T E.size av xs.length us/\(∀(b:Nat) (j:Nat) (T':Th),j≠i->ts[j]? = some T'->(∀H Y,T'.on wr H Y->H b\/Y b)->¬K b)/\zi ts i wr Y /\
   ∀(w1 w2:World) (news:List Value) (ys:List α) (u2:Value),Below wr.heap.size wr w1->Sl w2 (fun k=>K k\/w1.heap.size<=k) T E.size u2 (xs.length+ys.length) (us++news)->Fr K w1 w2 ->
    (∃N X:BS,(∀k,N k->wr.heap.size<=k)/\(∀k,X k->Y k\/wr.heap.size<=k)/\Dj N X/\fK E w1 N X news ys)->dY F Z W (ts.set i (ζ E T u2 (xs++ys))) w2:=by
 obtain ⟨G,Y,⟨K,D,us,uz,hdj,hKs,hsl,hel⟩,hd,_,hoth,hback⟩:=h.use i hi;refine ⟨K,us,Y,hsl,fun b j T' hj hT hb hK=>?_,fun j T' hj hT=>by obtain ⟨H,_,h2,h3⟩:=hoth j T' hj hT;exact ⟨H,h2,h3⟩,fun w1 w2 news ys u2 hb hsl2 hf hnew=>?_⟩
 ·obtain ⟨H,h1,_,h3⟩:=hoth j T' hj hT
  exact (hb H Y h3).elim (fun hh=>h1 b (uz b (.inl hK)) hh) fun hy=>hd b (uz b (.inl hK)) hy
 ·obtain ⟨N,X,n1,n2,n3,n4⟩:=hnew
  have hs1:=hb.size;have hs2:=hf.size;have hfw:Fr K wr w2:=⟨hf.os.trans hb.os,hf.tape.trans hb.tape,hf.output.trans hb.output,Nat.le_trans hs1 hs2,fun k hl hn=>(hf.block k (by omega) hn).trans (hb.block k hl)⟩
  have nI:fK E w2 (fun k=>N k/\k < w1.heap.size) (fun k=>X k/\k < w1.heap.size) news ys:=n4.keep hs2 fun k hh hl=>hf.block k hl fun hK=>by
   have hkl:=hKs k hK
   rcases hh with hh|hh
   ·have:=n1 k hh;omega
   ·rcases n2 k hh with hy|hy
    ·exact hd k (uz k (.inl hK)) hy
    ·omega
  have Ka:Sq E T w2 (fun k=>(G k\/wr.heap.size<=k)/\¬((Y k/\k < wr.heap.size)\/(X k/\k < w1.heap.size))) (fun k=>(Y k/\k < wr.heap.size)\/(X k/\k < w1.heap.size)) u2 (xs++ys):=by
   refine ⟨fun k=>(K k\/w1.heap.size<=k)/\k < w2.heap.size,fun k=>(D k/\k < wr.heap.size)\/(N k/\k < w1.heap.size),us++news,?_,?_,fun k h=>h.2,?_,?_⟩
   ·rintro k (⟨h|h,_⟩|h|h)
    ·have hkl:=hKs k h
     refine ⟨.inl (uz k (.inl h)),?_⟩;rintro (⟨hy,_⟩|⟨hx,_⟩)
     ·exact hd k (uz k (.inl h)) hy
     ·rcases n2 k hx with hy|hy
      ·exact hd k (uz k (.inl h)) hy
      ·omega
    ·refine ⟨.inr (by omega),?_⟩
     rintro (⟨_,hl⟩|⟨_,hl⟩) <;> omega
    ·refine ⟨.inl (uz k (.inr h.1)),?_⟩
     rintro (⟨hy,_⟩|⟨hx,_⟩)
     ·exact hd k (uz k (.inr h.1)) hy
     ·rcases n2 k hx with hy|hy
      ·exact hd k (uz k (.inr h.1)) hy
      ·omega
    ·have hn:=n1 k h.1
     refine ⟨.inr hn,?_⟩;rintro (⟨_,hl⟩|⟨hx,_⟩)
     ·omega
     ·exact n3 k h.1 hx
   ·rintro k ⟨h|h,h0⟩ (h'|h')
    ·exact hdj k h h'.1
    ·have:=hKs k h;have:=n1 k h'.1;omega
    ·omega
    ·omega
   ·rw [List.length_append];exact hsl2.bound
   ·refine ((hel.keep hfw.size fun k hh hl=>hfw.block k hl fun h=>hh.elim (fun d=>hdj k h d) fun z=>hd k (uz k (.inl h)) z).mono (fun _ h=>h) fun k h=>.inl h).append (nI.mono (fun _ h=>h) fun k h=>.inr h) (fun k a b=>?_) (fun k h=>.inl h) fun k h=>.inr h
    have:=n1 k b.1;omega
  have hg:Fr G wr w2:=hfw.mono fun k hk=>uz k (.inl hk)
  have:=hback w2 (ζ E T u2 (xs++ys)) [] ⟨hg,_,fun k hk=>?_,Star.one Ka⟩
  ·rwa [Wp] at this
  ·rcases hk with hk|hk
   ·exact .inl hk.1
   ·rcases n2 k hk.1 with hy|hy
    ·exact .inl hy
    ·exact .inr (.inr hy)
end
theorem dY.τ {F Z:BS} {W w:World} {us vs ts:List Th} (h:dY F Z W (us++ts) w) (js:List Nat) (hn:js.Nodup) (he:js.map (fun j=>us[j]?)=vs.map some):dY F Z W (vs++ts) w:=by
 have hlt:∀j ∈ js,j < us.length:=fun j hj=>by
  have hm:us[j]? ∈ vs.map some:=by rw [<-he];exact Wx.2 ⟨j,hj,rfl⟩
  obtain ⟨v,_,e⟩:=Wx.1 hm;exact aA e.symm
 refine h.pick (js++(VV ts.length).map (· + us.length)) (vs++ts) ?_ ?_
 ·rw [List.nodup_append]
  refine ⟨hn,?_,fun x hx y hy e=>?_⟩
  ·rw [List.Nodup,List.pairwise_map]
   exact List.nodup_range.imp fun h e=>h (by omega)
  ·obtain ⟨i,_,rfl⟩:=Wx.1 hy
   have:=hlt x hx;omega
 ·rw [W9,W9,<-he]
  congr 1
  ·refine Xb fun j hj=>?_
   rw [VO (hlt j hj)]
  ·rw [XR]
   apply WQ;intro i;rw [VG,VG];by_cases hi:i < ts.length
   ·rw [VY hi,Vw hi]
    simp only [V_,Function.comp];rw [VP (by omega),Nat.add_sub_cancel,Vw hi]
   ·rw [VT (by simpa using hi),VT (by omega)];rfl
theorem fK.later {α : Type} {E:El α} {w w':World} {F Z:BS} {us:List Value} {xs:List α} (h:fK E w F Z us xs) (hb:Below w.heap.size w w'):fK E w' F Z us xs:=
 (h.keep hb.size fun k _ hl=>hb.block k hl).mono (fun _ h=>h.1) fun _ h=>h.1
theorem DZ {w:World} {Z:BS}:∀ {F:BS} {us:List Value} {xs:List (List (BitVec 8))},fK ψ w F Z us xs->fK ψ w (fun _=>False) Z us xs
 |_,_,[],h=>h
 |_,_,_::_,⟨cs,rest,_,_,e,_,_,_,h1,h2⟩=>⟨cs,rest,fun _=>False,fun _=>False,e,fun _ f=>f,fun _ f=>f,fun _ f=>f.elim,h1,DZ h2⟩

abbrev jH (a:δ) (x:PV) (v10 v11 v12 v13:Value):Obj:=
 .cells #[.int .i64 (a.inc:Int),x.rv,.int .i64 (a.cA:Int),.int .i64 (a.aN:Int),.int .i64 (a.dead:Int),.pointer (some ⟨x.sp,0,none⟩),.pointer (some ⟨x.ap,0,none⟩),x.wv,x.bv,.int .i64 (a.cM:Int),
  v10,v11,v12,v13,x.ig,x.kv,x.fM,x.rev,x.fD,.int .i64 (a.bL:Int)] 130
def again (cT:List (Nat × dV)) (c:Nat):List dV:=(cT.filter fun f=>f.1 == c).map (·.2)
theorem Fp {cT:List (Nat × dV)} {k c:Nat} {f:Nat × dV} (hk:cT[k]? = some f):again (cT.take (k+1)) c=again (cT.take k) c++(if f.1 == c then [f.2] else []):=by
 unfold again;rw [List.take_succ_eq_append_getElem (aA hk),List.filter_append,W9];have:cT[k]'(aA hk)=f:=by rw [Vw (aA hk)] at hk;exact VM hk
 rw [this];congr 1;by_cases h:(f.1 == c)=true
 ·rw [if_pos h];simp only [ZL,h];rfl
 ·have h':(f.1 == c)=false:=by simpa using h
  rw [if_neg h];simp only [ZL,h'];rfl
theorem qW (cT:List (Nat × dV)) (c:Nat):(again cT c).length<=cT.length:=by
 unfold again;rw [VL];exact List.length_filter_le _ _
def cZ (p:δ) (j:Nat):List (List dV):=(VV p.aX.length).map fun c=>if c < j then again p.cT c++p.aX.getD c [] else p.aX.getD c []
theorem xg (p:δ) (j:Nat):(cZ p j).length=p.aX.length:=by simp [cZ]
theorem Cm (p:δ):cZ p 0=p.aX:=by
 apply XB
 ·simp [cZ]
 ·intro i h1 h2;simp [cZ,Wo,h2]
theorem Eb {p:δ} {j:Nat} (hj:j < p.aX.length):(cZ p j)[j]? = some (p.aX.getD j []):=by
 unfold cZ;rw [VG,VY hj,V_,if_neg (by omega)]
theorem Ea {p:δ} {j:Nat}:(cZ p j).set j (again p.cT j++p.aX.getD j [])=cZ p (j+1):=by
 apply WQ;intro i;rw [Xx];unfold cZ;by_cases hij:j=i
 ·subst hij
  rw [if_pos rfl];by_cases hl:j < p.aX.length
  ·rw [if_pos (by simpa using hl),VG,VY hl,V_,if_pos (by omega)]
  ·rw [if_neg (by simpa using hl),VG,VT (by simp;omega)];rfl
 ·rw [if_neg hij,VG,VG]
  by_cases hl:i < p.aX.length
  ·rw [VY hl,V_,V_]
   by_cases h:i < j
   ·simp only [if_pos h,if_pos (show i < j+1 by omega)]
   ·simp only [if_neg h,if_neg (show ¬i < j+1 by omega)]
  ·rw [VT (by simp;omega)];rfl
theorem Ec (p:δ):cZ p p.aX.length=(VV p.aX.length).map fun c=>((p.cT.filter fun f=>f.1 == c).map (·.2))++p.aX.getD c []:=by
 unfold cZ;refine Xb fun c hc=>?_
 rw [if_pos (by simpa using hc)];rfl
theorem uG {T:TypeId} {w:World} {F Z:BS} {b off n cap:Nat} {ks:List (Nat × List (BitVec 8))} {i c:Nat} {d:List (BitVec 8)} (h:Sq jg T w F Z (.slice (some ⟨b,off,none⟩) n cap) ks) (hi:ks[i]? = some (c,d)) :
  ∃v,w.cell? ⟨b,off+i*2,none⟩=some (.int .i64 (c:Int))/\w.cell? ⟨b,off+i*2+1,none⟩=some v/\fE w Z v d:=by
 obtain ⟨b',off',cs,A,e,_,h2,_,h4⟩:=h.at (by decide:0 < 2) hi;obtain ⟨rfl,rfl⟩:b=b'/\off=off':=by simpa using e
 obtain ⟨c1,d1,G,H,rfl,_,_,_,h5,v,rfl,h6⟩:=h2;obtain rfl:c1=[.int .i64 (c:Int)]:=h5;exact ⟨v,h4 0 _ rfl,h4 1 _ rfl,h6⟩
def upTo {α : Type} (n:Nat) (f g:Nat -> α) (j:Nat):List α:=(VV n).map fun i=>if i < j then f i else g i
theorem jK {α : Type} (n:Nat) (f g:Nat -> α) (j:Nat):(upTo n f g j).length=n:=by simp [upTo]
theorem oJ {α : Type} (n:Nat) (f g:Nat -> α):upTo n f g 0=(VV n).map g:=by
 unfold upTo;exact Xb fun i _=>if_neg (by omega)
theorem uZ {α : Type} (n:Nat) (f g:Nat -> α):upTo n f g n=(VV n).map f:=by
 unfold upTo;exact Xb fun i hi=>if_pos (by simpa using hi)
theorem nW {α : Type} {n:Nat} {f g:Nat -> α} {j:Nat} (hj:j < n):(upTo n f g j)[j]? = some (g j):=by
 unfold upTo;rw [VG,VY hj,V_,if_neg (by omega)]
theorem qN {α : Type} {n:Nat} {f g:Nat -> α} {j:Nat}:(upTo n f g j).set j (f j)=upTo n f g (j+1):=by
 apply WQ;intro i;rw [Xx];unfold upTo;by_cases hij:j=i
 ·subst hij
  rw [if_pos rfl];by_cases hl:j < n
  ·rw [if_pos (by simpa using hl),VG,VY hl,V_,if_pos (by omega)]
  ·rw [if_neg (by simpa using hl),VG,VT (by simp;omega)];rfl
 ·rw [if_neg hij,VG,VG]
  by_cases hl:i < n
  ·rw [VY hl,V_,V_]
   by_cases h:i < j
   ·simp only [if_pos h,if_pos (show i < j+1 by omega)]
   ·simp only [if_neg h,if_neg (show ¬i < j+1 by omega)]
  ·rw [VT (by simp;omega)];rfl
theorem qQ {α : Type} (l:List α) (d : α):(VV l.length).map (fun i=>l.getD i d)=l:=by
 apply XB
 ·simp
 ·intro i h1 h2;simp [Wo,h2]
theorem ng (r:Nat):∀k,fV.held ⟨r,0,0⟩ k=⟨r,min k r,0⟩
 |0=>by simp [fV.held]
 |k+1=>by
  unfold fV.held;rw [ng r k];unfold fV.cO fV.cE;split
  ·rename_i h;simp only [fV.mk.injEq,true_and,and_true];dsimp only at h;omega
  ·rename_i h;simp only [fV.mk.injEq,true_and,and_true];dsimp only at h;omega
abbrev AV (a:δ) (j:Nat):List fV:=upTo a.aZ.length (fun i=>⟨a.aZ.getD i 0,min (a.aY.getD i []).length (a.aZ.getD i 0),0⟩) (fun i=>⟨a.aZ.getD i 0,0,0⟩) j
abbrev nS (a:δ) (j:Nat):List Nat:=upTo a.aZ.length (fun i=>(a.aY.getD i []).length) (fun i=>a.base.getD i 0) j
theorem I4 (a:δ):AV a 0=a.aZ.map fun r=>⟨r,0,0⟩:=by
 rw [AV,oJ]
 conv=>rhs;rw [<-qQ a.aZ 0]
 rw [XR];rfl
theorem MI (a:δ) (cM:Nat):AV a a.aZ.length=(a.begin cM).π:=by
 rw [AV,uZ];unfold δ.begin;refine Xb fun i _=>?_
 rw [ng]
theorem Fg {a:δ} (h:a.base.length=a.aZ.length):nS a 0=a.base:=by
 rw [nS,oJ,<-h,qQ]
theorem Jo {a:δ} (h:a.aY.length=a.aZ.length) (cM:Nat):nS a a.aZ.length=(a.begin cM).base:=by
 rw [nS,uZ];unfold δ.begin;dsimp only
 conv=>rhs;rw [<-qQ a.aY []]
 rw [XR,h];rfl
structure δ.Beg (N:Nat) (p:δ):Prop where
 n1:1<=p.aZ.length
 n4:p.aZ.length<=4
 rm:∀x ∈ p.aZ,1<=x/\x<=64
 w1:1<=p.cA
 w2:p.cA<=128
 t1:1<=p.aN
 t2:p.aN<=1000
 wl:p.aX.length=p.aZ.length
 bl:p.aY.length=p.aZ.length
 sl:p.base.length=p.aZ.length
 kl:p.cT.length<=128
 qy:∀l ∈ p.aX,l.length<=N
 rO:∀l ∈ p.aY,l.length<=N
abbrev g_ (p:Nat) (a:δ) (x:PV) (v10 v11 v12 v13:Value):List Th:=
 [dJ p (jH a x v10 v11 v12 v13),ζ dK 3 x.rv a.aZ,ζ (df ψ 40) 51 x.wv a.aX,ζ (df ψ 40) 51 x.bv a.aY,ζ dK 3 x.ig a.base,ζ jg 225 x.kv a.cT]
def PG (F Z:BS) (W:World) (ts:List Th) (p:Nat) (a:δ) (x:PV) (cM:Nat) (e:Ending) (w':World):Prop:=
 e=.returned (.tuple #[])/\∃(fu eO fq fw:Nat),dY F Z W ([dJ p (ky (a.begin cM) { x with fu:=fu,eO:=eO,fq:=fq,fw:=fw,kv:=.slice none 0 0 }),ζ dK 3 x.rv a.aZ,ζ (df ψ 40) 51 x.wv (a.begin cM).aX,ζ (df ψ 40) 51 x.bv a.aY,
  ζ dK 3 x.ig (a.begin cM).base,ζ jg 225 (.slice none 0 0) [],kY fu (a.begin cM).snd,rP eO 0,nL fq (a.begin cM).bu,nO fw (a.begin cM).π]++ts) w'
theorem bB {w:World} {p:Nat} {a:δ} {x:PV} {v10 v11 v12 v13:Value} (h:w.heap[p]? = some (jH a x v10 v11 v12 v13)) :
  w.cell? ⟨p,1,none⟩=some x.rv/\w.cell? ⟨p,2,none⟩=some (.int .i64 (a.cA:Int))/\w.cell? ⟨p,3,none⟩=some (.int .i64 (a.aN:Int))/\w.cell? ⟨p,7,none⟩=some x.wv/\w.cell? ⟨p,8,none⟩=some x.bv/\w.cell? ⟨p,9,none⟩=some (.int .i64 (a.cM:Int)) /\
  w.cell? ⟨p,10,none⟩=some v10/\w.cell? ⟨p,11,none⟩=some v11/\w.cell? ⟨p,12,none⟩=some v12/\w.cell? ⟨p,13,none⟩=some v13/\w.cell? ⟨p,14,none⟩=some x.ig/\w.cell? ⟨p,15,none⟩=some x.kv:=
 ⟨aJ h rfl,aJ h rfl,aJ h rfl,aJ h rfl,aJ h rfl,aJ h rfl,aJ h rfl,aJ h rfl,aJ h rfl,aJ h rfl,aJ h rfl,aJ h rfl⟩

end Go.Proofs.YtjnbanjjoomecaaGreatDoor
