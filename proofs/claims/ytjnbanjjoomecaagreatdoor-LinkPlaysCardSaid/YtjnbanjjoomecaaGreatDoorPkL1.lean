/- Lemmas; no condition on the program. -/
import Derived.Test.YtjnbanjjoomecaaGreatDoorPkP1
import Derived.Test.YtjnbanjjoomecaaGreatDoorPkI1
import Derived.Test.YtjnbanjjoomecaaGreatDoorPkA1
import Derived.WalkKit
import Derived.WalkSpells
import Derived.WalkLawsBesides
import Derived.Lib.Hide
import Derived.Laws.BytesArg
import Derived.Test.YtjnbanjjoomecaaGreatDoorPkC1
namespace Go.Proofs.YtjnbanjjoomecaaGreatDoor
open Go.RowKit
open _root_.Go.Proofs.Tryz renaming prog→Vs
open List renaming getElem?_eq_getElem→Vw
open Instr renaming index→XG
set_option maxRecDepth 100000
set_option maxHeartbeats 64000000
def aj.Quiet (x:aj):Prop:=x.prt.cS.state=2/\∀c,c < x.prt.aZ.length->x.prt.aY.getD c []=[]/\x.aE.getD c 0<=x.prt.aG.getD c 0
def Lk.Quiet (L:Lk):Prop:=L.l.Quiet/\L.r.Quiet

theorem tQ {a:δ} {k:Nat} (h:a.aY.getD k []=[]):a.jY (k:Int)=none:=by
 unfold δ.jY;split
 ·rw [Int.toNat_natCast,h];rfl
 ·rfl
theorem Ie (a b c d e f g a' b' c' d' e' f' g':Value) (w:World):(XG 98 (.agg #[a,b,c,d,e,f,g,a',b',c',d',e',f',g']) (.int .i64 0)).run Vs w=.ok (.agg #[a,b,c,d,e,f,g]) w:=rfl
theorem Ic (a b c d e f g a' b' c' d' e' f' g':Value) (w:World):(XG 98 (.agg #[a,b,c,d,e,f,g,a',b',c',d',e',f',g']) (.int .i64 1)).run Vs w=.ok (.agg #[a',b',c',d',e',f',g']) w:=rfl
section
variable {Z:BS} {W w:World} {ts:List Th} {p N:Nat} {L:Lk}
theorem OU (hF:L.Fit N) (hN:N<=1000000000) (h:dY (fun _=>False) Z W (bI p L::ts) w) :
  Calls Vs 16 #[.pointer (some ⟨p,0,none⟩)] w fun e w'=>∃b:Bool,(b=true↔L.Quiet)/\e=.returned (.bool b)/\dY (fun _=>False) Z W (bI p L::ts) w':=by
 obtain ⟨cs,v,u,e1,e2,e3,h0⟩:=h.link;obtain ⟨pp,sp,cp,ov,tv,nv⟩:=v;obtain ⟨pq,sq,cq,ow,tw,nw⟩:=u;obtain ⟨_,_,s6⟩:=h0.get 6 rfl;obtain ⟨_,_,s12⟩:=h0.get 12 rfl;obtain ⟨na,nc,rfl,n1,n2,_⟩:=Sq.le (show Sq dK 3 w _ _ nv L.l.aE from s6);obtain ⟨ma,mc,rfl,m1,m2,_⟩:=Sq.le (show Sq dK 3 w _ _ nw L.r.aE from s12);obtain ⟨c0,c1,c2,c3,c4,c5,c6⟩:=dL e1 (h0.blk 0 rfl);obtain ⟨d0,d1,d2,d3,d4,d5,d6⟩:=dR e2 (h0.blk 0 rfl);have Ut:=aQ (show L.l.prt.Ok N/\L.l.aE.length=L.l.prt.aZ.length from ⟨hF.l.ok,hF.l.sl⟩);have Us:=aQ (show L.r.prt.Ok N/\L.r.aE.length=L.r.prt.aZ.length from ⟨hF.r.ok,hF.r.sl⟩);have E1:=aQ e1;have E2:=aQ e2;have E3:=aQ e3;have H0:=aQ h0;obtain ⟨_,_,s4⟩:=h0.get 4 rfl;obtain ⟨_,_,s5⟩:=h0.get 5 rfl;obtain ⟨_,_,s10⟩:=h0.get 10 rfl;obtain ⟨_,_,s11⟩:=h0.get 11 rfl;obtain ⟨oa,oc,hov,_⟩:=Sq.le (show Sq (df ψ 40) 51 w _ _ ov L.l.aV from s4);obtain ⟨ta,tc,htv,_⟩:=Sq.le (show Sq (df ψ 40) 51 w _ _ tv L.l.cF from s5);obtain ⟨ob,od,how,_⟩:=Sq.le (show Sq (df ψ 40) 51 w _ _ ow L.r.aV from s10);obtain ⟨tb,td,htw,_⟩:=Sq.le (show Sq (df ψ 40) 51 w _ _ tw L.r.cF from s11);generalize L.l.aV.length=lo1 at hov;generalize L.l.cF.length=lo2 at htv;generalize L.r.aV.length=lo3 at how;generalize L.r.cF.length=Nc at htw;subst hov htv how htw;unfold maxLen at n2 m2;clear h h0 e1 e2 e3 hF s6 s12 s4 s5 s10 s11;go_enter Tryz.func16,Tryz.ntmps16;go_wp2_with fail;go_loopw [18] (fun i wr=>Hid (dY (fun _=>False) Z W (dJ p (bG cs)::(bY L.l ⟨pp,sp,cp,.slice oa lo1 oc,.slice ta lo2 tc,.slice na L.l.aE.length nc⟩++(bY L.r ⟨pq,sq,cq,.slice ob lo3 od,.slice tb Nc td,.slice ma L.r.aE.length mc⟩++ts))) wr)/\(i=.int .i64 0\/(i=.int .i64 1/\Hid L.l.Quiet)\/(i=.int .i64 2/\Hid L.l.Quiet/\Hid L.r.Quiet))) (fun i _=>2 - (intOf i).toNat)
 case atStart=>exact ⟨H0,.inl rfl⟩
 case round=>
  clear H0 c0 c1 c2 c3 c4 c5 c6 d0 d1 d2 d3 d4 d5 d6;obtain ⟨HK,rfl|⟨rfl,HQL⟩|⟨rfl,HQL,HQR⟩⟩:=hrel
  ·have hix:=Ie (.pointer (some ⟨pp,0,none⟩)) (.pointer (some ⟨sp,0,none⟩)) (.pointer (some ⟨cp,0,none⟩)) (.int .i64 (L.l.inc:Int)) (.slice oa lo1 oc) (.slice ta lo2 tc) (.slice na L.l.aE.length nc) (.pointer (some ⟨pq,0,none⟩)) (.pointer (some ⟨sq,0,none⟩)) (.pointer (some ⟨cq,0,none⟩)) (.int .i64 (L.r.inc:Int)) (.slice ob lo3 od) (.slice tb Nc td) (.slice ma L.r.aE.length mc) wr
   go_wp2_with fail;obtain ⟨w1,hw1⟩:∃w1,w1=wr.alloc (.cells #[.pointer (some ⟨pp,0,none⟩),.pointer (some ⟨sp,0,none⟩),.pointer (some ⟨cp,0,none⟩),.int .i64 (L.l.inc:Int),.slice oa lo1 oc,.slice ta lo2 tc,.slice na L.l.aE.length nc] 97):=⟨_,rfl⟩;have H1:=aQ (show dY (fun _=>False) Z W (dJ wr.heap.size (.cells #[.pointer (some ⟨pp,0,none⟩),.pointer (some ⟨sp,0,none⟩),.pointer (some ⟨cp,0,none⟩),.int .i64 (L.l.inc:Int),.slice oa lo1 oc,.slice ta lo2 tc,.slice na L.l.aE.length nc] 97)::dJ p (bG cs)::(bY L.l ⟨pp,sp,cp,.slice oa lo1 oc,.slice ta lo2 tc,.slice na L.l.aE.length nc⟩++(bY L.r ⟨pq,sq,cq,.slice ob lo3 od,.slice tb Nc td,.slice ma L.r.aE.length mc⟩++ts))) w1 by rw [hw1];exact (HK.out.new _).front);rw [<-hw1];obtain ⟨xb,hxb⟩:∃xb,xb=wr.heap.size:=⟨_,rfl⟩;rw [<-hxb] at H1 ⊢;clear hw1 hxb HK hix;refine (yX H1.out 2 rfl).mono ?_;rintro e w2 ⟨rfl,rfl⟩;by_cases hu:L.l.prt.cS.state=2
   ·rw [decide_eq_true hu]
    have HU:=aQ hu;have x6:=aJ (i:=6) (H1.out.blk 0 rfl) rfl;clear hu;go_wp2_with fail;go_loopw [28] (fun i wr=>∃k:Nat,k<=L.l.aE.length/\i=.int .i64 (k:Int)/\Hid (∀c,c < k->L.l.prt.aY.getD c []=[]/\L.l.aE.getD c 0<=L.l.prt.aG.getD c 0)/\Hid (dY (fun _=>False) Z W (dJ xb (.cells #[.pointer (some ⟨pp,0,none⟩),.pointer (some ⟨sp,0,none⟩),.pointer (some ⟨cp,0,none⟩),.int .i64 (L.l.inc:Int),.slice oa lo1 oc,.slice ta lo2 tc,.slice na L.l.aE.length nc] 97)::dJ p (bG cs)::(bY L.l ⟨pp,sp,cp,.slice oa lo1 oc,.slice ta lo2 tc,.slice na L.l.aE.length nc⟩++(bY L.r ⟨pq,sq,cq,.slice ob lo3 od,.slice tb Nc td,.slice ma L.r.aE.length mc⟩++ts))) wr)) (fun i _=>L.l.aE.length - (intOf i).toNat)
    case atStart=>exact ⟨0,by omega,by go_num,aQ (fun c hc=>by omega),H1⟩
    case round=>
     clear H1 x6;obtain ⟨k,hk,rfl,HA,HO⟩:=hrel;by_cases hlt:k < L.l.aE.length
     ·have x0:=aJ (i:=0) (HO.out.blk 0 rfl) rfl
      obtain ⟨_,_,hs⟩:=HO.out.get 7 rfl;obtain ⟨b,off,e,hc⟩:=kM (show Sq dK 3 wr _ _ (.slice na L.l.aE.length nc) L.l.aE from hs) (bT (d:=0) hlt);have hkr:k < L.l.prt.aZ.length:=by have:=Ut.out.2;omega
      have NF:=aQ hkr;subst e;have HX:=aQ (show L.l.aE.getD k 0=L.l.aE.getD k 0 from rfl);generalize hgx:L.l.aE.getD k 0=s at *;have Uw:=aQ hgx;clear hs hkr hgx HX;go_wp2_with fail;refine (nu HO.out 2 rfl Ut.out.1 hN k NF.out).mono ?_;rintro e w3 ⟨rfl,h3⟩;have H3:=aQ h3;clear h3 HO x0 hc;have x0:=aJ (i:=0) (H3.out.blk 0 rfl) rfl;generalize hga:L.l.prt.aG.getD k 0=q1 at *;generalize L.l.prt.aW.getD k 0=q2 at *;generalize L.l.prt.cF.getD k 0=q3 at *;have Ux:=aQ hga;clear hga;go_wp2_with fail
      cases hb:L.l.prt.aY.getD k [] with
      |nil=>
       refine (zu H3.out 2 rfl Ut.out.1 (k:Int) (tQ hb)).mono ?_;rintro e w4 ⟨rfl,rfl⟩;have HB:=aQ hb;clear hb;by_cases hq:s<=q1
       ·have hd:¬q1 < s:=by omega
        have HQ:=aQ hq;clear hq;go_wp2_with fail;go_roundw
        case rel=>exact ⟨k+1,by omega,by go_num,aQ (fun c hc=>by
         by_cases e:c=k
         ·subst e;rw [HB.out,Uw.out,Ux.out];exact ⟨rfl,HQ.out⟩
         ·exact HA.out c (by omega)),H3⟩
        case measure=>simp [intOf];omega
       ·have hd:q1 < s:=by omega
        have HQ:=aQ hq;clear hq;go_wp2_with fail;go_ret;exact ⟨false,⟨fun e=>(by cases e),fun q=>absurd (q.1.2 k NF.out).2 (by rw [Uw.out,Ux.out];exact HQ.out)⟩,rfl,H3.out.tail.bE E1.out E2.out E3.out⟩
      |cons d l=>
       refine (vH H3.out 2 rfl Ut.out.1 hN k NF.out d l hb).mono ?_;rintro e w4 ⟨dv,rfl,h4⟩;have H4:=aQ h4.front.tail;have HB:=aQ hb;clear hb h4;go_wp2_with fail;go_ret;exact ⟨false,⟨fun e=>(by cases e),fun q=>absurd (q.1.2 k NF.out).1 (by rw [HB.out];simp)⟩,rfl,H4.out.tail.bE E1.out E2.out E3.out⟩
     ·obtain rfl:k=L.l.aE.length:=by omega
      go_wp2_with fail;go_roundw
      case rel=>exact ⟨aQ HO.out.tail,.inr (.inl ⟨by go_num,aQ ⟨HU.out,fun c hc=>HA.out c (by have:=Ut.out.2;omega)⟩⟩)⟩
      case measure=>simp [intOf]
   ·rw [decide_eq_false hu]
    have HU:=aQ hu;clear hu;go_wp2_with fail;go_ret;exact ⟨false,⟨fun e=>(by cases e),fun q=>absurd q.1.1 HU.out⟩,rfl,H1.out.tail.bE E1.out E2.out E3.out⟩
  ·have hix:=Ic (.pointer (some ⟨pp,0,none⟩)) (.pointer (some ⟨sp,0,none⟩)) (.pointer (some ⟨cp,0,none⟩)) (.int .i64 (L.l.inc:Int)) (.slice oa lo1 oc) (.slice ta lo2 tc) (.slice na L.l.aE.length nc) (.pointer (some ⟨pq,0,none⟩)) (.pointer (some ⟨sq,0,none⟩)) (.pointer (some ⟨cq,0,none⟩)) (.int .i64 (L.r.inc:Int)) (.slice ob lo3 od) (.slice tb Nc td) (.slice ma L.r.aE.length mc) wr
   go_wp2_with fail;obtain ⟨w1,hw1⟩:∃w1,w1=wr.alloc (.cells #[.pointer (some ⟨pq,0,none⟩),.pointer (some ⟨sq,0,none⟩),.pointer (some ⟨cq,0,none⟩),.int .i64 (L.r.inc:Int),.slice ob lo3 od,.slice tb Nc td,.slice ma L.r.aE.length mc] 97):=⟨_,rfl⟩;have H1:=aQ (show dY (fun _=>False) Z W (dJ wr.heap.size (.cells #[.pointer (some ⟨pq,0,none⟩),.pointer (some ⟨sq,0,none⟩),.pointer (some ⟨cq,0,none⟩),.int .i64 (L.r.inc:Int),.slice ob lo3 od,.slice tb Nc td,.slice ma L.r.aE.length mc] 97)::dJ p (bG cs)::(bY L.l ⟨pp,sp,cp,.slice oa lo1 oc,.slice ta lo2 tc,.slice na L.l.aE.length nc⟩++(bY L.r ⟨pq,sq,cq,.slice ob lo3 od,.slice tb Nc td,.slice ma L.r.aE.length mc⟩++ts))) w1 by rw [hw1];exact (HK.out.new _).front);rw [<-hw1];obtain ⟨xb,hxb⟩:∃xb,xb=wr.heap.size:=⟨_,rfl⟩;rw [<-hxb] at H1 ⊢;clear hw1 hxb HK hix;refine (yX H1.out 8 rfl).mono ?_;rintro e w2 ⟨rfl,rfl⟩;by_cases hu:L.r.prt.cS.state=2
   ·rw [decide_eq_true hu]
    have HU:=aQ hu;have x6:=aJ (i:=6) (H1.out.blk 0 rfl) rfl;clear hu;go_wp2_with fail;go_loopw [28] (fun i wr=>∃k:Nat,k<=L.r.aE.length/\i=.int .i64 (k:Int)/\Hid (∀c,c < k->L.r.prt.aY.getD c []=[]/\L.r.aE.getD c 0<=L.r.prt.aG.getD c 0)/\Hid (dY (fun _=>False) Z W (dJ xb (.cells #[.pointer (some ⟨pq,0,none⟩),.pointer (some ⟨sq,0,none⟩),.pointer (some ⟨cq,0,none⟩),.int .i64 (L.r.inc:Int),.slice ob lo3 od,.slice tb Nc td,.slice ma L.r.aE.length mc] 97)::dJ p (bG cs)::(bY L.l ⟨pp,sp,cp,.slice oa lo1 oc,.slice ta lo2 tc,.slice na L.l.aE.length nc⟩++(bY L.r ⟨pq,sq,cq,.slice ob lo3 od,.slice tb Nc td,.slice ma L.r.aE.length mc⟩++ts))) wr)) (fun i _=>L.r.aE.length - (intOf i).toNat)
    case atStart=>exact ⟨0,by omega,by go_num,aQ (fun c hc=>by omega),H1⟩
    case round=>
     clear H1 x6;obtain ⟨k,hk,rfl,HA,HO⟩:=hrel;by_cases hlt:k < L.r.aE.length
     ·have x0:=aJ (i:=0) (HO.out.blk 0 rfl) rfl
      obtain ⟨_,_,hs⟩:=HO.out.get 13 rfl;obtain ⟨b,off,e,hc⟩:=kM (show Sq dK 3 wr _ _ (.slice ma L.r.aE.length mc) L.r.aE from hs) (bT (d:=0) hlt);have hkr:k < L.r.prt.aZ.length:=by have:=Us.out.2;omega
      have NF:=aQ hkr;subst e;have HX:=aQ (show L.r.aE.getD k 0=L.r.aE.getD k 0 from rfl);generalize hgx:L.r.aE.getD k 0=s at *;have Uw:=aQ hgx;clear hs hkr hgx HX;go_wp2_with fail;refine (nu HO.out 8 rfl Us.out.1 hN k NF.out).mono ?_;rintro e w3 ⟨rfl,h3⟩;have H3:=aQ h3;clear h3 HO x0 hc;have x0:=aJ (i:=0) (H3.out.blk 0 rfl) rfl;generalize hga:L.r.prt.aG.getD k 0=q1 at *;generalize L.r.prt.aW.getD k 0=q2 at *;generalize L.r.prt.cF.getD k 0=q3 at *;have Ux:=aQ hga;clear hga;go_wp2_with fail
      cases hb:L.r.prt.aY.getD k [] with
      |nil=>
       refine (zu H3.out 8 rfl Us.out.1 (k:Int) (tQ hb)).mono ?_;rintro e w4 ⟨rfl,rfl⟩;have HB:=aQ hb;clear hb;by_cases hq:s<=q1
       ·have hd:¬q1 < s:=by omega
        have HQ:=aQ hq;clear hq;go_wp2_with fail;go_roundw
        case rel=>exact ⟨k+1,by omega,by go_num,aQ (fun c hc=>by
         by_cases e:c=k
         ·subst e;rw [HB.out,Uw.out,Ux.out];exact ⟨rfl,HQ.out⟩
         ·exact HA.out c (by omega)),H3⟩
        case measure=>simp [intOf];omega
       ·have hd:q1 < s:=by omega
        have HQ:=aQ hq;clear hq;go_wp2_with fail;go_ret;exact ⟨false,⟨fun e=>(by cases e),fun q=>absurd (q.2.2 k NF.out).2 (by rw [Uw.out,Ux.out];exact HQ.out)⟩,rfl,H3.out.tail.bE E1.out E2.out E3.out⟩
      |cons d l=>
       refine (vH H3.out 8 rfl Us.out.1 hN k NF.out d l hb).mono ?_;rintro e w4 ⟨dv,rfl,h4⟩;have H4:=aQ h4.front.tail;have HB:=aQ hb;clear hb h4;go_wp2_with fail;go_ret;exact ⟨false,⟨fun e=>(by cases e),fun q=>absurd (q.2.2 k NF.out).1 (by rw [HB.out];simp)⟩,rfl,H4.out.tail.bE E1.out E2.out E3.out⟩
     ·obtain rfl:k=L.r.aE.length:=by omega
      go_wp2_with fail;go_roundw
      case rel=>exact ⟨aQ HO.out.tail,.inr (.inr ⟨by go_num,HQL,aQ ⟨HU.out,fun c hc=>HA.out c (by have:=Us.out.2;omega)⟩⟩)⟩
      case measure=>simp [intOf]
   ·rw [decide_eq_false hu]
    have HU:=aQ hu;clear hu;go_wp2_with fail;go_ret;exact ⟨false,⟨fun e=>(by cases e),fun q=>absurd q.2.1 HU.out⟩,rfl,H1.out.tail.bE E1.out E2.out E3.out⟩
  ·go_wp2_with fail
   go_ret;exact ⟨true,⟨fun _=>⟨HQL.out,HQR.out⟩,fun _=>rfl⟩,rfl,HK.out.bE E1.out E2.out E3.out⟩
end

section
variable {Z:BS} {W w:World} {ts:List Th} {p N:Nat} {L:Lk}
structure SQ (Z:BS) (W:World) (ts:List Th) (p:Nat) (L:Lk) (n:Nat) (pp:Nat) (w:World):Prop where
 port:Calls Vs 12 #[.pointer (some ⟨p,0,none⟩),.int .i64 (n:Int)] w fun e w'=>e=.returned (.pointer (some ⟨pp,0,none⟩))/\w=w'
 counts:∀c:Nat,c < (L.nd n).prt.aZ.length->Calls Vs 15 #[.pointer (some ⟨pp,0,none⟩),.int .i64 (c:Int)] w fun e w'=>e=.returned (.tuple #[.int .i64 (((L.nd n).prt.aG.getD c 0:Nat):Int),.int .i64 (((L.nd n).prt.aW.getD c 0:Nat):Int),.int .i64 (((L.nd n).prt.cF.getD c 0:Nat):Int)])/\dY (fun _=>False) Z W (bI p L::ts) w'
 up:Calls Vs 14 #[.pointer (some ⟨pp,0,none⟩)] w fun e w'=>e=.returned (.bool (decide ((L.nd n).prt.cS.state=2)))/\w=w'
 over:Calls Vs 13 #[.pointer (some ⟨pp,0,none⟩)] w fun e w'=>e=.returned (.int .i64 ((L.nd n).prt.bL:Int))/\w=w'
theorem F4 (hF:L.Fit N) (hN:N<=1000000000) (h:dY (fun _=>False) Z W (bI p L::ts) w) {n:Nat} (hn:n < 2):∃pp,SQ Z W ts p L n pp w:=by
 obtain ⟨cs,v,u,e1,e2,e3,h4⟩:=h.link;have okl:L.l.prt.Ok N:=by have i:=hF.l;exact i.ok
 have okr:L.r.prt.Ok N:=by have i:=hF.r;exact i.ok
 obtain rfl|rfl:n=0\/n=1:=by omega
 ·exact ⟨v.pp,KX e1 e2 h4 0 (.inl rfl),fun c hc=>(nu h4 1 rfl okl hN c hc).mono fun e w' ⟨he,hh⟩=>⟨he,hh.bE e1 e2 e3⟩,yX h4 1 rfl,pU h4 1 rfl⟩
 ·exact ⟨u.pp,KX e1 e2 h4 1 (.inr rfl),fun c hc=>(nu h4 7 rfl okr hN c hc).mono fun e w' ⟨he,hh⟩=>⟨he,hh.bE e1 e2 e3⟩,yX h4 7 rfl,pU h4 7 rfl⟩
end

def UG (bs:List (BitVec 8)):ByteArray:=strOfNums (bs.map fun x=>U x)
theorem oC {w:World} {a:Option Addr} {n c:Nat} {bs:List (BitVec 8)} (h:By w (.slice a n c) bs):(convert 40 9 (.slice a n c)).run Vs w=.ok (.string (UG bs)) w:=by
 obtain ⟨_,⟨rfl,a',c',e,h1,h2⟩|⟨b,off,c',e,h0,h1,h2,h3⟩⟩:=h.cases
 ·obtain ⟨rfl,rfl,rfl⟩:a=a'/\n=0/\c=c':=by simpa using e
  cases a with
  |none=>exact run_convert_bytes_nil w _ _ Tryz.underlying40 Tryz.underlying5 _ _ _ Tryz.underlying9
  |some a=>
   rw [run_convert_bytes_string w _ _ _ _ _ _ Tryz.underlying40 Tryz.underlying5 Tryz.underlying9]
   have hl:(loadCells a 0).run Vs w=.ok (([]:List Int).map (Value.int .u8)).toArray w:=by
    simpa using run_loadCells_list (P:=Vs) w a [] (fun j v hj=>by simp at hj)
   rw [run_bytesToString w a 0 c [] hl];rfl
 ·obtain ⟨rfl,rfl,rfl⟩:a=some ⟨b,off,none⟩/\n=bs.length/\c=c':=by simpa using e
  refine run_convert_bytes_arg w _ _ Tryz.underlying40 Tryz.underlying5 b off _ _ (bs.map fun x=>U x) (by simp) (fun i hi=>?_) _ Tryz.underlying9;rw [h3 i hi];simp [List.getD,List.getElem?_map,Vw hi]
theorem uw {u v:Value} {bs:List (BitVec 8)} {w:World} (hu:By w u bs) (hv:By w v bs) :
  Calls Vs 20 #[u,v] w fun e w'=>e=.returned (.bool true)/\w=w':=by
 obtain ⟨a,ca,rfl⟩:∃a cap,u=.slice a bs.length cap:=by obtain ⟨_,a,cap,e,_⟩:=hu;exact ⟨a,cap,e⟩
 obtain ⟨b,cb,rfl⟩:∃a cap,v=.slice a bs.length cap:=by obtain ⟨_,a,cap,e,_⟩:=hv;exact ⟨a,cap,e⟩
 have h1:=oC hu;have h2:=oC hv;generalize UG bs=s at h1 h2;have h3:(s.toList == s.toList)=true:=by simp
 clear hu hv;go_enter Tryz.func20,Tryz.ntmps20;go_wp2_with fail;go_ret;exact ⟨by simp,rfl⟩

def NM (w:World) (v:Value) (xs:List iw):Prop:=∃a c,v=.slice a xs.length c/\xs.length<=c/\c<=maxLen/\∀(k:Nat) (d:iw),xs[k]? = some d->∃b o dv,a=some ⟨b,o,none⟩/\w.cell? ⟨b,o+k,none⟩=some dv/\By w dv d
section
variable {w:World}
theorem BZ (u v:Value) (xs:List iw) (hu:NM w u xs) (hv:NM w v xs) :
  Calls Vs 18 #[u,v,.func (.func 20) #[] #[]] w fun r w'=>r=.returned (.bool true)/\w=w':=by
 obtain ⟨a,ca,rfl,ha1,ha2,HA⟩:=hu;obtain ⟨b,cb,rfl,hb1,hb2,HB⟩:=hv;have HA:=aQ HA;have HB:=aQ HB;unfold maxLen at ha2;go_enter Tryz.func18,Tryz.ntmps18;go_wp2_with fail
 go_loop [17] (fun i=>∃k:Nat,k<=xs.length/\i=.int .i64 (k:Int)) (fun i=>xs.length - (intOf i).toNat)
 case atStart=>exact ⟨0,by omega,by go_num⟩
 case round=>
  obtain ⟨k,hk,rfl⟩:=hrel;by_cases hlt:k < xs.length
  ·obtain ⟨d,hd⟩:∃d,xs[k]? = some d:=⟨xs[k],Vw hlt⟩
   obtain ⟨b1,o1,d1,rfl,k1,y1⟩:=HA.out k d hd;obtain ⟨b2,o2,d2,rfl,k2,y2⟩:=HB.out k d hd;have HC:=aQ (uw y1 y2);clear hd y1 y2;go_wp2_with fail;refine HC.out.mono ?_;rintro r w1 ⟨rfl,rfl⟩;go_wp2_with fail
   go_round
   case rel=>exact ⟨k+1,by omega,by go_num⟩
   case measure=>simp [intOf];omega
  ·obtain rfl:xs.length=k:=by omega
   go_wp2_with fail;go_ret;exact ⟨rfl,rfl⟩
end

end Go.Proofs.YtjnbanjjoomecaaGreatDoor
