/- Lemmas of this proof (texts LsI LsK LsJ LsM LsO LsN BEq LsG LsL LsP LsR LsQ). -/
import Derived.Test.YtcbnhebiagdbiaaGreatDoorPkI1
import Derived.Test.YtcbnhebiagdbiaaGreatDoorPkL1
import Derived.Lib.AppendZeros
import Derived.Lib.MinMax
import Derived.Test.YtcbnhebiagdbiaaGreatDoorPkA1
import Derived.WalkKit
import Derived.WalkSpells
import Derived.WalkLawsBesides
import Derived.Lib.Hide
import Derived.Laws.BytesArg
import Derived.Test.YtcbnhebiagdbiaaGreatDoorPkC1
namespace Go.Proofs.YtcbnhebiagdbiaaGreatDoor
set_option maxHeartbeats 64000000
set_option maxRecDepth 100000
section
open Go.RowKit
theorem peek_at_nil {a:Prt} {k:Nat} (h:a.aY.getD k []=[]):a.peek (k:Int)=none:=by
 unfold Prt.peek
 split
 ·rw [Int.toNat_natCast,h];rfl
 ·rfl
theorem run_idxE0 (a b c d e f g a' b' c' d' e' f' g':Value) (w:World):(Instr.index 114 (.agg #[a,b,c,d,e,f,g,a',b',c',d',e',f',g']) (.int .i64 0)).run Tryz.prog w=.ok (.agg #[a,b,c,d,e,f,g]) w:=rfl
theorem run_idxE1 (a b c d e f g a' b' c' d' e' f' g':Value) (w:World):(Instr.index 114 (.agg #[a,b,c,d,e,f,g,a',b',c',d',e',f',g']) (.int .i64 1)).run Tryz.prog w=.ok (.agg #[a',b',c',d',e',f',g']) w:=rfl
section
variable {Z:BS} {W w:World} {ts:List Th} {p N:Nat} {L:Lk} {Zp:Prop}
theorem quiet_c (hF:L.Full N Zp) (hN:N<=1000000000) (h:dY (fun _=>False) Z W (bI p L::ts) w) :
  Calls Tryz.prog 19 #[.pointer (some ⟨p,0,none⟩)] w fun e w'=>∃b:Bool,(b=true↔L.Quiet)/\e=.returned (.bool b)/\dY (fun _=>False) Z W (bI p L::ts) w':=by
 obtain ⟨cs,v,u,e1,e2,e3,h0⟩:=h.link
 obtain ⟨pp,sp,cp,ov,tv,nv⟩:=v
 obtain ⟨pq,sq,cq,ow,tw,nw⟩:=u
 obtain ⟨_,_,s6⟩:=h0.get 6 rfl
 obtain ⟨_,_,s12⟩:=h0.get 12 rfl
 obtain ⟨na,nc,rfl,n1,n2,_⟩:=Sq.le (show Sq dK 3 w _ _ nv L.l.aE from s6)
 obtain ⟨ma,mc,rfl,m1,m2,_⟩:=Sq.le (show Sq dK 3 w _ _ nw L.r.aE from s12)
 obtain ⟨c0,c1,c2,c3,c4,c5,c6⟩:=dL e1 (h0.blk 0 rfl)
 obtain ⟨d0,d1,d2,d3,d4,d5,d6⟩:=dR e2 (h0.blk 0 rfl)
 have HOL:=aQ (show L.l.prt.Ok N/\L.l.aE.length=L.l.prt.aZ.length by obtain ⟨wl,wr,oa,ga,pa,ob,gb,pb,da,db,i,_⟩:=hF;exact ⟨i.l.ok,i.l.sl⟩)
 have HOR:=aQ (show L.r.prt.Ok N/\L.r.aE.length=L.r.prt.aZ.length by obtain ⟨wl,wr,oa,ga,pa,ob,gb,pb,da,db,i,_⟩:=hF;exact ⟨i.r.ok,i.r.sl⟩)
 have E1:=aQ e1
 have E2:=aQ e2
 have E3:=aQ e3
 have H0:=aQ h0
 obtain ⟨_,_,s4⟩:=h0.get 4 rfl
 obtain ⟨_,_,s5⟩:=h0.get 5 rfl
 obtain ⟨_,_,s10⟩:=h0.get 10 rfl
 obtain ⟨_,_,s11⟩:=h0.get 11 rfl
 obtain ⟨oa,oc,hov,_⟩:=Sq.le (show Sq (eSq eBy 42) 40 w _ _ ov L.l.aV from s4)
 obtain ⟨ta,tc,htv,_⟩:=Sq.le (show Sq (eSq eBy 42) 40 w _ _ tv L.l.cF from s5)
 obtain ⟨ob,od,how,_⟩:=Sq.le (show Sq (eSq eBy 42) 40 w _ _ ow L.r.aV from s10)
 obtain ⟨tb,td,htw,_⟩:=Sq.le (show Sq (eSq eBy 42) 40 w _ _ tw L.r.cF from s11)
 generalize L.l.aV.length=lo1 at hov
 generalize L.l.cF.length=lo2 at htv
 generalize L.r.aV.length=lo3 at how
 generalize L.r.cF.length=lo4 at htw
 subst hov htv how htw
 unfold maxLen at n2 m2
 clear h h0 e1 e2 e3 hF s6 s12 s4 s5 s10 s11
 go_enter Tryz.func19,Tryz.ntmps19
 go_wp2_with fail
 go_loopw [18] (fun i wr=>Hid (dY (fun _=>False) Z W (dJ p (bG cs)::(bY L.l ⟨pp,sp,cp,.slice oa lo1 oc,.slice ta lo2 tc,.slice na L.l.aE.length nc⟩++(bY L.r ⟨pq,sq,cq,.slice ob lo3 od,.slice tb lo4 td,.slice ma L.r.aE.length mc⟩++ts))) wr)/\(i=.int .i64 0\/(i=.int .i64 1/\Hid L.l.Quiet)\/(i=.int .i64 2/\Hid L.l.Quiet/\Hid L.r.Quiet))) (fun i _=>2 - (intOf i).toNat)
 case atStart=>exact ⟨H0,.inl rfl⟩
 case round=>
  clear H0 c0 c1 c2 c3 c4 c5 c6 d0 d1 d2 d3 d4 d5 d6
  obtain ⟨HK,rfl|⟨rfl,HQL⟩|⟨rfl,HQL,HQR⟩⟩:=hrel
  ·have hix:=run_idxE0 (.pointer (some ⟨pp,0,none⟩)) (.pointer (some ⟨sp,0,none⟩)) (.pointer (some ⟨cp,0,none⟩)) (.int .i64 (L.l.inc:Int)) (.slice oa lo1 oc) (.slice ta lo2 tc) (.slice na L.l.aE.length nc) (.pointer (some ⟨pq,0,none⟩)) (.pointer (some ⟨sq,0,none⟩)) (.pointer (some ⟨cq,0,none⟩)) (.int .i64 (L.r.inc:Int)) (.slice ob lo3 od) (.slice tb lo4 td) (.slice ma L.r.aE.length mc) wr
   go_wp2_with fail
   obtain ⟨w1,hw1⟩:∃w1,w1=wr.alloc (.cells #[.pointer (some ⟨pp,0,none⟩),.pointer (some ⟨sp,0,none⟩),.pointer (some ⟨cp,0,none⟩),.int .i64 (L.l.inc:Int),.slice oa lo1 oc,.slice ta lo2 tc,.slice na L.l.aE.length nc] 113):=⟨_,rfl⟩
   have H1:=aQ (show dY (fun _=>False) Z W (dJ wr.heap.size (.cells #[.pointer (some ⟨pp,0,none⟩),.pointer (some ⟨sp,0,none⟩),.pointer (some ⟨cp,0,none⟩),.int .i64 (L.l.inc:Int),.slice oa lo1 oc,.slice ta lo2 tc,.slice na L.l.aE.length nc] 113)::dJ p (bG cs)::(bY L.l ⟨pp,sp,cp,.slice oa lo1 oc,.slice ta lo2 tc,.slice na L.l.aE.length nc⟩++(bY L.r ⟨pq,sq,cq,.slice ob lo3 od,.slice tb lo4 td,.slice ma L.r.aE.length mc⟩++ts))) w1 by rw [hw1];exact (HK.out.new _).front)
   rw [<-hw1]
   obtain ⟨xb,hxb⟩:∃xb,xb=wr.heap.size:=⟨_,rfl⟩
   rw [<-hxb] at H1 ⊢
   clear hw1 hxb HK hix
   refine (up_any H1.out 2 rfl).mono ?_
   rintro e w2 ⟨rfl,rfl⟩
   by_cases hu:L.l.prt.cS.state=2
   ·rw [decide_eq_true hu]
    have HU:=aQ hu
    have x6:=aJ (i:=6) (H1.out.blk 0 rfl) rfl
    clear hu
    go_wp2_with fail
    go_loopw [28] (fun i wr=>∃k:Nat,k<=L.l.aE.length/\i=.int .i64 (k:Int)/\Hid (∀c,c < k->L.l.prt.aY.getD c []=[]/\L.l.aE.getD c 0<=L.l.prt.aG.getD c 0)/\Hid (dY (fun _=>False) Z W (dJ xb (.cells #[.pointer (some ⟨pp,0,none⟩),.pointer (some ⟨sp,0,none⟩),.pointer (some ⟨cp,0,none⟩),.int .i64 (L.l.inc:Int),.slice oa lo1 oc,.slice ta lo2 tc,.slice na L.l.aE.length nc] 113)::dJ p (bG cs)::(bY L.l ⟨pp,sp,cp,.slice oa lo1 oc,.slice ta lo2 tc,.slice na L.l.aE.length nc⟩++(bY L.r ⟨pq,sq,cq,.slice ob lo3 od,.slice tb lo4 td,.slice ma L.r.aE.length mc⟩++ts))) wr)) (fun i _=>L.l.aE.length - (intOf i).toNat)
    case atStart=>exact ⟨0,by omega,by go_num,aQ (fun c hc=>by omega),H1⟩
    case round=>
     clear H1 x6
     obtain ⟨k,hk,rfl,HA,HO⟩:=hrel
     by_cases hlt:k < L.l.aE.length
     ·have x0:=aJ (i:=0) (HO.out.blk 0 rfl) rfl
      obtain ⟨_,_,hs⟩:=HO.out.get 7 rfl
      obtain ⟨b,off,e,hc⟩:=nat_at (show Sq dK 3 wr _ _ (.slice na L.l.aE.length nc) L.l.aE from hs) (bT (d:=0) hlt)
      have hkr:k < L.l.prt.aZ.length:=by have:=HOL.out.2;omega
      have HKR:=aQ hkr
      subst e
      have HX:=aQ (show L.l.aE.getD k 0=L.l.aE.getD k 0 from rfl)
      generalize hgx:L.l.aE.getD k 0=s at *
      have HGX:=aQ hgx
      clear hs hkr hgx HX
      go_wp2_with fail
      refine (counts_any HO.out 2 rfl HOL.out.1 hN k HKR.out).mono ?_
      rintro e w3 ⟨rfl,h3⟩
      have H3:=aQ h3
      clear h3 HO x0 hc
      have x0:=aJ (i:=0) (H3.out.blk 0 rfl) rfl
      generalize hga:L.l.prt.aG.getD k 0=q1 at *
      generalize L.l.prt.aW.getD k 0=q2 at *
      generalize L.l.prt.cF.getD k 0=q3 at *
      have HGA:=aQ hga
      clear hga
      go_wp2_with fail
      cases hb:L.l.prt.aY.getD k [] with
      |nil=>
       refine (peek_no H3.out 2 rfl HOL.out.1 (k:Int) (peek_at_nil hb)).mono ?_
       rintro e w4 ⟨rfl,rfl⟩
       have HB:=aQ hb
       clear hb
       by_cases hq:s<=q1
       ·have hd:¬q1 < s:=by omega
        have HQ:=aQ hq
        clear hq
        go_wp2_with fail
        go_roundw
        case rel=>exact ⟨k+1,by omega,by go_num,aQ (fun c hc=>by
         by_cases e:c=k
         ·subst e;rw [HB.out,HGX.out,HGA.out];exact ⟨rfl,HQ.out⟩
         ·exact HA.out c (by omega)),H3⟩
        case measure=>simp [intOf];omega
       ·have hd:q1 < s:=by omega
        have HQ:=aQ hq
        clear hq
        go_wp2_with fail
        go_ret
        exact ⟨false,⟨fun e=>(by cases e),fun q=>absurd (q.1.2 k HKR.out).2 (by rw [HGX.out,HGA.out];exact HQ.out)⟩,rfl,H3.out.tail.bE E1.out E2.out E3.out⟩
      |cons d l=>
       refine (peek_yes H3.out 2 rfl HOL.out.1 hN k HKR.out d l hb).mono ?_
       rintro e w4 ⟨dv,rfl,h4⟩
       have H4:=aQ h4.front.tail
       have HB:=aQ hb
       clear hb h4
       go_wp2_with fail
       go_ret
       exact ⟨false,⟨fun e=>(by cases e),fun q=>absurd (q.1.2 k HKR.out).1 (by rw [HB.out];simp)⟩,rfl,H4.out.tail.bE E1.out E2.out E3.out⟩
     ·obtain rfl:k=L.l.aE.length:=by omega
      go_wp2_with fail
      go_roundw
      case rel=>exact ⟨aQ HO.out.tail,.inr (.inl ⟨by go_num,aQ ⟨HU.out,fun c hc=>HA.out c (by have:=HOL.out.2;omega)⟩⟩)⟩
      case measure=>simp [intOf]
   ·rw [decide_eq_false hu]
    have HU:=aQ hu
    clear hu
    go_wp2_with fail
    go_ret
    exact ⟨false,⟨fun e=>(by cases e),fun q=>absurd q.1.1 HU.out⟩,rfl,H1.out.tail.bE E1.out E2.out E3.out⟩
  ·have hix:=run_idxE1 (.pointer (some ⟨pp,0,none⟩)) (.pointer (some ⟨sp,0,none⟩)) (.pointer (some ⟨cp,0,none⟩)) (.int .i64 (L.l.inc:Int)) (.slice oa lo1 oc) (.slice ta lo2 tc) (.slice na L.l.aE.length nc) (.pointer (some ⟨pq,0,none⟩)) (.pointer (some ⟨sq,0,none⟩)) (.pointer (some ⟨cq,0,none⟩)) (.int .i64 (L.r.inc:Int)) (.slice ob lo3 od) (.slice tb lo4 td) (.slice ma L.r.aE.length mc) wr
   go_wp2_with fail
   obtain ⟨w1,hw1⟩:∃w1,w1=wr.alloc (.cells #[.pointer (some ⟨pq,0,none⟩),.pointer (some ⟨sq,0,none⟩),.pointer (some ⟨cq,0,none⟩),.int .i64 (L.r.inc:Int),.slice ob lo3 od,.slice tb lo4 td,.slice ma L.r.aE.length mc] 113):=⟨_,rfl⟩
   have H1:=aQ (show dY (fun _=>False) Z W (dJ wr.heap.size (.cells #[.pointer (some ⟨pq,0,none⟩),.pointer (some ⟨sq,0,none⟩),.pointer (some ⟨cq,0,none⟩),.int .i64 (L.r.inc:Int),.slice ob lo3 od,.slice tb lo4 td,.slice ma L.r.aE.length mc] 113)::dJ p (bG cs)::(bY L.l ⟨pp,sp,cp,.slice oa lo1 oc,.slice ta lo2 tc,.slice na L.l.aE.length nc⟩++(bY L.r ⟨pq,sq,cq,.slice ob lo3 od,.slice tb lo4 td,.slice ma L.r.aE.length mc⟩++ts))) w1 by rw [hw1];exact (HK.out.new _).front)
   rw [<-hw1]
   obtain ⟨xb,hxb⟩:∃xb,xb=wr.heap.size:=⟨_,rfl⟩
   rw [<-hxb] at H1 ⊢
   clear hw1 hxb HK hix
   refine (up_any H1.out 8 rfl).mono ?_
   rintro e w2 ⟨rfl,rfl⟩
   by_cases hu:L.r.prt.cS.state=2
   ·rw [decide_eq_true hu]
    have HU:=aQ hu
    have x6:=aJ (i:=6) (H1.out.blk 0 rfl) rfl
    clear hu
    go_wp2_with fail
    go_loopw [28] (fun i wr=>∃k:Nat,k<=L.r.aE.length/\i=.int .i64 (k:Int)/\Hid (∀c,c < k->L.r.prt.aY.getD c []=[]/\L.r.aE.getD c 0<=L.r.prt.aG.getD c 0)/\Hid (dY (fun _=>False) Z W (dJ xb (.cells #[.pointer (some ⟨pq,0,none⟩),.pointer (some ⟨sq,0,none⟩),.pointer (some ⟨cq,0,none⟩),.int .i64 (L.r.inc:Int),.slice ob lo3 od,.slice tb lo4 td,.slice ma L.r.aE.length mc] 113)::dJ p (bG cs)::(bY L.l ⟨pp,sp,cp,.slice oa lo1 oc,.slice ta lo2 tc,.slice na L.l.aE.length nc⟩++(bY L.r ⟨pq,sq,cq,.slice ob lo3 od,.slice tb lo4 td,.slice ma L.r.aE.length mc⟩++ts))) wr)) (fun i _=>L.r.aE.length - (intOf i).toNat)
    case atStart=>exact ⟨0,by omega,by go_num,aQ (fun c hc=>by omega),H1⟩
    case round=>
     clear H1 x6
     obtain ⟨k,hk,rfl,HA,HO⟩:=hrel
     by_cases hlt:k < L.r.aE.length
     ·have x0:=aJ (i:=0) (HO.out.blk 0 rfl) rfl
      obtain ⟨_,_,hs⟩:=HO.out.get 13 rfl
      obtain ⟨b,off,e,hc⟩:=nat_at (show Sq dK 3 wr _ _ (.slice ma L.r.aE.length mc) L.r.aE from hs) (bT (d:=0) hlt)
      have hkr:k < L.r.prt.aZ.length:=by have:=HOR.out.2;omega
      have HKR:=aQ hkr
      subst e
      have HX:=aQ (show L.r.aE.getD k 0=L.r.aE.getD k 0 from rfl)
      generalize hgx:L.r.aE.getD k 0=s at *
      have HGX:=aQ hgx
      clear hs hkr hgx HX
      go_wp2_with fail
      refine (counts_any HO.out 8 rfl HOR.out.1 hN k HKR.out).mono ?_
      rintro e w3 ⟨rfl,h3⟩
      have H3:=aQ h3
      clear h3 HO x0 hc
      have x0:=aJ (i:=0) (H3.out.blk 0 rfl) rfl
      generalize hga:L.r.prt.aG.getD k 0=q1 at *
      generalize L.r.prt.aW.getD k 0=q2 at *
      generalize L.r.prt.cF.getD k 0=q3 at *
      have HGA:=aQ hga
      clear hga
      go_wp2_with fail
      cases hb:L.r.prt.aY.getD k [] with
      |nil=>
       refine (peek_no H3.out 8 rfl HOR.out.1 (k:Int) (peek_at_nil hb)).mono ?_
       rintro e w4 ⟨rfl,rfl⟩
       have HB:=aQ hb
       clear hb
       by_cases hq:s<=q1
       ·have hd:¬q1 < s:=by omega
        have HQ:=aQ hq
        clear hq
        go_wp2_with fail
        go_roundw
        case rel=>exact ⟨k+1,by omega,by go_num,aQ (fun c hc=>by
         by_cases e:c=k
         ·subst e;rw [HB.out,HGX.out,HGA.out];exact ⟨rfl,HQ.out⟩
         ·exact HA.out c (by omega)),H3⟩
        case measure=>simp [intOf];omega
       ·have hd:q1 < s:=by omega
        have HQ:=aQ hq
        clear hq
        go_wp2_with fail
        go_ret
        exact ⟨false,⟨fun e=>(by cases e),fun q=>absurd (q.2.2 k HKR.out).2 (by rw [HGX.out,HGA.out];exact HQ.out)⟩,rfl,H3.out.tail.bE E1.out E2.out E3.out⟩
      |cons d l=>
       refine (peek_yes H3.out 8 rfl HOR.out.1 hN k HKR.out d l hb).mono ?_
       rintro e w4 ⟨dv,rfl,h4⟩
       have H4:=aQ h4.front.tail
       have HB:=aQ hb
       clear hb h4
       go_wp2_with fail
       go_ret
       exact ⟨false,⟨fun e=>(by cases e),fun q=>absurd (q.2.2 k HKR.out).1 (by rw [HB.out];simp)⟩,rfl,H4.out.tail.bE E1.out E2.out E3.out⟩
     ·obtain rfl:k=L.r.aE.length:=by omega
      go_wp2_with fail
      go_roundw
      case rel=>exact ⟨aQ HO.out.tail,.inr (.inr ⟨by go_num,HQL,aQ ⟨HU.out,fun c hc=>HA.out c (by have:=HOR.out.2;omega)⟩⟩)⟩
      case measure=>simp [intOf]
   ·rw [decide_eq_false hu]
    have HU:=aQ hu
    clear hu
    go_wp2_with fail
    go_ret
    exact ⟨false,⟨fun e=>(by cases e),fun q=>absurd q.2.1 HU.out⟩,rfl,H1.out.tail.bE E1.out E2.out E3.out⟩
  ·go_wp2_with fail
   go_ret
   exact ⟨true,⟨fun _=>⟨HQL.out,HQR.out⟩,fun _=>rfl⟩,rfl,HK.out.bE E1.out E2.out E3.out⟩
end
end

set_option maxRecDepth 100000
section
open Go.RowKit
def Lk.nd (L:Lk) (n:Nat):Lnd:=if n=0 then L.l else L.r
section
variable {Z:BS} {W w:World} {ts:List Th} {p N:Nat} {L:Lk} {Zp:Prop}
structure PortOf (Z:BS) (W:World) (ts:List Th) (p:Nat) (L:Lk) (n:Nat) (pp:Nat) (w:World):Prop where
 port:Calls Tryz.prog 13 #[.pointer (some ⟨p,0,none⟩),.int .i64 (n:Int)] w fun e w'=>e=.returned (.pointer (some ⟨pp,0,none⟩))/\w=w'
 counts:∀c:Nat,c < (L.nd n).prt.aZ.length->Calls Tryz.prog 20 #[.pointer (some ⟨pp,0,none⟩),.int .i64 (c:Int)] w fun e w'=>e=.returned (.tuple #[.int .i64 (((L.nd n).prt.aG.getD c 0:Nat):Int),.int .i64 (((L.nd n).prt.aW.getD c 0:Nat):Int),.int .i64 (((L.nd n).prt.cF.getD c 0:Nat):Int)])/\dY (fun _=>False) Z W (bI p L::ts) w'
 up:Calls Tryz.prog 34 #[.pointer (some ⟨pp,0,none⟩)] w fun e w'=>e=.returned (.bool (decide ((L.nd n).prt.cS.state=2)))/\w=w'
 over:Calls Tryz.prog 14 #[.pointer (some ⟨pp,0,none⟩)] w fun e w'=>e=.returned (.int .i64 ((L.nd n).prt.bL:Int))/\w=w'
theorem port_of (hF:L.Full N Zp) (hN:N<=1000000000) (h:dY (fun _=>False) Z W (bI p L::ts) w) {n:Nat} (hn:n < 2):∃pp,PortOf Z W ts p L n pp w:=by
 obtain ⟨cs,v,u,e1,e2,e3,h4⟩:=h.link
 have okl:L.l.prt.Ok N:=by obtain ⟨_,i⟩:=hF.fit.l;exact i.ok
 have okr:L.r.prt.Ok N:=by obtain ⟨_,i⟩:=hF.fit.r;exact i.ok
 obtain rfl|rfl:n=0\/n=1:=by omega
 ·exact ⟨v.pp,port_o e1 e2 h4 0 (.inl rfl),fun c hc=>(counts_any h4 1 rfl okl hN c hc).mono fun e w' ⟨he,hh⟩=>⟨he,hh.bE e1 e2 e3⟩,up_any h4 1 rfl,overflows_any h4 1 rfl⟩
 ·exact ⟨u.pp,port_o e1 e2 h4 1 (.inr rfl),fun c hc=>(counts_any h4 7 rfl okr hN c hc).mono fun e w' ⟨he,hh⟩=>⟨he,hh.bE e1 e2 e3⟩,up_any h4 7 rfl,overflows_any h4 7 rfl⟩
end
theorem Lk.Full.nd {L:Lk} {N:Nat} {Z:Prop} (h:L.Full N Z) (n:Nat):∃ws,(L.nd n).Inv N ws:=by
 obtain ⟨wl,wr,oa,ga,pa,ob,gb,pb,da,db,i,_⟩:=h
 unfold Lk.nd
 split
 ·exact ⟨_,i.l⟩
 ·exact ⟨_,i.r⟩
theorem Lk.Full.buf64 {L:Lk} {N:Nat} {Z:Prop} (h:L.Full N Z) (n c:Nat) (hc:c < (L.nd n).prt.aZ.length):((L.nd n).prt.aY.getD c []).length<=64:=by
 obtain ⟨_,i⟩:=h.nd n
 have h1:((L.nd n).prt.aY.getD c []).length<=(L.nd n).prt.aZ.getD c 0:=by
  unfold Lk.nd at hc ⊢
  split
  ·rw [if_pos ‹_›] at hc;exact h.room.2 c hc
  ·rw [if_neg ‹_›] at hc;exact h.swap.room.2 c hc
 exact Nat.le_trans h1 (bM (P:=fun x=>x<=64) (fun x hx=>(i.ok.rm x hx).2) (by decide) c)
end

section
def tev (n c:Nat):Evt:=⟨2,(n:Int),(c:Int),[]⟩
def evs (n:Nat) (x:Lnd) (k:Nat):List Evt:=((List.range k).map fun c=>List.replicate (x.prt.aY.getD c []).length (tev n c)).flatten
theorem evs_succ (n:Nat) (x:Lnd) (k:Nat):evs n x (k+1)=evs n x k++List.replicate (x.prt.aY.getD k []).length (tev n k):=by
 unfold evs
 rw [List.range_succ,List.map_append,List.flatten_append]
 simp
def drainEvs (Y:Lk) (R:Nat):Nat->List Evt
 |0=>[]
 |n+1=>drainEvs Y R n++evs n (Y.nd n) R
theorem evs_all (n:Nat) (x:Lnd):evs n x x.prt.aZ.length=x.prt.all.map (tev n):=by
 unfold evs Prt.all
 rw [List.map_flatten,List.map_map]
 congr 1
 refine List.map_congr_left fun c _=>?_
 show _=(List.replicate _ c).map (tev n)
 rw [List.map_replicate]
theorem acts_app:∀(a b:List Evt) (L:Lk),(L.acts (a++b)).2=((L.acts a).2.acts b).2
 |[],_,_=>rfl
 |e::a,b,L=>acts_app a b (L.act e).2
theorem act_tev0 (L:Lk) (c:Nat):(L.act (tev 0 c)).2=⟨(L.l.take (c:Int)).2,L.r⟩:=rfl
theorem act_tev1 (L:Lk) (c:Nat):(L.act (tev 1 c)).2=⟨L.l,(L.r.take (c:Int)).2⟩:=rfl
theorem acts_tev0:∀(cs:List Nat) (L:Lk),(L.acts (cs.map (tev 0))).2=⟨L.l.takes cs,L.r⟩
 |[],_=>rfl
 |c::cs,L=>by
  show ((L.act (tev 0 c)).2.acts (cs.map (tev 0))).2=_
  rw [act_tev0,acts_tev0 cs]
  rfl
theorem acts_tev1:∀(cs:List Nat) (L:Lk),(L.acts (cs.map (tev 1))).2=⟨L.l,L.r.takes cs⟩
 |[],_=>rfl
 |c::cs,L=>by
  show ((L.act (tev 1 c)).2.acts (cs.map (tev 1))).2=_
  rw [act_tev1,acts_tev1 cs]
  rfl
theorem drain_step {Y:Lk} {R:Nat} (hl:Y.l.prt.aZ.length=R) (hr:Y.r.prt.aZ.length=R):Y.step (drainEvs Y R 2)=Y.empty.cR:=by
 have e0:evs 0 (Y.nd 0) R=Y.l.prt.all.map (tev 0):=by rw [<-hl];exact evs_all 0 Y.l
 have e1:evs 1 (Y.nd 1) R=Y.r.prt.all.map (tev 1):=by rw [<-hr];exact evs_all 1 Y.r
 have e:drainEvs Y R 2=Y.l.prt.all.map (tev 0)++Y.r.prt.all.map (tev 1):=by
  show ([]++evs 0 (Y.nd 0) R)++evs 1 (Y.nd 1) R=_
  rw [e0,e1,List.nil_append]
 unfold Lk.step
 rw [e,acts_app,acts_tev0,acts_tev1]
 rfl
theorem evs_data (n:Nat) (x:Lnd) (k:Nat):∀e ∈ evs n x k,e.data=[]:=fun e he=>by
 unfold evs at he
 obtain ⟨l,hl,h⟩:=List.mem_flatten.1 he
 obtain ⟨c,_,rfl⟩:=List.mem_map.1 hl
 rw [List.eq_of_mem_replicate h];rfl
theorem drainEvs_data (Y:Lk) (R:Nat):∀n,∀e ∈ drainEvs Y R n,e.data=[]
 |0,_,h=>by cases h
 |n+1,e,h=>by
  rcases List.mem_append.1 h with h|h
  ·exact drainEvs_data Y R n e h
  ·exact evs_data n _ R e h
end

set_option maxRecDepth 100000
section
def cntF (l:List (List dV)):Nat:=(l.map List.length).sum
theorem cntF_set:∀(l:List (List dV)) (c:Nat) (d:dV),cntF (l.set c (l.getD c []++[d]))<=cntF l+1
 |[],c,d=>by simp [cntF]
 |x::l,0,d=>by
  show ((x++[d]).length::l.map List.length).sum<=(x.length::l.map List.length).sum+1
  rw [List.sum_cons,List.sum_cons,List.length_append];simp;omega
 |x::l,c+1,d=>by
  have:=cntF_set l c d
  unfold cntF at this ⊢
  show (x.length::(l.set c (l.getD c []++[d])).map List.length).sum<=(x.length::l.map List.length).sum+1
  rw [List.sum_cons,List.sum_cons];omega
theorem cntF_range (l:List (List dV)):((List.range l.length).map fun c=>(l.getD c []).length).sum=cntF l:=by
 unfold cntF
 congr 1
 refine List.ext_getElem? fun j=>?_
 rw [List.getElem?_map,List.getElem?_map]
 rcases Nat.lt_or_ge j l.length with hj|hj
 ·rw [List.getElem?_range hj,List.getElem?_eq_getElem hj]
  show some ((l.getD j []).length)=some (l[j].length)
  rw [List.getD_eq_getElem?_getD,List.getElem?_eq_getElem hj];rfl
 ·rw [List.getElem?_eq_none (by rw [List.length_range];exact hj),List.getElem?_eq_none hj];rfl
theorem cntF_nils (n:Nat):cntF (List.replicate n [])=0:=by
 unfold cntF
 rw [List.map_replicate]
 induction n with
 |zero=>rfl
 |succ n ih=>rw [List.replicate_succ,List.sum_cons,ih];rfl
def Lnd.Fits (x:Lnd):Prop:=∀c,x.aE.getD c 0<=(x.aV.getD c []).length
def Lk.noff (L:Lk):Nat:=cntF L.l.aV+cntF L.r.aV
structure Lk.Tot (L:Lk) (n:Nat):Prop where
 l:L.l.Fits
 r:L.r.Fits
 n:L.noff<=n
theorem getD_set' {α : Type} (l:List α) (i:Nat) (a d : α) (k:Nat):(l.set i a).getD k d=if i=k/\i < l.length then a else l.getD k d:=by
 by_cases h:i < l.length
 ·rw [getD_set _ _ _ _ _ h]
  by_cases e:i=k
  ·rw [if_pos e,if_pos ⟨e,h⟩]
  ·rw [if_neg e,if_neg fun x=>e x.1]
 ·rw [if_neg fun x=>h x.2,List.set_eq_of_length_le (by omega)]
theorem Lnd.Fits.act {x:Lnd} (h:x.Fits) (hl:x.aE.length=x.aV.length) (e:Evt):(x.act e).2.Fits/\(x.act e).2.aE.length=(x.act e).2.aV.length/\cntF (x.act e).2.aV<=cntF x.aV+1:=by
 unfold Lnd.act
 split
 ·unfold Lnd.dQ
  split
  ·refine ⟨fun c=>?_,by show (x.aE.set _ _).length=(x.aV.set _ _).length;rw [List.length_set,List.length_set];exact hl,cntF_set _ _ _⟩
   show (x.aE.set _ _).getD c 0<=((x.aV.set _ _).getD c []).length
   rw [getD_set',getD_set',hl]
   have:=h c
   split
   ·rename_i q
    obtain ⟨rfl,_⟩:=q
    rw [List.length_append];exact Nat.add_le_add_right this 1
   ·exact this
  ·exact ⟨h,hl,Nat.le_succ _⟩
 ·split
  ·unfold Lnd.take
   split
   ·exact ⟨h,hl,Nat.le_succ _⟩
   ·exact ⟨h,hl,Nat.le_succ _⟩
  ·unfold Lnd.restart
   split
   ·refine ⟨fun c=>?_,by show (List.replicate _ _).length=_;rw [List.length_replicate];exact hl,Nat.le_succ _⟩
    show (List.replicate _ 0).getD c 0<=_
    unfold List.getD
    rw [List.getElem?_replicate]
    split <;> exact Nat.zero_le _
   ·exact ⟨h,hl,Nat.le_succ _⟩
structure Lk.Tots (L:Lk) (n:Nat):Prop extends L.Tot n where
 ll:L.l.aE.length=L.l.aV.length
 lr:L.r.aE.length=L.r.aV.length
theorem Lk.Tots.act {L:Lk} {n:Nat} (h:L.Tots n) (e:Evt):(L.act e).2.Tots (n+1):=by
 have hm:L.Tots (n+1):=⟨⟨h.l,h.r,Nat.le_succ_of_le h.n⟩,h.ll,h.lr⟩
 have hn:=h.n
 unfold Lk.noff at hn
 unfold Lk.act
 split
 ·exact ⟨⟨h.l,h.r,Nat.le_succ_of_le h.n⟩,h.ll,h.lr⟩
 ·split
  ·exact ⟨⟨h.l,h.r,Nat.le_succ_of_le h.n⟩,h.ll,h.lr⟩
  ·split
   ·exact hm
   ·split
    ·obtain ⟨a1,a2,a3⟩:=h.l.act h.ll e
     exact ⟨⟨a1,h.r,by show cntF (L.l.act e).2.aV+cntF L.r.aV<=n+1;omega⟩,a2,h.lr⟩
    ·split
     ·obtain ⟨a1,a2,a3⟩:=h.r.act h.lr e
      exact ⟨⟨h.l,a1,by show cntF L.l.aV+cntF (L.r.act e).2.aV<=n+1;omega⟩,h.ll,a2⟩
     ·exact hm
theorem Lk.Tots.acts:∀(es:List Evt) {L:Lk} {n:Nat},L.Tots n->(L.acts es).2.Tots (n+es.length)
 |[],_,_,h=>h
 |e::es,L,n,h=>by
  have:=Lk.Tots.acts es (h.act e)
  rw [List.length_cons,Nat.add_comm es.length 1,<-Nat.add_assoc]
  exact this
theorem Lk.Tots.cR {L:Lk} {n:Nat} (h:L.Tots n):L.cR.Tots n:=by
 obtain ⟨h1,h2,h3,h4⟩:=tick_since L
 refine ⟨⟨fun c=>by rw [h1,h3];exact h.l c,fun c=>by rw [h2,h4];exact h.r c,?_⟩,by rw [h1,h3];exact h.ll,by rw [h2,h4];exact h.lr⟩
 unfold Lk.noff
 rw [h3,h4];exact h.n
theorem Lk.Tots.step {L:Lk} {n:Nat} (h:L.Tots n) (es:List Evt):(L.step es).Tots (n+es.length):=(Lk.Tots.acts es h).cR
theorem newLk_tots (a b:Cfg) (d:Nat) (there back:List Flt):(newLk a b d there back).Tots 0:=
 ⟨⟨fun c=>by show (List.replicate _ 0).getD c 0<=_;unfold List.getD;rw [List.getElem?_replicate];split <;> exact Nat.zero_le _,fun c=>by show (List.replicate _ 0).getD c 0<=_;unfold List.getD;rw [List.getElem?_replicate];split <;> exact Nat.zero_le _,by
  unfold Lk.noff
  show cntF (List.replicate _ [])+cntF (List.replicate _ [])<=0
  rw [cntF_nils,cntF_nils];exact Nat.le_refl _⟩,by show (List.replicate _ _).length=(List.replicate _ _).length;rw [List.length_replicate,List.length_replicate],by show (List.replicate _ _).length=(List.replicate _ _).length;rw [List.length_replicate,List.length_replicate]⟩
theorem some_le {x:Lnd} (h:x.Fits) (hl:x.aV.length=x.prt.aZ.length):x.some<=cntF x.aV:=by
 rw [<-cntF_range,hl]
 exact sum_le fun c _=>h c
structure Lk.Kin (L K:Lk):Prop where
 rl:K.l.prt.aZ=L.l.prt.aZ
 rr:K.r.prt.aZ=L.r.prt.aZ
 tl:K.l.prt.aN=L.l.prt.aN
 tr:K.r.prt.aN=L.r.prt.aN
 dl:K.l.prt.dead=L.l.prt.dead
 dr:K.r.prt.dead=L.r.prt.dead
 fl:K.l.cD.bZ=L.l.cD.bZ
 fr:K.r.cD.bZ=L.r.cD.bZ
 al:K.l.cD.cB=L.l.cD.cB
 ar:K.r.cD.cB=L.r.cD.cB
theorem Lk.Kin.refl (L:Lk):L.Kin L:=⟨rfl,rfl,rfl,rfl,rfl,rfl,rfl,rfl,rfl,rfl⟩
theorem Lk.Kin.trans {A B C:Lk} (h:A.Kin B) (k:B.Kin C):A.Kin C:=⟨k.rl.trans h.rl,k.rr.trans h.rr,k.tl.trans h.tl,k.tr.trans h.tr,k.dl.trans h.dl,k.dr.trans h.dr,k.fl.trans h.fl,k.fr.trans h.fr,k.al.trans h.al,k.ar.trans h.ar⟩
theorem Lnd.act_kin (x:Lnd) (e:Evt):(x.act e).2.prt.aZ=x.prt.aZ/\(x.act e).2.prt.aN=x.prt.aN/\(x.act e).2.prt.dead=x.prt.dead/\(x.act e).2.cD=x.cD:=by
 unfold Lnd.act
 split
 ·unfold Lnd.dQ
  split
  ·have:(x.prt.dQ e.cls e.data).2.aZ=x.prt.aZ/\(x.prt.dQ e.cls e.data).2.aN=x.prt.aN/\(x.prt.dQ e.cls e.data).2.dead=x.prt.dead:=by
    unfold Prt.dQ
    split
    ·exact ⟨rfl,rfl,rfl⟩
    ·split <;> exact ⟨rfl,rfl,rfl⟩
   exact ⟨this.1,this.2.1,this.2.2,rfl⟩
  ·exact ⟨rfl,rfl,rfl,rfl⟩
 ·split
  ·unfold Lnd.take
   have:(x.prt.take e.cls).2.aZ=x.prt.aZ/\(x.prt.take e.cls).2.aN=x.prt.aN/\(x.prt.take e.cls).2.dead=x.prt.dead:=by
    unfold Prt.take
    split <;> exact ⟨rfl,rfl,rfl⟩
   rcases hp:x.prt.take e.cls with ⟨o,q⟩
   rw [hp] at this
   cases o with
   |none=>exact ⟨rfl,rfl,rfl,rfl⟩
   |some d=>exact ⟨this.1,this.2.1,this.2.2,rfl⟩
  ·unfold Lnd.restart
   have:(x.prt.restart (x.inc+1)).2.aZ=x.prt.aZ/\(x.prt.restart (x.inc+1)).2.aN=x.prt.aN/\(x.prt.restart (x.inc+1)).2.dead=x.prt.dead:=by
    unfold Prt.restart
    split <;> exact ⟨rfl,rfl,rfl⟩
   split
   ·exact ⟨this.1,this.2.1,this.2.2,rfl⟩
   ·exact ⟨rfl,rfl,rfl,rfl⟩
theorem act_kin (L:Lk) (e:Evt):L.Kin (L.act e).2:=by
 unfold Lk.act
 split
 ·exact ⟨rfl,rfl,rfl,rfl,rfl,rfl,rfl,rfl,rfl,rfl⟩
 ·split
  ·exact ⟨rfl,rfl,rfl,rfl,rfl,rfl,rfl,rfl,rfl,rfl⟩
  ·split
   ·exact .refl L
   ·split
    ·obtain ⟨a1,a2,a3,a4⟩:=L.l.act_kin e
     exact ⟨a1,rfl,a2,rfl,a3,rfl,by show (L.l.act e).2.cD.bZ=_;rw [a4],rfl,by show (L.l.act e).2.cD.cB=_;rw [a4],rfl⟩
    ·split
     ·obtain ⟨a1,a2,a3,a4⟩:=L.r.act_kin e
      exact ⟨rfl,a1,rfl,a2,rfl,a3,rfl,by show (L.r.act e).2.cD.bZ=_;rw [a4],rfl,by show (L.r.act e).2.cD.cB=_;rw [a4]⟩
     ·exact .refl L
theorem acts_kin:∀(es:List Evt) (L:Lk),L.Kin (L.acts es).2
 |[],L=>.refl L
 |e::es,L=>(act_kin L e).trans (acts_kin es _)
theorem tick_kin (A:Lk):A.Kin A.cR:=by
 have a:=tick_alike A
 exact ⟨a.rl,a.rr,a.tl,a.tr,a.dl,a.dr,a.fl,a.fr,a.al,a.ar⟩
theorem step_kin (L:Lk) (es:List Evt):L.Kin (L.step es):=(acts_kin es L).trans (tick_kin _)
theorem mend_up (L:Lk):(L.step [⟨4,0,0,[]⟩]).l.cD.up=true/\(L.step [⟨4,0,0,[]⟩]).r.cD.up=true:=by
 obtain ⟨_,_,a3,_⟩:=tick_into (L.acts [⟨4,0,0,[]⟩]).2
 obtain ⟨_,_,b3,_⟩:=tick_into' (L.acts [⟨4,0,0,[]⟩]).2
 exact ⟨a3.trans rfl,b3.trans rfl⟩
end

section
theorem drain_short {Y:Lk} {N R:Nat} (h:Y.Full N False) (s:Y.Short) (h2:200<=N) (hl:Y.l.prt.aZ.length=R) (hr:Y.r.prt.aZ.length=R):∀m,(Y.drain m).Short
 |0=>s
 |m+1=>by
  have a:=drain_alike Y m
  have:=(drain_short h s h2 hl hr m).step (drain_full h m) (by omega) (drainEvs (Y.drain m) R 2)
  rwa [drain_step (by rw [a.rl];exact hl) (by rw [a.rr];exact hr)] at this
theorem full_ol {L:Lk} {N:Nat} {Z:Prop} (h:L.Full N Z):L.l.aV.length=L.l.prt.aZ.length/\L.r.aV.length=L.r.prt.aZ.length:=by
 obtain ⟨wl,wr,oa,ga,pa,ob,gb,pb,da,db,i,k1,k2,_⟩:=h
 exact ⟨k1.ol,k2.ol⟩
end

set_option maxRecDepth 100000
section
open Go.RowKit
section
variable {w:World} {Z:BS}
def lateF (f:Flt):Bool:=decide (200<=f.at')
end
section
variable {Z:BS} {W w:World} {ts:List Th} {j:Nat} {s:RSet} {aa ba ta ya:Option Addr} {ak bk tk yk:Nat}
end
end


set_option maxRecDepth 100000
section
open Go.RowKit
def BBs (w:World) (v:Value) (xs:List Byt):Prop:=∃a c,v=.slice a xs.length c/\xs.length<=c/\c<=maxLen/\∀(k:Nat) (d:Byt),xs[k]? = some d->∃b o dv,a=some ⟨b,o,none⟩/\w.cell? ⟨b,o+k,none⟩=some dv/\By w dv d
theorem BBs.take {w:World} {a:Option Addr} {n c:Nat} {ys xs:List Byt} (h:BBs w (.slice a n c) ys) (hx:xs <+: ys):BBs w (.slice a xs.length c) xs:=by
 obtain ⟨a',c',e,h1,h2,hk⟩:=h
 obtain ⟨rfl,rfl,rfl⟩:a=a'/\n=ys.length/\c=c':=by simpa using e
 refine ⟨a,c,rfl,Nat.le_trans hx.length_le h1,h2,fun k d hd=>hk k d ?_⟩
 obtain ⟨t,rfl⟩:=hx
 rw [List.getElem?_append_left (aA hd)];exact hd
section
variable {w:World}
end
end

set_option maxRecDepth 100000
section
open Go.RowKit
theorem slEvt:SlT Tryz.prog 46 49 (.agg #[.int .i64 0,.int .i64 0,.int .i64 0,.slice none 0 0]) 4 48:=⟨Tryz.underlying46,info_parts (by kernel_rfl),rfl,by decide⟩
theorem wpList_app_evt {F Z:BS} {W w1 w2:World} {ts:List Th} {ops:Array Oper} {rest:List Oper} {o:Oper} {ac:Act} {Q:Exit->Act->World->Prop} {a:Option Addr} {c:Nat} {xs:List Evt} {x1 x2 x3:Int}
  (hg:o.guard=none) (s x:Operand) (hop:o.op=Op.call { callee:=Callee.builtin Builtin.append,args := #[s,x],argTypes := #[46,46] })
  (h:dY F Z W ts w1) (i:Nat) (hi:ts[i]? = some (tSq eEvt 49 (.slice a xs.length c) xs)) (hb:Below w1.heap.size w1 w2) (hl:xs.length<=1000000) (hs:ac.eval s=.slice a xs.length c) (vb:Nat) (hx:ac.eval x=.slice (some ⟨vb,0,none⟩) 1 1) (hrow:w2.heap[vb]? = some (.cells #[.int .i64 x1,.int .i64 x2,.int .i64 x3,.slice none 0 0] 49))
  (hK:∀a' c' w3,dY F Z W (ts.set i (tSq eEvt 49 (.slice a' (xs++[(⟨x1,x2,x3,[]⟩:Evt)]).length c') (xs++[(⟨x1,x2,x3,[]⟩:Evt)]))) w3->wpList Tryz.prog ops Q rest (ac.put o.dst (.slice a' (xs.length+1) c')) w3):wpList Tryz.prog ops Q (o::rest) ac w2:=by
 obtain ⟨K,us,hsl,hKn,hback⟩:=h.app i hi
 have hrd:Rd w2 4 (.slice (some ⟨vb,0,none⟩) 1 1) 1 [.int .i64 x1,.int .i64 x2,.int .i64 x3,.slice none 0 0]:=by
  refine ⟨rfl,some ⟨vb,0,none⟩,1,rfl,Nat.le_refl _,by unfold maxLen;omega,(fun e=>by cases e),fun b hb k u hk=>?_⟩
  obtain rfl:=Option.some.inj hb
  refine ⟨rfl,?_⟩
  simp only [World.cell?,hrow,Nat.zero_add]
  simpa using hk
 refine cQ slEvt hg s x hop K (.slice a xs.length c) xs.length us hs (Sl.keep hsl fun k _ hl=>hb.block k hl) _ 1 _ hx hrd (by intro u hu;simp only [List.mem_cons,List.not_mem_nil,or_false] at hu;rcases hu with rfl|rfl|rfl|rfl <;> rfl) (by unfold maxLen;omega) (by omega) ?_
 intro v' w' hs2 hf2
 obtain ⟨g2,off2,cap2,rfl,_⟩:=Sl.head hs2 (by omega)
 refine hK _ _ _ ?_
 have:=hback w2 w' _ [⟨x1,x2,x3,[]⟩] _ hb hs2 hf2 fun Y hoth=>⟨fun _=>False,fun _=>False,fun _ f=>f.elim,fun _ f=>f.elim,fun _ f=>f.elim,Els.single (E:=eEvt) ⟨_,rfl,ByZ.nil _ _⟩⟩
 rw [List.length_append]
 exact this
theorem eEvt_rd {w:World} {A B:BS} {cs:List Value} {e:Evt} (h:eEvt.rd w A B cs e):eEvt.rd w (fun _=>False) (fun k=>A k\/B k) cs e:=by
 obtain ⟨v,e,h⟩:=h;exact ⟨v,e,h.mono fun _ h=>.inr h⟩
section
variable {Z:BS} {W w:World} {ts:List Th} {p N:Nat} {Zp:Prop}
end
end

section
theorem not_late {a b:List Flt} (h:(a++b).any lateF=false):Early a 200/\Early b 200:=by
 have:∀f ∈ a++b,f.at' < ((200:Nat):Int):=fun f hf=>by
  have h2:=List.any_eq_false.1 h f hf
  unfold lateF at h2
  have h3:¬(200:Int)<=f.at':=by simpa using h2
  have:f.at' < 200:=by omega
  exact this
 exact ⟨fun f hf=>this f (List.mem_append_left _ hf),fun f hf=>this f (List.mem_append_right _ hf)⟩
theorem set_len {s:RSet} {X:Lk} (k:s.lk.Kin X) (hroom:s.a.aZ.length=s.b.aZ.length):X.l.prt.aZ.length=s.a.aZ.length/\X.r.prt.aZ.length=s.a.aZ.length:=by
 refine ⟨by rw [k.rl];show s.a.cfg.aZ.length=_;unfold RCfg.cfg;rw [List.length_map],?_⟩
 rw [k.rr]
 show s.b.cfg.aZ.length=_
 unfold RCfg.cfg
 rw [List.length_map];exact hroom.symm
end

section
theorem Cls.less {a b:Prt} {wb:List Way} {hist:Hist} {c:Nat} {all got:List dV} {old:Nat} (h:Cls a b wb hist c all got old):Cls a b wb hist c all got (min old all.length):=by
 obtain ⟨E,P,h1,h2,h3,h4⟩:=h
 have hl:=congrArg List.length h2
 rw [List.length_append,List.length_append] at hl
 refine ⟨E,P,h1,h2,fun x=>?_,fun x=>?_⟩
 ·obtain ⟨P0,q1,q2,q3⟩:=h3 x
  refine ⟨P0,q1,q2,Nat.le_min.2 ⟨q3,?_⟩⟩
  have:=congrArg List.length q1
  rw [List.length_append] at this
  omega
 ·obtain ⟨q1,q2,q3⟩:=h4 x
  refine ⟨q1,Nat.le_min.2 ⟨q2,by omega⟩,fun u hu e1 e2=>Nat.le_min.2 ⟨q3 u hu e1 e2,?_⟩⟩
  have:=congrArg List.length (cG c a.cT (u.1.r - a.snd.aG))
  rw [List.length_append] at this
  omega
theorem Both.less {a b:Prt} {wa wb:List Way} {oa ga ob gb:Nat->List dV} {da db:Nat->Nat} (h:Both a b wa wb oa ga ob gb da db):Both a b wa wb oa ga ob gb (fun c=>min (da c) (oa c).length) (fun c=>min (db c) (ob c).length):=by
 obtain ⟨hA,tA,hB,tB,⟨d1,c1⟩,⟨d2,c2⟩⟩:=h
 exact ⟨hA,tA,hB,tB,⟨d1,fun c=>(c1 c).less⟩,⟨d2,fun c=>(c2 c).less⟩⟩
def Lk.FullP (L:Lk) (N:Nat) (P:(Nat->Nat)->(Nat->Nat)->Prop):Prop:=
 ∃wl wr oa ga pa ob gb pb da db,L.Inv N wl wr oa ga ob gb da db/\L.l.Book oa ga pa/\L.r.Book ob gb pb/\P da db
section
variable {L:Lk} {N:Nat} {P:(Nat->Nat)->(Nat->Nat)->Prop}
theorem Lk.FullP.mono (h:L.FullP N P) {M:Nat} (hm:N<=M):L.FullP M P:=by
 obtain ⟨wl,wr,oa,ga,pa,ob,gb,pb,da,db,i,k1,k2,z⟩:=h
 exact ⟨wl,wr,oa,ga,pa,ob,gb,pb,da,db,i.mono hm,k1,k2,z⟩
theorem Lk.FullP.full (h:L.FullP N P):L.Full N False:=by
 obtain ⟨wl,wr,oa,ga,pa,ob,gb,pb,da,db,i,k1,k2,z⟩:=h
 exact ⟨wl,wr,oa,ga,pa,ob,gb,pb,da,db,i,k1,k2,False.elim⟩
theorem Lk.FullP.swap (h:L.FullP N P):(⟨L.r,L.l⟩:Lk).FullP N fun a b=>P b a:=by
 obtain ⟨wl,wr,oa,ga,pa,ob,gb,pb,da,db,i,k1,k2,z⟩:=h
 exact ⟨wr,wl,ob,gb,pb,oa,ga,pa,db,da,i.swap,k2,k1,z⟩
theorem full_past {Z:Prop} (h:L.Full N Z):L.FullP N fun da db=>da 0<=(L.l.aV.getD 0 []).length/\db 0<=(L.r.aV.getD 0 []).length:=by
 obtain ⟨wl,wr,oa,ga,pa,ob,gb,pb,da,db,i,k1,k2,z⟩:=h
 exact ⟨wl,wr,oa,ga,pa,ob,gb,pb,_,_,⟨i.l,i.r,i.both.less,i.dl,i.dr,i.kn⟩,k1,k2,by rw [k1.off];exact Nat.min_le_right _ _,by rw [k2.off];exact Nat.min_le_right _ _⟩
theorem Lk.FullP.cR (h:L.FullP N P):L.cR.FullP (N+13000) P:=by
 obtain ⟨wl,wr,oa,ga,pa,ob,gb,pb,da,db,i,k1,k2,z⟩:=h
 obtain ⟨wl',wr',i'⟩:=i.tick_any
 exact ⟨wl',wr',oa,ga,pa,ob,gb,pb,da,db,i',k1.ticked _,k2.ticked _,z⟩
theorem Lk.FullP.empty (h:L.FullP N P):L.empty.FullP (N+256) P:=by
 obtain ⟨wl,wr,oa,ga,pa,ob,gb,pb,da,db,i,k1,k2,z⟩:=h
 obtain ⟨ga',gb',i',k1',k2'⟩:=i.empty k1 k2
 exact ⟨wl,wr,oa,ga',pa,ob,gb',pb,da,db,i',k1',k2',z⟩
theorem drain_past {X:Lk} (h:X.FullP N P):∀m,(X.drain m).FullP (N+13256*m) P
 |0=>h
 |m+1=>((drain_past h m).empty.cR).mono (by rw [Nat.mul_succ,Nat.add_assoc,Nat.add_assoc];exact Nat.le_refl _)
theorem Lk.FullP.actL (h:L.FullP N P) (e:Evt) (he:e.kind=1\/e.kind=2):(⟨(L.l.act e).2,L.r⟩:Lk).FullP (N+65) P:=by
 obtain ⟨wl,wr,oa,ga,pa,ob,gb,pb,da,db,i,k1,k2,z⟩:=h
 have ir:L.r.Inv (N+65) wr:=i.r.mono (by omega)
 unfold Lnd.act
 by_cases h1:e.kind=1
 ·rw [if_pos h1]
  obtain ⟨o',a1,a2,a3⟩:=Lnd.offer_inv i.l k1 i.both e.cls e.data
  exact ⟨wl,wr,o',ga,pa,ob,gb,pb,da,db,⟨a1,ir,a3,due_offer i.dl,i.dr,kno_offer i.kn⟩,a2,k2,z⟩
 ·rw [if_neg h1,if_pos (he.resolve_left h1)]
  obtain ⟨g',a1,a2,a3⟩:=Lnd.take_inv i.l k1 i.both e.cls
  exact ⟨wl,wr,oa,g',pa,ob,gb,pb,da,db,⟨a1.mono (by omega),ir,a3,due_take i.dl,i.dr,kno_take i.kn⟩,a2,k2,z⟩
theorem Lk.FullP.act (h:L.FullP N P) (e:Evt) (he:e.kind≠5):(L.act e).2.FullP (N+65) P:=by
 have hm:=h.mono (show N<=N+65 by omega)
 unfold Lk.act
 by_cases h3:e.kind=3
 ·rw [if_pos h3]
  obtain ⟨wl,wr,oa,ga,pa,ob,gb,pb,da,db,i,k1,k2,z⟩:=h
  exact ⟨[],[],oa,ga,pa,ob,gb,pb,da,db,⟨cut_inv i.l,cut_inv i.r,i.both.ways (fun _ hp=>by cases hp) .nil (fun _ hp=>by cases hp) .nil,cut_due _,cut_due _,i.kn.ways (fun _ hp=>by cases hp) fun _ hp=>by cases hp⟩,⟨k1.ol,k1.tl,k1.off,k1.tak⟩,⟨k2.ol,k2.tl,k2.off,k2.tak⟩,z⟩
 ·rw [if_neg h3]
  by_cases h4:e.kind=4
  ·rw [if_pos h4]
   obtain ⟨wl,wr,oa,ga,pa,ob,gb,pb,da,db,i,k1,k2,z⟩:=hm
   exact ⟨wl,wr,oa,ga,pa,ob,gb,pb,da,db,⟨mend_inv i.l,mend_inv i.r,i.both,i.dl,i.dr,i.kn⟩,⟨k1.ol,k1.tl,k1.off,k1.tak⟩,⟨k2.ol,k2.tl,k2.off,k2.tak⟩,z⟩
  ·rw [if_neg h4]
   by_cases h5:e.kind≠1/\e.kind≠2/\e.kind≠5
   ·rw [if_pos h5];exact hm
   ·rw [if_neg h5]
    have hk:e.kind=1\/e.kind=2:=by omega
    by_cases s0:e.cS=0
    ·rw [if_pos s0];exact h.actL e hk
    ·rw [if_neg s0]
     by_cases s1:e.cS=1
     ·rw [if_pos s1];exact (h.swap.actL e hk).swap
     ·rw [if_neg s1];exact hm
theorem acts_past:∀(es:List Evt) {L:Lk} {N:Nat},L.FullP N P->(∀e ∈ es,e.kind≠5)->(L.acts es).2.FullP (N+65*es.length) P
 |[],_,_,h,_=>h
 |e::es,L,N,h,hk=>by
  have:=acts_past es (h.act e (hk e List.mem_cons_self)) fun x hx=>hk x (List.mem_cons_of_mem _ hx)
  exact this.mono (by rw [List.length_cons];omega)
end
theorem past_last {L:Lk} {N n:Nat} (h:L.FullP N fun da _=>da 0<=n) (q:L.Quiet) (hc:0 < L.l.prt.aZ.length) (hc2:0 < L.r.prt.aZ.length) {off0 want:List dV} (ho:L.l.aV.getD 0 []=off0++want) (hn:n<=off0.length):∃pre,L.r.cF.getD 0 []=pre++want:=by
 have F:=quiet_full h.full q
 obtain ⟨wl,wr,oa,ga,pa,ob,gb,pb,da,db,i,k1,k2,z⟩:=h
 obtain ⟨E,P0,f,g1,g2,g3,g4,_⟩:=i.both.full F hc hc2
 rw [k1.off,g2] at ho
 have hle:P0.length<=off0.length:=by omega
 obtain ⟨r,hr⟩:=List.prefix_of_prefix_length_le (List.prefix_append P0 f) (by rw [ho];exact List.prefix_append off0 want) hle
 have hf:f=r++want:=by
  rw [<-hr,List.append_assoc] at ho
  exact List.append_cancel_left ho
 exact ⟨pb 0++(E++r),by rw [k2.tak,g1,hf];simp only [List.append_assoc]⟩
def sel:List Nat->List dV->List dV
 |r::rs,b::bs=>(if r=0 then [b] else [])++sel rs bs
 |_,_=>[]
def oev (f:Nat) (b:dV):Evt:=⟨1,(f:Int),0,b⟩
theorem offer_off (x:Lnd) (b:dV) (h0:0 < x.aV.length):(x.dQ 0 b).2.aV.length=x.aV.length/\(x.dQ 0 b).2.aV.getD 0 []=x.aV.getD 0 []++(if (x.dQ 0 b).1=0 then [b] else []):=by
 unfold Lnd.dQ
 by_cases h:(x.prt.dQ 0 b).1=0
 ·rw [if_pos h]
  refine ⟨by show (x.aV.set _ _).length=_;rw [List.length_set],?_⟩
  show (x.aV.set (0:Int).toNat (x.aV.getD (0:Int).toNat []++[b])).getD 0 []=_++(if (0:Nat)=0 then [b] else [])
  rw [getD_set',if_pos ⟨rfl,h0⟩,if_pos rfl]
  rfl
 ·rw [if_neg h]
  refine ⟨rfl,?_⟩
  show x.aV.getD 0 []=_++(if (x.prt.dQ 0 b).1=0 then [b] else [])
  rw [if_neg h,List.append_nil]
theorem offers_off (f:Nat) (hf:f < 2):∀(bs:List dV) (L:Lk),0 < (L.nd f).aV.length->((L.acts (bs.map (oev f))).2.nd f).aV.getD 0 []=(L.nd f).aV.getD 0 []++sel (L.acts (bs.map (oev f))).1 bs/\(L.acts (bs.map (oev f))).1.length=bs.length
 |[],L,_=>⟨(List.append_nil _).symm,rfl⟩
 |b::bs,L,h0=>by
  have e:(L.act (oev f b)).1=((L.nd f).dQ 0 b).1/\(L.act (oev f b)).2.nd f=((L.nd f).dQ 0 b).2:=by
   obtain rfl|rfl:f=0\/f=1:=by omega
   ·exact ⟨rfl,rfl⟩
   ·exact ⟨rfl,rfl⟩
  obtain ⟨h1,h2⟩:=offer_off (L.nd f) b h0
  obtain ⟨i1,i2⟩:=offers_off f hf bs (L.act (oev f b)).2 (by rw [e.2,h1];exact h0)
  refine ⟨?_,by show (_::_).length=_;rw [List.length_cons,List.length_cons,i2]⟩
  show (((L.act (oev f b)).2.acts (bs.map (oev f))).2.nd f).aV.getD 0 []=_++((if (L.act (oev f b)).1=0 then [b] else [])++sel ((L.act (oev f b)).2.acts (bs.map (oev f))).1 bs)
  rw [i1,e.2,h2,e.1,List.append_assoc]
theorem nd_off_tick (L:Lk) (f:Nat):(L.cR.nd f).aV=(L.nd f).aV:=by
 obtain ⟨_,_,h3,h4⟩:=tick_since L
 unfold Lk.nd
 split
 ·exact h3
 ·exact h4
theorem nd_off_drain (X:Lk) (f m:Nat):((X.drain m).nd f).aV=(X.nd f).aV:=by
 obtain ⟨_,_,h3,h4⟩:=drain_since X m
 unfold Lk.nd
 split
 ·exact h3
 ·exact h4
theorem off_chain (B:Lk) (f m:Nat):(((B.cR.step [⟨4,0,0,[]⟩]).drain m).nd f).aV=(B.nd f).aV:=by
 rw [nd_off_drain]
 have e:∀C:Lk,((C.step [⟨4,0,0,[]⟩]).nd f).aV=(C.nd f).aV:=fun C=>by
  have:C.step [⟨4,0,0,[]⟩]=(C.acts [⟨4,0,0,[]⟩]).2.cR:=rfl
  rw [this,nd_off_tick]
  unfold Lk.nd
  split <;> rfl
 rw [e,nd_off_tick]
theorem kin_chain (A B:Lk) (k:A.Kin B) (m:Nat):(((B.cR.step [⟨4,0,0,[]⟩]).drain m).l.prt.aZ=A.l.prt.aZ)/\(((B.cR.step [⟨4,0,0,[]⟩]).drain m).r.prt.aZ=A.r.prt.aZ):=by
 have al:=drain_alike (B.cR.step [⟨4,0,0,[]⟩]) m
 have kn:=((k.trans (tick_kin B)).trans (step_kin B.cR [⟨4,0,0,[]⟩]))
 exact ⟨al.rl.trans kn.rl,al.rr.trans kn.rr⟩
theorem past_chain {B:Lk} {N:Nat} {P:(Nat->Nat)->(Nat->Nat)->Prop} (h:B.FullP N P) (m:Nat):∃M,((B.cR.step [⟨4,0,0,[]⟩]).drain m).FullP M P:=
 ⟨_,drain_past (acts_past [⟨4,0,0,[]⟩] h.cR (fun e he=>by obtain rfl:=List.mem_singleton.1 he;show (4:Int)≠5;decide)).cR m⟩
theorem returns {L:Lk} {N f:Nat} {Z:Prop} (h:L.Full N Z) (h2:200<=N) (hf:f < 2) (sd:Int) (bs:List dV) (m:Nat) (hc:0 < L.l.prt.aZ.length) (hc2:0 < L.r.prt.aZ.length)
  (q:(((L.step (⟨5,sd,0,[]⟩::bs.map (oev f))).step [⟨4,0,0,[]⟩]).drain m).Quiet) :
  ∃pre,clsOf ((((L.step (⟨5,sd,0,[]⟩::bs.map (oev f))).step [⟨4,0,0,[]⟩]).drain m).tak (1 - (f:Int))) 0=pre++sel ((L.acts (⟨5,sd,0,[]⟩::bs.map (oev f))).1.drop 1) bs:=by
 obtain ⟨A,hA⟩:∃A,A=(L.act ⟨5,sd,0,[]⟩).2:=⟨_,rfl⟩
 have hAF:A.Full (N+65) False:=by rw [hA];exact (h.act h2 _).mono (Nat.le_refl _) False.elim
 have hAk:=act_kin L ⟨5,sd,0,[]⟩
 rw [<-hA] at hAk
 have hol:=full_ol hAF
 have h0:0 < (A.nd f).aV.length:=by
  unfold Lk.nd
  split
  ·rw [hol.1,hAk.rl];exact hc
  ·rw [hol.2,hAk.rr];exact hc2
 obtain ⟨o1,o2⟩:=offers_off f hf bs A h0
 have hsel:(L.acts (⟨5,sd,0,[]⟩::bs.map (oev f))).1.drop 1=(A.acts (bs.map (oev f))).1:=by rw [hA];rfl
 have hX:L.step (⟨5,sd,0,[]⟩::bs.map (oev f))=(A.acts (bs.map (oev f))).2.cR:=by rw [hA];rfl
 have hB:=acts_past (bs.map (oev f)) (full_past hAF) (fun e he=>by obtain ⟨b,_,rfl⟩:=List.mem_map.1 he;show (1:Int)≠5;decide)
 have kB:=hAk.trans (acts_kin (bs.map (oev f)) A)
 rw [hX] at q ⊢
 rw [hsel]
 clear hX hsel hA
 generalize (A.acts (bs.map (oev f))).2=B at *
 generalize (A.acts (bs.map (oev f))).1=rs at *
 obtain ⟨M,hD'⟩:=past_chain hB m
 have hoff:(((B.cR.step [⟨4,0,0,[]⟩]).drain m).nd f).aV.getD 0 []=(A.nd f).aV.getD 0 []++sel rs bs:=by rw [off_chain,o1]
 have hk:=kin_chain L B kB m
 generalize (B.cR.step [⟨4,0,0,[]⟩]).drain m=K at *
 have hkl:0 < K.l.prt.aZ.length:=by rw [hk.1];exact hc
 have hkr:0 < K.r.prt.aZ.length:=by rw [hk.2];exact hc2
 clear hB kB o1 o2 hk
 unfold clsOf
 rw [if_pos (by omega)]
 obtain rfl|rfl:f=0\/f=1:=by omega
 ·have e1:K.tak (1 - ((0:Nat):Int))=K.r.cF:=rfl
  rw [e1]
  obtain ⟨wl,wr,oa,ga,pa,ob,gb,pb,da,db,i,k1,k2,z⟩:=hD'
  exact past_last (n:=(A.l.aV.getD 0 []).length) ⟨wl,wr,oa,ga,pa,ob,gb,pb,da,db,i,k1,k2,z.1⟩ q hkl hkr hoff (Nat.le_refl _)
 ·have e1:K.tak (1 - ((1:Nat):Int))=K.l.cF:=rfl
  rw [e1]
  obtain ⟨wl,wr,oa,ga,pa,ob,gb,pb,da,db,i,k1,k2,z⟩:=hD'
  exact past_last (L:=⟨K.r,K.l⟩) (n:=(A.r.aV.getD 0 []).length) ⟨wr,wl,ob,gb,pb,oa,ga,pa,db,da,i.swap,k2,k1,z.2⟩ ⟨q.2,q.1⟩ hkr hkl hoff (Nat.le_refl _)
end

set_option maxRecDepth 100000
section
open Go.RowKit
section
variable {F Z:BS} {W w:World} {ts:List Th}
theorem wpList_app_evd {w1 w2:World} {ops:Array Oper} {rest:List Oper} {o:Oper} {ac:Act} {Q:Exit->Act->World->Prop} {a:Option Addr} {c:Nat} {xs:List Evt} {x1 x2 x3:Int} {d:Byt} {va:Option Addr} {vc:Nat}
  (hg:o.guard=none) (s x:Operand) (hop:o.op=Op.call { callee:=Callee.builtin Builtin.append,args := #[s,x],argTypes := #[46,46] })
  (h:dY F Z W ts w1) (i:Nat) (hi:ts[i]? = some (tSq eEvt 49 (.slice a xs.length c) xs)) (j:Nat) (hji:j≠i) (hj:ts[j]? = some (tBy (.slice va d.length vc) d)) (hb:Below w1.heap.size w1 w2) (hl:xs.length<=1000000) (hs:ac.eval s=.slice a xs.length c) (vb:Nat) (hx:ac.eval x=.slice (some ⟨vb,0,none⟩) 1 1) (hrow:w2.heap[vb]? = some (.cells #[.int .i64 x1,.int .i64 x2,.int .i64 x3,.slice va d.length vc] 49))
  (hK:∀a' c' w3,dY F Z W (ts.set i (tSq eEvt 49 (.slice a' (xs++[(⟨x1,x2,x3,d⟩:Evt)]).length c') (xs++[(⟨x1,x2,x3,d⟩:Evt)]))) w3->wpList Tryz.prog ops Q rest (ac.put o.dst (.slice a' (xs.length+1) c')) w3):wpList Tryz.prog ops Q (o::rest) ac w2:=by
 obtain ⟨K,us,hsl,hKn,hback⟩:=h.app i hi
 have hrd:Rd w2 4 (.slice (some ⟨vb,0,none⟩) 1 1) 1 [.int .i64 x1,.int .i64 x2,.int .i64 x3,.slice va d.length vc]:=by
  refine ⟨rfl,some ⟨vb,0,none⟩,1,rfl,Nat.le_refl _,by unfold maxLen;omega,(fun e=>by cases e),fun b hb k u hk=>?_⟩
  obtain rfl:=Option.some.inj hb
  refine ⟨rfl,?_⟩
  simp only [World.cell?,hrow,Nat.zero_add]
  simpa using hk
 refine cQ slEvt hg s x hop K (.slice a xs.length c) xs.length us hs (Sl.keep hsl fun k _ hl=>hb.block k hl) _ 1 _ hx hrd (by intro u hu;simp only [List.mem_cons,List.not_mem_nil,or_false] at hu;rcases hu with rfl|rfl|rfl|rfl <;> rfl) (by unfold maxLen;omega) (by omega) ?_
 intro v' w' hs2 hf2
 obtain ⟨g2,off2,cap2,rfl,_⟩:=Sl.head hs2 (by omega)
 refine hK _ _ _ ?_
 have:=hback w2 w' _ [⟨x1,x2,x3,d⟩] _ hb hs2 hf2 fun Y hoth=>by
  obtain ⟨H,_,hby⟩:=hoth j _ hji hj
  exact ⟨fun _=>False,Y,fun _ f=>f.elim,fun k hk=>.inl hk,fun _ f=>f.elim,Els.single (E:=eEvt) ⟨_,rfl,ByZ.below hby hb⟩⟩
 rw [List.length_append]
 exact this
end
theorem BBs.nil (w:World) (a:Option Addr) {c:Nat} (hc:c<=maxLen):BBs w (.slice a 0 c) []:=⟨a,c,rfl,Nat.zero_le _,hc,fun k d hd=>by simp at hd⟩
theorem BBs.drop {w:World} {a:Option Addr} {n c:Nat} {pre xs:List Byt} (h:BBs w (.slice a n c) (pre++xs)) (hx:xs≠[]):∃b o,a=some ⟨b,o,none⟩/\BBs w (.slice (some ⟨b,o+pre.length,none⟩) xs.length (c - pre.length)) xs:=by
 obtain ⟨a0,c0,e,h1,h2,hk⟩:=h
 obtain ⟨rfl,rfl,rfl⟩:a=a0/\n=(pre++xs).length/\c=c0:=by simpa using e
 rw [List.length_append] at h1
 obtain ⟨x0,l,rfl⟩:=List.exists_cons_of_ne_nil hx
 obtain ⟨b,o,dv,e1,_⟩:=hk pre.length x0 (by simp)
 refine ⟨b,o,e1,_,_,rfl,by omega,Nat.le_trans (Nat.sub_le _ _) h2,fun k d hd=>?_⟩
 obtain ⟨b2,o2,dv2,e2,hc,hb⟩:=hk (pre.length+k) d (by rw [List.getElem?_append_right (by omega)];simpa using hd)
 rw [e1] at e2
 obtain ⟨rfl,rfl⟩:b=b2/\o=o2:=by simpa using e2
 exact ⟨b,o+pre.length,dv2,rfl,by rw [Nat.add_assoc];exact hc,hb⟩
end

end Go.Proofs.YtcbnhebiagdbiaaGreatDoor
