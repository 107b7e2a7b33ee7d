/- The contract of Quiet of a link. -/
import Derived.Test.YtckdblgobmofgaaGreatDoorLsH
import Derived.Test.YtckdblgobmofgaaGreatDoorPkP2
namespace Go.Proofs.YtckdblgobmofgaaGreatDoor
section
open Go.RowKit
set_option maxRecDepth 100000
theorem peek_at_nil {a:Prt} {k:Nat} (h:a.buffer.getD k []=[]):a.peek (k:Int)=none:=by
 unfold Prt.peek
 split
 ·rw [Int.toNat_natCast,h];rfl
 ·rfl
theorem run_idxE0 (a b c d e f g a' b' c' d' e' f' g':Value) (w:World):(Instr.index 99 (.agg #[a,b,c,d,e,f,g,a',b',c',d',e',f',g']) (.int .i64 0)).run Tryz.prog w=.ok (.agg #[a,b,c,d,e,f,g]) w:=rfl
theorem run_idxE1 (a b c d e f g a' b' c' d' e' f' g':Value) (w:World):(Instr.index 99 (.agg #[a,b,c,d,e,f,g,a',b',c',d',e',f',g']) (.int .i64 1)).run Tryz.prog w=.ok (.agg #[a',b',c',d',e',f',g']) w:=rfl
section
variable {Z:BS} {W w:World} {ts:List Th} {p N:Nat} {L:Lk} {Zp:Prop}
set_option maxHeartbeats 32000000 in
theorem quiet_c (hF:L.Full N Zp) (hN:N<=1000000000) (h:Held (fun _=>False) Z W (tLink p L::ts) w) :
  Calls Tryz.prog 25 #[.pointer (some ⟨p,0,none⟩)] w fun e w'=>∃b:Bool,(b=true↔L.Quiet)/\e=.returned (.bool b)/\Held (fun _=>False) Z W (tLink p L::ts) w':=by
 obtain ⟨cs,v,u,e1,e2,e3,h0⟩:=h.link
 obtain ⟨pp,sp,cp,ov,tv,nv⟩:=v
 obtain ⟨pq,sq,cq,ow,tw,nw⟩:=u
 obtain ⟨_,_,s6⟩:=h0.get 6 rfl
 obtain ⟨_,_,s12⟩:=h0.get 12 rfl
 obtain ⟨na,nc,rfl,n1,n2,_⟩:=Sq.le (show Sq eNat 3 w _ _ nv L.l.since from s6)
 obtain ⟨ma,mc,rfl,m1,m2,_⟩:=Sq.le (show Sq eNat 3 w _ _ nw L.r.since from s12)
 obtain ⟨c0,c1,c2,c3,c4,c5,c6⟩:=end_cells0 e1 (h0.blk 0 rfl)
 obtain ⟨d0,d1,d2,d3,d4,d5,d6⟩:=end_cells7 e2 (h0.blk 0 rfl)
 have HOL:=Lib.hid (show L.l.prt.Ok N/\L.l.since.length=L.l.prt.rooms.length by obtain ⟨wl,wr,oa,ga,pa,ob,gb,pb,da,db,i,_⟩:=hF;exact ⟨i.l.ok,i.l.sl⟩)
 have HOR:=Lib.hid (show L.r.prt.Ok N/\L.r.since.length=L.r.prt.rooms.length by obtain ⟨wl,wr,oa,ga,pa,ob,gb,pb,da,db,i,_⟩:=hF;exact ⟨i.r.ok,i.r.sl⟩)
 have E1:=Lib.hid e1
 have E2:=Lib.hid e2
 have E3:=Lib.hid e3
 have H0:=Lib.hid h0
 obtain ⟨_,_,s4⟩:=h0.get 4 rfl
 obtain ⟨_,_,s5⟩:=h0.get 5 rfl
 obtain ⟨_,_,s10⟩:=h0.get 10 rfl
 obtain ⟨_,_,s11⟩:=h0.get 11 rfl
 obtain ⟨oa,oc,hov,_⟩:=Sq.le (show Sq (eSq eBy 22) 37 w _ _ ov L.l.offered from s4)
 obtain ⟨ta,tc,htv,_⟩:=Sq.le (show Sq (eSq eBy 22) 37 w _ _ tv L.l.taken from s5)
 obtain ⟨ob,od,how,_⟩:=Sq.le (show Sq (eSq eBy 22) 37 w _ _ ow L.r.offered from s10)
 obtain ⟨tb,td,htw,_⟩:=Sq.le (show Sq (eSq eBy 22) 37 w _ _ tw L.r.taken from s11)
 generalize L.l.offered.length=lo1 at hov
 generalize L.l.taken.length=lo2 at htv
 generalize L.r.offered.length=lo3 at how
 generalize L.r.taken.length=lo4 at htw
 subst hov htv how htw
 unfold maxLen at n2 m2
 clear h h0 e1 e2 e3 hF s6 s12 s4 s5 s10 s11
 go_enter Tryz.func25,Tryz.ntmps25
 go_wp2_with fail
 go_loopw [18] (fun i wr=>Hid (Held (fun _=>False) Z W (tBlk p (lkRow cs)::(endThs L.l ⟨pp,sp,cp,.slice oa lo1 oc,.slice ta lo2 tc,.slice na L.l.since.length nc⟩++(endThs L.r ⟨pq,sq,cq,.slice ob lo3 od,.slice tb lo4 td,.slice ma L.r.since.length mc⟩++ts))) wr)/\(i=.int .i64 0\/(i=.int .i64 1/\Hid L.l.Quiet)\/(i=.int .i64 2/\Hid L.l.Quiet/\Hid L.r.Quiet))) (fun i _=>2 - (intOf i).toNat)
 case atStart=>exact ⟨H0,.inl rfl⟩
 case round=>
  clear H0 c0 c1 c2 c3 c4 c5 c6 d0 d1 d2 d3 d4 d5 d6
  obtain ⟨HK,rfl|⟨rfl,HQL⟩|⟨rfl,HQL,HQR⟩⟩:=hrel
  ·have hix:=run_idxE0 (.pointer (some ⟨pp,0,none⟩)) (.pointer (some ⟨sp,0,none⟩)) (.pointer (some ⟨cp,0,none⟩)) (.int .i64 (L.l.inc:Int)) (.slice oa lo1 oc) (.slice ta lo2 tc) (.slice na L.l.since.length nc) (.pointer (some ⟨pq,0,none⟩)) (.pointer (some ⟨sq,0,none⟩)) (.pointer (some ⟨cq,0,none⟩)) (.int .i64 (L.r.inc:Int)) (.slice ob lo3 od) (.slice tb lo4 td) (.slice ma L.r.since.length mc) wr
   go_wp2_with fail
   obtain ⟨w1,hw1⟩:∃w1,w1=wr.alloc (.cells #[.pointer (some ⟨pp,0,none⟩),.pointer (some ⟨sp,0,none⟩),.pointer (some ⟨cp,0,none⟩),.int .i64 (L.l.inc:Int),.slice oa lo1 oc,.slice ta lo2 tc,.slice na L.l.since.length nc] 98):=⟨_,rfl⟩
   have H1:=Lib.hid (show Held (fun _=>False) Z W (tBlk wr.heap.size (.cells #[.pointer (some ⟨pp,0,none⟩),.pointer (some ⟨sp,0,none⟩),.pointer (some ⟨cp,0,none⟩),.int .i64 (L.l.inc:Int),.slice oa lo1 oc,.slice ta lo2 tc,.slice na L.l.since.length nc] 98)::tBlk p (lkRow cs)::(endThs L.l ⟨pp,sp,cp,.slice oa lo1 oc,.slice ta lo2 tc,.slice na L.l.since.length nc⟩++(endThs L.r ⟨pq,sq,cq,.slice ob lo3 od,.slice tb lo4 td,.slice ma L.r.since.length mc⟩++ts))) w1 by rw [hw1];exact (HK.out.new _).front)
   rw [<-hw1]
   obtain ⟨xb,hxb⟩:∃xb,xb=wr.heap.size:=⟨_,rfl⟩
   rw [<-hxb] at H1 ⊢
   clear hw1 hxb HK hix
   refine (up_any H1.out 2 rfl).mono ?_
   rintro e w2 ⟨rfl,rfl⟩
   by_cases hu:L.l.prt.side.state=2
   ·rw [decide_eq_true hu]
    have HU:=Lib.hid hu
    have x6:=blk_cell (i:=6) (H1.out.blk 0 rfl) rfl
    clear hu
    go_wp2_with fail
    go_loopw [28] (fun i wr=>∃k:Nat,k<=L.l.since.length/\i=.int .i64 (k:Int)/\Hid (∀c,c < k->L.l.prt.buffer.getD c []=[]/\L.l.since.getD c 0<=L.l.prt.acked.getD c 0)/\Hid (Held (fun _=>False) Z W (tBlk xb (.cells #[.pointer (some ⟨pp,0,none⟩),.pointer (some ⟨sp,0,none⟩),.pointer (some ⟨cp,0,none⟩),.int .i64 (L.l.inc:Int),.slice oa lo1 oc,.slice ta lo2 tc,.slice na L.l.since.length nc] 98)::tBlk p (lkRow cs)::(endThs L.l ⟨pp,sp,cp,.slice oa lo1 oc,.slice ta lo2 tc,.slice na L.l.since.length nc⟩++(endThs L.r ⟨pq,sq,cq,.slice ob lo3 od,.slice tb lo4 td,.slice ma L.r.since.length mc⟩++ts))) wr)) (fun i _=>L.l.since.length - (intOf i).toNat)
    case atStart=>exact ⟨0,by omega,by go_num,Lib.hid (fun c hc=>by omega),H1⟩
    case round=>
     clear H1 x6
     obtain ⟨k,hk,rfl,HA,HO⟩:=hrel
     by_cases hlt:k < L.l.since.length
     ·have x0:=blk_cell (i:=0) (HO.out.blk 0 rfl) rfl
      obtain ⟨_,_,hs⟩:=HO.out.get 7 rfl
      obtain ⟨b,off,e,hc⟩:=nat_at (show Sq eNat 3 wr _ _ (.slice na L.l.since.length nc) L.l.since from hs) (getD_of (d:=0) hlt)
      have hkr:k < L.l.prt.rooms.length:=by have:=HOL.out.2;omega
      have HKR:=Lib.hid hkr
      subst e
      have HX:=Lib.hid (show L.l.since.getD k 0=L.l.since.getD k 0 from rfl)
      generalize hgx:L.l.since.getD k 0=s at *
      have HGX:=Lib.hid hgx
      clear hs hkr hgx HX
      go_wp2_with fail
      refine (counts_any HO.out 2 rfl HOL.out.1 hN k HKR.out).mono ?_
      rintro e w3 ⟨rfl,h3⟩
      have H3:=Lib.hid h3
      clear h3 HO x0 hc
      have x0:=blk_cell (i:=0) (H3.out.blk 0 rfl) rfl
      generalize hga:L.l.prt.acked.getD k 0=q1 at *
      generalize L.l.prt.received.getD k 0=q2 at *
      generalize L.l.prt.taken.getD k 0=q3 at *
      have HGA:=Lib.hid hga
      clear hga
      go_wp2_with fail
      cases hb:L.l.prt.buffer.getD k [] with
      |nil=>
       refine (peek_no H3.out 2 rfl HOL.out.1 (k:Int) (peek_at_nil hb)).mono ?_
       rintro e w4 ⟨rfl,rfl⟩
       have HB:=Lib.hid hb
       clear hb
       by_cases hq:s<=q1
       ·have hd:¬q1 < s:=by omega
        have HQ:=Lib.hid hq
        clear hq
        go_wp2_with fail
        go_roundw
        case rel=>exact ⟨k+1,by omega,by go_num,Lib.hid (fun c hc=>by
         by_cases e:c=k
         ·subst e;rw [HB.out,HGX.out,HGA.out];exact ⟨rfl,HQ.out⟩
         ·exact HA.out c (by omega)),H3⟩
        case measure=>simp [intOf];omega
       ·have hd:q1 < s:=by omega
        have HQ:=Lib.hid hq
        clear hq
        go_wp2_with fail
        go_ret
        exact ⟨false,⟨fun e=>(by cases e),fun q=>absurd (q.1.2 k HKR.out).2 (by rw [HGX.out,HGA.out];exact HQ.out)⟩,rfl,H3.out.tail.link_shut E1.out E2.out E3.out⟩
      |cons d l=>
       refine (peek_yes H3.out 2 rfl HOL.out.1 hN k HKR.out d l hb).mono ?_
       rintro e w4 ⟨dv,rfl,h4⟩
       have H4:=Lib.hid h4.front.tail
       have HB:=Lib.hid hb
       clear hb h4
       go_wp2_with fail
       go_ret
       exact ⟨false,⟨fun e=>(by cases e),fun q=>absurd (q.1.2 k HKR.out).1 (by rw [HB.out];simp)⟩,rfl,H4.out.tail.link_shut E1.out E2.out E3.out⟩
     ·obtain rfl:k=L.l.since.length:=by omega
      go_wp2_with fail
      go_roundw
      case rel=>exact ⟨Lib.hid HO.out.tail,.inr (.inl ⟨by go_num,Lib.hid ⟨HU.out,fun c hc=>HA.out c (by have:=HOL.out.2;omega)⟩⟩)⟩
      case measure=>simp [intOf]
   ·rw [decide_eq_false hu]
    have HU:=Lib.hid hu
    clear hu
    go_wp2_with fail
    go_ret
    exact ⟨false,⟨fun e=>(by cases e),fun q=>absurd q.1.1 HU.out⟩,rfl,H1.out.tail.link_shut E1.out E2.out E3.out⟩
  ·have hix:=run_idxE1 (.pointer (some ⟨pp,0,none⟩)) (.pointer (some ⟨sp,0,none⟩)) (.pointer (some ⟨cp,0,none⟩)) (.int .i64 (L.l.inc:Int)) (.slice oa lo1 oc) (.slice ta lo2 tc) (.slice na L.l.since.length nc) (.pointer (some ⟨pq,0,none⟩)) (.pointer (some ⟨sq,0,none⟩)) (.pointer (some ⟨cq,0,none⟩)) (.int .i64 (L.r.inc:Int)) (.slice ob lo3 od) (.slice tb lo4 td) (.slice ma L.r.since.length mc) wr
   go_wp2_with fail
   obtain ⟨w1,hw1⟩:∃w1,w1=wr.alloc (.cells #[.pointer (some ⟨pq,0,none⟩),.pointer (some ⟨sq,0,none⟩),.pointer (some ⟨cq,0,none⟩),.int .i64 (L.r.inc:Int),.slice ob lo3 od,.slice tb lo4 td,.slice ma L.r.since.length mc] 98):=⟨_,rfl⟩
   have H1:=Lib.hid (show Held (fun _=>False) Z W (tBlk wr.heap.size (.cells #[.pointer (some ⟨pq,0,none⟩),.pointer (some ⟨sq,0,none⟩),.pointer (some ⟨cq,0,none⟩),.int .i64 (L.r.inc:Int),.slice ob lo3 od,.slice tb lo4 td,.slice ma L.r.since.length mc] 98)::tBlk p (lkRow cs)::(endThs L.l ⟨pp,sp,cp,.slice oa lo1 oc,.slice ta lo2 tc,.slice na L.l.since.length nc⟩++(endThs L.r ⟨pq,sq,cq,.slice ob lo3 od,.slice tb lo4 td,.slice ma L.r.since.length mc⟩++ts))) w1 by rw [hw1];exact (HK.out.new _).front)
   rw [<-hw1]
   obtain ⟨xb,hxb⟩:∃xb,xb=wr.heap.size:=⟨_,rfl⟩
   rw [<-hxb] at H1 ⊢
   clear hw1 hxb HK hix
   refine (up_any H1.out 8 rfl).mono ?_
   rintro e w2 ⟨rfl,rfl⟩
   by_cases hu:L.r.prt.side.state=2
   ·rw [decide_eq_true hu]
    have HU:=Lib.hid hu
    have x6:=blk_cell (i:=6) (H1.out.blk 0 rfl) rfl
    clear hu
    go_wp2_with fail
    go_loopw [28] (fun i wr=>∃k:Nat,k<=L.r.since.length/\i=.int .i64 (k:Int)/\Hid (∀c,c < k->L.r.prt.buffer.getD c []=[]/\L.r.since.getD c 0<=L.r.prt.acked.getD c 0)/\Hid (Held (fun _=>False) Z W (tBlk xb (.cells #[.pointer (some ⟨pq,0,none⟩),.pointer (some ⟨sq,0,none⟩),.pointer (some ⟨cq,0,none⟩),.int .i64 (L.r.inc:Int),.slice ob lo3 od,.slice tb lo4 td,.slice ma L.r.since.length mc] 98)::tBlk p (lkRow cs)::(endThs L.l ⟨pp,sp,cp,.slice oa lo1 oc,.slice ta lo2 tc,.slice na L.l.since.length nc⟩++(endThs L.r ⟨pq,sq,cq,.slice ob lo3 od,.slice tb lo4 td,.slice ma L.r.since.length mc⟩++ts))) wr)) (fun i _=>L.r.since.length - (intOf i).toNat)
    case atStart=>exact ⟨0,by omega,by go_num,Lib.hid (fun c hc=>by omega),H1⟩
    case round=>
     clear H1 x6
     obtain ⟨k,hk,rfl,HA,HO⟩:=hrel
     by_cases hlt:k < L.r.since.length
     ·have x0:=blk_cell (i:=0) (HO.out.blk 0 rfl) rfl
      obtain ⟨_,_,hs⟩:=HO.out.get 13 rfl
      obtain ⟨b,off,e,hc⟩:=nat_at (show Sq eNat 3 wr _ _ (.slice ma L.r.since.length mc) L.r.since from hs) (getD_of (d:=0) hlt)
      have hkr:k < L.r.prt.rooms.length:=by have:=HOR.out.2;omega
      have HKR:=Lib.hid hkr
      subst e
      have HX:=Lib.hid (show L.r.since.getD k 0=L.r.since.getD k 0 from rfl)
      generalize hgx:L.r.since.getD k 0=s at *
      have HGX:=Lib.hid hgx
      clear hs hkr hgx HX
      go_wp2_with fail
      refine (counts_any HO.out 8 rfl HOR.out.1 hN k HKR.out).mono ?_
      rintro e w3 ⟨rfl,h3⟩
      have H3:=Lib.hid h3
      clear h3 HO x0 hc
      have x0:=blk_cell (i:=0) (H3.out.blk 0 rfl) rfl
      generalize hga:L.r.prt.acked.getD k 0=q1 at *
      generalize L.r.prt.received.getD k 0=q2 at *
      generalize L.r.prt.taken.getD k 0=q3 at *
      have HGA:=Lib.hid hga
      clear hga
      go_wp2_with fail
      cases hb:L.r.prt.buffer.getD k [] with
      |nil=>
       refine (peek_no H3.out 8 rfl HOR.out.1 (k:Int) (peek_at_nil hb)).mono ?_
       rintro e w4 ⟨rfl,rfl⟩
       have HB:=Lib.hid hb
       clear hb
       by_cases hq:s<=q1
       ·have hd:¬q1 < s:=by omega
        have HQ:=Lib.hid hq
        clear hq
        go_wp2_with fail
        go_roundw
        case rel=>exact ⟨k+1,by omega,by go_num,Lib.hid (fun c hc=>by
         by_cases e:c=k
         ·subst e;rw [HB.out,HGX.out,HGA.out];exact ⟨rfl,HQ.out⟩
         ·exact HA.out c (by omega)),H3⟩
        case measure=>simp [intOf];omega
       ·have hd:q1 < s:=by omega
        have HQ:=Lib.hid hq
        clear hq
        go_wp2_with fail
        go_ret
        exact ⟨false,⟨fun e=>(by cases e),fun q=>absurd (q.2.2 k HKR.out).2 (by rw [HGX.out,HGA.out];exact HQ.out)⟩,rfl,H3.out.tail.link_shut E1.out E2.out E3.out⟩
      |cons d l=>
       refine (peek_yes H3.out 8 rfl HOR.out.1 hN k HKR.out d l hb).mono ?_
       rintro e w4 ⟨dv,rfl,h4⟩
       have H4:=Lib.hid h4.front.tail
       have HB:=Lib.hid hb
       clear hb h4
       go_wp2_with fail
       go_ret
       exact ⟨false,⟨fun e=>(by cases e),fun q=>absurd (q.2.2 k HKR.out).1 (by rw [HB.out];simp)⟩,rfl,H4.out.tail.link_shut E1.out E2.out E3.out⟩
     ·obtain rfl:k=L.r.since.length:=by omega
      go_wp2_with fail
      go_roundw
      case rel=>exact ⟨Lib.hid HO.out.tail,.inr (.inr ⟨by go_num,HQL,Lib.hid ⟨HU.out,fun c hc=>HA.out c (by have:=HOR.out.2;omega)⟩⟩)⟩
      case measure=>simp [intOf]
   ·rw [decide_eq_false hu]
    have HU:=Lib.hid hu
    clear hu
    go_wp2_with fail
    go_ret
    exact ⟨false,⟨fun e=>(by cases e),fun q=>absurd q.2.1 HU.out⟩,rfl,H1.out.tail.link_shut E1.out E2.out E3.out⟩
  ·go_wp2_with fail
   go_ret
   exact ⟨true,⟨fun _=>⟨HQL.out,HQR.out⟩,fun _=>rfl⟩,rfl,HK.out.link_shut E1.out E2.out E3.out⟩
end
end
end Go.Proofs.YtckdblgobmofgaaGreatDoor
