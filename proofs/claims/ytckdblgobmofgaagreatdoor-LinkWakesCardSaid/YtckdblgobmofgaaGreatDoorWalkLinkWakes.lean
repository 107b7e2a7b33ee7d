/- The walk of LinkWakes. -/
import Derived.Test.YtckdblgobmofgaaGreatDoorLsI
import Derived.Test.YtckdblgobmofgaaGreatDoorLsW
import Derived.Test.YtckdblgobmofgaaGreatDoorIntU
namespace Go.Proofs.YtckdblgobmofgaaGreatDoor
section
open Go.RowKit
set_option maxRecDepth 100000
def s0 (s:RSet):RSet:=⟨s.a,s.b,s.delay,[],[]⟩
section
variable {F Z:BS} {W w:World} {ts:List Th}
theorem Held.nils (h:Held F Z W ts w) (i:Nat) {p:Nat} {s:RSet} {aa ba ta ya:Option Addr} {ak bk tk yk:Nat} (hi:ts[i]? = some (tBlk p (setO s aa ak ba bk ta tk ya yk))) :
  Held F Z W (ts.set i (tBlk p (setO (s0 s) aa ak ba bk none 0 none 0))) ((w.setCell ⟨p,11,none⟩ (.slice none 0 0)).setCell ⟨p,12,none⟩ (.slice none 0 0)):=
 h.set i hi _ (by (repeat (first|(with_reducible exact Fr.refl _ _)|exact Or.inl rfl|(with_reducible refine Fr.setCell ?_ ?_ _)|(with_reducible refine Fr.drewN ?_ _)|(with_reducible refine Fr.drew ?_)))) (by have h1:=h.blk i hi;(apply row_trans;focus (repeat (first|(with_reducible exact h1)|(with_reducible apply row_set)|(with_reducible apply row_drewN)|(with_reducible apply row_drew))));rfl)
end
theorem idle_N {D n:Nat} (h6:D<=6) (hn:n<=2*D+2+30):200+13000*n<=1000000:=by omega
set_option maxHeartbeats 32000000 in
theorem walkLinkWakes (W:World) (v0 v1:Value) (o0:IsSet W v0) (o1:IsInt .u8 v1) (ht:Tabs W) :
  Calls Tryz.prog 5 #[v0,v1] W fun e w'=>e=.returned (.bool true)/\Below W.heap.size W w':=by
 obtain ⟨s,aa,ak,ba,bk,ta,tk,ya,yk,rfl,r1,r2,r3,r4⟩:=o0
 obtain ⟨more,rfl,hmore⟩:=int_u8' o1
 obtain ⟨q,hq⟩:∃m,m=more % 30:=⟨_,rfl⟩
 have hq30:q < 30:=by omega
 have t1:(more:Int).tmod 30=(q:Int):=by rw [hq,Int.tmod_eq_emod_of_nonneg (by omega)];rfl
 have t1':(more:Int) % 30=(q:Int):=by rw [hq];rfl
 have hwm:IntKind.i64.wrap (more:Int)=(more:Int):=IntWalk.i64_in _ (by omega)
 have H0:=Lib.hid (((((((Held.start0 (fun _=>False) (Old W) (fun _ f _=>f) W).addOld (T:=tRd (eInt .i64) (.slice aa s.a.rooms.length ak) s.a.rooms) (RdS.mono r1 fun _ h=>⟨h,id⟩)).addOld (T:=tRd (eInt .i64) (.slice ba s.b.rooms.length bk) s.b.rooms) (RdS.mono r2 fun _ h=>⟨h,id⟩)).add (Below.refl _ _) (T:=tRd eFlt (.slice none 0 0) []) (RdS.nil _ _ _)).add (Below.refl _ _) (T:=tRd eFlt (.slice none 0 0) []) (RdS.nil _ _ _)).add (Below.refl _ _) (T:=tRd eEvt (.slice none 0 0) []) (RdS.nil _ _ _)).new (setO s aa ak ba bk ta tk ya yk))
 have HT:=Lib.hid ht
 clear r1 r2 r3 r4 ht hq
 go_enter Tryz.func5,Tryz.ntmps5
 go_wp2_with fail
 refine (awake_c _ (HT.out.below H0.out.below)).mono ?_
 rintro e w1 ⟨rfl,hb⟩
 have H1:=Lib.hid (H0.out.own hb)
 have hrow:=H1.out.blk 5 rfl
 obtain ⟨x0,x1,x2,x3,x4,x5,x6,x7,x8,x9,x10,x11,x12⟩:=set_cells hrow
 have xf:=fun i=>blk_free hrow i
 have hsz:=lt_of_block hrow
 clear hb H0 hrow
 go_wp2_with fail
 obtain ⟨w2,hw2⟩:∃w2,w2=(w1.setCell ⟨W.heap.size,11,none⟩ (.slice none 0 0)).setCell ⟨W.heap.size,12,none⟩ (.slice none 0 0):=⟨_,rfl⟩
 have H2':=Lib.hid (show Held (fun _=>False) (Old W) W [tRd (eInt .i64) (.slice aa s.a.rooms.length ak) s.a.rooms,tRd (eInt .i64) (.slice ba s.b.rooms.length bk) s.b.rooms,tRd eFlt (.slice none 0 0) [],tRd eFlt (.slice none 0 0) [],tRd eEvt (.slice none 0 0) [],tBlk W.heap.size (setO (s0 s) aa ak ba bk none 0 none 0)] w2 by rw [hw2];exact H1.out.nils 5 rfl)
 rw [<-hw2]
 obtain ⟨ts,hts⟩:∃ts,ts=[tRd (eInt .i64) (.slice aa s.a.rooms.length ak) s.a.rooms,tRd (eInt .i64) (.slice ba s.b.rooms.length bk) s.b.rooms,tRd eFlt (.slice none 0 0) [],tRd eFlt (.slice none 0 0) [],tRd eEvt (.slice none 0 0) [],tBlk W.heap.size (setO (s0 s) aa ak ba bk none 0 none 0)]:=⟨_,rfl⟩
 have H2:=Lib.hid (show Held (fun _=>False) (Old W) W ts w2 by rw [hts];exact H2'.out)
 have QS:=Lib.hid (show SetAt ts 0 (s0 s) aa ak ba bk none 0 none 0 by rw [hts];exact ⟨rfl,rfl,rfl,rfl⟩)
 have QB:=Lib.hid (show ts[5]? = some (tBlk W.heap.size (setO (s0 s) aa ak ba bk none 0 none 0)) by rw [hts];rfl)
 have HTE:=Lib.hid (show ts[4]? = some (tRd eEvt (.slice none 0 0) []) by rw [hts];rfl)
 clear x0 x1 x2 x3 x4 x5 x6 x7 x8 x9 x10 x11 x12 xf hsz H1 H2' hts hw2
 by_cases hs:Small (s0 s)
 ·refine (run_yes 0 QS.out hs H2.out).mono ?_
  rintro e w3 ⟨p,rfl,h3⟩
  have H3:=Lib.hid h3
  clear h3 H2
  obtain ⟨D,hD⟩:∃D:Nat,s.delay=(D:Int):=⟨s.delay.toNat,by have:=hs.2.2.1;have:1<=s.delay:=this;omega⟩
  have hD1:1<=D:=by have:1<=s.delay:=hs.2.2.1;omega
  have hD6:D<=6:=by have:s.delay<=6:=hs.2.2.2.1;omega
  have hm1:IntKind.i64.wrap (2*(D:Int))=2*(D:Int):=IntWalk.i64_in _ (by omega)
  have hm2:IntKind.i64.wrap (2*(D:Int)+2)=((2*D+2:Nat):Int):=(IntWalk.i64_in _ (by omega)).trans (by omega)
  have HF:=Lib.hid hs.full
  have HUP:=Lib.hid (show ∀n,2*D+1<=n->n<=60->((s0 s).lk.idle n).l.prt.side.state=2/\((s0 s).lk.idle n).r.prt.side.state=2 from fun n h1 h2=>by
   have hdd:(s0 s).delay.toNat=D:=by show s.delay.toNat=D;omega
   have:=newLk_up (n:=n) hs.1.ok hs.2.1.ok hD1 hD6 (by have:3<=s.a.d:=hs.2.2.2.2.1;show 2<=s.a.d.toNat;omega) (by have:3<=s.b.d:=hs.2.2.2.2.2.1;show 2<=s.b.d.toNat;omega) h1 h2
   show (RSet.lk (s0 s) |>.idle n).l.prt.side.state=2/\_
   unfold RSet.lk
   rw [hdd]
   exact this)
  have HBR:=Lib.hid (show ∀n,((s0 s).lk.idle n).Bare from fun n=>idle_bare (newLk_bare _ _ _ _ _) n)
  obtain ⟨x0,x1,x2,x3,x4,x5,x6,x7,x8,x9,x10,x11,x12⟩:=set_cells (H3.out.blk 6 QB.out)
  have x10':w3.cell? ⟨W.heap.size,10,none⟩=some (.int .i64 (D:Int)):=by rw [<-hD];exact x10
  clear x0 x1 x2 x3 x4 x5 x6 x7 x8 x9 x10 x11 x12 hs
  have HDD:=Lib.hid hD
  clear hD
  go_wp2_with fail
  go_loopw [21] (fun i wr=>∃n:Nat,n<=2*D+2/\i=.int .i64 (n:Int)/\Hid (Held (fun _=>False) (Old W) W (tLink p ((s0 s).lk.idle n)::ts) wr)) (fun i _=>2*D+2 - (intOf i).toNat)
  case atStart=>exact ⟨0,by omega,rfl,H3⟩
  case round=>
   clear H3 x10'
   obtain ⟨n,hn,rfl,HO⟩:=hrel
   by_cases hlt:n < 2*D+2
   ·have hlt':(n:Int) < ((2*D+2:Nat):Int):=by omega
    have HFT:=Lib.hid ((idle_full HF.out n).mono (Y:=True) (idle_N hD6 (by omega)) id)
    have HFN:=Lib.hid (HFT.out.mono (Y:=False) (Nat.le_refl _) False.elim)
    go_wp2_with fail
    refine (quiet_c HFT.out (by decide) HO.out).mono ?_
    rintro e w4 ⟨b,hb,rfl,h3⟩
    have H3:=Lib.hid h3
    have hbq:=hb.trans (bare_quiet HFT.out (HBR.out n))
    clear h3 HO hb
    by_cases hu1:((s0 s).lk.idle n).l.prt.side.state=2
    ·have HU1:=Lib.hid hu1
     by_cases hu2:((s0 s).lk.idle n).r.prt.side.state=2
     ·have HU2:=Lib.hid hu2
      obtain rfl:b=true:=hbq.2 ⟨hu1,hu2⟩
      clear hu1 hu2 hbq
      obtain ⟨cs,v,u,e1,e2,e3,h4⟩:=H3.out.link
      have E1:=Lib.hid e1
      have E2:=Lib.hid e2
      have E3:=Lib.hid e3
      have H4:=Lib.hid h4
      clear e1 e2 e3 h4
      go_wp2_with fail
      refine (port_o E1.out E2.out H4.out 0 (by decide)).mono ?_
      rintro e w5 ⟨rfl,rfl⟩
      go_wp2_with fail
      refine (up_any H4.out 1 rfl).mono ?_
      rintro e w5 ⟨rfl,rfl⟩
      rw [decide_eq_true HU1.out]
      go_wp2_with fail
      refine (port_o E1.out E2.out H4.out 1 (by decide)).mono ?_
      rintro e w5 ⟨rfl,rfl⟩
      go_wp2_with fail
      refine (up_any H4.out 7 rfl).mono ?_
      rintro e w5 ⟨rfl,rfl⟩
      rw [decide_eq_true HU2.out]
      have H9:=Lib.hid (H4.out.link_shut E1.out E2.out E3.out)
      clear H4 E1 E2 E3
      go_wp2_with fail
      refine (tickL_c (ts:=ts) HFN.out (by decide) [] (by decide) (by simp) (by simp) (.slice none 0 0) 4 HTE.out HT.out H9.out).mono ?_
      rintro e w6 ⟨a6,c6,rfl,h6⟩
      have H7:=Lib.hid (show Held (fun _=>False) (Old W) W (tLink p ((s0 s).lk.idle (n+1))::ts) w6 from h6.tail)
      clear h6 H9
      go_wp2_with fail
      go_roundw
      case rel=>exact ⟨n+1,by omega,by go_num,H7⟩
      case measure=>simp [intOf];omega
     ·have HU2:=Lib.hid hu2
      obtain rfl:b=false:=Bool.eq_false_iff.2 fun h=>hu2 (hbq.1 h).2
      clear hu1 hu2 hbq
      obtain ⟨cs,v,u,e1,e2,e3,h4⟩:=H3.out.link
      have E1:=Lib.hid e1
      have E2:=Lib.hid e2
      have E3:=Lib.hid e3
      have H4:=Lib.hid h4
      clear e1 e2 e3 h4
      go_wp2_with fail
      refine (port_o E1.out E2.out H4.out 0 (by decide)).mono ?_
      rintro e w5 ⟨rfl,rfl⟩
      go_wp2_with fail
      refine (up_any H4.out 1 rfl).mono ?_
      rintro e w5 ⟨rfl,rfl⟩
      rw [decide_eq_true HU1.out]
      go_wp2_with fail
      refine (port_o E1.out E2.out H4.out 1 (by decide)).mono ?_
      rintro e w5 ⟨rfl,rfl⟩
      go_wp2_with fail
      refine (up_any H4.out 7 rfl).mono ?_
      rintro e w5 ⟨rfl,rfl⟩
      rw [decide_eq_false HU2.out]
      have H9:=Lib.hid (H4.out.link_shut E1.out E2.out E3.out)
      clear H4 E1 E2 E3
      go_wp2_with fail
      refine (tickL_c (ts:=ts) HFN.out (by decide) [] (by decide) (by simp) (by simp) (.slice none 0 0) 4 HTE.out HT.out H9.out).mono ?_
      rintro e w6 ⟨a6,c6,rfl,h6⟩
      have H7:=Lib.hid (show Held (fun _=>False) (Old W) W (tLink p ((s0 s).lk.idle (n+1))::ts) w6 from h6.tail)
      clear h6 H9
      go_wp2_with fail
      go_roundw
      case rel=>exact ⟨n+1,by omega,by go_num,H7⟩
      case measure=>simp [intOf];omega
    ·have HU1:=Lib.hid hu1
     obtain rfl:b=false:=Bool.eq_false_iff.2 fun h=>hu1 (hbq.1 h).1
     clear hu1 hbq
     obtain ⟨cs,v,u,e1,e2,e3,h4⟩:=H3.out.link
     have E1:=Lib.hid e1
     have E2:=Lib.hid e2
     have E3:=Lib.hid e3
     have H4:=Lib.hid h4
     clear e1 e2 e3 h4
     go_wp2_with fail
     refine (port_o E1.out E2.out H4.out 0 (by decide)).mono ?_
     rintro e w5 ⟨rfl,rfl⟩
     go_wp2_with fail
     refine (up_any H4.out 1 rfl).mono ?_
     rintro e w5 ⟨rfl,rfl⟩
     rw [decide_eq_false HU1.out]
     have H9:=Lib.hid (H4.out.link_shut E1.out E2.out E3.out)
     clear H4 E1 E2 E3
     go_wp2_with fail
     refine (tickL_c (ts:=ts) HFN.out (by decide) [] (by decide) (by simp) (by simp) (.slice none 0 0) 4 HTE.out HT.out H9.out).mono ?_
     rintro e w6 ⟨a6,c6,rfl,h6⟩
     have H7:=Lib.hid (show Held (fun _=>False) (Old W) W (tLink p ((s0 s).lk.idle (n+1))::ts) w6 from h6.tail)
     clear h6 H9
     go_wp2_with fail
     go_roundw
     case rel=>exact ⟨n+1,by omega,by go_num,H7⟩
     case measure=>simp [intOf];omega
   ·have HNE:=Lib.hid (show n=2*D+2 by omega)
    have hge:¬((n:Int) < ((2*D+2:Nat):Int)):=by omega
    have H3:=HO
    clear HO
    go_wp2_with fail
    try simp only [t1,t1',hwm]
    go_loopw [40] (fun i wr=>∃m:Nat,m<=q/\i=.int .i64 (m:Int)/\Hid (Held (fun _=>False) (Old W) W (tLink p ((s0 s).lk.idle (n+m))::ts) wr)) (fun i _=>q - (intOf i).toNat)
    case atStart=>exact ⟨0,by omega,rfl,H3⟩
    case round=>
     clear H3
     obtain ⟨m,hm,rfl,HO⟩:=hrel
     have HU1:=Lib.hid (HUP.out (n+m) (by have:=HNE.out;omega) (by have:=HNE.out;omega)).1
     have HU2:=Lib.hid (HUP.out (n+m) (by have:=HNE.out;omega) (by have:=HNE.out;omega)).2
     by_cases hlm:m < q
     ·have hlmI:(m:Int) < (q:Int):=by omega
      have HFT:=Lib.hid ((idle_full HF.out (n+m)).mono (Y:=True) (idle_N hD6 (by have:=HNE.out;omega)) id)
      have HFN:=Lib.hid (HFT.out.mono (Y:=False) (Nat.le_refl _) False.elim)
      have H3:=HO
      clear HO
      obtain ⟨cs,v,u,e1,e2,e3,h4⟩:=H3.out.link
      have E1:=Lib.hid e1
      have E2:=Lib.hid e2
      have E3:=Lib.hid e3
      have H4:=Lib.hid h4
      clear e1 e2 e3 h4
      go_wp2_with fail
      refine (port_o E1.out E2.out H4.out 0 (by decide)).mono ?_
      rintro e w5 ⟨rfl,rfl⟩
      go_wp2_with fail
      refine (up_any H4.out 1 rfl).mono ?_
      rintro e w5 ⟨rfl,rfl⟩
      rw [decide_eq_true HU1.out]
      go_wp2_with fail
      refine (port_o E1.out E2.out H4.out 1 (by decide)).mono ?_
      rintro e w5 ⟨rfl,rfl⟩
      go_wp2_with fail
      refine (up_any H4.out 7 rfl).mono ?_
      rintro e w5 ⟨rfl,rfl⟩
      rw [decide_eq_true HU2.out]
      have H8:=Lib.hid (H4.out.link_shut E1.out E2.out E3.out)
      clear H4 E1 E2 E3
      go_wp2_with fail
      refine (quiet_c HFT.out (by decide) H8.out).mono ?_
      rintro e w4 ⟨b,hb,rfl,h3⟩
      obtain rfl:b=true:=hb.2 ((bare_quiet HFT.out (HBR.out _)).2 ⟨HU1.out,HU2.out⟩)
      have H9:=Lib.hid h3
      clear h3 H8 hb
      go_wp2_with fail
      refine (tickL_c (ts:=ts) HFN.out (by decide) [] (by decide) (by simp) (by simp) (.slice none 0 0) 4 HTE.out HT.out H9.out).mono ?_
      rintro e w6 ⟨a6,c6,rfl,h6⟩
      have H7:=Lib.hid (show Held (fun _=>False) (Old W) W (tLink p ((s0 s).lk.idle ((n+m)+1))::ts) w6 from h6.tail)
      clear h6 H9
      go_wp2_with fail
      go_roundw
      case rel=>exact ⟨m+1,by omega,by go_num,H7⟩
      case measure=>simp [intOf];omega
     ·obtain rfl:m=q:=by omega
      have H3:=HO
      clear HO
      obtain ⟨cs,v,u,e1,e2,e3,h4⟩:=H3.out.link
      have E1:=Lib.hid e1
      have E2:=Lib.hid e2
      have E3:=Lib.hid e3
      have H4:=Lib.hid h4
      clear e1 e2 e3 h4
      go_wp2_with fail
      refine (port_o E1.out E2.out H4.out 0 (by decide)).mono ?_
      rintro e w5 ⟨rfl,rfl⟩
      go_wp2_with fail
      refine (up_any H4.out 1 rfl).mono ?_
      rintro e w5 ⟨rfl,rfl⟩
      rw [decide_eq_true HU1.out]
      go_wp2_with fail
      refine (port_o E1.out E2.out H4.out 1 (by decide)).mono ?_
      rintro e w5 ⟨rfl,rfl⟩
      go_wp2_with fail
      refine (up_any H4.out 7 rfl).mono ?_
      rintro e w5 ⟨rfl,rfl⟩
      rw [decide_eq_true HU2.out]
      have H9:=Lib.hid (H4.out.link_shut E1.out E2.out E3.out)
      clear H4 E1 E2 E3
      go_wp2_with fail
      go_ret
      exact ⟨rfl,H9.out.below⟩
 ·refine (run_no 0 QS.out hs H2.out).mono ?_
  rintro e w3 ⟨rfl,hb⟩
  have H3:=Lib.hid (H2.out.own hb)
  clear hb H2
  obtain ⟨x0,x1,x2,x3,x4,x5,x6,x7,x8,x9,x10,x11,x12⟩:=set_cells (H3.out.blk 5 QB.out)
  go_wp2_with fail
  refine (QS.out.small H3.out).mono ?_
  rw [decide_eq_false hs]
  rintro e w4 ⟨rfl,hb⟩
  have H4:=Lib.hid (H3.out.own hb)
  clear hb
  go_wp2_with fail
  go_ret
  exact ⟨rfl,H4.out.below⟩
end
end Go.Proofs.YtckdblgobmofgaaGreatDoor
