/- The walk of LinkCompletes. -/
import Derived.Test.YtckdblgobmofgaaGreatDoorLsP
import Derived.Test.YtckdblgobmofgaaGreatDoorLsH
namespace Go.Proofs.YtckdblgobmofgaaGreatDoor
section
open Go.RowKit
set_option maxRecDepth 100000
theorem most_small {a n T D:Nat} (ha:a<=n) (hn:n<=156) (hT:T<=40) (hD:D<=6):(a+4)*(T+4*D+12)+800<=1000000:=by
 have:=Nat.mul_le_mul (show a+4<=160 by omega) (show T+4*D+12<=76 by omega)
 omega
set_option maxHeartbeats 32000000 in
theorem walkLinkCompletes (W:World) (v0 v1:Value) (o0:IsSet W v0) (o1:IsSl (rSlice rEvt) W v1) (ht:Tabs W) :
  Calls Tryz.prog 9 #[v0,v1] W fun e w'=>e=.returned (.bool true)/\Below W.heap.size W w':=by
 obtain ⟨s,aa,ak,ba,bk,ta,tk,ya,yk,rfl,r1,r2,r3,r4⟩:=o0
 obtain ⟨el,hel⟩:=o1
 have r5:=evtss_of hel
 obtain ⟨ea,ec,rfl,_,_⟩:=r5.shape
 have H0:=Lib.hid (((((((Held.start0 (fun _=>False) (Old W) (fun _ f _=>f) W).addOld (T:=tRd (eInt .i64) (.slice aa s.a.rooms.length ak) s.a.rooms) (RdS.mono r1 fun _ h=>⟨h,id⟩)).addOld (T:=tRd (eInt .i64) (.slice ba s.b.rooms.length bk) s.b.rooms) (RdS.mono r2 fun _ h=>⟨h,id⟩)).addOld (T:=tRd eFlt (.slice ta s.there.length tk) s.there) (RdS.mono r3 fun _ h=>⟨h,id⟩)).addOld (T:=tRd eFlt (.slice ya s.back.length yk) s.back) (RdS.mono r4 fun _ h=>⟨h,id⟩)).addOld (T:=tRd (eRd eEvt) (.slice ea el.length ec) el) (RdS.mono r5 fun _ h=>⟨h,id⟩)).new (setO s aa ak ba bk ta tk ya yk))
 obtain ⟨ts,hts⟩:∃ts,ts=[tRd (eInt .i64) (.slice aa s.a.rooms.length ak) s.a.rooms,tRd (eInt .i64) (.slice ba s.b.rooms.length bk) s.b.rooms,tRd eFlt (.slice ta s.there.length tk) s.there,tRd eFlt (.slice ya s.back.length yk) s.back,tRd (eRd eEvt) (.slice ea el.length ec) el,tBlk W.heap.size (setO s aa ak ba bk ta tk ya yk)]:=⟨_,rfl⟩
 have H1:=Lib.hid (show Held (fun _=>False) (Old W) W ts _ by rw [hts];exact H0.out)
 have QS:=Lib.hid (show SetAt ts 0 s aa ak ba bk ta tk ya yk by rw [hts];exact ⟨rfl,rfl,rfl,rfl⟩)
 have QE:=Lib.hid (show ts[4]? = some (tRd (eRd eEvt) (.slice ea el.length ec) el) by rw [hts];rfl)
 have QB:=Lib.hid (show ts[5]? = some (tBlk W.heap.size (setO s aa ak ba bk ta tk ya yk)) by rw [hts];rfl)
 have HT:=Lib.hid ht
 clear H0 hts r1 r2 r3 r4 r5 hel ht
 go_enter Tryz.func9,Tryz.ntmps9
 go_wp2_with fail
 refine (awake_c _ (HT.out.below H1.out.below)).mono ?_
 rintro e w1 ⟨rfl,hb⟩
 have H2:=Lib.hid (H1.out.own hb)
 obtain ⟨x0,x1,x2,x3,x4,x5,x6,x7,x8,x9,x10,x11,x12⟩:=set_cells (H2.out.blk 5 QB.out)
 clear hb H1
 go_wp2_with fail
 by_cases hs:Small s
 ·refine (run_yes 0 QS.out hs H2.out).mono ?_
  rintro e w2 ⟨p,rfl,h3⟩
  have H3:=Lib.hid h3
  clear h3 H2
  go_wp2_with fail
  obtain ⟨_,_,hev⟩:=H3.out.get 5 QE.out
  refine (long_c el ea ec (show RdS (eRd eEvt) w2 _ _ el from hev)).mono ?_
  rintro e w3 ⟨rfl,hb⟩
  have H4:=Lib.hid (H3.out.own hb)
  clear hb hev H3
  have HV:=Lib.hid hs
  have HQ1:=Lib.hid (show SetAt (tLink p s.lk::ts) 1 s aa ak ba bk ta tk ya yk from ⟨QS.out.a,QS.out.b,QS.out.t,QS.out.y⟩)
  cases hl:longB el with
  |true=>
   clear x0 x1 x2 x3 x4 x5 x6 x7 x8 x9 x10 x11 x12
   obtain ⟨x0,x1,x2,x3,x4,x5,x6,x7,x8,x9,x10,x11,x12⟩:=set_cells (H4.out.blk 6 QB.out)
   go_wp2_with fail
   refine (HQ1.out.small H4.out).mono ?_
   rw [decide_eq_true HV.out]
   rintro e w9 ⟨rfl,hb⟩
   have H9:=Lib.hid (H4.out.own hb)
   clear hb
   go_wp2_with fail
   go_ret
   exact ⟨rfl,H9.out.below⟩
  |false=>
   have HL:=Lib.hid (fits_of hl)
   have hn60:=HL.out.n
   have HF:=Lib.hid hs.full
   clear hs hl
   by_cases h25:25 < el.length
   ·clear x0 x1 x2 x3 x4 x5 x6 x7 x8 x9 x10 x11 x12
    obtain ⟨x0,x1,x2,x3,x4,x5,x6,x7,x8,x9,x10,x11,x12⟩:=set_cells (H4.out.blk 6 QB.out)
    clear x0 x1 x2 x3 x4 x5 x6 x7 x8 x9 x10 x11 x12
    obtain ⟨x0,x1,x2,x3,x4,x5,x6,x7,x8,x9,x10,x11,x12⟩:=set_cells (H4.out.blk 6 QB.out)
    go_wp2_with fail
    refine (HQ1.out.small H4.out).mono ?_
    rw [decide_eq_true HV.out]
    rintro e w9 ⟨rfl,hb⟩
    have H9:=Lib.hid (H4.out.own hb)
    clear hb
    go_wp2_with fail
    go_ret
    exact ⟨rfl,H9.out.below⟩
   clear x0 x1 x2 x3 x4 x5 x6 x7 x8 x9 x10 x11 x12
   obtain ⟨x0,x1,x2,x3,x4,x5,x6,x7,x8,x9,x10,x11,x12⟩:=set_cells (H4.out.blk 6 QB.out)
   go_wp2_with fail
   obtain ⟨_,_,hev⟩:=H4.out.get 5 QE.out
   refine (restarts_c el ea ec (show RdS (eRd eEvt) w3 _ _ el from hev)).mono ?_
   rintro e w4 ⟨rfl,hb⟩
   have H5:=Lib.hid (H4.out.own hb)
   clear hb hev H4
   cases hrs:restB el with
   |true=>
    clear hrs
    clear x0 x1 x2 x3 x4 x5 x6 x7 x8 x9 x10 x11 x12
    obtain ⟨x0,x1,x2,x3,x4,x5,x6,x7,x8,x9,x10,x11,x12⟩:=set_cells (H5.out.blk 6 QB.out)
    go_wp2_with fail
    refine (HQ1.out.small H5.out).mono ?_
    rw [decide_eq_true HV.out]
    rintro e w9 ⟨rfl,hb⟩
    have H9:=Lib.hid (H5.out.own hb)
    clear hb
    go_wp2_with fail
    go_ret
    exact ⟨rfl,H9.out.below⟩
   |false=>
   have HNR:=Lib.hid (no_rest hrs)
   clear hrs x0 x1 x2 x3 x4 x5 x6 x7 x8 x9 x10 x11 x12
   obtain ⟨x0,x1,x2,x3,x4,x5,x6,x7,x8,x9,x10,x11,x12⟩:=set_cells (H5.out.blk 6 QB.out)
   by_cases hroom:s.a.rooms.length=s.b.rooms.length
   ·have hne:((s.a.rooms.length:Int) != (s.b.rooms.length:Int))=false:=by simp;omega
    have HRM:=Lib.hid hroom
    clear hroom
    go_wp2_with fail
    refine (late_c HQ1.out H5.out (by have:=HV.out.2.2.2.2.2.2.2.2.2.2.1;omega) (by have:=HV.out.2.2.2.2.2.2.2.2.2.2.2;omega)).mono ?_
    rintro e w5 ⟨rfl,hb⟩
    have H6:=Lib.hid (H5.out.own hb)
    clear hb H5
    cases hlt:(s.there++s.back).any lateF with
    |true=>
     clear hlt
     clear x0 x1 x2 x3 x4 x5 x6 x7 x8 x9 x10 x11 x12
     obtain ⟨x0,x1,x2,x3,x4,x5,x6,x7,x8,x9,x10,x11,x12⟩:=set_cells (H6.out.blk 6 QB.out)
     go_wp2_with fail
     refine (HQ1.out.small H6.out).mono ?_
     rw [decide_eq_true HV.out]
     rintro e w9 ⟨rfl,hb⟩
     have H9:=Lib.hid (H6.out.own hb)
     clear hb
     go_wp2_with fail
     go_ret
     exact ⟨rfl,H9.out.below⟩
    |false=>
    have HLT:=Lib.hid hlt
    clear hlt hne x0 x1 x2 x3 x4 x5 x6 x7 x8 x9 x10 x11 x12
    go_wp2_with fail
    go_loopw [56] (fun i wr=>∃k:Nat,k<=el.length/\i=.int .i64 (k:Int)/\Hid (Held (fun _=>False) (Old W) W (tLink p (s.lk.runs (el.take k))::ts) wr)) (fun i _=>el.length - (intOf i).toNat)
    case atStart=>exact ⟨0,by omega,by go_num,H6⟩
    case round=>
     clear H6
     obtain ⟨k,hk,rfl,HK⟩:=hrel
     by_cases hlt:k < el.length
     ·obtain ⟨es,hes⟩:∃es,el[k]? = some es:=⟨el[k],List.getElem?_eq_getElem hlt⟩
      have hmem:=List.mem_of_getElem? hes
      have HRS:=Lib.hid (s.lk.runs_take hes)
      have he6:=HL.out.e es hmem
      have HED:=Lib.hid (HL.out.d es hmem)
      have hfull:=runs_true (el.take k) HF.out (by omega) (fun x hx=>HL.out.e x (List.mem_of_mem_take hx)) (fun x hx=>HNR.out x (List.mem_of_mem_take hx))
      have htl:(el.take k).length=k:=by rw [List.length_take];omega
      rw [htl] at hfull
      have HFK:=Lib.hid hfull
      have HNE:=Lib.hid (HNR.out es hmem)
      have HSK:=Lib.hid (runs_short (el.take k) s.lk_short HF.out (by omega))
      clear hfull htl hmem
      obtain ⟨_,_,hev⟩:=HK.out.get 5 QE.out
      obtain ⟨b,off,xa,xc,rfl,k0,hrd⟩:=evts_at (show RdS (eRd eEvt) wr _ (.slice ea el.length ec) el from hev) hes
      have H5:=Lib.hid ((HK.out.weak (T:=tRd eEvt (.slice xa es.length xc) es) 5 QE.out fun G Y hon=>by
       obtain ⟨b',off',xa',xc',e1',k0',hrd'⟩:=evts_at (show RdS (eRd eEvt) wr Y (.slice (some ⟨b,off,none⟩) el.length ec) el from hon) hes
       obtain ⟨rfl,rfl⟩:b=b'/\off=off':=by simpa using e1'
       rw [k0] at k0'
       obtain ⟨rfl,rfl⟩:xa=xa'/\xc=xc':=by simpa using k0'
       exact hrd').front.pickL (us:=[tRd eEvt (.slice xa es.length xc) es,tLink p (s.lk.runs (el.take k))]) (vs:=[tLink p (s.lk.runs (el.take k)),tRd eEvt (.slice xa es.length xc) es]) [1,0] (by decide) rfl)
      clear hev hrd HK hes
      go_wp2_with fail
      refine (tickL_c (ts:=tRd eEvt (.slice xa es.length xc) es::ts) HFK.out (by omega) es (by omega) (by omega) (fun e he=>Nat.le_trans (HED.out e he) (by decide)) _ 0 rfl HT.out H5.out).mono ?_
      rintro e w4 ⟨a4,c4,rfl,h4⟩
      rw [<-HRS.out] at h4
      have H7:=Lib.hid (Held.pickL (us:=[tSq eNat 25 (.slice a4 ((s.lk.runs (el.take k)).acts es).1.length c4) ((s.lk.runs (el.take k)).acts es).1,tLink p (s.lk.runs (el.take (k+1))),tRd eEvt (.slice xa es.length xc) es]) (vs:=[tLink p (s.lk.runs (el.take (k+1)))]) h4 [1] (by decide) rfl)
      have HF2:=Lib.hid (show (s.lk.runs (el.take (k+1))).Full 1000000 True from by rw [HRS.out];exact (HFK.out.step (by omega) es).mono (by omega) fun _=>⟨trivial,HNE.out⟩)
      have HS2:=Lib.hid (show (s.lk.runs (el.take (k+1))).Short from by rw [HRS.out];exact HSK.out.step HFK.out (by omega) es)
      clear h4 H5 k0 HF2
      go_wp2_with fail
      go_roundw
      case rel=>exact ⟨k+1,by omega,by go_num,H7⟩
      case measure=>simp [intOf];omega
     ·obtain rfl:k=el.length:=by omega
      rw [List.take_length] at HK
      obtain ⟨X,hX⟩:∃X,X=s.lk.runs el:=⟨_,rfl⟩
      have HXF:=Lib.hid (show X.Full 340000 True by rw [hX];exact (runs_true el HF.out (by decide) HL.out.e HNR.out).mono (by omega) id)
      have HXS:=Lib.hid (show X.Short by rw [hX];exact runs_short el s.lk_short HF.out (by decide))
      have HTT:=Lib.hid (show X.Tots (0+6*el.length) by rw [hX];exact runs_tots el (newLk_tots _ _ _ _ _) HL.out.e)
      have HKN:=Lib.hid (show s.lk.Kin X by rw [hX];exact runs_kin el s.lk)
      have HSL:=Lib.hid (set_len HKN.out HRM.out)
      have HQQ:=Lib.hid (setup_quiet HV.out HRM.out HLT.out HKN.out HXF.out (by decide) (by decide) HTT.out (by omega))
      have HNO:=Lib.hid (show offSum X s.a.rooms.length 2=X.noff from offSum_noff ((full_ol HXF.out).1.trans HSL.out.1) ((full_ol HXF.out).2.trans HSL.out.2))
      have HR4:=Lib.hid (show s.a.rooms.length<=4 from HV.out.1.2.1.2.1)
      have HTA:=Lib.hid (show s.a.t=((s.a.t.toNat:Nat):Int) by have:=HV.out.1.2.2.2.2.1;omega)
      have HTB:=Lib.hid (show s.b.t=((s.b.t.toNat:Nat):Int) by have:=HV.out.2.1.2.2.2.2.1;omega)
      have HTD:=Lib.hid (show s.delay=((s.delay.toNat:Nat):Int) by have:=HV.out.2.2.1;omega)
      have HT40:=Lib.hid (show s.a.t.toNat<=40/\s.b.t.toNat<=40/\s.delay.toNat<=6 from ⟨by have:=HV.out.2.2.2.2.2.2.1;omega,by have:=HV.out.2.2.2.2.2.2.2.1;omega,by have:=HV.out.2.2.2.1;omega⟩)
      have HMO:=Lib.hid (most_small HTT.out.n (show 0+6*el.length<=156 by omega) (Nat.max_le.2 ⟨HT40.out.1,HT40.out.2.1⟩) HT40.out.2.2)
      have HX:=Lib.hid (show Held (fun _=>False) (Old W) W (tLink p X::ts) wr by rw [hX];exact HK.out)
      clear hX HK
      go_wp2_with fail
      go_loopw [8,64] (fun t i wr=>∃n:Nat,n<=2/\i=.int .i64 (n:Int)/\∃m:Nat,t=.int .i64 (m:Int)/\Hid (m=offSum X s.a.rooms.length n/\m<=4*n*400000)/\Hid (Held (fun _=>False) (Old W) W (tLink p X::ts) wr)) (fun _ i _=>2 - (intOf i).toNat)
      case atStart=>exact ⟨0,by decide,rfl,0,rfl,Lib.hid ⟨rfl,Nat.zero_le _⟩,HX⟩
      case round=>
       clear HX
       obtain ⟨n,hn,rfl,m,rfl,HM,HO⟩:=hrel
       by_cases hn2:n < 2
       ·have hn2I:(n:Int) < 2:=by omega
        have l1:=blk_cell (i:=1) (HO.out.blk 6 QB.out) rfl
        go_wp2_with fail
        go_loopw [8,71] (fun t i wr=>∃k:Nat,k<=s.a.rooms.length/\i=.int .i64 (k:Int)/\∃m:Nat,t=.int .i64 (m:Int)/\Hid (m=offPart X s.a.rooms.length n k/\m<=4*n*400000+k*400000)/\Hid (Held (fun _=>False) (Old W) W (tLink p X::ts) wr)) (fun _ i _=>s.a.rooms.length - (intOf i).toNat)
        case atStart=>exact ⟨0,by omega,rfl,m,rfl,Lib.hid ⟨HM.out.1,Nat.le_trans HM.out.2 (Nat.le_add_right _ _)⟩,HO⟩
        case round=>
         clear HM HO l1
         obtain ⟨k,hk,rfl,m,rfl,HM,HO⟩:=hrel
         by_cases hlk:k < s.a.rooms.length
         ·have hr4:=HR4.out
          have HCO:=Lib.hid (cls_off X hn2 k)
          have HCL:=Lib.hid (offPart_le HXF.out hn2 k)
          have HPS:=Lib.hid (offPart_succ X s.a.rooms.length n k)
          go_wp2_with fail
          refine (offered_c HXF.out HXS.out (by decide) (n:Int) (k:Int) HO.out).mono ?_
          rintro e w5 ⟨a5,c5,rfl,h5⟩
          rw [HCO.out] at h5 ⊢
          generalize (X.nd n).offered.getD k []=lo at *
          have H5:=Lib.hid (Held.pickL (us:=[tBB (.slice a5 lo.length c5) lo,tLink p X]) (vs:=[tLink p X]) h5 [1] (by decide) rfl)
          have hmb:=HM.out.2
          have hlb:=HCL.out
          have hw:IntKind.i64.wrap ((m:Int)+(lo.length:Int))=((m+lo.length:Nat):Int):=(IntWalk.i64_in _ (by omega)).trans (by omega)
          have HM2:=Lib.hid (show m+lo.length=offPart X s.a.rooms.length n (k+1)/\m+lo.length<=4*n*400000+(k+1)*400000 from ⟨by rw [HPS.out,<-HM.out.1],by omega⟩)
          clear h5 HO hmb hlb HM
          go_wp2_with fail
          go_roundw
          case rel=>exact ⟨k+1,by omega,by go_num,m+lo.length,rfl,HM2,H5⟩
          case measure=>simp [intOf];omega
         ·obtain rfl:s.a.rooms.length=k:=by omega
          go_wp2_with fail
          go_roundw
          case rel=>exact ⟨n+1,by omega,by go_num,m,rfl,Lib.hid ⟨HM.out.1,by have:=HM.out.2;have:=HR4.out;omega⟩,HO⟩
          case measure=>simp [intOf];omega
       ·have hnge:¬(n:Int) < 2:=by omega
        obtain rfl:m=X.noff:=HM.out.1.trans (by rw [show n=2 by omega];exact HNO.out)
        have hrow:=HO.out.blk 6 QB.out
        have hnb:X.noff<=1000000:=Nat.le_trans HTT.out.n (by omega)
        obtain ⟨q,hq⟩:=HQQ.out
        have HQ3:=Lib.hid hq
        have hmost:(X.noff+4)*(max s.a.t.toNat s.b.t.toNat+4*s.delay.toNat+12)+800<=1000000:=HMO.out
        obtain ⟨B,hB⟩:∃B:Nat,B=(X.noff+4)*(max s.a.t.toNat s.b.t.toNat+4*s.delay.toNat+12)+800:=⟨_,rfl⟩
        have HBD:=Lib.hid (show ∀w':World,Calls Tryz.prog 38 #[setV s aa ak ba bk ta tk ya yk,.int .i64 (X.noff:Int)] w' fun e w''=>e=.returned (.int .i64 (B:Int))/\Below w'.heap.size w' w'' from fun w'=>by
         rw [hB]
         exact bound_c X.noff s.a.t.toNat s.b.t.toNat s.delay.toNat HTA.out HTB.out HTD.out hnb (by have:=HT40.out.1;omega) (by have:=HT40.out.2.1;omega) (by have:=HT40.out.2.2;omega) w')
        have hqB:q<=B:=by rw [hB];exact HQ3.out.1
        have hB6:B<=1000000:=by rw [hB];exact hmost
        clear hB hmost
        have HDR:=Lib.hid (fun w' (h':Held (fun _=>False) (Old W) W (tLink p X::ts) w')=>drain_c (N:=340000) (ts:=ts) X (X.step [⟨4,0,0,[]⟩]) rfl HXF.out (by decide) s.a.rooms.length HSL.out.1 HSL.out.2 q B HQ3.out.2.2 hqB hB6 (q_big (N:=340000) (by decide) HQ3.out.2.1) HT.out h')
        go_upto_region 21 with (fail)
        refine wp_region_held_drew (S:=fun w'=>w'.heap[W.heap.size]? = some (setO s aa ak ba bk ta tk ya yk)) (by kernel_rfl) hrow (fun hS0=>?_)
        change wpAnyH _ _ _ _ _ (3+7) _ _ _
        refine wpAnyH_take_n 0 7 (by kernel_rfl) hS0 (fun _ _ _ _ _ h=>h) ?_
        simp only [List.drop_zero,List.take_succ_cons,List.take_zero]
        iterate 3 (refine wpFirst_val (v:=?_) (by rfl) ?_ ?_;rotate_left 1;(focus ((intro w' hS';go_simp);try with_reducible rfl));simp only [Act.put,List.setIfInBounds_toArray,List.set_cons_zero,List.set_cons_succ])
        (refine wpFirst_val (v:=?_) (by rfl) ?_ ?_;rotate_left 1;(focus ((intro w' hS';have l1:=blk_cell (i:=1) hS' rfl;clear hS';go_simp);try with_reducible rfl));simp only [Act.put,List.setIfInBounds_toArray,List.set_cons_zero,List.set_cons_succ])
        (refine wpFirst_val (v:=?_) (by rfl) ?_ ?_;rotate_left 1;(focus ((intro w' hS';go_simp);try with_reducible rfl));simp only [Act.put,List.setIfInBounds_toArray,List.set_cons_zero,List.set_cons_succ])
        (refine wpFirst_val (v:=?_) (by rfl) ?_ ?_;rotate_left 1;(focus ((intro w' hS';obtain ⟨x0,x1,x2,x3,x4,x5,x6,x7,x8,x9,x10,x11,x12⟩:=set_cells hS';clear hS';go_simp);try with_reducible rfl));simp only [Act.put,List.setIfInBounds_toArray,List.set_cons_zero,List.set_cons_succ])
        (refine wpFirst_val (v:=?_) (by rfl) ?_ ?_;rotate_left 1;(focus ((intro w' hS';go_simp);try with_reducible rfl));simp only [Act.put,List.setIfInBounds_toArray,List.set_cons_zero,List.set_cons_succ])
        refine wpFirst_nil ?_
        refine wpAnyH_one 7 (by kernel_rfl) rfl (fun K hK=>?_)
        (refine step_call (f:=?_) (args:=?_) (by rfl) ?_ ?_;rotate_left 2;(focus (go_simp;first|(with_reducible rfl)|(refine ⟨?_,?_⟩ <;> with_reducible rfl)));(refine ((HBD.out _)).mono ?_);rintro e' w'' ⟨rfl,hb⟩)
        refine ⟨_,rfl,?_⟩
        have hS1:=(hb.block _ (lt_of_block hS0)).trans hS0
        have H2:=Lib.hid (HO.out.drew.own hb)
        refine hK.out _ _ hS1 ?_
        clear hK K hb
        refine wpAnyH_one 8 (by kernel_rfl) rfl (fun K hK=>?_)
        (refine step_call (f:=?_) (args:=?_) (by rfl) ?_ ?_;rotate_left 2;(focus (go_simp;first|(with_reducible rfl)|(refine ⟨?_,?_⟩ <;> with_reducible rfl))))
        refine (HDR.out _ H2.out).mono ?_
        rintro e w6 ⟨m,hmq,rfl,hqm,h6⟩
        refine ⟨_,rfl,?_⟩
        have H6:=Lib.hid h6
        have HQM:=Lib.hid hqm
        have HMQ:=Lib.hid (Nat.le_trans hmq HQ3.out.2.1)
        refine hK.out _ _ (h6.blk 6 QB.out) ?_
        clear hK K h6 hqm hmq hS0 hS1 H2 HO hrow hq HDR HBD hqB hB6 hnb
        refine wpAnyH_take_n 9 1 (by kernel_rfl) (H6.out.blk 6 QB.out) (fun _ _ _ _ _ h=>h) ?_
        simp only [List.drop_succ_cons,List.drop_zero,List.take_succ_cons,List.take_zero]
        (refine wpFirst_val (v:=?_) (by rfl) ?_ ?_;rotate_left 1;(focus ((intro w' hS';go_simp);try with_reducible rfl));simp only [Act.put,List.setIfInBounds_toArray,List.set_cons_zero,List.set_cons_succ])
        refine wpFirst_nil ?_
        refine wpAnyH_done (by kernel_rfl) ?_ _
        obtain ⟨K,hK⟩:∃K,K=(X.step [⟨4,0,0,[]⟩]).drain m:=⟨_,rfl⟩
        have hYF:(X.step [⟨4,0,0,[]⟩]).Full (340000+13065) True:=(HXF.out.step (by decide) [⟨4,0,0,[]⟩]).mono (by simp) fun _=>⟨trivial,fun e he=>by obtain rfl:=List.mem_singleton.1 he;decide⟩
        have hYk:=HKN.out.trans (step_kin X [⟨4,0,0,[]⟩])
        have hYl:=set_len hYk HRM.out
        have hYa:=drain_alike (X.step [⟨4,0,0,[]⟩]) m
        have HKF:=Lib.hid (show K.Full 200000000 True by rw [hK];exact (drain_full hYF m).mono (by have:=HMQ.out;omega) id)
        have HKS:=Lib.hid (show K.Short by rw [hK];exact drain_short (hYF.mono (Nat.le_refl _) False.elim) (HXS.out.step HXF.out (by decide) _) (by decide) hYl.1 hYl.2 m)
        have HKQ:=Lib.hid (show K.Quiet by rw [hK];exact HQM.out)
        have HKL:=Lib.hid (show K.l.prt.rooms.length=s.a.rooms.length/\K.r.prt.rooms.length=s.a.rooms.length by rw [hK,hYa.rl,hYa.rr];exact hYl)
        rw [<-hK] at H6
        clear hK hYF hYk hYl hYa HQM HMQ HXF HXS HTT HKN HSL HQQ HNO HMO HQ3
        go_wp2_with fail
        go_loopw [93] (fun i wr=>∃n:Nat,n<=2/\i=.int .i64 (n:Int)/\Hid (Held (fun _=>False) (Old W) W (tLink p K::ts) wr)) (fun i _=>2 - (intOf i).toNat)
        case atStart=>exact ⟨0,by decide,rfl,H6⟩
        case round=>
         clear H6
         obtain ⟨n,hn,rfl,HO⟩:=hrel
         by_cases hn2:n < 2
         ·have hn2I:(n:Int) < 2:=by omega
          have l1:=blk_cell (i:=1) (HO.out.blk 6 QB.out) rfl
          go_wp2_with fail
          go_loopw [100] (fun i wr=>∃c:Nat,c<=s.a.rooms.length/\i=.int .i64 (c:Int)/\Hid (Held (fun _=>False) (Old W) W (tLink p K::ts) wr)) (fun i _=>s.a.rooms.length - (intOf i).toNat)
          case atStart=>exact ⟨0,by omega,rfl,HO⟩
          case round=>
           clear HO l1
           obtain ⟨c,hc,rfl,HO⟩:=hrel
           by_cases hlc:c < s.a.rooms.length
           ·have hr4:=HR4.out
            have hw:IntKind.i64.wrap (1 - (n:Int))=1 - (n:Int):=IntWalk.i64_in _ (by omega)
            have HEQ:=Lib.hid (quiet_cls HKF.out HKQ.out HKL.out.1 HKL.out.2 hn2 hlc)
            go_wp2_with fail
            refine (taken_c HKF.out HKS.out (by decide) (n:Int) (c:Int) HO.out).mono ?_
            rintro e w5 ⟨a5,c5,rfl,h5⟩
            rw [HEQ.out] at h5 ⊢
            have H5:=Lib.hid (Held.pickL (us:=[tBB (.slice a5 (clsOf (K.off (1 - (n:Int))) (c:Int)).length c5) (clsOf (K.off (1 - (n:Int))) (c:Int)),tLink p K]) (vs:=[tLink p K,tBB (.slice a5 (clsOf (K.off (1 - (n:Int))) (c:Int)).length c5) (clsOf (K.off (1 - (n:Int))) (c:Int))]) h5 [1,0] (by decide) rfl)
            clear h5 HO HEQ
            go_wp2_with fail
            refine (offered_c HKF.out HKS.out (by decide) (1 - (n:Int)) (c:Int) H5.out).mono ?_
            rintro e w6 ⟨a6,c6,rfl,h6⟩
            generalize clsOf (K.off (1 - (n:Int))) (c:Int)=lt at *
            obtain ⟨_,_,q1⟩:=h6.get 2 rfl
            obtain ⟨_,_,q2⟩:=h6.get 0 rfl
            have HB:=Lib.hid (equalB_c _ _ _ (bbs_of (show Sq (eSq eU8 5) 22 w6 _ _ (.slice a5 lt.length c5) lt from q1)) (bbs_of (show Sq (eSq eU8 5) 22 w6 _ _ (.slice a6 lt.length c6) lt from q2)))
            have H6:=Lib.hid (Held.pickL (us:=[tBB (.slice a6 lt.length c6) lt,tLink p K,tBB (.slice a5 lt.length c5) lt]) (vs:=[tLink p K]) h6 [1] (by decide) rfl)
            clear h6 q1 q2 H5
            go_wp2_with fail
            refine HB.out.mono ?_
            rintro e w7 ⟨rfl,rfl⟩
            go_wp2_with fail
            go_roundw
            case rel=>exact ⟨c+1,by omega,by go_num,H6⟩
            case measure=>simp [intOf];omega
           ·obtain rfl:s.a.rooms.length=c:=by omega
            go_wp2_with fail
            go_roundw
            case rel=>exact ⟨n+1,by omega,by go_num,HO⟩
            case measure=>simp [intOf];omega
         ·obtain rfl:n=2:=by omega
          go_wp2_with fail
          go_ret
          exact ⟨rfl,HO.out.below⟩
   ·have hne:((s.a.rooms.length:Int) != (s.b.rooms.length:Int))=true:=by simp;omega
    clear hroom
    clear x0 x1 x2 x3 x4 x5 x6 x7 x8 x9 x10 x11 x12
    obtain ⟨x0,x1,x2,x3,x4,x5,x6,x7,x8,x9,x10,x11,x12⟩:=set_cells (H5.out.blk 6 QB.out)
    go_wp2_with fail
    refine (HQ1.out.small H5.out).mono ?_
    rw [decide_eq_true HV.out]
    rintro e w9 ⟨rfl,hb⟩
    have H9:=Lib.hid (H5.out.own hb)
    clear hb
    go_wp2_with fail
    go_ret
    exact ⟨rfl,H9.out.below⟩
 ·refine (run_no 0 QS.out hs H2.out).mono ?_
  rintro e w2 ⟨rfl,hb⟩
  have H3:=Lib.hid (H2.out.own hb)
  clear hb H2 x0 x1 x2 x3 x4 x5 x6 x7 x8 x9 x10 x11 x12
  obtain ⟨x0,x1,x2,x3,x4,x5,x6,x7,x8,x9,x10,x11,x12⟩:=set_cells (H3.out.blk 5 QB.out)
  go_wp2_with fail
  refine (QS.out.small H3.out).mono ?_
  rw [decide_eq_false hs]
  rintro e w3 ⟨rfl,hb⟩
  have H4:=Lib.hid (H3.out.own hb)
  clear hb
  go_wp2_with fail
  go_ret
  exact ⟨rfl,H4.out.below⟩
end
end Go.Proofs.YtckdblgobmofgaaGreatDoor
