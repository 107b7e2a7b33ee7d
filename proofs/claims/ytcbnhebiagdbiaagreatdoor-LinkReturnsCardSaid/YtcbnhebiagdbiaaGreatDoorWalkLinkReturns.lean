/- The walk of LinkReturns. -/
import Derived.Test.YtcbnhebiagdbiaaGreatDoorPkM1
import Derived.Test.YtcbnhebiagdbiaaGreatDoorPkI1
import Derived.Test.YtcbnhebiagdbiaaGreatDoorIntU
namespace Go.Proofs.YtcbnhebiagdbiaaGreatDoor
set_option maxHeartbeats 64000000
section
open Go.ChangeShapes Go.WideShapes Go.ChangeAt Go.RowKit
set_option maxRecDepth 100000
theorem opensByss {H:Type} {enc:TypeId × Value->H} {W:World}:Opens enc Tryz.prog W 40 (rSlice rBytes):=
 opens_slice Tryz.underlying40 (by kernel_rfl) (opens_bytes Tryz.underlying42 (by kernel_rfl) Tryz.underlying5 (by kernel_rfl)) (by decide)
theorem walkLinkReturns (W:World) (v0 v1 v2 v3:Value) (o0:IsSet W v0) (o1:IsSl (rSlice rEvt) W v1) (o2:IsInt .u8 v2) (o3:IsSl rBytes W v3) (ht:Tabs W) :
  Calls Tryz.prog 7 #[v0,v1,v2,v3] W fun e w'=>e=.returned (.bool true)/\Below W.heap.size W w':=by
 obtain ⟨s,aa,ak,ba,bk,ta,tk,ya,yk,rfl,r1,r2,r3,r4⟩:=o0
 obtain ⟨el,hel⟩:=o1
 obtain ⟨cS,rfl,hside⟩:=int_u8' o2
 obtain ⟨bs,hbs⟩:=o3
 have r5:=evtss_of hel
 have r6:RdS eBy W (Old W) v3 bs:=rdS_of rfl (by decide) (fun _ _ h=>eBy_of h) hbs
 obtain ⟨oa,oc,rfl,hoc1,hoc2⟩:=r6.shape
 have HBL:=aQ (rd_by_len r6)
 unfold maxLen at hoc2
 have hbl:bs.length<=9223372036854775807:=by omega
 clear hbs
 obtain ⟨ea,ec,rfl,_,_⟩:=r5.shape
 have H0:=aQ ((((((((dY.start0 (fun _=>False) (Old W) (fun _ f _=>f) W).addOld (T:=tRd (eInt .i64) (.slice aa s.a.aZ.length ak) s.a.aZ) (RdS.mono r1 fun _ h=>⟨h,id⟩)).addOld (T:=tRd (eInt .i64) (.slice ba s.b.aZ.length bk) s.b.aZ) (RdS.mono r2 fun _ h=>⟨h,id⟩)).addOld (T:=tRd eFlt (.slice ta s.there.length tk) s.there) (RdS.mono r3 fun _ h=>⟨h,id⟩)).addOld (T:=tRd eFlt (.slice ya s.back.length yk) s.back) (RdS.mono r4 fun _ h=>⟨h,id⟩)).addOld (T:=tRd (eRd eEvt) (.slice ea el.length ec) el) (RdS.mono r5 fun _ h=>⟨h,id⟩)).addOld (T:=tRd eBy (.slice oa bs.length oc) bs) (RdS.mono r6 fun _ h=>⟨h,id⟩)).new (setO s aa ak ba bk ta tk ya yk))
 obtain ⟨ts,hts⟩:∃ts,ts=[tRd (eInt .i64) (.slice aa s.a.aZ.length ak) s.a.aZ,tRd (eInt .i64) (.slice ba s.b.aZ.length bk) s.b.aZ,tRd eFlt (.slice ta s.there.length tk) s.there,tRd eFlt (.slice ya s.back.length yk) s.back,tRd (eRd eEvt) (.slice ea el.length ec) el,dJ W.heap.size (setO s aa ak ba bk ta tk ya yk),tRd eBy (.slice oa bs.length oc) bs]:=⟨_,rfl⟩
 have H1:=aQ (show dY (fun _=>False) (Old W) W ts _ by rw [hts];exact H0.out.pick [0,1,2,3,4,6,5] [_,_,_,_,_,_,_] (by decide) rfl)
 have QS:=aQ (show SetAt ts 0 s aa ak ba bk ta tk ya yk by rw [hts];exact ⟨rfl,rfl,rfl,rfl⟩)
 have QE:=aQ (show ts[4]? = some (tRd (eRd eEvt) (.slice ea el.length ec) el) by rw [hts];rfl)
 have QB:=aQ (show ts[5]? = some (dJ W.heap.size (setO s aa ak ba bk ta tk ya yk)) by rw [hts];rfl)
 have QO:=aQ (show ts[6]? = some (tRd eBy (.slice oa bs.length oc) bs) by rw [hts];rfl)
 have HT:=aQ ht
 clear H0 hts r1 r2 r3 r4 r5 r6 hel ht
 go_enter Tryz.func7,Tryz.ntmps7
 go_wp2_with fail
 refine (awake_c _ (HT.out.below H1.out.below)).mono ?_
 rintro e w1 ⟨rfl,hb⟩
 have H2:=aQ (H1.out.own hb)
 obtain ⟨x0,x1,x2,x3,x4,x5,x6,x7,x8,x9,x10,x11,x12⟩:=aC (H2.out.blk 5 QB.out)
 clear hb H1
 go_wp2_with fail
 by_cases hs:Small s
 ·refine (run_yes 0 QS.out hs H2.out).mono ?_
  rintro e w2 ⟨p,rfl,h3⟩
  have H3:=aQ h3
  clear h3 H2
  go_wp2_with fail
  obtain ⟨_,_,hev⟩:=H3.out.get 5 QE.out
  refine (long_c el ea ec (show RdS (eRd eEvt) w2 _ _ el from hev)).mono ?_
  rintro e w3 ⟨rfl,hb⟩
  have H4:=aQ (H3.out.own hb)
  clear hb hev H3
  have HV:=aQ hs
  have HQ1:=aQ (show SetAt (bI p s.lk::ts) 1 s aa ak ba bk ta tk ya yk from ⟨QS.out.a,QS.out.b,QS.out.t,QS.out.y⟩)
  cases hl:longB el with
  |true=>
   clear x0 x1 x2 x3 x4 x5 x6 x7 x8 x9 x10 x11 x12
   obtain ⟨x0,x1,x2,x3,x4,x5,x6,x7,x8,x9,x10,x11,x12⟩:=aC (H4.out.blk 6 QB.out)
   go_wp2_with fail
   refine (HQ1.out.small H4.out).mono ?_
   rw [decide_eq_true HV.out]
   rintro e w9 ⟨rfl,hb⟩
   have H9:=aQ (H4.out.own hb)
   clear hb
   go_wp2_with fail
   go_ret
   exact ⟨rfl,H9.out.below⟩
  |false=>
   have HL:=aQ (fits_of hl)
   have hn60:=HL.out.n
   have HF:=aQ hs.full
   clear hs hl x0 x1 x2 x3 x4 x5 x6 x7 x8 x9 x10 x11 x12
   obtain ⟨x0,x1,x2,x3,x4,x5,x6,x7,x8,x9,x10,x11,x12⟩:=aC (H4.out.blk 6 QB.out)
   by_cases h25:25 < el.length
   ·skip
    clear x0 x1 x2 x3 x4 x5 x6 x7 x8 x9 x10 x11 x12
    obtain ⟨x0,x1,x2,x3,x4,x5,x6,x7,x8,x9,x10,x11,x12⟩:=aC (H4.out.blk 6 QB.out)
    go_wp2_with fail
    refine (HQ1.out.small H4.out).mono ?_
    rw [decide_eq_true HV.out]
    rintro e w9 ⟨rfl,hb⟩
    have H9:=aQ (H4.out.own hb)
    clear hb
    go_wp2_with fail
    go_ret
    exact ⟨rfl,H9.out.below⟩
   by_cases hb6:6 < bs.length
   ·skip
    clear x0 x1 x2 x3 x4 x5 x6 x7 x8 x9 x10 x11 x12
    obtain ⟨x0,x1,x2,x3,x4,x5,x6,x7,x8,x9,x10,x11,x12⟩:=aC (H4.out.blk 6 QB.out)
    go_wp2_with fail
    refine (HQ1.out.small H4.out).mono ?_
    rw [decide_eq_true HV.out]
    rintro e w9 ⟨rfl,hb⟩
    have H9:=aQ (H4.out.own hb)
    clear hb
    go_wp2_with fail
    go_ret
    exact ⟨rfl,H9.out.below⟩
   by_cases hroom:s.a.aZ.length=s.b.aZ.length
   ·have hne:((s.a.aZ.length:Int) != (s.b.aZ.length:Int))=false:=by simp;omega
    have HRM:=aQ hroom
    clear hroom
    go_wp2_with fail
    refine (late_c HQ1.out H4.out (by have:=HV.out.2.2.2.2.2.2.2.2.2.2.1;omega) (by have:=HV.out.2.2.2.2.2.2.2.2.2.2.2;omega)).mono ?_
    rintro e w5 ⟨rfl,hb⟩
    have H6:=aQ (H4.out.own hb)
    clear hb H4
    cases hlt:(s.there++s.back).any lateF with
    |true=>
     clear hlt
     clear x0 x1 x2 x3 x4 x5 x6 x7 x8 x9 x10 x11 x12
     obtain ⟨x0,x1,x2,x3,x4,x5,x6,x7,x8,x9,x10,x11,x12⟩:=aC (H6.out.blk 6 QB.out)
     go_wp2_with fail
     refine (HQ1.out.small H6.out).mono ?_
     rw [decide_eq_true HV.out]
     rintro e w9 ⟨rfl,hb⟩
     have H9:=aQ (H6.out.own hb)
     clear hb
     go_wp2_with fail
     go_ret
     exact ⟨rfl,H9.out.below⟩
    |false=>
    have HLT:=aQ hlt
    clear hlt hne x0 x1 x2 x3 x4 x5 x6 x7 x8 x9 x10 x11 x12
    obtain ⟨x0,x1,x2,x3,x4,x5,x6,x7,x8,x9,x10,x11,x12⟩:=aC (H6.out.blk 6 QB.out)
    by_cases hi1:1000 < s.a.inc
    ·skip
     clear x0 x1 x2 x3 x4 x5 x6 x7 x8 x9 x10 x11 x12
     obtain ⟨x0,x1,x2,x3,x4,x5,x6,x7,x8,x9,x10,x11,x12⟩:=aC (H6.out.blk 6 QB.out)
     go_wp2_with fail
     refine (HQ1.out.small H6.out).mono ?_
     rw [decide_eq_true HV.out]
     rintro e w9 ⟨rfl,hb⟩
     have H9:=aQ (H6.out.own hb)
     clear hb
     go_wp2_with fail
     go_ret
     exact ⟨rfl,H9.out.below⟩
    by_cases hi2:1000 < s.b.inc
    ·skip
     clear x0 x1 x2 x3 x4 x5 x6 x7 x8 x9 x10 x11 x12
     obtain ⟨x0,x1,x2,x3,x4,x5,x6,x7,x8,x9,x10,x11,x12⟩:=aC (H6.out.blk 6 QB.out)
     go_wp2_with fail
     refine (HQ1.out.small H6.out).mono ?_
     rw [decide_eq_true HV.out]
     rintro e w9 ⟨rfl,hb⟩
     have H9:=aQ (H6.out.own hb)
     clear hb
     go_wp2_with fail
     go_ret
     exact ⟨rfl,H9.out.below⟩
    go_wp2_with fail
    clear hi1 hi2 x0 x1 x2 x3 x4 x5 x6 x7 x8 x9 x10 x11 x12
    go_loopw [79] (fun i wr=>∃k:Nat,k<=el.length/\i=.int .i64 (k:Int)/\Hid (dY (fun _=>False) (Old W) W (bI p (s.lk.runs (el.take k))::ts) wr)) (fun i _=>el.length - (intOf i).toNat)
    case atStart=>exact ⟨0,by omega,by go_num,H6⟩
    case round=>
     clear H6
     obtain ⟨k,hk,rfl,HK⟩:=hrel
     by_cases hlt:k < el.length
     ·obtain ⟨es,hes⟩:∃es,el[k]? = some es:=⟨el[k],List.getElem?_eq_getElem hlt⟩
      have hmem:=List.mem_of_getElem? hes
      have HRS:=aQ (s.lk.runs_take hes)
      have he6:=HL.out.e es hmem
      have HED:=aQ (HL.out.d es hmem)
      have hfull:=runs_full (el.take k) HF.out (by omega) fun x hx=>HL.out.e x (List.mem_of_mem_take hx)
      have htl:(el.take k).length=k:=by rw [List.length_take];omega
      rw [htl] at hfull
      have HFK:=aQ hfull
      have HSK:=aQ (runs_short (el.take k) s.lk_short HF.out (by omega))
      clear hfull htl hmem
      obtain ⟨_,_,hev⟩:=HK.out.get 5 QE.out
      obtain ⟨b,off,xa,xc,rfl,k0,hrd⟩:=evts_at (show RdS (eRd eEvt) wr _ (.slice ea el.length ec) el from hev) hes
      have H5:=aQ ((HK.out.weak (T:=tRd eEvt (.slice xa es.length xc) es) 5 QE.out fun G Y hon=>by
       obtain ⟨b',off',xa',xc',e1',k0',hrd'⟩:=evts_at (show RdS (eRd eEvt) wr Y (.slice (some ⟨b,off,none⟩) el.length ec) el from hon) hes
       obtain ⟨rfl,rfl⟩:b=b'/\off=off':=by simpa using e1'
       rw [k0] at k0'
       obtain ⟨rfl,rfl⟩:xa=xa'/\xc=xc':=by simpa using k0'
       exact hrd').front.pickL (us:=[tRd eEvt (.slice xa es.length xc) es,bI p (s.lk.runs (el.take k))]) (vs:=[bI p (s.lk.runs (el.take k)),tRd eEvt (.slice xa es.length xc) es]) [1,0] (by decide) rfl)
      clear hev hrd HK hes
      go_wp2_with fail
      refine (tickL_c (ts:=tRd eEvt (.slice xa es.length xc) es::ts) HFK.out (by omega) es (by omega) (by omega) (fun e he=>Nat.le_trans (HED.out e he) (by decide)) _ 0 rfl HT.out H5.out).mono ?_
      rintro e w4 ⟨a4,c4,rfl,h4⟩
      rw [<-HRS.out] at h4
      have H7:=aQ (dY.pickL (us:=[tSq dK 32 (.slice a4 ((s.lk.runs (el.take k)).acts es).1.length c4) ((s.lk.runs (el.take k)).acts es).1,bI p (s.lk.runs (el.take (k+1))),tRd eEvt (.slice xa es.length xc) es]) (vs:=[bI p (s.lk.runs (el.take (k+1)))]) h4 [1] (by decide) rfl)
      clear h4 H5 k0
      go_wp2_with fail
      go_roundw
      case rel=>exact ⟨k+1,by omega,by go_num,H7⟩
      case measure=>simp [intOf];omega
     ·obtain rfl:k=el.length:=by omega
      rw [List.take_length] at HK
      obtain ⟨X0,hX0⟩:∃X,X=s.lk.runs el:=⟨_,rfl⟩
      have HXF0:=aQ (show X0.Full 340000 False by rw [hX0];exact (runs_full el HF.out (by decide) HL.out.e).mono (by omega) id)
      have HXS0:=aQ (show X0.Short by rw [hX0];exact runs_short el s.lk_short HF.out (by decide))
      have HTT0:=aQ (show X0.Tots (0+6*el.length) by rw [hX0];exact runs_tots el (newLk_tots _ _ _ _ _) HL.out.e)
      have HKN0:=aQ (show s.lk.Kin X0 by rw [hX0];exact runs_kin el s.lk)
      have HX0:=aQ (show dY (fun _=>False) (Old W) W (bI p X0::ts) wr by rw [hX0];exact HK.out)
      clear hX0 HK
      obtain ⟨f,hf⟩:∃m,m=cS % 2:=⟨_,rfl⟩
      obtain ⟨sd,hsd⟩:∃m,m=cS / 2 % 2:=⟨_,rfl⟩
      have hf2:f < 2:=by omega
      have t1:(cS:Int).tmod 2=(f:Int):=by rw [hf,Int.tmod_eq_emod_of_nonneg (by omega)];rfl
      have t1':(cS:Int) % 2=(f:Int):=by rw [hf];rfl
      have t2:((cS / 2:Nat):Int).tmod 2=(sd:Int):=by rw [hsd,Int.tmod_eq_emod_of_nonneg (by omega)];rfl
      have t2':(cS:Int) / 2 % 2=(sd:Int):=by rw [hsd];omega
      have t3:(cS:Int).tdiv 2=((cS / 2:Nat):Int):=by rw [Int.tdiv_eq_ediv_of_nonneg (by omega)];rfl
      have hwm:IntKind.i64.wrap (cS:Int)=(cS:Int):=IntWalk.i64_in _ (by omega)
      have HFD:=aQ hf
      have HSD:=aQ hsd
      clear hf hsd
      go_wp2_with fail
      try simp only [t2']
      have HE0:=aQ (HX0.out.lit_evq 5 (sd:Int) 0)
      clear HX0
      go_loopw [13,98] (fun v i wr=>∃k:Nat,k<=bs.length/\i=.int .i64 (k:Int)/\∃(es:List Evt) (a:Option Addr) (c:Nat),v=.slice a es.length c/\Hid (es=⟨5,(sd:Int),0,[]⟩::(bs.take k).map (oev f)/\es.length=k+1)/\Hid (dY (fun _=>False) (Old W) W (tSq eEvt 49 (.slice a es.length c) es::bI p X0::ts) wr)) (fun _ i _=>bs.length - (intOf i).toNat)
      case atStart=>exact ⟨0,by omega,rfl,[⟨5,(sd:Int),0,[]⟩],some ⟨wr.heap.size,0,none⟩,1,rfl,aQ ⟨rfl,rfl⟩,HE0⟩
      case round=>
       clear HE0
       obtain ⟨k,hk,rfl,es,a,c,rfl,HE,HO⟩:=hrel
       by_cases hlk:k < bs.length
       ·obtain ⟨d,hd⟩:∃d,bs[k]? = some d:=⟨bs[k],List.getElem?_eq_getElem hlk⟩
        obtain ⟨_,_,hov⟩:=HO.out.get 8 QO.out
        obtain ⟨b,off,va,vc,rfl,hc,_⟩:=rd_by_at (show RdS eBy wr _ (.slice oa bs.length oc) bs from hov) hd
        have HO2:=aQ (HO.out.frame_at 8 QO.out hd hc)
        have HSN:=aQ (show (bs.take (k+1)).map (oev f)=(bs.take k).map (oev f)++[oev f d] by rw [List.take_add_one,hd,List.map_append];rfl)
        have HLE:=aQ (show es.length<=1000000 by have:=HE.out.2;omega)
        clear hov hd HO
        go_wp2_with (at_builtin;refine wpList_app_evd rfl _ _ rfl HO2.out 1 rfl 0 (by decide) rfl (aK wr _) HLE.out rfl wr.heap.size rfl (heap_alloc_new wr _) ?_;intro a' c' w6 h6;have H6:=aQ (show dY (fun _=>False) (Old W) W (tSq eEvt 49 (.slice a' (es++[oev f d]).length c') (es++[oev f d])::bI p X0::ts) w6 from dY.tail (T:=tBy (.slice va d.length vc) d) h6);clear h6)
        go_roundw
        case rel=>exact ⟨k+1,by omega,by go_num,es++[oev f d],a',c',by rw [List.length_append];rfl,aQ ⟨by rw [HE.out.1,HSN.out];rfl,by rw [List.length_append,HE.out.2];rfl⟩,H6⟩
        case measure=>simp [intOf];omega
       ·obtain rfl:bs.length=k:=by omega
        have HE1:=aQ (show es=⟨5,(sd:Int),0,[]⟩::bs.map (oev f) by have:=HE.out.1;rwa [List.take_length] at this)
        have HE2:=aQ (show es.length<=7 by have:=HE.out.2;omega)
        have H5:=aQ (dY.pickL (us:=[tRd eEvt (.slice a es.length c) es,bI p X0]) (vs:=[bI p X0,tRd eEvt (.slice a es.length c) es]) (HO.out.frz 0 rfl fun h=>eEvt_rd h) [1,0] (by decide) rfl)
        have HDT:=aQ (show ∀e ∈ es,e.data.length<=9223372036854775807 from fun e he=>by
         rw [HE1.out] at he
         rcases List.mem_cons.1 he with rfl|he
         ·exact Nat.zero_le _
         ·obtain ⟨d,hd,rfl⟩:=List.mem_map.1 he
          exact HBL.out d hd)
        clear HO HE
        go_wp2_with fail
        refine (tickG_c (ts:=tRd eEvt (.slice a es.length c) es::ts) HXF0.out (by decide) es (by have:=HE2.out;omega) (by have:=HE2.out;omega) HDT.out a c (gives_rd 0 rfl) HT.out H5.out).mono ?_
        rintro e w6 ⟨a6,c6,rfl,h6⟩
        obtain ⟨X,hX⟩:∃X,X=X0.step es:=⟨_,rfl⟩
        obtain ⟨rs,hrs⟩:∃rs,rs=(X0.acts es).1:=⟨_,rfl⟩
        rw [<-hX,<-hrs] at h6
        rw [<-hrs]
        have HRL:=aQ (show rs.length=bs.length+1 by rw [hrs,acts_len,HE1.out,List.length_cons,List.length_map])
        have HXF:=aQ (show X.Full 400000 False by rw [hX];exact (HXF0.out.step (by decide) es).mono (by have:=HE2.out;omega) False.elim)
        have HXS:=aQ (show X.Short by rw [hX];exact HXS0.out.step HXF0.out (by decide) es)
        have HTT:=aQ (show X.Tots (0+6*el.length+es.length) by rw [hX];exact HTT0.out.step es)
        have HKN:=aQ (show s.lk.Kin X by rw [hX];exact HKN0.out.trans (step_kin X0 es))
        have HRET:=aQ (show ∀m,((X.step [⟨4,0,0,[]⟩]).drain m).Quiet->∃pre,clsOf (((X.step [⟨4,0,0,[]⟩]).drain m).tak (1 - (f:Int))) 0=pre++sel (rs.drop 1) bs from fun m q=>by
         have hl:=set_len HKN0.out HRM.out
         have n1:=HV.out.1.2.1.1
         rw [hrs,hX,HE1.out] at *
         exact returns HXF0.out (by decide) hf2 (sd:Int) bs m (by rw [hl.1];exact n1) (by rw [hl.2];exact n1) q)
        have H7:=aQ (dY.pickL (us:=[tSq dK 32 (.slice a6 rs.length c6) rs,bI p X,tRd eEvt (.slice a es.length c) es]) (vs:=[tSq dK 32 (.slice a6 rs.length c6) rs,bI p X]) h6 [0,1] (by decide) rfl)
        have HTN:=aQ (show 0+6*el.length+es.length<=1000000 by have:=HE2.out;omega)
        have HSL:=aQ (set_len HKN.out HRM.out)
        have HQQ:=aQ (setup_quiet HV.out HRM.out HLT.out HKN.out HXF.out (by decide) (by decide) HTT.out (by have:=HE2.out;omega))
        have HNO:=aQ (show offSum X s.a.aZ.length 2=X.noff from offSum_noff ((full_ol HXF.out).1.trans HSL.out.1) ((full_ol HXF.out).2.trans HSL.out.2))
        have HR4:=aQ (show s.a.aZ.length<=4 from HV.out.1.2.1.2.1)
        have HTA:=aQ (show s.a.t=((s.a.t.toNat:Nat):Int) by have:=HV.out.1.2.2.2.2.1;omega)
        have HTB:=aQ (show s.b.t=((s.b.t.toNat:Nat):Int) by have:=HV.out.2.1.2.2.2.2.1;omega)
        have HTD:=aQ (show s.cB=((s.cB.toNat:Nat):Int) by have:=HV.out.2.2.1;omega)
        have HT40:=aQ (show s.a.t.toNat<=40/\s.b.t.toNat<=40/\s.cB.toNat<=6 from ⟨by have:=HV.out.2.2.2.2.2.2.1;omega,by have:=HV.out.2.2.2.2.2.2.2.1;omega,by have:=HV.out.2.2.2.1;omega⟩)
        have HMO:=aQ (most_small HTT.out.n (show 0+6*el.length+es.length<=157 by have:=HE2.out;omega) (Nat.max_le.2 ⟨HT40.out.1,HT40.out.2.1⟩) HT40.out.2.2)
        have H8:=aQ (dY.pickL (us:=[tSq eBy 42 (.slice none 0 0) [],tSq dK 32 (.slice a6 rs.length c6) rs,bI p X]) (vs:=[tSq eBy 42 (.slice none 0 0) [],tSq dK 32 (.slice a6 rs.length c6) rs,bI p X]) ((H7.out.add (Below.refl _ _) (T:=tSq eBy 42 (.slice none 0 0) []) (Sq.nil _ _ _ _ _)).front) [0,1,2] (by decide) rfl)
        clear h6 hX hrs H5 H7 HDT HE1 HXF0 HXS0 HTT0 HKN0
        have hrl:=HRL.out
        go_wp2_with fail
        go_loopw [14,113] (fun v i wr=>∃k:Nat,k<=bs.length+1/\i=.int .i64 (k:Int)/\∃(ws:List Byt) (a:Option Addr) (c:Nat),v=.slice a ws.length c/\Hid (ws=sel ((rs.drop 1).take (k - 1)) (bs.take (k - 1))/\ws.length<=k)/\Hid (dY (fun _=>False) (Old W) W (tSq eBy 42 (.slice a ws.length c) ws::tSq dK 32 (.slice a6 rs.length c6) rs::bI p X::ts) wr)) (fun _ i _=>bs.length+1 - (intOf i).toNat)
        case atStart=>exact ⟨0,by omega,rfl,[],none,0,rfl,aQ ⟨by simp [sel],by simp⟩,H8⟩
        case round=>
         clear H8
         obtain ⟨k,hk,rfl,ws,wa,wc,rfl,HW,HO⟩:=hrel
         by_cases hlk:k < bs.length+1
         ·obtain ⟨x,hx⟩:∃x,rs[k]? = some x:=⟨rs[k],List.getElem?_eq_getElem (by omega)⟩
          obtain ⟨_,_,hsq⟩:=HO.out.get 1 rfl
          obtain ⟨b2,o2,rfl,hc2⟩:=nat_at (show Sq dK 32 wr _ _ (.slice a6 rs.length c6) rs from hsq) hx
          have hkI:(k:Int) < (rs.length:Int):=by omega
          clear hsq
          by_cases hk0:0 < k
          ·have hk0I:(0:Int) < (k:Int):=by omega
           obtain ⟨j,rfl⟩:∃j,k=j+1:=⟨k - 1,by omega⟩
           obtain ⟨d,hd⟩:∃d,bs[j]? = some d:=⟨bs[j],List.getElem?_eq_getElem (by omega)⟩
           have HSN:=aQ (show sel ((rs.drop 1).take (j+1)) (bs.take (j+1))=sel ((rs.drop 1).take j) (bs.take j)++(if x=0 then [d] else []) by
            rw [List.take_add_one,List.take_add_one,hd,show (rs.drop 1)[j]? = some x by rw [List.getElem?_drop,Nat.add_comm];exact hx]
            exact sel_snoc _ _ _ _ (by rw [List.length_take,List.length_take,List.length_drop];omega))
           have hwj:IntKind.i64.wrap (((j+1:Nat):Int) - 1)=(j:Int):=(IntWalk.i64_in _ (by omega)).trans (by omega)
           have hwj':IntKind.i64.wrap ((j:Int)+1 - 1)=(j:Int):=(IntWalk.i64_in _ (by omega)).trans (by omega)
           by_cases hx0:x=0
           ·obtain ⟨_,_,hov⟩:=HO.out.get 9 QO.out
            obtain ⟨b,off,va,vc,rfl,hc,_⟩:=rd_by_at (show RdS eBy wr _ (.slice oa bs.length oc) bs from hov) hd
            have HO2:=aQ (HO.out.frame_at 9 QO.out hd hc)
            have HLE:=aQ (show ws.length<=1000000 by have:=HW.out.2;omega)
            have hxe:((x:Int) == 0)=true:=by simp [hx0]
            have HX0':=aQ hx0
            clear hov hd hx HO hx0
            go_wp2_with (at_builtin;refine wpList_app_frm rfl _ _ rfl HO2.out 1 rfl 0 (by decide) rfl (aK wr _) HLE.out rfl wr.heap.size rfl (heap_alloc_new wr _) ?_;intro a' c' w6 h6;have H6:=aQ (show dY (fun _=>False) (Old W) W (tSq eBy 42 (.slice a' (ws++[d]).length c') (ws++[d])::tSq dK 32 (.slice (some ⟨b2,o2,none⟩) rs.length c6) rs::bI p X::ts) w6 from dY.tail (T:=tBy (.slice va d.length vc) d) h6);clear h6)
            go_roundw
            case rel=>exact ⟨j+1+1,by omega,by go_num,ws++[d],a',c',by rw [List.length_append];rfl,aQ ⟨by rw [Nat.add_sub_cancel,HSN.out,if_pos HX0'.out,HW.out.1,Nat.add_sub_cancel],by rw [List.length_append];have:=HW.out.2;show _+1<=_;omega⟩,H6⟩
            case measure=>simp [intOf];omega
           ·have hxe:((x:Int) == 0)=false:=by simp [hx0]
            have HX0':=aQ hx0
            clear hd hx hx0
            go_wp2_with fail
            go_roundw
            case rel=>exact ⟨j+1+1,by omega,by go_num,ws,wa,wc,rfl,aQ ⟨by rw [Nat.add_sub_cancel,HSN.out,if_neg HX0'.out,List.append_nil,HW.out.1,Nat.add_sub_cancel],by have:=HW.out.2;omega⟩,HO⟩
            case measure=>simp [intOf];omega
          ·have hk0I:¬(0:Int) < (k:Int):=by omega
           have HX1:=aQ (show k+1 - 1=k - 1 by omega)
           clear hx
           go_wp2_with fail
           go_roundw
           case rel=>exact ⟨k+1,by omega,by go_num,ws,wa,wc,rfl,aQ ⟨by rw [HX1.out];exact HW.out.1,by have:=HW.out.2;omega⟩,HO⟩
           case measure=>simp [intOf];omega
         ·have hge:¬(k:Int) < (bs.length:Int)+1:=by omega
          have hge2:¬(k:Int) < (rs.length:Int):=by omega
          have HWS:=aQ (show ws=sel (rs.drop 1) bs by
           have:=HW.out.1
           rwa [show k - 1=bs.length by omega,List.take_of_length_le (show (rs.drop 1).length<=bs.length by rw [List.length_drop];omega),List.take_length] at this)
          have HWL:=aQ (show ws.length<=7 by have:=HW.out.2;omega)
          obtain ⟨ts2,hts2⟩:∃ts2,ts2=tSq eBy 42 (.slice wa ws.length wc) ws::ts:=⟨_,rfl⟩
          have HX:=aQ (show dY (fun _=>False) (Old W) W (bI p X::ts2) wr by
           rw [hts2]
           exact dY.pickL (us:=[tSq eBy 42 (.slice wa ws.length wc) ws,tSq dK 32 (.slice a6 rs.length c6) rs,bI p X]) (vs:=[bI p X,tSq eBy 42 (.slice wa ws.length wc) ws]) HO.out [2,0] (by decide) rfl)
          have QW:=aQ (show ts2[0]? = some (tSq eBy 42 (.slice wa ws.length wc) ws) by rw [hts2];rfl)
          have QB2:=aQ (show ts2[6]? = some (dJ W.heap.size (setO s aa ak ba bk ta tk ya yk)) by rw [hts2];exact QB.out)
          clear QB
          have QB:=QB2
          clear QB2 HO HW hts2 hrl
          go_wp2_with fail
          go_loopw [19,133] (fun t i wr=>∃n:Nat,n<=2/\i=.int .i64 (n:Int)/\∃m:Nat,t=.int .i64 (m:Int)/\Hid (m=offSum X s.a.aZ.length n/\m<=4*n*400000)/\Hid (dY (fun _=>False) (Old W) W (bI p X::ts2) wr)) (fun _ i _=>2 - (intOf i).toNat)
          case atStart=>exact ⟨0,by decide,rfl,0,rfl,aQ ⟨rfl,Nat.zero_le _⟩,HX⟩
          case round=>
           clear HX
           obtain ⟨n,hn,rfl,m,rfl,HM,HO⟩:=hrel
           by_cases hn2:n < 2
           ·have hn2I:(n:Int) < 2:=by omega
            have l1:=aJ (i:=1) (HO.out.blk 7 QB.out) rfl
            go_wp2_with fail
            go_loopw [19,140] (fun t i wr=>∃k:Nat,k<=s.a.aZ.length/\i=.int .i64 (k:Int)/\∃m:Nat,t=.int .i64 (m:Int)/\Hid (m=offPart X s.a.aZ.length n k/\m<=4*n*400000+k*400000)/\Hid (dY (fun _=>False) (Old W) W (bI p X::ts2) wr)) (fun _ i _=>s.a.aZ.length - (intOf i).toNat)
            case atStart=>exact ⟨0,by omega,rfl,m,rfl,aQ ⟨HM.out.1,Nat.le_trans HM.out.2 (Nat.le_add_right _ _)⟩,HO⟩
            case round=>
             clear HM HO l1
             obtain ⟨k,hk,rfl,m,rfl,HM,HO⟩:=hrel
             by_cases hlk:k < s.a.aZ.length
             ·have hr4:=HR4.out
              have HCO:=aQ (cls_off X hn2 k)
              have HCL:=aQ (offPart_le HXF.out hn2 k)
              have HPS:=aQ (offPart_succ X s.a.aZ.length n k)
              go_wp2_with fail
              refine (offered_c HXF.out HXS.out (by decide) (n:Int) (k:Int) HO.out).mono ?_
              rintro e w5 ⟨a5,c5,rfl,h5⟩
              rw [HCO.out] at h5 ⊢
              generalize (X.nd n).aV.getD k []=lo at *
              have H5:=aQ (dY.pickL (us:=[tBB (.slice a5 lo.length c5) lo,bI p X]) (vs:=[bI p X]) h5 [1] (by decide) rfl)
              have hmb:=HM.out.2
              have hlb:=HCL.out
              have hw:IntKind.i64.wrap ((m:Int)+(lo.length:Int))=((m+lo.length:Nat):Int):=(IntWalk.i64_in _ (by omega)).trans (by omega)
              have HM2:=aQ (show m+lo.length=offPart X s.a.aZ.length n (k+1)/\m+lo.length<=4*n*400000+(k+1)*400000 from ⟨by rw [HPS.out,<-HM.out.1],by omega⟩)
              clear h5 HO hmb hlb HM
              go_wp2_with fail
              go_roundw
              case rel=>exact ⟨k+1,by omega,by go_num,m+lo.length,rfl,HM2,H5⟩
              case measure=>simp [intOf];omega
             ·obtain rfl:s.a.aZ.length=k:=by omega
              go_wp2_with fail
              go_roundw
              case rel=>exact ⟨n+1,by omega,by go_num,m,rfl,aQ ⟨HM.out.1,by have:=HM.out.2;have:=HR4.out;omega⟩,HO⟩
              case measure=>simp [intOf];omega
           ·have hnge:¬(n:Int) < 2:=by omega
            obtain rfl:m=X.noff:=HM.out.1.trans (by rw [show n=2 by omega];exact HNO.out)
            have hrow:=HO.out.blk 7 QB.out
            have hnb:X.noff<=1000000:=Nat.le_trans HTT.out.n HTN.out
            obtain ⟨q,hq⟩:=HQQ.out
            have HQ3:=aQ hq
            have hmost:(X.noff+4)*(max s.a.t.toNat s.b.t.toNat+4*s.cB.toNat+12)+800<=1000000:=HMO.out
            obtain ⟨B,hB⟩:∃B:Nat,B=(X.noff+4)*(max s.a.t.toNat s.b.t.toNat+4*s.cB.toNat+12)+800:=⟨_,rfl⟩
            have HBD:=aQ (show ∀w':World,Calls Tryz.prog 39 #[setV s aa ak ba bk ta tk ya yk,.int .i64 (X.noff:Int)] w' fun e w''=>e=.returned (.int .i64 (B:Int))/\Below w'.heap.size w' w'' from fun w'=>by
             rw [hB]
             exact bound_c X.noff s.a.t.toNat s.b.t.toNat s.cB.toNat HTA.out HTB.out HTD.out hnb (by have:=HT40.out.1;omega) (by have:=HT40.out.2.1;omega) (by have:=HT40.out.2.2;omega) w')
            have hqB:q<=B:=by rw [hB];exact HQ3.out.1
            have hB6:B<=1000000:=by rw [hB];exact hmost
            clear hB hmost
            have HDR:=aQ (fun w' (h':dY (fun _=>False) (Old W) W (bI p X::ts2) w')=>drain_c (N:=400000) (ts:=ts2) X (X.step [⟨4,0,0,[]⟩]) rfl HXF.out (by decide) s.a.aZ.length HSL.out.1 HSL.out.2 q B HQ3.out.2.2 hqB hB6 (q_big (N:=400000) (by decide) HQ3.out.2.1) HT.out h')
            go_upto_region 35 with (fail)
            refine wp_region_held_drew (S:=fun w'=>w'.heap[W.heap.size]? = some (setO s aa ak ba bk ta tk ya yk)) (by kernel_rfl) hrow (fun hS0=>?_)
            change wpAnyH _ _ _ _ _ (3+7) _ _ _
            refine aH 0 7 (by kernel_rfl) hS0 (fun _ _ _ _ _ h=>h) ?_
            simp only [List.drop_zero,List.take_succ_cons,List.take_zero]
            iterate 3 (refine aR (v:=?_) (by rfl) ?_ ?_;rotate_left 1;(focus ((intro w' hS';go_simp);try with_reducible rfl));simp only [Act.put,List.setIfInBounds_toArray,List.set_cons_zero,List.set_cons_succ])
            (refine aR (v:=?_) (by rfl) ?_ ?_;rotate_left 1;(focus ((intro w' hS';have l1:=aJ (i:=1) hS' rfl;clear hS';go_simp);try with_reducible rfl));simp only [Act.put,List.setIfInBounds_toArray,List.set_cons_zero,List.set_cons_succ])
            (refine aR (v:=?_) (by rfl) ?_ ?_;rotate_left 1;(focus ((intro w' hS';go_simp);try with_reducible rfl));simp only [Act.put,List.setIfInBounds_toArray,List.set_cons_zero,List.set_cons_succ])
            (refine aR (v:=?_) (by rfl) ?_ ?_;rotate_left 1;(focus ((intro w' hS';obtain ⟨x0,x1,x2,x3,x4,x5,x6,x7,x8,x9,x10,x11,x12⟩:=aC hS';clear hS';go_simp);try with_reducible rfl));simp only [Act.put,List.setIfInBounds_toArray,List.set_cons_zero,List.set_cons_succ])
            (refine aR (v:=?_) (by rfl) ?_ ?_;rotate_left 1;(focus ((intro w' hS';go_simp);try with_reducible rfl));simp only [Act.put,List.setIfInBounds_toArray,List.set_cons_zero,List.set_cons_succ])
            refine aT ?_
            refine aM 7 (by kernel_rfl) rfl (fun K hK=>?_)
            (refine step_call (f:=?_) (args:=?_) (by rfl) ?_ ?_;rotate_left 2;(focus (go_simp;first|(with_reducible rfl)|(refine ⟨?_,?_⟩ <;> with_reducible rfl)));(refine ((HBD.out _)).mono ?_);rintro e' w'' ⟨rfl,hb⟩)
            refine ⟨_,rfl,?_⟩
            have hS1:=(hb.block _ (lt_of_block hS0)).trans hS0
            have H2:=aQ (HO.out.drew.own hb)
            refine hK.out _ _ hS1 ?_
            clear hK K hb
            refine aM 8 (by kernel_rfl) rfl (fun K hK=>?_)
            (refine step_call (f:=?_) (args:=?_) (by rfl) ?_ ?_;rotate_left 2;(focus (go_simp;first|(with_reducible rfl)|(refine ⟨?_,?_⟩ <;> with_reducible rfl))))
            refine (HDR.out _ H2.out).mono ?_
            rintro e w6 ⟨m,hmq,rfl,hqm,h6⟩
            refine ⟨_,rfl,?_⟩
            have H6:=aQ h6
            have HQM:=aQ hqm
            have HMQ:=aQ (Nat.le_trans hmq HQ3.out.2.1)
            refine hK.out _ _ (h6.blk 7 QB.out) ?_
            clear hK K h6 hqm hmq hS0 hS1 H2 HO hrow hq HDR HBD hqB hB6 hnb
            refine aH 9 1 (by kernel_rfl) (H6.out.blk 7 QB.out) (fun _ _ _ _ _ h=>h) ?_
            simp only [List.drop_succ_cons,List.drop_zero,List.take_succ_cons,List.take_zero]
            (refine aR (v:=?_) (by rfl) ?_ ?_;rotate_left 1;(focus ((intro w' hS';go_simp);try with_reducible rfl));simp only [Act.put,List.setIfInBounds_toArray,List.set_cons_zero,List.set_cons_succ])
            refine aT ?_
            refine wpAnyH_done (by kernel_rfl) ?_ _
            obtain ⟨K,hK⟩:∃K,K=(X.step [⟨4,0,0,[]⟩]).drain m:=⟨_,rfl⟩
            have hYF:(X.step [⟨4,0,0,[]⟩]).Full (400000+13065) False:=(HXF.out.step (by decide) [⟨4,0,0,[]⟩]).mono (by simp) False.elim
            have hYl:=set_len (HKN.out.trans (step_kin X [⟨4,0,0,[]⟩])) HRM.out
            have HKF:=aQ (show K.Full 200000000 False by rw [hK];exact (drain_full hYF m).mono (by have:=HMQ.out;omega) id)
            have HKS:=aQ (show K.Short by rw [hK];exact drain_short (hYF.mono (Nat.le_refl _) False.elim) (HXS.out.step HXF.out (by decide) _) (by decide) hYl.1 hYl.2 m)
            obtain ⟨pre,hpre⟩:=HRET.out m HQM.out
            rw [<-hK,<-HWS.out] at hpre
            have HPRE:=aQ hpre
            rw [<-hK] at H6
            have hw:IntKind.i64.wrap (1 - (f:Int))=1 - (f:Int):=IntWalk.i64_in _ (by omega)
            clear hpre hK hYF hYl HQM HMQ HXF HXS HTT HKN HSL HQQ HNO HMO HQ3 HRET
            go_wp2_with fail
            refine (taken_c HKF.out HKS.out (by decide) (1 - (f:Int)) 0 H6.out).mono ?_
            rintro e w7 ⟨a7,c7,rfl,h7⟩
            rw [HPRE.out] at h7 ⊢
            obtain ⟨_,_,q1⟩:=h7.get 0 rfl
            obtain ⟨_,_,q2⟩:=h7.get 2 QW.out
            have hs1:=show Sq (eSq eU8 5) 42 w7 _ _ (.slice a7 (pre++ws).length c7) (pre++ws) from q1
            have hb2:=bbs_by (show Sq eBy 42 w7 _ _ (.slice wa ws.length wc) ws from q2)
            obtain ⟨_,_,e9,hle9,hmx9,hz9⟩:=Sq.le hs1
            obtain ⟨rfl,rfl⟩:a7=_/\c7=_:=by simpa using e9
            have HBL7:=aQ h7.below
            have hpl:(pre++ws).length=pre.length+ws.length:=List.length_append
            have HMX:=aQ hmx9
            unfold maxLen at hmx9
            have HB1:=aQ (bbs_of hs1)
            have HB2:=aQ hb2
            have HWC:=aQ (show wc<=maxLen by obtain ⟨_,_,e,_,h,_⟩:=hb2;obtain ⟨_,rfl⟩:wa=_/\wc=_:=(by simpa using e);exact h)
            have hw8:IntKind.i64.wrap (((pre++ws).length:Int) - (ws.length:Int))=(pre.length:Int):=(IntWalk.i64_in _ (by omega)).trans (by omega)
            have hw9:IntKind.i64.wrap ((pre.length:Int)+(ws.length:Int) - (ws.length:Int))=(pre.length:Int):=(IntWalk.i64_in _ (by omega)).trans (by omega)
            clear h7 q1 q2 hs1 hb2 e9 H6 hz9
            have hge:decide ((ws.length:Int)<=((pre++ws).length:Int))=true:=by simp;omega
            have hge2:(ws.length:Int)<=((pre++ws).length:Int):=by omega
            by_cases hws:ws=[]
            ·have HN:=aQ (show ∀(a9:Option Addr) (c9:Nat),c9<=maxLen->Calls Tryz.prog 36 #[.slice a9 0 c9,.slice wa 0 wc,.func (.func 25) #[] #[]] w7 fun r w'=>r=.returned (.bool true)/\w7=w' from fun a9 c9 h9=>equalB_c _ _ [] (BBs.nil _ _ h9) (BBs.nil _ _ HWC.out))
             have HC7:=aQ (show c7 - pre.length<=maxLen from Nat.le_trans (Nat.sub_le _ _) HMX.out)
             have hwl:ws.length=0:=by rw [hws];rfl
             clear hws
             generalize ws.length=z at *
             subst hwl
             cases a7 with
             |none=>
              go_wp2_with fail
              refine (HN.out none _ HC7.out).mono ?_
              rintro r w8 ⟨rfl,rfl⟩
              go_wp2_with fail
              go_ret
              exact ⟨by simp,HBL7.out⟩
             |some ad=>
              go_wp2_with fail
              ·refine (HN.out (some ad) 0 (Nat.zero_le _)).mono ?_
               rintro r w8 ⟨rfl,rfl⟩
               go_wp2_with fail
               go_ret
               exact ⟨by simp,HBL7.out⟩
              ·refine (HN.out _ _ HC7.out).mono ?_
               rintro r w8 ⟨rfl,rfl⟩
               go_wp2_with fail
               go_ret
               exact ⟨by simp,HBL7.out⟩
            ·obtain ⟨b8,o8,rfl,hb1⟩:=HB1.out.drop hws
             have HE8:=aQ (equalB_c _ _ _ hb1 HB2.out)
             have HCP:=aQ (show ¬c7=pre.length by have:=hle9;have:=List.length_pos_iff.2 hws;omega)
             clear hb1 hws
             go_wp2_with fail
             refine (HE8.out).mono ?_
             rintro r w8 ⟨rfl,rfl⟩
             go_wp2_with fail
             go_ret
             exact ⟨by simp,HBL7.out⟩
   ·have hne:((s.a.aZ.length:Int) != (s.b.aZ.length:Int))=true:=by simp;omega
    clear hroom
    obtain ⟨x0,x1,x2,x3,x4,x5,x6,x7,x8,x9,x10,x11,x12⟩:=aC (H4.out.blk 6 QB.out)
    go_wp2_with fail
    refine (HQ1.out.small H4.out).mono ?_
    rw [decide_eq_true HV.out]
    rintro e w9 ⟨rfl,hb⟩
    have H9:=aQ (H4.out.own hb)
    clear hb
    go_wp2_with fail
    go_ret
    exact ⟨rfl,H9.out.below⟩
 ·refine (run_no 0 QS.out hs H2.out).mono ?_
  rintro e w2 ⟨rfl,hb⟩
  have H3:=aQ (H2.out.own hb)
  clear hb H2 x0 x1 x2 x3 x4 x5 x6 x7 x8 x9 x10 x11 x12
  obtain ⟨x0,x1,x2,x3,x4,x5,x6,x7,x8,x9,x10,x11,x12⟩:=aC (H3.out.blk 5 QB.out)
  go_wp2_with fail
  refine (QS.out.small H3.out).mono ?_
  rw [decide_eq_false hs]
  rintro e w3 ⟨rfl,hb⟩
  have H4:=aQ (H3.out.own hb)
  clear hb
  go_wp2_with fail
  go_ret
  exact ⟨rfl,H4.out.below⟩
end
end Go.Proofs.YtcbnhebiagdbiaaGreatDoor
