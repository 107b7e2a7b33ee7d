/- The walk of LinkMemory. -/
import Derived.Test.YtcbnhebiagdbiaaGreatDoorPeWalkLinkMemory
import Derived.Test.YtcbnhebiagdbiaaGreatDoorLsU
import Derived.Test.YtcbnhebiagdbiaaGreatDoorLsV
import Derived.Test.YtcbnhebiagdbiaaGreatDoorPkM1
import Derived.Test.YtcbnhebiagdbiaaGreatDoorPkI1
namespace Go.Proofs.YtcbnhebiagdbiaaGreatDoor
set_option maxHeartbeats 64000000
section
open Go.RowKit
set_option maxRecDepth 100000
theorem gives_blk {Z:BS} {W:World} {ts:List Th} (e:Evt) {b:Nat} {da:Option Addr} {dc:Nat} (i j:Nat) {T:Th} (hi:ts[i]? = some (dJ b (.cells #[.int .i64 e.kind,.int .i64 e.cS,.int .i64 e.cls,.slice da e.data.length dc] 49))) (hj:ts[j]? = some T) (hT:Reads T (.slice da e.data.length dc) e.data):Gives Z W ts (some ⟨b,0,none⟩) [e]:=fun k e' hk us wr HH=>by
 match k,hk with
 |0,hk=>
  obtain rfl:e=e':=by simpa using hk
  have hrow:=HH.blk (us.length+i) (by rw [List.getElem?_append_right (Nat.le_add_right _ _),Nat.add_sub_cancel_left];exact hi)
  exact ⟨b,0,da,dc,rfl,aJ hrow rfl,aJ hrow rfl,aJ hrow rfl,aJ hrow rfl,ts,j,T,hj,hT,HH,fun _ _ h=>h⟩
 |k+1,hk=>simp at hk
theorem reads_sq8 (v:Value) (d:dV):Reads (tSq eU8 5 v d) v d:=fun _ _ _ h=>sq_by8 h
theorem mI_full {d:dV} (h0:d.length<=60):∀n,((mA d).idle n).Full (265+13000*n) False
 |0=>((newLk_full mCfg_ok mCfg_ok (by decide) (by decide) rfl rfl (by decide) (by decide):mL.Full 200 True).act (by decide) ⟨1,0,0,d⟩).mono (Nat.le_refl _) False.elim
 |n+1=>by
  have h:((mA d).idle n).cR.Full _ False:=Lk.Full.cR (mI_full h0 n)
  exact h.mono (by omega) id
theorem mI_short {d:dV} (hd:d.length<=60):∀n,((mA d).idle (n+1)).Short
 |0=>Lk.Short.step (L:=mL) (N:=200) (Z:=True) ⟨newLnd_short _ _ _ _ _ _ _,newLnd_short _ _ _ _ _ _ _⟩ (newLk_full mCfg_ok mCfg_ok (by decide) (by decide) rfl rfl (by decide) (by decide)) (by decide) [⟨1,0,0,d⟩]
 |n+1=>(mI_short hd n).cR
theorem walkLinkMemory (W:World) (v0:Value) (o0:IsBytes W v0) (ht:Tabs W) :
  Calls Tryz.prog 4 #[v0] W fun e w'=>e=.returned (.bool true)/\Below W.heap.size W w':=by
 obtain ⟨d,hby⟩:=o0
 obtain ⟨da,dc,rfl⟩:=hby.slice
 have hdl:d.length<=9223372036854775807:=by
  obtain ⟨_,a,cap,e,h1,h2,_⟩:=(show Rd W 1 _ d.length (cu d) from hby)
  unfold maxLen at h2
  omega
 have H0:=aQ (show dY (fun _=>False) (Old W) W [tBy (.slice da d.length dc) d,tRd eFlt (.slice none 0 0) [],tRd eEvt (.slice none 0 0) []] W from ((((dY.start0 (fun _=>False) (Old W) (fun _ f _=>f) W).addOld (T:=tBy (.slice da d.length dc) d) (ByZ.mono (byZ_of hby) fun _ h=>⟨h,id⟩)).add (Below.refl _ _) (T:=tRd eFlt (.slice none 0 0) []) (RdS.nil _ _ _)).add (Below.refl _ _) (T:=tRd eEvt (.slice none 0 0) []) (RdS.nil _ _ _)))
 have HT:=aQ ht
 clear hby ht
 go_enter Tryz.func4,Tryz.ntmps4
 go_wp2_with fail
 refine (awake_c _ HT.out).mono ?_
 rintro e w1 ⟨rfl,hb⟩
 have H1:=aQ (H0.out.own hb)
 clear hb H0
 by_cases hd61:60 < d.length
 ·go_wp2_with fail
  go_ret
  exact ⟨rfl,H1.out.below⟩
 have hd60:d.length<=60:=by omega
 go_wp2_with fail
 refine (plain_c 1 _ _ _ _).mono ?_
 rintro e w2 ⟨rfl,hb⟩
 have H2:=aQ ((H1.out.lit_nat 3 3).own hb)
 clear hb H1
 go_wp2_with fail
 refine (plain_c 1 _ _ _ _).mono ?_
 rintro e w3 ⟨rfl,hb⟩
 have H3:=aQ ((H2.out.lit_nat 3 3).own hb)
 clear hb H2
 go_wp2_with fail
 refine (newL_c ⟨1,[3],4,4,9⟩ ⟨1,[3],4,4,9⟩ mCfg_ok mCfg_ok 1 (by decide) (by decide) [] [] rfl rfl (by decide) (by decide) (some ⟨w1.heap.size,0,none⟩) (some ⟨w2.heap.size,0,none⟩) 1 1 _ _ 1 0 3 3 rfl rfl rfl rfl H3.out).mono ?_
 rintro e w4 ⟨p,rfl,h4⟩
 have H4:=aQ ((show dY (fun _=>False) (Old W) W [bI p mL,tRd dK (.slice (some ⟨w2.heap.size,0,none⟩) 1 1) [3],tRd dK (.slice (some ⟨w1.heap.size,0,none⟩) 1 1) [3],tBy (.slice da d.length dc) d,tRd eFlt (.slice none 0 0) [],tRd eEvt (.slice none 0 0) []] w4 from h4).pick [0,5,3] [bI p mL,tRd eEvt (.slice none 0 0) [],tBy (.slice da d.length dc) d] (by decide) rfl)
 clear h4 H3
 obtain ⟨_,_,hdz⟩:=H4.out.get 2 rfl
 have HCL:=aQ (cV _ d _ (show ByZ w4 _ _ d from hdz).1 (by omega))
 clear hdz
 go_wp2_with fail
 refine HCL.out.mono ?_
 rintro e w5 ⟨vb,rfl,ho,hb⟩
 obtain ⟨va,vc,rfl⟩:=ho.by.slice
 have H5:=aQ (H4.out.add hb (T:=tSq eU8 5 (.slice va d.length vc) d) (Nb.of_ow ho).sq)
 clear hb ho H4 HCL
 go_wp2_with fail
 have H6:=aQ (show dY (fun _=>False) (Old W) W [bI p mL,tRd eEvt (.slice none 0 0) [],tBy (.slice da d.length dc) d,tSq eU8 5 (.slice va d.length vc) d,dJ w5.heap.size (.cells #[.int .i64 1,.int .i64 0,.int .i64 0,.slice va d.length vc] 49)] (w5.alloc (.cells #[.int .i64 1,.int .i64 0,.int .i64 0,.slice va d.length vc] 49)) from H5.out.new (.cells #[.int .i64 1,.int .i64 0,.int .i64 0,.slice va d.length vc] 49))
 clear H5
 refine (tickG_c (newLk_full mCfg_ok mCfg_ok (by decide) (by decide) rfl rfl (by decide) (by decide):mL.Full 200 True) (by decide) [⟨1,0,0,d⟩] (by simp) (by simp) (by simp;omega) _ _ (gives_blk ⟨1,0,0,d⟩ 3 2 rfl rfl (reads_sq8 _ d)) HT.out H6.out).mono ?_
 rintro e w6 ⟨a6,c6,rfl,h6⟩
 have H8:=aQ ((show dY (fun _=>False) (Old W) W (tSq dK 32 (.slice a6 _ c6) _::[bI p ((mA d).idle (1+0)),tRd eEvt (.slice none 0 0) [],tBy (.slice da d.length dc) d,tSq eU8 5 (.slice va d.length vc) d,dJ w5.heap.size (.cells #[.int .i64 1,.int .i64 0,.int .i64 0,.slice va d.length vc] 49)]) w6 from h6).pick [4,1,2,3] [tSq eU8 5 (.slice va d.length vc) d,bI p ((mA d).idle (1+0)),tRd eEvt (.slice none 0 0) [],tBy (.slice da d.length dc) d] (by decide) rfl)
 clear h6 H6
 go_wp2_with fail
 go_loopw [39] (fun i wr=>∃k:Nat,k<=d.length/\i=.int .i64 (k:Int)/\∃xs:List (BitVec 8),Hid (xs.length=d.length)/\Hid (dY (fun _=>False) (Old W) W (tSq eU8 5 (.slice va d.length vc) xs::[bI p ((mA d).idle (1+0)),tRd eEvt (.slice none 0 0) [],tBy (.slice da d.length dc) d]) wr)) (fun i _=>d.length - (intOf i).toNat)
 case atStart=>exact ⟨0,by omega,rfl,d,aQ rfl,H8⟩
 case round=>
  clear H8
  obtain ⟨k,hk,rfl,xs,HXL,HO⟩:=hrel
  by_cases hlk:k < d.length
  ·obtain ⟨g,off,c,e,hc,hf,_⟩:=own_cells HO.out 0 rfl (j:=k) (by rw [HXL.out];exact hlk)
   obtain ⟨e1,e2⟩:va=some ⟨g,off,none⟩/\vc=c:=by simpa using (by simpa using e:va=some ⟨g,off,none⟩/\d.length=xs.length/\vc=c).imp id And.right
   subst e1 e2
   have hwy:=wrap_inc (xs.getD k 0)
   have H9:=aQ (HO.out.putU8 0 rfl k (xs.getD k 0+1#8))
   have HXL2:=aQ (show (xs.set k (xs.getD k 0+1#8)).length=d.length by rw [List.length_set];exact HXL.out)
   clear HO e
   generalize xs.set k (xs.getD k 0+1#8)=ys at *
   generalize xs.getD k 0=y at *
   go_wp2_with fail
   go_roundw
   case rel=>exact ⟨k+1,by omega,by go_num,ys,HXL2,H9⟩
   case measure=>simp [intOf];omega
  ·obtain rfl:d.length=k:=by omega
   have H9:=aQ HO.out.tail
   clear HO
   go_wp2_with fail
   refine (offered_c (mI_full hd60 1) (mI_short hd60 0) (by decide) 0 0 H9.out).mono ?_
   rintro e w7 ⟨xa,xc,rfl,h7⟩
   rw [mOff hd60 1] at h7 ⊢
   rw [show ([d]:List (List (BitVec 8))).length=1 from rfl] at h7 ⊢
   have HF:=aQ h7
   clear h7 H9
   go_wp2_with fail
   go_loopw [52] (fun i wr=>(i=.int .i64 0/\Hid (dY (fun _=>False) (Old W) W (tBB (.slice xa 1 xc) [d]::[bI p ((mA d).idle (1+0)),tRd eEvt (.slice none 0 0) [],tBy (.slice da d.length dc) d]) wr))\/(i=.int .i64 1/\Hid (dY (fun _=>False) (Old W) W [bI p ((mA d).idle (1+0)),tRd eEvt (.slice none 0 0) [],tBy (.slice da d.length dc) d] wr))) (fun i _=>1 - (intOf i).toNat)
   case atStart=>exact .inl ⟨rfl,HF⟩
   case round=>
    clear HF
    rcases hrel with ⟨rfl,HA⟩|⟨rfl,HA⟩
    ·obtain ⟨b,off,cap,_,e,_,_,_⟩:=HA.out.bb_at 0 rfl (c:=0) (xs:=d) rfl
     obtain ⟨vc0,hvc,hout⟩:=dY.out (b:=b) (off:=off) (n:=1) (cap:=cap) (xss:=[d]) (by exact HA.out) 0 (by rw [e];rfl) (c:=0) (xs:=d) rfl
     obtain ⟨_,_,hsq⟩:=hout.get 4 rfl
     obtain ⟨ia,ic,e2⟩:=Sq.shape (show Sq eU8 5 wr _ _ vc0 d from hsq)
     subst e2
     have H8:=aQ (hout.pick [4,1,2,3] (tSq eU8 5 (.slice ia d.length ic) d::[bI p ((mA d).idle (1+0)),tRd eEvt (.slice none 0 0) [],tBy (.slice da d.length dc) d]) (by decide) rfl)
     obtain ⟨e3,e4⟩:xa=some ⟨b,off,none⟩/\xc=cap:=by simpa using e
     subst e3 e4
     clear HA hout hsq e
     rw [Nat.add_zero] at hvc
     go_wp2_with fail
     go_loopw [58] (fun i wr=>∃k:Nat,k<=d.length/\i=.int .i64 (k:Int)/\∃xs:List (BitVec 8),Hid (xs.length=d.length)/\Hid (dY (fun _=>False) (Old W) W (tSq eU8 5 (.slice ia d.length ic) xs::[bI p ((mA d).idle (1+0)),tRd eEvt (.slice none 0 0) [],tBy (.slice da d.length dc) d]) wr)) (fun i _=>d.length - (intOf i).toNat)
     case atStart=>exact ⟨0,by omega,rfl,d,aQ rfl,H8⟩
     case round=>
      clear H8
      obtain ⟨k,hk,rfl,xs,HXL,HO⟩:=hrel
      by_cases hlk:k < d.length
      ·obtain ⟨g,off,c,e,hc,hf,_⟩:=own_cells HO.out 0 rfl (j:=k) (by rw [HXL.out];exact hlk)
       obtain ⟨e1,e2⟩:ia=some ⟨g,off,none⟩/\ic=c:=by simpa using (by simpa using e:ia=some ⟨g,off,none⟩/\d.length=xs.length/\ic=c).imp id And.right
       subst e1 e2
       have hwy:=wrap_inc (xs.getD k 0)
       have H9:=aQ (HO.out.putU8 0 rfl k (xs.getD k 0+1#8))
       have HXL2:=aQ (show (xs.set k (xs.getD k 0+1#8)).length=d.length by rw [List.length_set];exact HXL.out)
       clear HO e
       generalize xs.set k (xs.getD k 0+1#8)=ys at *
       generalize xs.getD k 0=y at *
       go_wp2_with fail
       go_roundw
       case rel=>exact ⟨k+1,by omega,by go_num,ys,HXL2,H9⟩
       case measure=>simp [intOf];omega
      ·obtain rfl:d.length=k:=by omega
       have H9:=aQ HO.out.tail
       clear HO
       go_wp2_with fail
       go_roundw
       case rel=>exact .inr ⟨rfl,H9⟩
       case measure=>simp [intOf]
    ·go_wp2_with fail
     go_loopw [69] (fun i wr=>∃n:Nat,n<=12/\i=.int .i64 (n:Int)/\Hid (dY (fun _=>False) (Old W) W [bI p ((mA d).idle (1+n)),tRd eEvt (.slice none 0 0) [],tBy (.slice da d.length dc) d] wr)) (fun i _=>12 - (intOf i).toNat)
     case atStart=>exact ⟨0,by decide,rfl,HA⟩
     case round=>
      clear HA
      obtain ⟨n,hn,rfl,HK⟩:=hrel
      by_cases hlt:n < 12
      ·go_wp2_with fail
       refine (tickL_c (mI_full hd60 (1+n)) (by omega) [] (by decide) (by simp;omega) (by simp) (.slice none 0 0) 0 rfl HT.out HK.out).mono ?_
       rintro e w4 ⟨a4,c4,rfl,h4⟩
       have H4:=aQ (show dY (fun _=>False) (Old W) W [bI p ((mA d).idle (1+(n+1))),tRd eEvt (.slice none 0 0) [],tBy (.slice da d.length dc) d] w4 from h4.tail)
       clear h4 HK
       go_wp2_with fail
       go_roundw
       case rel=>exact ⟨n+1,by omega,by go_num,H4⟩
       case measure=>simp [intOf];omega
      ·obtain rfl:n=12:=by omega
       go_wp2_with fail
       have H5:=aQ ((HK.out.add (Below.refl _ _) (T:=tBy (.slice none 0 0) []) (ByZ.nil _ _)).front)
       have H6:=aQ ((H5.out.lit_evt ⟨2,1,0,[]⟩ 0 rfl).pick [1,0,2,3] [bI p ((mA d).idle 13),tRd eEvt (.slice (some ⟨wr.heap.size,0,none⟩) 1 1) [⟨2,1,0,[]⟩],tRd eEvt (.slice none 0 0) [],tBy (.slice da d.length dc) d] (by decide) rfl)
       clear H5 HK
       refine (tickL_c (mI_full hd60 13) (by decide) [⟨2,1,0,[]⟩] (by decide) (by simp) (by simp) _ 0 rfl HT.out H6.out).mono ?_
       rintro e w4 ⟨a4,c4,rfl,h4⟩
       have H4:=aQ ((show dY (fun _=>False) (Old W) W (tSq dK 32 (.slice a4 _ c4) _::[bI p (mZ d),tRd eEvt (.slice (some ⟨wr.heap.size,0,none⟩) 1 1) [⟨2,1,0,[]⟩],tRd eEvt (.slice none 0 0) [],tBy (.slice da d.length dc) d]) w4 from h4).pick [1,3,4] [bI p (mZ d),tRd eEvt (.slice none 0 0) [],tBy (.slice da d.length dc) d] (by decide) rfl)
       have HZF:=aQ (show (mZ d).Full 200000 False from ((mI_full hd60 13).step (by decide) [⟨2,1,0,[]⟩]).mono (by simp) False.elim)
       have HZS:=aQ (show (mZ d).Short from (mI_short hd60 12).step (mI_full hd60 13) (by decide) [⟨2,1,0,[]⟩])
       clear h4 H6
       go_wp2_with fail
       refine (taken_c HZF.out HZS.out (by decide) 1 0 H4.out).mono ?_
       rintro e w5 ⟨xa,xc,rfl,h5⟩
       rw [(mEnd hd60).2] at h5 ⊢
       rw [show ([d]:List (List (BitVec 8))).length=1 from rfl] at h5 ⊢
       have HF:=aQ h5
       clear h5 H4 HZF HZS
       go_wp2_with fail
       go_loopw [81] (fun i wr=>(i=.int .i64 0/\Hid (dY (fun _=>False) (Old W) W (tBB (.slice xa 1 xc) [d]::[bI p (mZ d),tRd eEvt (.slice none 0 0) [],tBy (.slice da d.length dc) d]) wr))\/(i=.int .i64 1/\Hid (dY (fun _=>False) (Old W) W [bI p (mZ d),tRd eEvt (.slice none 0 0) [],tBy (.slice da d.length dc) d] wr))) (fun i _=>1 - (intOf i).toNat)
       case atStart=>exact .inl ⟨rfl,HF⟩
       case round=>
        clear HF
        rcases hrel with ⟨rfl,HA⟩|⟨rfl,HA⟩
        ·obtain ⟨b,off,cap,_,e,_,_,_⟩:=HA.out.bb_at 0 rfl (c:=0) (xs:=d) rfl
         obtain ⟨vc0,hvc,hout⟩:=dY.out (b:=b) (off:=off) (n:=1) (cap:=cap) (xss:=[d]) (by exact HA.out) 0 (by rw [e];rfl) (c:=0) (xs:=d) rfl
         obtain ⟨_,_,hsq⟩:=hout.get 4 rfl
         obtain ⟨ia,ic,e2⟩:=Sq.shape (show Sq eU8 5 wr _ _ vc0 d from hsq)
         subst e2
         have H8:=aQ (hout.pick [4,1,2,3] (tSq eU8 5 (.slice ia d.length ic) d::[bI p (mZ d),tRd eEvt (.slice none 0 0) [],tBy (.slice da d.length dc) d]) (by decide) rfl)
         obtain ⟨e3,e4⟩:xa=some ⟨b,off,none⟩/\xc=cap:=by simpa using e
         subst e3 e4
         clear HA hout hsq e
         rw [Nat.add_zero] at hvc
         go_wp2_with fail
         go_loopw [87] (fun i wr=>∃k:Nat,k<=d.length/\i=.int .i64 (k:Int)/\∃xs:List (BitVec 8),Hid (xs.length=d.length)/\Hid (dY (fun _=>False) (Old W) W (tSq eU8 5 (.slice ia d.length ic) xs::[bI p (mZ d),tRd eEvt (.slice none 0 0) [],tBy (.slice da d.length dc) d]) wr)) (fun i _=>d.length - (intOf i).toNat)
         case atStart=>exact ⟨0,by omega,rfl,d,aQ rfl,H8⟩
         case round=>
          clear H8
          obtain ⟨k,hk,rfl,xs,HXL,HO⟩:=hrel
          by_cases hlk:k < d.length
          ·obtain ⟨g,off,c,e,hc,hf,_⟩:=own_cells HO.out 0 rfl (j:=k) (by rw [HXL.out];exact hlk)
           obtain ⟨e1,e2⟩:ia=some ⟨g,off,none⟩/\ic=c:=by simpa using (by simpa using e:ia=some ⟨g,off,none⟩/\d.length=xs.length/\ic=c).imp id And.right
           subst e1 e2
           have hwy:=wrap_inc (xs.getD k 0)
           have H9:=aQ (HO.out.putU8 0 rfl k (xs.getD k 0+1#8))
           have HXL2:=aQ (show (xs.set k (xs.getD k 0+1#8)).length=d.length by rw [List.length_set];exact HXL.out)
           clear HO e
           generalize xs.set k (xs.getD k 0+1#8)=ys at *
           generalize xs.getD k 0=y at *
           go_wp2_with fail
           go_roundw
           case rel=>exact ⟨k+1,by omega,by go_num,ys,HXL2,H9⟩
           case measure=>simp [intOf];omega
          ·obtain rfl:d.length=k:=by omega
           have H9:=aQ HO.out.tail
           clear HO
           go_wp2_with fail
           go_roundw
           case rel=>exact .inr ⟨rfl,H9⟩
           case measure=>simp [intOf]
        ·go_wp2_with fail
         have HY:=aQ (HA.out.pick [0,2] [bI p (mZ d),tBy (.slice da d.length dc) d] (by decide) rfl)
         clear HA
         have HA:=HY
         clear HY
         have HZF:=aQ (show (mZ d).Full 200000 False from ((mI_full hd60 13).step (by decide) [⟨2,1,0,[]⟩]).mono (by simp) False.elim)
         have HZS:=aQ (show (mZ d).Short from (mI_short hd60 12).step (mI_full hd60 13) (by decide) [⟨2,1,0,[]⟩])
         refine (offered_c HZF.out HZS.out (by decide) 0 0 HA.out).mono ?_
         rintro e w7 ⟨xa,xc,rfl,h7⟩
         rw [(mEnd hd60).1] at h7 ⊢
         have H7:=aQ (h7.pick [1,0,2] [bI p (mZ d),tBB (.slice xa 1 xc) [d],tBy (.slice da d.length dc) d] (by decide) rfl)
         rw [show ([d]:List (List (BitVec 8))).length=1 from rfl]
         clear h7 HA
         go_wp2_with fail
         refine (taken_c HZF.out HZS.out (by decide) 1 0 H7.out).mono ?_
         rintro e w8 ⟨ya,yc,rfl,h8⟩
         rw [(mEnd hd60).2] at h8 ⊢
         rw [show ([d]:List (List (BitVec 8))).length=1 from rfl] at h8 ⊢
         obtain ⟨b1,o1,k1,v1,e1,_,c1,y1⟩:=h8.bb_at 2 rfl (c:=0) (xs:=d) rfl
         obtain ⟨b2,o2,k2,v2,e2,_,c2,y2⟩:=h8.bb_at 0 rfl (c:=0) (xs:=d) rfl
         obtain ⟨q1,q2⟩:xa=some ⟨b1,o1,none⟩/\xc=k1:=by simpa using e1
         obtain ⟨q3,q4⟩:ya=some ⟨b2,o2,none⟩/\yc=k2:=by simpa using e2
         subst q1 q2 q3 q4
         obtain ⟨_,_,hdz⟩:=h8.get 3 rfl
         have hb0:By w8 (.slice da d.length dc) d:=(show ByZ w8 _ _ d from hdz).1
         have HE1:=aQ (bytesEqual_refl y1 hb0)
         have HE2:=aQ (bytesEqual_refl y2 hb0)
         have HBW:=aQ h8.below
         simp only [Nat.add_zero] at c1 c2
         clear h8 H7 e1 e2 hdz hb0 y1 y2
         go_wp2_with (first|(go_at_call 25;refine HE1.out.mono ?_;rintro e w9 ⟨rfl,rfl⟩;clear HE1)|(go_at_call 25;refine HE2.out.mono ?_;rintro e w9 ⟨rfl,rfl⟩;clear HE2))
         go_ret
         exact ⟨rfl,HBW.out⟩
end
end Go.Proofs.YtcbnhebiagdbiaaGreatDoor
