/- The walk of WholeLink. -/
import Derived.Test.YtcbnhebiagdbiaaGreatDoorPkT1
import Derived.Test.YtcbnhebiagdbiaaGreatDoorPkM1
import Derived.Deep.CutBlock
namespace Go.Proofs.YtcbnhebiagdbiaaGreatDoor
set_option maxHeartbeats 64000000
section
open Go.RowKit Go.ChangeShapes Go.WideShapes Go.ChangeAt
set_option maxRecDepth 100000
abbrev wTs (s:RSet) (aa:Option Addr) (ak:Nat) (ba:Option Addr) (bk:Nat) (ta:Option Addr) (tk:Nat) (ya:Option Addr) (yk:Nat) (fa:Option Addr) (fc:Nat) (fs:List Nat) (b:Nat):List Th:=
 [tRd (eInt .i64) (.slice aa s.a.aZ.length ak) s.a.aZ,tRd (eInt .i64) (.slice ba s.b.aZ.length bk) s.b.aZ,tRd eFlt (.slice ta s.there.length tk) s.there,tRd eFlt (.slice ya s.back.length yk) s.back,tRd eU16 (.slice fa fs.length fc) fs,dJ b (wireO s aa ak ba bk ta tk ya yk)]
theorem wire_cells {w:World} {p:Nat} {s:RSet} {aa ba ta ya:Option Addr} {ak bk tk yk:Nat} (h:w.heap[p]? = some (wireO s aa ak ba bk ta tk ya yk)) :
  w.cell? ⟨p,0,none⟩=some (.int .i64 s.a.inc)/\w.cell? ⟨p,1,none⟩=some (.slice aa s.a.aZ.length ak)/\w.cell? ⟨p,2,none⟩=some (.int .i64 s.a.w)/\w.cell? ⟨p,3,none⟩=some (.int .i64 s.a.t)/\w.cell? ⟨p,4,none⟩=some (.int .i64 s.a.d) /\
  w.cell? ⟨p,5,none⟩=some (.int .i64 s.b.inc)/\w.cell? ⟨p,6,none⟩=some (.slice ba s.b.aZ.length bk)/\w.cell? ⟨p,7,none⟩=some (.int .i64 s.b.w)/\w.cell? ⟨p,8,none⟩=some (.int .i64 s.b.t)/\w.cell? ⟨p,9,none⟩=some (.int .i64 s.b.d) /\
  w.cell? ⟨p,10,none⟩=some (.int .i64 s.cB)/\w.cell? ⟨p,11,none⟩=some (.slice ta s.there.length tk)/\w.cell? ⟨p,12,none⟩=some (.slice ya s.back.length yk):=
 ⟨aJ h rfl,aJ h rfl,aJ h rfl,aJ h rfl,aJ h rfl,aJ h rfl,aJ h rfl,aJ h rfl,aJ h rfl,aJ h rfl,aJ h rfl,aJ h rfl,aJ h rfl⟩
def NewW (Z:BS) (W:World) (ts:List Th) (s:RSet) (e:Ending) (w':World):Prop:=
 (∃n:Int,n≠0/\e=.returned (.tuple #[.pointer none,.int .i64 n])/\dY (fun _=>False) Z W ts w') \/
 (s.a.V/\s.b.V/\(1<=s.cB/\s.cB<=8)/\okF (-1) s.there=true/\okF (-1) s.back=true/\∃p,e=.returned (.tuple #[.pointer (some ⟨p,0,none⟩),.int .i64 0])/\dY (fun _=>False) Z W (bI p s.lk::ts) w')
theorem newW_c {Z:BS} {W w:World} {ts:List Th} {s:RSet} {aa ba ta ya:Option Addr} {ak bk tk yk:Nat} (q:SetAt ts 0 s aa ak ba bk ta tk ya yk) (hm:Moder s) (h:dY (fun _=>False) Z W ts w) :
  Calls Tryz.prog 10 #[cfgV s.a.inc aa s.a.aZ.length ak s.a.w s.a.t s.a.d,cfgV s.b.inc ba s.b.aZ.length bk s.b.w s.b.t s.b.d,.int .i64 s.cB,.slice ta s.there.length tk,.slice ya s.back.length yk] w (NewW Z W ts s):=by
 obtain ⟨_,_,m3,_,m5,m6,_⟩:=hm
 by_cases h4:4 < s.a.aZ.length
 ·exact (newL_longA s.a s.b h4 aa ba ta ya ak bk _ _ _ _ s.cB).mono fun e w' hh=>.inl ⟨2,by decide,hh.1,h.own hh.2⟩
 ·by_cases hva:s.a.V
  ·obtain ⟨a1,a2,a3,a4,a5,a6⟩:=RCfg.V.nums hva
   have k1:=h.weak (T:=tRd dK (.slice aa s.a.aZ.length ak) s.a.cfg.aZ) 0 q.a fun G Y hon=>rd_nat (by rw [a6];exact hon)
   by_cases hvb:s.b.V
   ·obtain ⟨b1,b2,b3,b4,b5,b6⟩:=RCfg.V.nums hvb
    have k2:=k1.front.weak (T:=tRd dK (.slice ba s.b.aZ.length bk) s.b.cfg.aZ) 2 (by have:=q.b;exact this) fun G Y hon=>rd_nat (by rw [b6];exact hon)
    have:=newL_any (ts:=tRd dK (.slice ba s.b.aZ.length bk) s.b.cfg.aZ::tRd dK (.slice aa s.a.aZ.length ak) s.a.cfg.aZ::ts) s.a.cfg s.b.cfg (RCfg.V.ok hva) (RCfg.V.ok hvb) s.cB s.there s.back (by omega) (by omega) aa ba ak bk (.slice ta s.there.length tk) (.slice ya s.back.length yk) 1 0 4 5 (by rw [a5];rfl) (by rw [b5];rfl) q.t q.y k2.front
    rw [a1,a2,a3,a4,a5,b1,b2,b3,b4,b5] at this
    refine this.mono fun e w' hp=>?_
    rcases hp with ⟨h1,h2,h3⟩|⟨h1,h2,h3,h4⟩|⟨h1,h2,h3,p,h4,h5⟩
    ·exact .inl ⟨2,by decide,h2,h3.tail.tail⟩
    ·exact .inl ⟨1,by decide,h3,h4.tail.tail⟩
    ·exact .inr ⟨hva,hvb,h1,h2,h3,p,h4,dY.pickL (us:=[bI p (newLk s.a.cfg s.b.cfg s.cB.toNat s.there s.back),tRd dK (.slice ba s.b.aZ.length bk) s.b.cfg.aZ,tRd dK (.slice aa s.a.aZ.length ak) s.a.cfg.aZ]) (vs:=[bI p (newLk s.a.cfg s.b.cfg s.cB.toNat s.there s.back)]) h5 [0] (by decide) rfl⟩
   ·have:=newL_badB s.a.cfg (RCfg.V.ok hva) s.b hvb (by omega) aa ba ta ya ak bk s.there.length tk s.back.length yk s.cB 0 2 (by rw [a5];rfl) (by have:=q.b;exact this) k1.front
    rw [a1,a2,a3,a4,a5] at this
    exact this.mono fun e w' hh=>.inl ⟨2,by decide,hh.1,hh.2.tail⟩
  ·obtain ⟨_,_,hr⟩:=h.get 0 q.a
   exact (newL_badA s.a s.b hva (by omega) aa ba ta ya ak bk _ _ _ _ s.cB (nums_of (show RdS (eInt .i64) _ _ (.slice aa s.a.aZ.length ak) s.a.aZ from hr))).mono fun e w' hh=>.inl ⟨2,by decide,hh.1,h.own hh.2⟩
theorem walkWholeLink (W:World) (v0 v1:Value) (o0:IsSet W v0) (o1:IsSl r16 W v1) (ht:Tabs W) :
  Calls Tryz.prog 3 #[v0,v1] W fun e w'=>e=.returned (.bool true)/\Below W.heap.size W w':=by
 obtain ⟨s,aa,ak,ba,bk,ta,tk,ya,yk,rfl,r1,r2,r3,r4⟩:=o0
 obtain ⟨fs,r5⟩:=u16s_of o1
 obtain ⟨fa,fc,rfl,hfc,hfm⟩:=r5.shape
 have hfl:fs.length<=9223372036854775807:=Nat.le_trans hfc hfm
 have H0:=aQ (((((((dY.start0 (fun _=>False) (Old W) (fun _ f _=>f) W).addOld (T:=tRd (eInt .i64) (.slice aa s.a.aZ.length ak) s.a.aZ) (RdS.mono r1 fun _ h=>⟨h,id⟩)).addOld (T:=tRd (eInt .i64) (.slice ba s.b.aZ.length bk) s.b.aZ) (RdS.mono r2 fun _ h=>⟨h,id⟩)).addOld (T:=tRd eFlt (.slice ta s.there.length tk) s.there) (RdS.mono r3 fun _ h=>⟨h,id⟩)).addOld (T:=tRd eFlt (.slice ya s.back.length yk) s.back) (RdS.mono r4 fun _ h=>⟨h,id⟩)).addOld (T:=tRd eU16 (.slice fa fs.length fc) fs) (RdS.mono r5 fun _ h=>⟨h,id⟩)).new (wireO s aa ak ba bk ta tk ya yk))
 obtain ⟨ts,hts⟩:∃ts,ts=wTs s aa ak ba bk ta tk ya yk fa fc fs W.heap.size:=⟨_,rfl⟩
 have H1:=aQ (show dY (fun _=>False) (Old W) W ts _ by rw [hts];exact H0.out)
 have QS:=aQ (show SetAt ts 0 s aa ak ba bk ta tk ya yk by rw [hts];exact ⟨rfl,rfl,rfl,rfl⟩)
 have QF:=aQ (show ts[4]? = some (tRd eU16 (.slice fa fs.length fc) fs) by rw [hts];rfl)
 have QB:=aQ (show ts[5]? = some (dJ W.heap.size (wireO s aa ak ba bk ta tk ya yk)) by rw [hts];rfl)
 have HT:=aQ ht
 clear H0 hts r1 r2 r3 r4 r5 ht hfc hfm
 go_enter Tryz.func3,Tryz.ntmps3
 go_wp2_with fail
 refine (awakeT_c _).mono ?_
 rintro e w1 ⟨rfl,hb⟩
 have H2:=aQ (H1.out.own hb)
 clear hb H1
 obtain ⟨x0,x1,x2,x3,x4,x5,x6,x7,x8,x9,x10,x11,x12⟩:=wire_cells (H2.out.blk 5 QB.out)
 go_wp2_with fail
 refine (moderate_c QS.out H2.out).mono ?_
 rintro e w2 ⟨m,rfl,hm,hb⟩
 have H3:=aQ (H2.out.own hb)
 have HM:=aQ hm
 clear hb hm H2 x0 x1 x2 x3 x4 x5 x6 x7 x8 x9 x10 x11 x12
 cases m with
 |false=>
  go_wp2_with fail
  go_ret
  exact ⟨rfl,H3.out.below⟩
 |true=>
  have HMO:=aQ (HM.out rfl)
  clear HM
  by_cases hf40:40 < fs.length
  ·go_wp2_with fail
   go_ret
   exact ⟨rfl,H3.out.below⟩
  obtain ⟨x0,x1,x2,x3,x4,x5,x6,x7,x8,x9,x10,x11,x12⟩:=wire_cells (H3.out.blk 5 QB.out)
  go_wp2_with fail
  refine (newW_c QS.out HMO.out H3.out).mono ?_
  rintro e w3 (⟨n,hn0,rfl,h4⟩|⟨hva,hvb,hd,hf1,hf2,p,rfl,h4⟩)
  ·have H4:=aQ h4
   have hnb:(n != 0)=true:=by simpa using hn0
   clear h4 H3 hn0 x0 x1 x2 x3 x4 x5 x6 x7 x8 x9 x10 x11 x12
   go_wp2_with fail
   go_ret
   exact ⟨rfl,(H4.out.alloc _).below⟩
  ·have H4:=aQ h4
   clear h4 H3 x0 x1 x2 x3 x4 x5 x6 x7 x8 x9 x10 x11 x12
   obtain ⟨x0,x1,x2,x3,x4,x5,x6,x7,x8,x9,x10,x11,x12⟩:=wire_cells (H4.out.blk 6 QB.out)
   go_upto_region 8 with fail
   have H5:=aQ (show dY (fun _=>False) (Old W) W (dJ w3.heap.size (.cells #[.pointer (some ⟨p,0,none⟩)] 31)::bI p s.lk::ts) _ from (H4.out.new (.cells #[.pointer (some ⟨p,0,none⟩)] 31)).front)
   clear H4 x0 x1 x2 x3 x4 x5 x6 x7 x8 x9 x10 x11 x12
   generalize w3.alloc (.cells #[.pointer (some ⟨p,0,none⟩)] 31)=w4 at H5 ⊢
   generalize w3.heap.size=b5 at H5 ⊢
   obtain ⟨x0,x1,x2,x3,x4,x5,x6,x7,x8,x9,x10,x11,x12⟩:=wire_cells (H5.out.blk 7 QB.out)
   go_upto_region 9 with fail
   have HR4:=aQ (show s.a.aZ.length<=4 from hva.2.1.2.1)
   obtain ⟨R,hR⟩:∃R,R=s.a.aZ.length:=⟨_,rfl⟩
   have HRR:=aQ hR
   have H6:=aQ (show dY (fun _=>False) (Old W) W (dJ w4.heap.size (nO R)::dJ b5 (.cells #[.pointer (some ⟨p,0,none⟩)] 31)::bI p s.lk::ts) _ from (H5.out.new (nO R)).front)
   have hR4:R<=4:=by rw [hR];exact HR4.out
   rw [<-hR]
   clear H5 x0 x1 x2 x3 x4 x5 x6 x7 x8 x9 x10 x11 x12 hR
   generalize w4.alloc (nO R)=w5 at H6 ⊢
   generalize w4.heap.size=b7 at H6 ⊢
   have hrow:=H6.out.blk 0 rfl
   refine wp_region_held_drew (S:=fun w'=>w'.heap[b7]? = some (nO R)) (by kernel_rfl) hrow (fun hS0=>?_)
   change wpAnyH _ _ _ _ _ (20+1) _ _ _
   refine aH 0 1 (by kernel_rfl) hS0 (fun _ _ _ _ _ h=>h) ?_
   simp only [List.drop_zero,List.take_succ_cons,List.take_zero]
   (refine aR (v:=?_) (by rfl) ?_ ?_;rotate_left 1;(focus ((intro w' hS';have l1:=aJ (i:=0) hS' rfl;clear hS';go_simp);try with_reducible rfl));simp only [Act.put,jQ1,jQ2,jQ3])
   refine aT ?_
   change wpAnyH _ _ _ _ _ (19+1) _ _ _
   refine aH 2 1 (by kernel_rfl) hS0 (fun _ _ _ _ _ h=>h) ?_
   simp only [List.drop_succ_cons,List.drop_zero,List.take_succ_cons,List.take_zero]
   (refine aR (v:=?_) (by rfl) ?_ ?_;rotate_left 1;(focus ((intro w' hS';have l1:=aJ (i:=0) hS' rfl;clear hS';go_simp);try with_reducible rfl));simp only [Act.put,jQ1,jQ2,jQ3])
   refine aT ?_
   change wpAnyH _ _ _ _ _ (18+1) _ _ _
   refine aH 5 1 (by kernel_rfl) hS0 (fun _ _ _ _ _ h=>h) ?_
   simp only [List.drop_succ_cons,List.drop_zero,List.take_succ_cons,List.take_zero]
   (refine aR (v:=?_) (by rfl) ?_ ?_;rotate_left 1;(focus ((intro w' hS';have l1:=aJ (i:=0) hS' rfl;clear hS';go_simp);try with_reducible rfl));simp only [Act.put,jQ1,jQ2,jQ3])
   refine aT ?_
   change wpAnyH _ _ _ _ _ (17+1) _ _ _
   refine aH 7 1 (by kernel_rfl) hS0 (fun _ _ _ _ _ h=>h) ?_
   simp only [List.drop_succ_cons,List.drop_zero,List.take_succ_cons,List.take_zero]
   (refine aR (v:=?_) (by rfl) ?_ ?_;rotate_left 1;(focus ((intro w' hS';have l1:=aJ (i:=0) hS' rfl;clear hS';go_simp);try with_reducible rfl));simp only [Act.put,jQ1,jQ2,jQ3])
   refine aT ?_
   change wpAnyH _ _ _ _ _ (16+1) _ _ _
   refine aH 10 1 (by kernel_rfl) hS0 (fun _ _ _ _ _ h=>h) ?_
   simp only [List.drop_succ_cons,List.drop_zero,List.take_succ_cons,List.take_zero]
   (refine aR (v:=?_) (by rfl) ?_ ?_;rotate_left 1;(focus ((intro w' hS';have l1:=aJ (i:=0) hS' rfl;clear hS';go_simp);try with_reducible rfl));simp only [Act.put,jQ1,jQ2,jQ3])
   refine aT ?_
   change wpAnyH _ _ _ _ _ (15+1) _ _ _
   refine aH 12 1 (by kernel_rfl) hS0 (fun _ _ _ _ _ h=>h) ?_
   simp only [List.drop_succ_cons,List.drop_zero,List.take_succ_cons,List.take_zero]
   (refine aR (v:=?_) (by rfl) ?_ ?_;rotate_left 1;(focus ((intro w' hS';have l1:=aJ (i:=0) hS' rfl;clear hS';go_simp);try with_reducible rfl));simp only [Act.put,jQ1,jQ2,jQ3])
   refine aT ?_
   have hSS:∀w',Below w5.drew.heap.size w5.drew w'->w'.heap[b7]? = some (nO R):=fun w' hb=>(hb.block _ (lt_of_block hS0)).trans hS0
   refine wpAnyH_inv0 js9 dst9 (fun _=>undef) (JT kd9 R w5.drew) (by kernel_rfl) (JT.zero _ _ _ _) (fun i hi=>?_) (fun done val w6 hall hJ=>?_)
   ·simp only [List.mem_cons,List.not_mem_nil,or_false] at hi
    rcases hi with rfl|rfl|rfl|rfl|rfl|rfl|rfl|rfl|rfl|rfl|rfl|rfl|rfl|rfl|rfl
    iterate 6 (focus exact stp_make hSS kd9_wf _ rfl rfl rfl rfl (by decide) rfl hR4 rfl)
    iterate 3 (focus exact stp_build hSS kd9_wf _ _ rfl rfl rfl rfl rfl rfl (by decide) (by decide) (by kernel_rfl) (by kernel_rfl) rfl rfl rfl)
    iterate 3 (focus exact stp_alloc hSS kd9_wf rfl rfl rfl rfl rfl)
    iterate 3 (focus exact stp_store hSS kd9_wf _ _ rfl rfl rfl rfl rfl rfl rfl (by decide) (by decide) (by kernel_rfl) (by kernel_rfl) rfl rfl rfl rfl rfl rfl rfl rfl)
   obtain ⟨p8,p9,p10,h7⟩:=JT.held9 H6.out.drew hJ hall
   have H7:=aQ h7
   rw [putAll9,p8,p9,p10]
   simp only [Act.put,jQ1,jQ2,jQ3]
   generalize bOf (val 15)=b8 at H7 ⊢
   generalize bOf (val 16)=b9 at H7 ⊢
   generalize bOf (val 17)=b10 at H7 ⊢
   clear h7 p8 p9 p10 hJ hall hSS hS0 hrow H6
   go_upto_region 10 with fail
   have hrow:=H7.out.blk 3 rfl
   refine wp_region_held_drew (S:=fun w'=>w'.heap[b7]? = some (nO R)) (by kernel_rfl) hrow (fun hS0=>?_)
   change wpAnyH _ _ _ _ _ (6+1) _ _ _
   refine aH 0 1 (by kernel_rfl) hS0 (fun _ _ _ _ _ h=>h) ?_
   simp only [List.drop_zero,List.take_succ_cons,List.take_zero]
   (refine aR (v:=?_) (by rfl) ?_ ?_;rotate_left 1;(focus ((intro w' hS';have l1:=aJ (i:=0) hS' rfl;clear hS';go_simp);try with_reducible rfl));simp only [Act.put,jQ1,jQ2,jQ3])
   refine aT ?_
   change wpAnyH _ _ _ _ _ (5+1) _ _ _
   refine aH 2 1 (by kernel_rfl) hS0 (fun _ _ _ _ _ h=>h) ?_
   simp only [List.drop_succ_cons,List.drop_zero,List.take_succ_cons,List.take_zero]
   (refine aR (v:=?_) (by rfl) ?_ ?_;rotate_left 1;(focus ((intro w' hS';have l1:=aJ (i:=0) hS' rfl;clear hS';go_simp);try with_reducible rfl));simp only [Act.put,jQ1,jQ2,jQ3])
   refine aT ?_
   have hSS:∀w',Below w6.drew.heap.size w6.drew w'->w'.heap[b7]? = some (nO R):=fun w' hb=>(hb.block _ (lt_of_block hS0)).trans hS0
   refine wpAnyH_inv0 js10 dst10 (fun _=>undef) (JT kd10 R w6.drew) (by kernel_rfl) (JT.zero _ _ _ _) (fun i hi=>?_) (fun done val w7 hall hJ=>?_)
   ·simp only [List.mem_cons,List.not_mem_nil,or_false] at hi
    rcases hi with rfl|rfl|rfl|rfl|rfl
    iterate 2 (focus exact stp_make hSS kd10_wf _ rfl rfl rfl rfl (by decide) rfl hR4 rfl)
    ·exact stp_build hSS kd10_wf _ _ rfl rfl rfl rfl rfl rfl (by decide) (by decide) (by kernel_rfl) (by kernel_rfl) rfl rfl rfl
    ·exact stp_alloc hSS kd10_wf rfl rfl rfl rfl rfl
    ·exact stp_store hSS kd10_wf _ _ rfl rfl rfl rfl rfl rfl rfl (by decide) (by decide) (by kernel_rfl) (by kernel_rfl) rfl rfl rfl rfl rfl rfl rfl rfl
   obtain ⟨p11,h8⟩:=JT.held10 H7.out.drew hJ hall
   rw [putAll10,p11]
   simp only [Act.put,jQ1,jQ2,jQ3]
   generalize bOf (val 5)=b11 at h8 ⊢
   have H8:=aQ (dY.pickL (us:=[tTab b11 R (fun _ _=>0),tTab b8 R (fun _ _=>0),tTab b9 R (fun _ _=>0),tTab b10 R (fun _ _=>0),dJ b7 (nO R),dJ b5 (.cells #[.pointer (some ⟨p,0,none⟩)] 31),bI p s.lk]) (vs:=[tTab b10 R (fun _ _=>0),dJ b7 (nO R),bI p s.lk,tTab b9 R (fun _ _=>0),tTab b8 R (fun _ _=>0),dJ b5 (.cells #[.pointer (some ⟨p,0,none⟩)] 31),tTab b11 R (fun _ _=>0)]) h8 [3,4,6,2,1,5,0] (by decide) rfl)
   clear h8 p11 hJ hall hSS hS0 hrow H7
   go_wp2_with fail
   refine (clear_c (s:=0) (by decide) hR4 H8.out).mono ?_
   rintro e w8 ⟨rfl,h9⟩
   have H9:=aQ h9
   clear h9 H8
   go_wp2_with fail
   refine (clear_c (s:=1) (by decide) hR4 H9.out).mono ?_
   rintro e w9 ⟨rfl,h10⟩
   rw [tTab_congr (B:=fun _ _ => -1) (clr_both _ R)] at h10
   have H10:=aQ (dY.pickL (us:=[dJ w9.heap.size (.cells #[.bool false] 4),tTab b10 R (fun _ _ => -1),dJ b7 (nO R),bI p s.lk,tTab b9 R (fun _ _=>0),tTab b8 R (fun _ _=>0),dJ b5 (.cells #[.pointer (some ⟨p,0,none⟩)] 31)]) (vs:=[bI p s.lk,tTab b9 R (fun _ _=>0),tTab b8 R (fun _ _=>0),tTab b10 R (fun _ _ => -1),dJ b5 (.cells #[.pointer (some ⟨p,0,none⟩)] 31),dJ b7 (nO R),dJ w9.heap.size (.cells #[.bool false] 4)]) ((h10.new (.cells #[.bool false] 4)).front) [3,4,5,1,6,2,0] (by decide) rfl)
   clear h10 H9
   go_upto_region 15 with fail
   generalize w9.alloc (.cells #[.bool false] 4)=w10 at H10 ⊢
   generalize w9.heap.size=b13 at H10 ⊢
   have H11:=aQ (show dY (fun _=>False) (Old W) W (lookThs p b5 b7 b8 b9 b10 b13 R wit0 s.lk (fun _ _=>0) (fun _ _ => -1)++(tTab b11 R (fun i c=>(wit0.sn i c:Int))::ts)) w10 from H10.out)
   clear H10
   have HFU:=aQ (moder_full HMO.out hva hvb hd.1 hf1 hf2)
   have HP0:=aQ (post0 (s:=s) (R:=R))
   have HW0:=aQ (wst0 HFU.out)
   have HVA:=aQ hva
   have HVB:=aQ hvb
   have HDD:=aQ hd
   clear hf1 hf2 HFU hva hvb hd
   go_wp2_with fail
   go_loopw [91] (fun u wr=>∃k:Nat,k<=fs.length/\u=.int .i64 (k:Int)/\∃(v:Wit) (L:Lk) (S A:Nat->Nat->Int),Hid (WSt s k v L)/\Hid (v.Post L R S A)/\Hid (dY (fun _=>False) (Old W) W (lookThs p b5 b7 b8 b9 b10 b13 R v L S A++(tTab b11 R (fun i c=>(v.sn i c:Int))::ts)) wr)) (fun u _=>fs.length - (intOf u).toNat)
   case atStart=>exact ⟨0,by omega,rfl,wit0,s.lk,_,_,HW0,HP0,H11⟩
   case round=>
    clear H11 HP0 HW0
    obtain ⟨k,hk,rfl,v,L,S,A,HW,HPO,HK⟩:=hrel
    by_cases hlt:k < fs.length
    ·obtain ⟨a,ha⟩:∃a,fs[k]? = some a:=⟨fs[k],List.getElem?_eq_getElem hlt⟩
     obtain ⟨_,_,hrd⟩:=HK.out.get 12 QF.out
     obtain ⟨fb,fo,_,rfl,_,⟨rfl,hl16⟩,q1⟩:=RdS.at (show RdS eU16 wr _ (.slice fa fs.length fc) fs from hrd) (by decide) ha
     have q1:=q1 0 _ rfl
     simp only [eU16,Nat.mul_one,Nat.add_zero] at q1
     have c7:=aJ (i:=0) (HK.out.blk 5 rfl) rfl
     clear hrd ha
     go_upto_region 19 with fail
     obtain ⟨sd,hsd⟩:∃sd,sd=a / 8 % 2:=⟨_,rfl⟩
     obtain ⟨cl,hcl⟩:∃cl,cl=a / 16 % R:=⟨_,rfl⟩
     have hR1:1<=R:=by rw [HRR.out];exact HVA.out.2.1.1
     have hRne:¬R=0:=by omega
     have hsd2:sd < 2:=by omega
     have hclR:cl < R:=by rw [hcl];exact Nat.mod_lt _ hR1
     have e8:IntKind.i64.wrap ((a:Int) / 8)=((a / 8:Nat):Int):=(IntWalk.i64_in _ (by omega)).trans (by omega)
     have e16:IntKind.i64.wrap ((a:Int) / 16)=((a / 16:Nat):Int):=(IntWalk.i64_in _ (by omega)).trans (by omega)
     have m8:((a / 8:Nat):Int).tmod 2=(sd:Int):=by rw [hsd,Int.tmod_eq_emod_of_nonneg (by omega)];rfl
     have m16:((a / 16:Nat):Int).tmod (R:Int)=(cl:Int):=by rw [hcl,Int.tmod_eq_emod_of_nonneg (by omega)];rfl
     have m8':(a:Int) / 8 % 2=(sd:Int):=by rw [hsd];omega
     have m16':(a:Int) / 16 % (R:Int)=(cl:Int):=by rw [hcl];rfl
     clear hsd hcl
     go_quiet (fail)
     have H12:=aQ (HK.out.drewN nq)
     generalize wr.drewN nq=wd at H12 ⊢
     simp only [m8',m16']
     clear e8 e16 m8 m16 m8' m16' q1 c7 HK
     obtain ⟨r,hr⟩:∃r,r=a % 8:=⟨_,rfl⟩
     obtain ⟨y,hy⟩:∃y,y=a / 32:=⟨_,rfl⟩
     have mr:(a:Int).tmod 8=(r:Int):=by rw [hr,Int.tmod_eq_emod_of_nonneg (by omega)];rfl
     have mr':(a:Int) % 8=(r:Int):=by rw [hr];rfl
     have my:(a:Int) / 32=(y:Int):=by rw [hy];rfl
     have hr8:r < 8:=by omega
     clear hr hy
     go_upto_block 2 with fail
     go_cut [19,91] from 91 to 211 (fun u19 u91 wc=>u91=.int .i64 (k:Int)/\∃(es:List Evt) (ea:Option Addr) (ec:Nat),u19=.slice ea es.length ec/\Hid (EvOk v sd cl es)/\Hid (dY (fun _=>False) (Old W) W (tSq eEvt 49 (.slice ea es.length ec) es::(lookThs p b5 b7 b8 b9 b10 b13 R v L S A++(tTab b11 R (fun i c=>(v.sn i c:Int))::ts))) wc))
     case first=>
      have H13:=aQ ((H12.out.add (Below.refl _ _) (T:=tSq eEvt 49 (.slice none 0 0) []) (Sq.nil _ _ _ _ _)).front)
      have hr:r=0\/r=1\/r=2\/r=3\/r=4\/r=5\/r=6\/r=7:=by omega
      rcases hr with rfl|rfl|rfl|rfl|rfl|rfl|rfl|rfl
      iterate 3
       focus
        obtain ⟨g,off,cap,t1,t2,t3,_,_⟩:=tab_at H12.out 2 rfl hsd2 hclR
        have hvn:v.n sd cl<=40:=Nat.le_trans (HW.out.n sd cl) (by omega)
        obtain ⟨n,hn⟩:∃n,n=v.n sd cl:=⟨_,rfl⟩
        have HNN:=aQ hn
        rw [<-hn] at t3 hvn
        clear hn
        go_wp2_with fail
        refine (label_c (s:=sd) (c:=cl) (n:=n) (by omega) (by omega) (by omega) _).mono ?_
        rintro e w2 ⟨rfl,rfl⟩
        have h14:=H13.out.lit_by (lab sd cl n) (0,0) (show 4<=1000 by decide)
        rw [cu_lab (by omega) (by omega) (by omega)] at h14
        have H14:=aQ h14
        obtain ⟨w2,hw2⟩:∃w2,w2=wd.alloc (.cells #[.int .u8 (sd:Int),.int .u8 (cl:Int),.int .u8 0,.int .u8 (n:Int)] 5):=⟨_,rfl⟩
        have H15:=aQ (show dY (fun _=>False) (Old W) W (tBy (.slice (some ⟨wd.heap.size,0,none⟩) (lab sd cl n).length 4) (lab sd cl n)::tSq eEvt 49 (.slice none 0 0) []::(lookThs p b5 b7 b8 b9 b10 b13 R v L S A++(tTab b11 R (fun i c=>(v.sn i c:Int))::ts))) w2 by rw [hw2];exact H14.out)
        rw [<-hw2]
        clear hw2 h14 H14 t1 t2 t3 hvn
        go_wp2_with (at_builtin;refine wpList_app_evd rfl _ _ rfl H15.out 1 rfl 0 (by decide) rfl (aK _ _) (Nat.zero_le _) rfl w2.heap.size rfl (heap_alloc_new w2 _) ?_;intro a' c' w6 h6;have H6:=aQ (dY.tail (T:=tBy (.slice (some ⟨wd.heap.size,0,none⟩) (lab sd cl n).length 4) (lab sd cl n)) h6);clear h6)
        go_meet
        case rel=>exact ⟨rfl,_,a',c',rfl,aQ (.inr (.inl (by rw [<-HNN.out];rfl))),H6⟩
      iterate 2
       focus
        go_wp2_with (at_builtin;refine wpList_app_evt rfl _ _ rfl H13.out 0 rfl (aK _ _) (Nat.zero_le _) rfl wd.heap.size rfl (heap_alloc_new wd _) ?_;intro a' c' w6 h6;have H6:=aQ h6;clear h6)
        go_meet
        case rel=>exact ⟨rfl,_,a',c',rfl,aQ (.inr (.inr (.inr ⟨2,_,_,rfl,by decide,by decide⟩))),H6⟩
      ·obtain ⟨z,hz⟩:∃z,z=y % 4:=⟨_,rfl⟩
       have mz:(y:Int).tmod 4=(z:Int):=by rw [hz,Int.tmod_eq_emod_of_nonneg (by omega)];rfl
       have mz':(y:Int) % 4=(z:Int):=by rw [hz];rfl
       clear hz
       by_cases hz0:z=0
       ·subst hz0
        go_wp2_with (at_builtin;refine wpList_app_evt rfl _ _ rfl H13.out 0 rfl (aK _ _) (Nat.zero_le _) rfl wd.heap.size rfl (heap_alloc_new wd _) ?_;intro a' c' w6 h6;have H6:=aQ h6;clear h6)
        go_meet
        case rel=>exact ⟨rfl,_,a',c',rfl,aQ (.inr (.inr (.inr ⟨3,_,_,rfl,by decide,by decide⟩))),H6⟩
       ·go_wp2_with fail
        go_meet
        case rel=>exact ⟨rfl,[],none,0,rfl,aQ (.inl rfl),H13⟩
      ·go_wp2_with (at_builtin;refine wpList_app_evt rfl _ _ rfl H13.out 0 rfl (aK _ _) (Nat.zero_le _) rfl wd.heap.size rfl (heap_alloc_new wd _) ?_;intro a' c' w6 h6;have H6:=aQ h6;clear h6)
       go_meet
       case rel=>exact ⟨rfl,_,a',c',rfl,aQ (.inr (.inr (.inr ⟨4,_,_,rfl,by decide,by decide⟩))),H6⟩
      ·obtain ⟨z,hz⟩:∃z,z=y % 8:=⟨_,rfl⟩
       have mz:(y:Int).tmod 8=(z:Int):=by rw [hz,Int.tmod_eq_emod_of_nonneg (by omega)];rfl
       have mz':(y:Int) % 8=(z:Int):=by rw [hz];rfl
       clear hz
       by_cases hz0:z=0
       ·subst hz0
        go_wp2_with (at_builtin;refine wpList_app_evt rfl _ _ rfl H13.out 0 rfl (aK _ _) (Nat.zero_le _) rfl wd.heap.size rfl (heap_alloc_new wd _) ?_;intro a' c' w6 h6;have H6:=aQ h6;clear h6)
        go_meet
        case rel=>exact ⟨rfl,_,a',c',rfl,aQ (.inr (.inr (.inl rfl))),H6⟩
       ·go_wp2_with fail
        go_meet
        case rel=>exact ⟨rfl,[],none,0,rfl,aQ (.inl rfl),H13⟩
     case rest=>
      as_aux_lemma=>
       obtain ⟨rfl,es,ea,ec,rfl,HE,HO⟩:=hcut
       clear H12 mr mr' my hr8
       have hkk:k<=40:=by omega
       have hel:=HE.out.len
       have HN:=aQ (show 200+13100*k+65*es.length+13000<=170000000 by omega)
       have H13:=aQ (dY.pickL (us:=[tRd eEvt (.slice ea es.length ec) es,bI p L]) (vs:=[bI p L,tRd eEvt (.slice ea es.length ec) es]) (HO.out.frz 0 rfl fun h=>eEvt_rd h) [1,0] (by decide) rfl)
       have c5:=aJ (i:=0) (HO.out.blk 5 rfl) rfl
       clear HO
       go_upto_region 37 with fail
       go_wp2_with fail
       refine (tickL_c (N:=200+13100*k) (Zp:=False) HW.out.full (by omega) es (by omega) HN.out HE.out.data _ 0 rfl HT.out H13.out).mono ?_
       rintro e w2 ⟨a2,c2,rfl,h2⟩
       obtain ⟨rs,hrs⟩:∃rs,rs=(L.acts es).1:=⟨_,rfl⟩
       obtain ⟨X,hX⟩:∃X,X=L.step es:=⟨_,rfl⟩
       rw [<-hrs,<-hX] at h2
       rw [<-hrs]
       have HRS:=aQ hrs
       have HXX:=aQ hX
       have hrl:rs.length=es.length:=by rw [hrs,acts_len]
       have hne:((rs.length:Int) != (es.length:Int))=false:=by simp;omega
       have H14:=aQ (show dY (fun _=>False) (Old W) W (tSq dK 32 (.slice a2 rs.length c2) rs::tRd eEvt (.slice ea es.length ec) es::(lookThs p b5 b7 b8 b9 b10 b13 R v X S A++(tTab b11 R (fun i c=>(v.sn i c:Int))::ts))) w2 from dY.pickL (us:=[tSq dK 32 (.slice a2 rs.length c2) rs,bI p X,tRd eEvt (.slice ea es.length ec) es]) (vs:=[tSq dK 32 (.slice a2 rs.length c2) rs,tRd eEvt (.slice ea es.length ec) es,bI p X]) h2 [0,2,1] (by decide) rfl)
       have hof:∀i,i < 2->(L.nd i).aV.length=R:=fun i hi=>by
        have h1:=full_ol HW.out.full
        have h2:=set_len HW.out.kin HMO.out.2.2.1
        obtain rfl|rfl:i=0\/i=1:=by omega
        ·exact h1.1.trans (h2.1.trans HRR.out.symm)
        ·exact h1.2.trans (h2.2.trans HRR.out.symm)
       have HOF:=aQ (show cl < (L.nd sd).aV.length by rw [hof sd hsd2];exact hclR)
       clear h2 H13 c5 hX hrs hof
       go_upto_region 40 with fail
       clear hne
       by_cases hes:es=[]
       ·have HNX:=aQ (show WSt s (k+1) v X/\v.Pre X R S A by rw [HXX.out,hes];exact HW.out.none (by omega) HPO.out)
        have hl0:es.length=0:=by rw [hes];rfl
        rw [hl0] at H14 hrl ⊢
        have H15:=aQ H14.out.tail.tail
        clear H14 hes
        go_wp2_with fail
        refine (look_c (HNX.out).1.full (HNX.out).1.short (by omega) hR4 (HNX.out).1.ok (fun i c=>Nat.le_trans ((HNX.out).1.n i c) (by omega)) (HNX.out).2 H15.out).mono ?_
        rintro e w5 ⟨rfl,S',A',hp,h5⟩
        have HP5:=aQ hp
        have H5:=aQ h5
        have HW5:=aQ (HNX.out).1
        clear hp h5
        go_wp2_with fail
        go_roundw
        case rel=>exact ⟨k+1,by omega,by go_num,v,X,S',A',HW5,HP5,H5⟩
        case measure=>simp [intOf];omega
       ·obtain ⟨e,he⟩:∃e,es=[e]:=by
         match es,hes,hel with
         |[e],_,_=>exact ⟨e,rfl⟩
         |[],h,_=>exact absurd rfl h
         |_::_::_,_,h=>simp at h
        have hl1:es.length=1:=by rw [he];rfl
        have hx:es[0]? = some e:=by rw [he];rfl
        obtain ⟨rc,hrc⟩:∃rc,rc=(L.act e).1:=⟨_,rfl⟩
        have hrx:rs[0]? = some rc:=by rw [HRS.out,he,hrc];rfl
        have HEV:=aQ (show EvOk v sd cl [e] by rw [<-he];exact HE.out)
        have HXE:=aQ (show X=L.step [e] by rw [<-he];exact HXX.out)
        rw [hl1] at hrl
        rw [hl1,hrl] at H14
        rw [hl1]
        obtain ⟨_,_,hsq⟩:=H14.out.get 0 rfl
        obtain ⟨gb,go,rfl,g0⟩:=nat_at (show Sq dK 32 w2 _ _ (.slice a2 1 c2) rs from hsq) hrx
        obtain ⟨_,_,hev⟩:=H14.out.get 1 rfl
        obtain ⟨lb,lo,da,dc,rfl,hby,k0,k1,k2,k3⟩:=evt_at (show RdS eEvt w2 _ (.slice ea 1 ec) es from hev) hx
        rw [Nat.add_zero] at g0
        simp only [Nat.zero_mul,Nat.add_zero] at k0
        have HRC:=aQ hrc
        clear hsq hev hby k1 k2 k3 hx hrx hes HE HXX HRS he hrc hel
        by_cases hq:rc≠0\/(e.kind≠1/\e.kind≠5)
        ·have HNX:=aQ (show WSt s (k+1) v X/\v.Pre X R S A by rw [HXE.out];exact HW.out.idle (by omega) HPO.out hsd2 HOF.out HEV.out (by rw [<-HRC.out];exact hq))
         have H15:=aQ H14.out.tail.tail
         clear H14
         by_cases hrc0:rc=0
         ·subst hrc0
          have hq1:e.kind≠1:=(hq.resolve_left fun h=>h rfl).1
          have hq5:e.kind≠5:=(hq.resolve_left fun h=>h rfl).2
          clear hq
          go_wp2_with fail
          refine (look_c (HNX.out).1.full (HNX.out).1.short (by omega) hR4 (HNX.out).1.ok (fun i c=>Nat.le_trans ((HNX.out).1.n i c) (by omega)) (HNX.out).2 H15.out).mono ?_
          rintro e w5 ⟨rfl,S',A',hp,h5⟩
          have HP5:=aQ hp
          have H5:=aQ h5
          have HW5:=aQ (HNX.out).1
          clear hp h5
          go_wp2_with fail
          go_roundw
          case rel=>exact ⟨k+1,by omega,by go_num,v,X,S',A',HW5,HP5,H5⟩
          case measure=>simp [intOf];omega
         ·clear hq
          go_wp2_with fail
          refine (look_c (HNX.out).1.full (HNX.out).1.short (by omega) hR4 (HNX.out).1.ok (fun i c=>Nat.le_trans ((HNX.out).1.n i c) (by omega)) (HNX.out).2 H15.out).mono ?_
          rintro e w5 ⟨rfl,S',A',hp,h5⟩
          have HP5:=aQ hp
          have H5:=aQ h5
          have HW5:=aQ (HNX.out).1
          clear hp h5
          go_wp2_with fail
          go_roundw
          case rel=>exact ⟨k+1,by omega,by go_num,v,X,S',A',HW5,HP5,H5⟩
          case measure=>simp [intOf];omega
        ·have hrc0:rc=0:=Classical.byContradiction fun h=>hq (.inl h)
         have hk15:¬(e.kind≠1/\e.kind≠5):=fun h=>hq (.inr h)
         subst hrc0
         clear hq
         rcases HEV.out with h0|h0|h0|⟨kk,xx,yy,h0,hk2,hk4⟩
         ·cases h0
         ·obtain rfl:=(List.cons.inj h0).1
          have HNX:=aQ (show WSt s (k+1) (v.dQ sd cl) X/\(v.dQ sd cl).Pre X R S A by rw [HXE.out];exact (HW.out.dQ (by omega) HPO.out hsd2 HOF.out).1 HRC.out.symm)
          obtain ⟨g,off,cap,t1,t2,t3,t4,t5⟩:=tab_at H14.out 4 rfl hsd2 hclR
          have h15:=t5 ((v.n sd cl+1:Nat):Int)
          rw [upd_offer] at h15
          have h15':=h15.tail.tail
          have HVN:=aQ (show v.n sd cl<=40 from Nat.le_trans (HW.out.n sd cl) (by omega))
          have hvn:=HVN.out
          obtain ⟨n,hn⟩:∃n,n=v.n sd cl:=⟨_,rfl⟩
          rw [<-hn] at t3 hvn h15'
          have hwn:IntKind.i64.wrap ((n:Int)+1)=((n+1:Nat):Int):=(IntWalk.i64_in _ (by omega)).trans (by omega)
          have H15:=aQ (show dY (fun _=>False) (Old W) W (lookThs p b5 b7 b8 b9 b10 b13 R (v.dQ sd cl) X S A++(tTab b11 R (fun i c=>((v.dQ sd cl).sn i c:Int))::ts)) _ from h15')
          dsimp only at k0
          clear h15 h15' t5 H14 hn hk15 h0 HEV
          go_wp2_with fail
          refine (look_c (HNX.out).1.full (HNX.out).1.short (by omega) hR4 (HNX.out).1.ok (fun i c=>Nat.le_trans ((HNX.out).1.n i c) (by omega)) (HNX.out).2 H15.out).mono ?_
          rintro e w5 ⟨rfl,S',A',hp,h5⟩
          have HP5:=aQ hp
          have H5:=aQ h5
          have HW5:=aQ (HNX.out).1
          clear hp h5
          go_wp2_with fail
          go_roundw
          case rel=>exact ⟨k+1,by omega,by go_num,v.dQ sd cl,X,S',A',HW5,HP5,H5⟩
          case measure=>simp [intOf];omega
         ·obtain rfl:=(List.cons.inj h0).1
          have HNX:=aQ (show WSt s (k+1) (v.restart L sd) X/\(v.restart L sd).Pre X R S (clr A sd R) by rw [HXE.out];exact (HW.out.restart (by omega) HPO.out hsd2 0).1 HRC.out.symm)
          have hrow:=H14.out.blk 8 rfl
          have c13:=aJ (i:=0) hrow rfl
          have f13:=aD hrow 0
          have h15:=H14.out.set 8 rfl (.cells #[.bool true] 4) (w':=w2.setCell ⟨b13,0,none⟩ (.bool true)) (by (repeat (first|(with_reducible (first|exact Fr.refl _ _|refine Fr.setCell ?_ ?_ _|refine Fr.drewN ?_ _|refine Fr.drew ?_))|exact Or.inl rfl))) (by (apply aS;focus (with_reducible (repeat (first|exact hrow|apply aU|apply aP|apply aF))));rfl)
          have H15:=aQ (show dY (fun _=>False) (Old W) W (tTab b10 R A::dJ b7 (nO R)::(tTab b11 R (fun i c=>(v.sn i c:Int))::tTab b8 R (fun i c=>(v.n i c:Int))::bI p X::tTab b9 R S::dJ b5 (.cells #[.pointer (some ⟨p,0,none⟩)] 31)::dJ b13 (.cells #[.bool true] 4)::ts)) _ from
           dY.pickL (us:=[tSq dK 32 (.slice (some ⟨gb,go,none⟩) 1 c2) rs,tRd eEvt (.slice (some ⟨lb,lo,none⟩) 1 ec) es,bI p X,tTab b9 R S,tTab b8 R (fun i c=>(v.n i c:Int)),tTab b10 R A,dJ b5 (.cells #[.pointer (some ⟨p,0,none⟩)] 31),dJ b7 (nO R),dJ b13 (.cells #[.bool true] 4),tTab b11 R (fun i c=>(v.sn i c:Int))]) (vs:=[tTab b10 R A,dJ b7 (nO R),tTab b11 R (fun i c=>(v.sn i c:Int)),tTab b8 R (fun i c=>(v.n i c:Int)),bI p X,tTab b9 R S,dJ b5 (.cells #[.pointer (some ⟨p,0,none⟩)] 31),dJ b13 (.cells #[.bool true] 4)]) h15 [5,7,9,4,2,3,6,8] (by decide) rfl)
          dsimp only at k0
          clear h15 hrow H14 hk15 h0 HEV
          go_wp2_with fail
          refine (clear_c (s:=sd) hsd2 hR4 H15.out).mono ?_
          rintro e w4 ⟨rfl,h16⟩
          have H16:=aQ (show dY (fun _=>False) (Old W) W (tTab b11 R (fun i c=>if i < 0 then (v.n i c:Int) else (v.sn i c:Int))::tTab b8 R (fun i c=>(v.n i c:Int))::tTab b10 R (clr A sd R)::dJ b7 (nO R)::bI p X::tTab b9 R S::dJ b5 (.cells #[.pointer (some ⟨p,0,none⟩)] 31)::dJ b13 (.cells #[.bool true] 4)::ts) w4 by
           rw [tTab_congr (A:=fun i c=>if i < 0 then (v.n i c:Int) else (v.sn i c:Int)) (B:=fun i c=>(v.sn i c:Int)) (fun i c _ _=>if_neg (Nat.not_lt_zero i))]
           exact dY.pickL (us:=[tTab b10 R (clr A sd R),dJ b7 (nO R),tTab b11 R (fun i c=>(v.sn i c:Int)),tTab b8 R (fun i c=>(v.n i c:Int))]) (vs:=[tTab b11 R (fun i c=>(v.sn i c:Int)),tTab b8 R (fun i c=>(v.n i c:Int)),tTab b10 R (clr A sd R),dJ b7 (nO R)]) h16 [2,3,0,1] (by decide) rfl)
          clear h16 H15 k0 g0 c13 f13
          go_wp2_with fail
          go_loopw [21,197] (fun _ u wr=>∃i:Nat,i<=2/\u=.int .i64 (i:Int)/\Hid (dY (fun _=>False) (Old W) W (tTab b11 R (fun i' c=>if i' < i then (v.n i' c:Int) else (v.sn i' c:Int))::tTab b8 R (fun i c=>(v.n i c:Int))::tTab b10 R (clr A sd R)::dJ b7 (nO R)::bI p X::tTab b9 R S::dJ b5 (.cells #[.pointer (some ⟨p,0,none⟩)] 31)::dJ b13 (.cells #[.bool true] 4)::ts) wr)) (fun _ u _=>2 - (intOf u).toNat)
          case atStart=>exact ⟨0,by decide,rfl,H16⟩
          case round=>
           clear H16
           obtain ⟨i,hi,rfl,HO⟩:=hrel
           by_cases hi2:i < 2
           ·have HQ:=aQ HO.out.drew
            obtain ⟨wq,hwq⟩:∃wq,wq=wr.drew:=⟨_,rfl⟩
            rw [<-hwq] at HQ
            obtain ⟨g,off,cap,cur,t1,t2,t3,t4⟩:=tab_put HQ.out 0 rfl hi2 hR1
            obtain ⟨g8,o8,cap8,s1,s2⟩:=tab_src HQ.out 1 rfl hi2 hR1
            have H17:=aQ (show dY (fun _=>False) (Old W) W (tTab b11 R (fun i' c=>if i' < i+1 then (v.n i' c:Int) else (v.sn i' c:Int))::tTab b8 R (fun i c=>(v.n i c:Int))::tTab b10 R (clr A sd R)::dJ b7 (nO R)::bI p X::tTab b9 R S::dJ b5 (.cells #[.pointer (some ⟨p,0,none⟩)] 31)::dJ b13 (.cells #[.bool true] 4)::ts) (wOver wq g cur off (intsV (rowT R fun c=>(v.n i c:Int)))) by
             rw [tTab_congr (A:=fun i' c=>if i' < i+1 then (v.n i' c:Int) else (v.sn i' c:Int)) (B:=rowSet (fun i' c=>if i' < i then (v.n i' c:Int) else (v.sn i' c:Int)) i fun c=>(v.n i c:Int)) (row_next v i)]
             exact t4 fun c=>(v.n i c:Int))
            have T2:=aQ t2
            have T3:=aQ t3
            have S2:=aQ s2
            have hi2I:(i:Int) < 2:=by omega
            clear t2 t3 t4 s2 HO HQ
            go_upto_region 50 with fail
            refine wp_region_still_tail 6 (by kernel_rfl) (by kernel_rfl) ?_
            simp only [List.take_succ_cons,List.take_zero,List.drop_succ_cons,List.drop_zero]
            change wpStill _ _ (World.drew _) (fun a'=>wpList _ _ _ _ a' (World.drew _)) _ _
            rw [<-hwq]
            clear hwq
            repeat still_step
            refine wpStill_nil ?_
            refine wpList_copy_k slInt rfl _ _ rfl g off R cap ⟨g8,o8,none⟩ R cap8 (by rfl) (by rfl) cur (intsV (rowT R fun c=>(v.n i c:Int))) T2.out (by rw [List.length_map,rowT_length,Nat.mul_one];exact (Nat.min_self R).symm) S2.out (by rw [List.length_map,rowT_length];exact T3.out) (fun u hu=>by obtain ⟨x,_,rfl⟩:=List.mem_map.1 hu;rfl) ?_
            go_wp2_with fail
            go_roundw
            case rel=>exact ⟨i+1,by omega,by go_num,H17⟩
            case measure=>simp [intOf];omega
           ·obtain rfl:i=2:=by omega
            have H15:=aQ (show dY (fun _=>False) (Old W) W (lookThs p b5 b7 b8 b9 b10 b13 R (v.restart L sd) X S (clr A sd R)++(tTab b11 R (fun i c=>((v.restart L sd).sn i c:Int))::ts)) wr by
             have h:=HO.out
             rw [tTab_congr (A:=fun i' c=>if i' < 2 then (v.n i' c:Int) else (v.sn i' c:Int)) (B:=fun i c=>(v.n i c:Int)) (fun i c hi _=>if_pos hi)] at h
             exact dY.pickL (us:=[tTab b11 R (fun i c=>(v.n i c:Int)),tTab b8 R (fun i c=>(v.n i c:Int)),tTab b10 R (clr A sd R),dJ b7 (nO R),bI p X,tTab b9 R S,dJ b5 (.cells #[.pointer (some ⟨p,0,none⟩)] 31),dJ b13 (.cells #[.bool true] 4)]) (vs:=[bI p X,tTab b9 R S,tTab b8 R (fun i c=>(v.n i c:Int)),tTab b10 R (clr A sd R),dJ b5 (.cells #[.pointer (some ⟨p,0,none⟩)] 31),dJ b7 (nO R),dJ b13 (.cells #[.bool true] 4),tTab b11 R (fun i c=>(v.n i c:Int))]) h [4,5,1,2,6,3,7,0] (by decide) rfl)
            clear HO
            go_wp2_with fail
            refine (look_c (HNX.out).1.full (HNX.out).1.short (by omega) hR4 (HNX.out).1.ok (fun i c=>Nat.le_trans ((HNX.out).1.n i c) (by omega)) (HNX.out).2 H15.out).mono ?_
            rintro e w5 ⟨rfl,S',A',hp,h5⟩
            have HP5:=aQ hp
            have H5:=aQ h5
            have HW5:=aQ (HNX.out).1
            clear hp h5
            go_wp2_with fail
            go_roundw
            case rel=>exact ⟨k+1,by omega,by go_num,v.restart L sd,X,S',A',HW5,HP5,H5⟩
            case measure=>simp [intOf];omega
         ·obtain rfl:=(List.cons.inj h0).1
          exact absurd ⟨show kk≠1 by omega,show kk≠5 by omega⟩ hk15
    ·as_aux_lemma=>
      obtain rfl:fs.length=k:=by omega
      have hkk:fs.length<=40:=by omega
      obtain ⟨q,hq,hqq⟩:=moder_quiet HMO.out HVA.out HVB.out HDD.out.1 HW.out.kin HW.out.full (by omega) (by omega) HW.out.tots hkk
      have hR1:1<=R:=by rw [HRR.out];exact HVA.out.2.1.1
      have c5:=aJ (i:=0) (HK.out.blk 4 rfl) rfl
      have hdr:=HW.out.drains hkk HMO.out.2.2.1 HRR.out
      have H13:=aQ (dY.pickL (us:=[tRd eEvt (.slice (some ⟨wr.heap.size,0,none⟩) 1 1) [⟨4,0,0,[]⟩],bI p L]) (vs:=[bI p L,tRd eEvt (.slice (some ⟨wr.heap.size,0,none⟩) 1 1) [⟨4,0,0,[]⟩]]) (((HK.out.add (Below.refl _ _) (T:=tBy (.slice none 0 0) []) (ByZ.nil _ _)).front).lit_evt ⟨4,0,0,[]⟩ 0 rfl) [1,0] (by decide) rfl)
      clear HK
      go_wp2_with fail
      refine (tickL_c (N:=200+13100*fs.length) (Zp:=False) HW.out.full (by omega) [⟨4,0,0,[]⟩] (by decide) (by simp;omega) (by simp) _ 0 rfl HT.out H13.out).mono ?_
      rintro e w1 ⟨a1,c1,rfl,h1⟩
      obtain ⟨X,hX⟩:∃X,X=L.step [⟨4,0,0,[]⟩]:=⟨_,rfl⟩
      have HPX:=aQ (show v.Post (X.drain 0) R S A by rw [hX];exact HPO.out.same (mend_tk L))
      rw [<-hX] at h1 hqq hdr
      have HQQ:=aQ hqq
      have HDR:=aQ hdr
      have HVN:=aQ (show ∀i c,v.n i c<=200 from fun i c=>Nat.le_trans (HW.out.n i c) (by omega))
      have H2:=aQ (show dY (fun _=>False) (Old W) W (lookThs p b5 b7 b8 b9 b10 b13 R v (X.drain 0) S A++(tTab b11 R (fun i c=>(v.sn i c:Int))::ts)) w1 from dY.pickL (us:=[tSq dK 32 (.slice a1 (L.acts [⟨4,0,0,[]⟩]).1.length c1) (L.acts [⟨4,0,0,[]⟩]).1,bI p X,tRd eEvt (.slice (some ⟨wr.heap.size,0,none⟩) 1 1) [⟨4,0,0,[]⟩]]) (vs:=[bI p (X.drain 0)]) h1 [1] (by decide) rfl)
      clear h1 H13 hX hqq hdr HW HPO c5
      go_wp2_with fail
      go_loopw [216] (fun u wr=>∃m:Nat,m<=q/\u=.int .i64 (m:Int)/\∃S A:Nat->Nat->Int,Hid (v.Post (X.drain m) R S A)/\Hid (dY (fun _=>False) (Old W) W (lookThs p b5 b7 b8 b9 b10 b13 R v (X.drain m) S A++(tTab b11 R (fun i c=>(v.sn i c:Int))::ts)) wr)) (fun u _=>4000 - (intOf u).toNat)
      case atStart=>exact ⟨0,by omega,rfl,S,A,HPX,H2⟩
      case round=>
       clear H2 HPX
       obtain ⟨m,hmq,rfl,S1,A1,HP1,HK⟩:=hrel
       have hm4:(m:Int) < 4000:=by omega
       obtain ⟨N,n1,n2,g1,g2,g3,g4⟩:=HDR.out m (by omega)
       have HOK:=aQ g1
       have HSH:=aQ g2
       have HRL:=aQ (And.intro g3 g4)
       obtain ⟨TL,hTL⟩:∃TL:List Th,TL=[tTab b9 R S1,tTab b8 R (fun i c=>(v.n i c:Int)),tTab b10 R A1,dJ b5 (.cells #[.pointer (some ⟨p,0,none⟩)] 31),dJ b7 (nO R),dJ b13 (.cells #[.bool v.rst] 4)]++(tTab b11 R (fun i c=>(v.sn i c:Int))::ts):=⟨_,rfl⟩
       have HO:=aQ (show dY (fun _=>False) (Old W) W (bI p (X.drain m)::TL) wr by rw [hTL];exact HK.out)
       have Q5:=aQ (show TL[3]? = some (dJ b5 (.cells #[.pointer (some ⟨p,0,none⟩)] 31)) by rw [hTL];rfl)
       have Q7:=aQ (show TL[4]? = some (dJ b7 (nO R)) by rw [hTL];rfl)
       have HTL:=aQ hTL
       have c5:=aJ (i:=0) (HO.out.blk 4 Q5.out) rfl
       clear g1 g2 g3 g4 HK hTL
       go_wp2_with fail
       refine (quiet_c HOK.out.full.full (by omega) HO.out).mono ?_
       rintro e w2 ⟨b,hb,rfl,h2⟩
       have H2:=aQ h2
       clear h2 HO c5
       cases b with
       |true=>
        have HB:=aQ (hb.1 rfl)
        have c5:=aJ (i:=0) (H2.out.blk 4 Q5.out) rfl
        clear hb
        go_wp2_with fail
        refine (quiet_c HOK.out.full.full (by omega) H2.out).mono ?_
        rintro e w3 ⟨b,hb,rfl,h3⟩
        obtain rfl:b=true:=hb.2 HB.out
        have H3:=aQ (show dY (fun _=>False) (Old W) W (lookThs p b5 b7 b8 b9 b10 b13 R v (X.drain m) S1 A1++(tTab b11 R (fun i c=>(v.sn i c:Int))::ts)) w3 by rw [HTL.out] at h3;exact h3)
        clear h3 hb H2 c5
        have HLA:=aQ (show ∀i c,i < 2->c < R->v.sn (1 - i) c < v.n (1 - i) c->A1 i c=(v.n (1 - i) c:Int) - 1 from fun i c hi hc hs=>by rw [(HP1.out i c hi hc).2];exact HOK.out.done HB.out (fun i c=>Nat.le_trans (HVN.out i c) (by decide)) HRL.out.1 HRL.out.2 hi hc hs)
        clear HB HOK HSH HRL HP1 HQQ HDR
        go_wp2_with fail
        go_loopw [260] (fun u wr=>∃i:Nat,i<=2/\u=.int .i64 (i:Int)/\Hid (dY (fun _=>False) (Old W) W (lookThs p b5 b7 b8 b9 b10 b13 R v (X.drain m) S1 A1++(tTab b11 R (fun i c=>(v.sn i c:Int))::ts)) wr)) (fun u _=>2 - (intOf u).toNat)
        case atStart=>exact ⟨0,by decide,rfl,H3⟩
        case round=>
         clear H3
         obtain ⟨i,hi,rfl,HO⟩:=hrel
         by_cases hi2:i < 2
         ·have hi2I:(i:Int) < 2:=by omega
          have c7:=aJ (i:=0) (HO.out.blk 5 rfl) rfl
          go_wp2_with fail
          clear c7
          go_loopw [264] (fun u wr=>∃c:Nat,c<=R/\u=.int .i64 (c:Int)/\Hid (dY (fun _=>False) (Old W) W (lookThs p b5 b7 b8 b9 b10 b13 R v (X.drain m) S1 A1++(tTab b11 R (fun i c=>(v.sn i c:Int))::ts)) wr)) (fun u _=>R - (intOf u).toNat)
          case atStart=>exact ⟨0,by omega,rfl,HO⟩
          case round=>
           clear HO
           obtain ⟨c,hc,rfl,HO⟩:=hrel
           by_cases hcR:c < R
           ·obtain ⟨o,ho⟩:∃o,o=1 - i:=⟨_,rfl⟩
            have ho2:o < 2:=by omega
            have hoi:IntKind.i64.wrap (1 - (i:Int))=(o:Int):=(IntWalk.i64_in _ (by omega)).trans (by omega)
            have hoi':(1:Int) - (i:Int)=(o:Int):=by omega
            obtain ⟨g8,o8,k8,t1,t2,t3,_,_⟩:=tab_at HO.out 2 rfl ho2 hcR
            obtain ⟨g1,o1',k1,s1,s2,s3,_,_⟩:=tab_at HO.out 7 rfl ho2 hcR
            obtain ⟨g2,o2,k2,r1,r2,r3,_,_⟩:=tab_at HO.out 3 rfl hi2 hcR
            have hla:=HLA.out i c hi2 hcR
            have hvn:=HVN.out o c
            rw [<-ho] at hla
            clear ho
            generalize v.n o c=n0 at t3 hla hvn
            generalize v.sn o c=s0 at s3 hla
            generalize A1 i c=x0 at r3 hla
            by_cases hs:s0 < n0
            ·obtain rfl:x0=(n0:Int) - 1:=hla hs
             have hw1:IntKind.i64.wrap ((n0:Int) - 1)=(n0:Int) - 1:=IntWalk.i64_in _ (by omega)
             clear hla
             go_wp2_with fail
             go_roundw
             case rel=>exact ⟨c+1,by omega,by go_num,HO⟩
             case measure=>simp [intOf];omega
            ·clear hla
             go_wp2_with fail
             go_roundw
             case rel=>exact ⟨c+1,by omega,by go_num,HO⟩
             case measure=>simp [intOf];omega
           ·obtain rfl:c=R:=by omega
            go_wp2_with fail
            go_roundw
            case rel=>exact ⟨i+1,by omega,by go_num,HO⟩
            case measure=>simp [intOf];omega
         ·obtain rfl:i=2:=by omega
          go_wp2_with fail
          go_ret
          exact ⟨rfl,HO.out.below⟩
       |false=>
        have hmlt:m < q:=by
         rcases Nat.lt_or_ge m q with h|h
         ·exact h
         ·obtain rfl:m=q:=by omega
          exact absurd (hb.2 HQQ.out) (by decide)
        have HST:=aQ (show (X.drain m).step (drainEvs (X.drain m) R 2)=X.drain (m+1) from drain_step HRL.out.1 HRL.out.2)
        have HTK:=aQ (fun i c=>drain_tk X m i c)
        have hR4':R<=4:=hR4
        clear hb
        obtain ⟨Y,hY⟩:∃Y,Y=X.drain m:=⟨_,rfl⟩
        rw [<-hY] at H2 HST HOK HRL HSH HP1 HTK
        clear hY
        have HFY:=aQ (show Y.Full N False from HOK.out.full.full)
        have H3:=aQ (show dY (fun _=>False) (Old W) W (bI p Y::tSq eEvt 49 (.slice none 0 0) []::TL) w2 from
         dY.pickL (us:=[tSq eEvt 49 (.slice none 0 0) [],bI p Y]) (vs:=[bI p Y,tSq eEvt 49 (.slice none 0 0) []]) ((H2.out.add (Below.refl _ _) (T:=tSq eEvt 49 (.slice none 0 0) []) (Sq.nil _ _ _ _ _)).front) [1,0] (by decide) rfl)
        clear H2
        go_wp2_with fail
        go_loopw [22,220] (fun v i wr=>∃n:Nat,n<=2/\i=.int .i64 (n:Int)/\∃(es:List Evt) (a:Option Addr) (c:Nat),v=.slice a es.length c/\Hid (es=drainEvs Y R n/\es.length<=256*n)/\Hid (dY (fun _=>False) (Old W) W (bI p Y::tSq eEvt 49 (.slice a es.length c) es::TL) wr)) (fun _ i _=>2 - (intOf i).toNat)
        case atStart=>exact ⟨0,by decide,rfl,[],none,0,rfl,aQ ⟨rfl,Nat.zero_le _⟩,H3⟩
        case round=>
         clear H3
         obtain ⟨n,hn,rfl,es,a,c,rfl,HE,HO⟩:=hrel
         by_cases hn2:n < 2
         ·have hn2I:(n:Int) < 2:=by omega
          have c7:=aJ (i:=0) (HO.out.blk 6 Q7.out) rfl
          go_wp2_with fail
          clear c7
          go_loopw [22,224] (fun v i wr=>∃k:Nat,k<=R/\i=.int .i64 (k:Int)/\∃(es:List Evt) (a:Option Addr) (c:Nat),v=.slice a es.length c/\Hid (es=drainEvs Y R n++evs n (Y.nd n) k/\es.length<=256*n+64*k)/\Hid (dY (fun _=>False) (Old W) W (bI p Y::tSq eEvt 49 (.slice a es.length c) es::TL) wr)) (fun _ i _=>R - (intOf i).toNat)
          case atStart=>exact ⟨0,by omega,rfl,es,a,c,rfl,aQ ⟨by rw [HE.out.1];exact (List.append_nil _).symm,HE.out.2⟩,HO⟩
          case round=>
           clear HE HO
           obtain ⟨k,hk,rfl,es,a,c,rfl,HE,HO⟩:=hrel
           by_cases hkr:k < R
           ·obtain ⟨pp,hP⟩:=port_of HFY.out (by omega) HO.out hn2
            have c5:=aJ (i:=0) (HO.out.blk 5 Q5.out) rfl
            have hkl:k < (Y.nd n).prt.aZ.length:=by
             unfold Lk.nd
             split
             ·rw [HRL.out.1];exact hkr
             ·rw [HRL.out.2];exact hkr
            have h64:=HFY.out.buf64 n k hkl
            have hgot:(Y.nd n).prt.aW.getD k 0=(Y.nd n).prt.cF.getD k 0+((Y.nd n).prt.aY.getD k []).length:=by
             obtain ⟨_,i⟩:=HFY.out.nd n
             exact i.cons.got k hkl
            have hrec:(Y.nd n).prt.aW.getD k 0<=60000000:=by
             obtain ⟨_,i⟩:=HFY.out.nd n
             exact Nat.le_trans (bM (P:=fun y=>y<=N) i.ok.ren (d:=0) (Nat.zero_le _) k) (by omega)
            have HEV:=aQ (evs_succ n (Y.nd n) k)
            have HPP:=aQ hP.port
            have HPC:=aQ (hP.counts k hkl)
            clear hP hkl
            generalize (Y.nd n).prt.aG.getD k 0=q1 at *
            generalize (Y.nd n).prt.aW.getD k 0=q2 at *
            generalize (Y.nd n).prt.cF.getD k 0=q3 at *
            generalize ((Y.nd n).prt.aY.getD k []).length=B at *
            have hw:IntKind.i64.wrap ((q2:Int) - (q3:Int))=(B:Int):=(IntWalk.i64_in _ (by omega)).trans (by omega)
            clear hgot hrec
            go_wp2_with fail
            refine HPP.out.mono ?_
            rintro e w3 ⟨rfl,rfl⟩
            go_wp2_with fail
            refine HPC.out.mono ?_
            rintro e w4 ⟨rfl,h4⟩
            have H4:=aQ h4
            clear h4 HO HPP HPC c5
            go_wp2_with fail
            go_loopw [22,239] (fun v i wr=>∃j:Nat,j<=B/\i=.int .i64 (j:Int)/\∃(es:List Evt) (a:Option Addr) (c:Nat),v=.slice a es.length c/\Hid (es=drainEvs Y R n++evs n (Y.nd n) k++List.replicate j (tev n k)/\es.length<=256*n+64*k+j)/\Hid (dY (fun _=>False) (Old W) W (bI p Y::tSq eEvt 49 (.slice a es.length c) es::TL) wr)) (fun _ i _=>B - (intOf i).toNat)
            case atStart=>exact ⟨0,by omega,rfl,es,a,c,rfl,aQ ⟨by rw [HE.out.1];exact (List.append_nil _).symm,HE.out.2⟩,H4⟩
            case round=>
             clear HE H4
             obtain ⟨j,hj,rfl,es,a,c,rfl,HE,HO⟩:=hrel
             by_cases hjb:j < B
             ·have HLE:=aQ (show es.length<=1000000 by have:=HE.out.2;omega)
              go_wp2_with (at_builtin;refine wpList_app_evt rfl _ _ rfl HO.out 1 rfl (aK wr _) HLE.out rfl wr.heap.size rfl (heap_alloc_new wr _) ?_;intro a' c' w6 h6;have H6:=aQ h6;clear h6)
              go_roundw
              case rel=>exact ⟨j+1,by omega,by go_num,es++[tev n k],a',c',by rw [List.length_append];rfl,aQ ⟨by rw [HE.out.1,List.replicate_succ',List.append_assoc],by rw [List.length_append];have:=HE.out.2;show _+1<=_;omega⟩,H6⟩
              case measure=>simp [intOf];omega
             ·obtain rfl:j=B:=by omega
              go_wp2_with fail
              go_roundw
              case rel=>exact ⟨k+1,by omega,by go_num,es,a,c,rfl,aQ ⟨by rw [HE.out.1,HEV.out,List.append_assoc],by have:=HE.out.2;omega⟩,HO⟩
              case measure=>simp [intOf];omega
           ·obtain rfl:k=R:=by omega
            go_wp2_with fail
            go_roundw
            case rel=>exact ⟨n+1,by omega,by go_num,es,a,c,rfl,aQ ⟨HE.out.1,by have:=HE.out.2;omega⟩,HO⟩
            case measure=>simp [intOf];omega
         ·obtain rfl:n=2:=by omega
          have c5:=aJ (i:=0) (HO.out.blk 5 Q5.out) rfl
          have H5:=aQ (HO.out.frz 1 rfl fun h=>eEvt_rd h)
          have HLE:=aQ (show es.length<=512 from HE.out.2)
          have HDT:=aQ (show ∀e ∈ es,e.data.length<=1000000 from fun e he=>by rw [HE.out.1] at he;rw [drainEvs_data Y R 2 e he];exact Nat.zero_le _)
          have HNN:=aQ (show N+65*es.length+13000<=170000000 by have:=HE.out.2;omega)
          have HES:=aQ (show Y.step es=X.drain (m+1) by rw [HE.out.1];exact HST.out)
          have HPP:=aQ (HP1.out.next (v:=v) (fun _ _=>rfl) (HOK.out.kle fun i c=>Nat.le_trans (HVN.out i c) (by decide)) HTK.out)
          obtain ⟨M,n3,n4,g1,g2,g3,g4⟩:=HDR.out (m+1) (by omega)
          have HOM:=aQ g1
          have HSM:=aQ g2
          clear HO HE g1 g2 g3 g4
          go_wp2_with fail
          refine (tickL_c (ts:=tRd eEvt (.slice a es.length c) es::TL) HFY.out n1 es (by have:=HLE.out;omega) HNN.out HDT.out _ 0 rfl HT.out H5.out).mono ?_
          rintro e w6 ⟨a6,c6,rfl,h6⟩
          rw [HES.out] at h6
          have h7:=dY.pickL (us:=[tSq dK 32 (.slice a6 (Y.acts es).1.length c6) (Y.acts es).1,bI p (X.drain (m+1)),tRd eEvt (.slice a es.length c) es]) (vs:=[bI p (X.drain (m+1))]) h6 [1] (by decide) rfl
          have H7:=aQ (show dY (fun _=>False) (Old W) W (lookThs p b5 b7 b8 b9 b10 b13 R v (X.drain (m+1)) S1 A1++(tTab b11 R (fun i c=>(v.sn i c:Int))::ts)) w6 by rw [HTL.out] at h7;exact h7)
          clear h6 h7 H5 c5
          go_wp2_with fail
          refine (look_c HOM.out.full.full HSM.out (by omega) hR4' HOM.out HVN.out HPP.out H7.out).mono ?_
          rintro e w8 ⟨rfl,S2,A2,hp,h8⟩
          have HP8:=aQ hp
          have H8:=aQ h8
          clear hp h8
          go_wp2_with fail
          go_roundw
          case rel=>exact ⟨m+1,by omega,by go_num,S2,A2,HP8,H8⟩
          case measure=>simp [intOf];omega
end
end Go.Proofs.YtcbnhebiagdbiaaGreatDoor
