/- Lemmas of this proof (texts LsS). -/
import Derived.Test.YtcbnhebiagdbiaaGreatDoorPkI1
namespace Go.Proofs.YtcbnhebiagdbiaaGreatDoor
set_option maxHeartbeats 64000000
set_option maxRecDepth 100000
section
open Go.RowKit
abbrev rawRow (b:RCfg) (a:Option Addr) (k:Nat):Obj:=.cells #[.int .i64 b.inc,.slice a b.aZ.length k,.int .i64 b.w,.int .i64 b.t,.int .i64 b.d] 24
section
variable {Z:BS} {W w:World} {ts:List Th}
theorem newL_badA (a b:RCfg) (ha:¬a.V) (hal:a.aZ.length<=1000000) (aa ba ta ya:Option Addr) (ak bk n1 c1 n2 c2:Nat) (cB:Int) (hr:Nums w aa a.aZ) :
  Calls Tryz.prog 10 #[cfgV a.inc aa a.aZ.length ak a.w a.t a.d,cfgV b.inc ba b.aZ.length bk b.w b.t b.d,.int .i64 cB,.slice ta n1 c1,.slice ya n2 c2] w fun e w'=>e=.returned (.tuple #[.pointer none,.int .i64 2])/\Below w.heap.size w w':=by
 have HR:=aQ hr
 have HA:=aQ (show ¬CfgOk a.inc a.aZ a.w a.t a.d from fun h=>ha (V11.of h))
 clear hr ha
 go_enter Tryz.func10,Tryz.ntmps10
 go_wp2_with fail
 go_loopw [27] (fun i wr=>i=.int .i64 0/\Hid (Below w.heap.size w wr)) (fun _ _=>1)
 case atStart=>exact ⟨rfl,aQ (by (with_reducible (repeat (first|exact Below.refl _ _|refine Bw.alloc ?_ _|refine Bw.drewN ?_ _|refine Bw.drew ?_))))⟩
 case round=>
  obtain ⟨rfl,HB⟩:=hrel
  have hix0:=run_idxC0 a.inc 0 aa a.aZ.length ak a.w a.t a.d b.inc ba b.aZ.length bk b.w b.t b.d
  have hba:=aK wr (rawRow a aa ak)
  have HB1:=aQ (HB.out.trans (hba.mono HB.out.size))
  have HP:=aQ (pnew_no (rc:=ak) (wr.alloc (rawRow a aa ak)) hal HA.out ((HR.out.below HB.out).below hba))
  clear hba
  go_wp2_with fail
  refine HP.out.mono ?_
  rintro e w2 ⟨rfl,hb⟩
  have HB2:=aQ (HB1.out.trans (hb.mono HB1.out.size))
  clear hb
  go_wp2_with fail
  go_ret2
  exact ⟨rfl,HB2.out⟩
theorem newL_badB (ca:Cfg) (oka:ca.Ok) (b:RCfg) (hb:¬b.V) (hbl:b.aZ.length<=1000000) (aa ba ta ya:Option Addr) (ak bk n1 c1 n2 c2:Nat) (cB:Int) (j1 j2:Nat) (h1:ts[j1]? = some (tRd dK (.slice aa ca.aZ.length ak) ca.aZ)) (h2:ts[j2]? = some (tRd (eInt .i64) (.slice ba b.aZ.length bk) b.aZ)) (h:dY (fun _=>False) Z W ts w) :
  Calls Tryz.prog 10 #[cfgV ca.inc aa ca.aZ.length ak ca.w ca.t ca.d,cfgV b.inc ba b.aZ.length bk b.w b.t b.d,.int .i64 cB,.slice ta n1 c1,.slice ya n2 c2] w fun e w'=>e=.returned (.tuple #[.pointer none,.int .i64 2])/\dY (fun _=>False) Z W ts w':=by
 obtain ⟨_,_,ra⟩:=h.get j1 h1
 obtain ⟨ab,ao,rfl,_⟩:=rd_nums (show RdS dK w _ (.slice aa ca.aZ.length ak) ca.aZ from ra) oka.n1
 have HH:=aQ h
 have na:=oka.n4
 have HOA:=aQ oka
 have HJ1:=aQ h1
 have HJ2:=aQ h2
 have HNB:=aQ (show ¬CfgOk b.inc b.aZ b.w b.t b.d from fun h=>hb (V11.of h))
 clear h ra oka h1 h2 hb
 go_enter Tryz.func10,Tryz.ntmps10
 go_wp2_with fail
 obtain ⟨p,hp⟩:∃p,p=w.heap.size+1+1:=⟨_,rfl⟩
 have H1:=aQ (show dY (fun _=>False) Z W (dJ p (bG (cJ++cJ).toArray)::ts) _ from by
  have:=((HH.out.alloc (cfgRow ca (some ⟨ab,ao,none⟩) ak)).alloc (rawRow b ba bk)).new (bG (cJ++cJ).toArray)
  rw [World.size_alloc,World.size_alloc,<-hp] at this
  exact this.front)
 rw [<-hp]
 clear hp HH
 go_loopw [27] (fun i wr=>
   (i=.int .i64 0/\Hid (dY (fun _=>False) Z W (dJ p (bG (cJ++cJ).toArray)::ts) wr)) \/
   (i=.int .i64 1/\∃v,Hid (dY (fun _=>False) Z W (dJ p (bG (bH ca v++cJ).toArray)::(bA ca v++ts)) wr)))
  (fun i _=>2 - (intOf i).toNat)
 case atStart=>exact .inl ⟨rfl,H1⟩
 case round=>
 clear H1
 rcases hrel with ⟨rfl,HK⟩|⟨rfl,v,HK⟩
 ·have hix0:=run_idxC0 ca.inc 0 (some ⟨ab,ao,none⟩) ca.aZ.length ak ca.w ca.t ca.d b.inc ba b.aZ.length bk b.w b.t b.d
  go_wp2_with fail
  obtain ⟨_,_,hrd⟩:=HK.out.get (j1+1) HJ1.out
  obtain ⟨b',o',e',m1,m2,hnum⟩:=rd_nums (show RdS dK wr _ (.slice (some ⟨ab,ao,none⟩) ca.aZ.length ak) ca.aZ from hrd) HOA.out.n1
  obtain ⟨rfl,rfl⟩:ab=b'/\ao=o':=by simpa using e'
  have hba:=aK wr (cfgRow ca (some ⟨ab,ao,none⟩) ak)
  refine (pnew_any (inc:=ca.inc) (aZ:=ca.aZ) (wi:=ca.w) (ti:=ca.t) (de:=ca.d) (rb:=ab) (ro:=ao) (rc:=ak) _ HOA.out.cfg m1 m2 (fun k x hk=>(World.cell?_of_block (hba.block ab (World.block_lt_of_cell? wr _ (hnum k x hk)))).trans (hnum k x hk))).mono ?_
  rintro e w2 ⟨pp,rfl,hm⟩
  have hbox:w2.heap[wr.heap.size]? = some (cfgRow ca (some ⟨ab,ao,none⟩) ak):=(hm.1.block _ (by simp)).trans (heap_alloc_new wr _)
  have H2:=aQ ((HK.out.own hba).made hm).front
  have HBX:=aQ hbox
  have x0:=aJ (i:=0) hbox rfl
  have x1:=aJ (i:=1) hbox rfl
  have hpx:¬p=wr.heap.size:=fun e=>by have:=lt_of_block (HK.out.blk 0 rfl);omega
  clear hm hba hnum hrd HK hbox
  go_upto_region 9 with (fail)
  clear x0 x1
  have hn4:ca.aZ.length<=4:=na
  refine wp_region_held_drew (S:=fun w'=>w'.heap[wr.heap.size]? = some (cfgRow ca (some ⟨ab,ao,none⟩) ak)) (by kernel_rfl) HBX.out (fun hS0=>?_)
  change wpAnyH _ _ _ _ _ (14+3) _ _ _
  refine aH 0 3 (by kernel_rfl) hS0 (fun _ _ _ _ _ h=>h) ?_
  simp only [List.drop_zero,List.take_succ_cons,List.take_zero]
  iterate 3 (refine aR (v:=?_) (by rfl) ?_ ?_;rotate_left 1;(focus ((intro w' hS';go_simp);try with_reducible rfl));simp only [Act.put,jQ1,jQ2,jQ3])
  refine aT ?_
  change wpAnyH _ _ _ _ _ (11+3) _ _ _
  refine aH 4 3 (by kernel_rfl) hS0 (fun _ _ _ _ _ h=>h) ?_
  simp only [List.drop_succ_cons,List.drop_zero,List.take_succ_cons,List.take_zero]
  (refine aR (v:=?_) (by rfl) ?_ ?_;rotate_left 1;(focus ((intro w' hS';go_simp);try with_reducible rfl));simp only [Act.put,jQ1,jQ2,jQ3])
  (refine aR (v:=?_) (by rfl) ?_ ?_;rotate_left 1;(focus ((intro w' hS';have l0:=aJ (i:=0) hS' rfl;clear hS';go_simp);try with_reducible rfl));simp only [Act.put,jQ1,jQ2,jQ3])
  (refine aR (v:=?_) (by rfl) ?_ ?_;rotate_left 1;(focus ((intro w' hS';go_simp);try with_reducible rfl));simp only [Act.put,jQ1,jQ2,jQ3])
  refine aT ?_
  change wpAnyH _ _ _ _ _ (10+1) _ _ _
  refine aH 8 1 (by kernel_rfl) hS0 (fun _ _ _ _ _ h=>h) ?_
  simp only [List.drop_succ_cons,List.drop_zero,List.take_succ_cons,List.take_zero]
  (refine aR (v:=?_) (by rfl) ?_ ?_;rotate_left 1;(focus ((intro w' hS';go_simp);try with_reducible rfl));simp only [Act.put,jQ1,jQ2,jQ3])
  refine aT ?_
  change wpAnyH _ _ _ _ _ (9+1) _ _ _
  refine aH 10 1 (by kernel_rfl) hS0 (fun _ _ _ _ _ h=>h) ?_
  simp only [List.drop_succ_cons,List.drop_zero,List.take_succ_cons,List.take_zero]
  (refine aR (v:=?_) (by rfl) ?_ ?_;rotate_left 1;(focus ((intro w' hS';go_simp);try with_reducible rfl));simp only [Act.put,jQ1,jQ2,jQ3])
  refine aT ?_
  change wpAnyH _ _ _ _ _ (7+2) _ _ _
  refine aH 13 2 (by kernel_rfl) hS0 (fun _ _ _ _ _ h=>h) ?_
  simp only [List.drop_succ_cons,List.drop_zero,List.take_succ_cons,List.take_zero]
  iterate 2 (refine aR (v:=?_) (by rfl) ?_ ?_;rotate_left 1;(focus ((intro w' hS';go_simp);try with_reducible rfl));simp only [Act.put,jQ1,jQ2,jQ3])
  refine aT ?_
  change wpAnyH _ _ _ _ _ (3+4) _ _ _
  refine wpAnyH_fresh (fun j=>j+42) (fun i j h=>by omega) (endVal ca.aZ.length) (endNew ca.aZ.length) (endNew_stay _) 3 4 [3,7,9,11] _ _ _ rfl (by decide) (by kernel_rfl) (fun w' hb=>(hb.block _ (lt_of_block hS0)).trans hS0) (fun j hj=>?_) (fun B w5 hb hall hinj=>?_)
  ·simp only [List.mem_cons,List.not_mem_nil,or_false] at hj
   rcases hj with rfl|rfl|rfl|rfl
   ·refine ⟨{ dst:=some 45,op:=Op.call { callee:=Callee.value (Operand.func 44),args := #[],argTypes := #[] },type := 110,pos := "link.go:58",after := #[],guard:=none },[],rfl,rfl,(fun x hx=>by cases hx),fun a' w1 K E _ hK=>?_⟩
    (refine step_call (f := 44) (args := #[]) (by rfl) ?_ ?_;(focus (go_simp;first|done|(with_reducible rfl)|rfl)))
    refine (newF_any w1).mono ?_
    rintro e' w2' ⟨rfl,rfl⟩
    exact ⟨_,rfl,hK w1.heap.size _ (aK w1 _) (Nat.le_refl _) (by simp) (.inl ⟨rfl,heap_alloc_new w1 _⟩)⟩
   ·exact fsh_make (n:=ca.aZ.length) (by unfold maxLen;omega) rfl rfl rfl rfl (by decide) rfl slBBB rfl (by omega) (fun b=>rfl) fun b w' h=>.inr (.inr ⟨by decide,by decide,h⟩)
   ·exact fsh_make (n:=ca.aZ.length) (by unfold maxLen;omega) rfl rfl rfl rfl (by decide) rfl slBBB rfl (by omega) (fun b=>rfl) fun b w' h=>.inr (.inr ⟨by decide,by decide,h⟩)
   ·exact fsh_make (n:=ca.aZ.length) (by unfold maxLen;omega) rfl rfl rfl rfl (by decide) rfl slNat rfl (by omega) (fun b=>rfl) fun b w' h=>.inr (.inl ⟨rfl,h⟩)
  simp only [List.foldl_cons,List.foldl_nil,Act.put,jQ1,Nat.reduceAdd,jQ2,jQ3]
  have hS5:=(hb.block _ (lt_of_block hS0)).trans hS0
  have hrow:w5.heap[p]? = some (bG (cJ++cJ).toArray):=(hb.block _ (lt_of_block (H2.out.blk 1 rfl))).trans (H2.out.drew.blk 1 rfl)
  have hf:=fun i=>aD hrow i
  have q0:=aJ (i:=0) hrow rfl
  have q1:=aJ (i:=1) hrow rfl
  have q2:=aJ (i:=2) hrow rfl
  have q3:=aJ (i:=3) hrow rfl
  have q4:=aJ (i:=4) hrow rfl
  have q5:=aJ (i:=5) hrow rfl
  have q6:=aJ (i:=6) hrow rfl
  have h5:=H2.out.drew.adds (rest:=[tSc (B 3) Sc.new,tBBy (.slice (some ⟨B 7,0,none⟩) ca.aZ.length ca.aZ.length) (List.replicate ca.aZ.length []),tBBy (.slice (some ⟨B 9,0,none⟩) ca.aZ.length ca.aZ.length) (List.replicate ca.aZ.length []),tSq dK 3 (.slice (some ⟨B 11,0,none⟩) ca.aZ.length ca.aZ.length) (List.replicate ca.aZ.length 0)])
   (Did.news (Z:=fun k=>k < W.heap.size/\Z k/\¬False) hb (endNew_star hall hinj) fun k h=>Nat.lt_of_lt_of_le h.1 H2.out.drew.below.size)
  change wpAnyH _ _ _ _ _ (2+1) _ _ _
  refine aH 12 1 (by kernel_rfl) hS5 (fun _ _ _ _ _ h=>h) ?_
  simp only [List.drop_succ_cons,List.drop_zero,List.take_succ_cons,List.take_zero]
  refine aR (v:=.agg #[.pointer (some ⟨pp,0,none⟩),.pointer (some ⟨B 3,0,none⟩),.pointer none,.int .i64 (ca.inc:Int),.slice (some ⟨B 7,0,none⟩) ca.aZ.length ca.aZ.length,.slice (some ⟨B 9,0,none⟩) ca.aZ.length ca.aZ.length,.slice (some ⟨B 11,0,none⟩) ca.aZ.length ca.aZ.length]) (by rfl) (fun w' _=>by kernel_rfl) ?_
  simp only [Act.put,jQ1,jQ2,jQ3]
  refine aT ?_
  refine aM 15 (by kernel_rfl) rfl (fun K hK=>?_)
  go_simp
  refine hK.out _ _ hS5 ?_
  clear hK K
  refine aM 16 (by kernel_rfl) rfl (fun K hK=>?_)
  go_simp
  obtain ⟨w6,hw6⟩:∃w6,w6=(((((((w5.setCell ⟨p,0,none⟩ (.pointer (some ⟨pp,0,none⟩))).setCell ⟨p,1,none⟩ (.pointer (some ⟨B 3,0,none⟩))).setCell ⟨p,2,none⟩ (.pointer none)).setCell ⟨p,3,none⟩ (.int .i64 (ca.inc:Int))).setCell ⟨p,4,none⟩ (.slice (some ⟨B 7,0,none⟩) ca.aZ.length ca.aZ.length)).setCell ⟨p,5,none⟩ (.slice (some ⟨B 9,0,none⟩) ca.aZ.length ca.aZ.length)).setCell ⟨p,6,none⟩ (.slice (some ⟨B 11,0,none⟩) ca.aZ.length ca.aZ.length)):=⟨_,rfl⟩
  have hrow6:w6.heap[p]? = some (bG (bH ca ⟨pp,B 3,0,.slice (some ⟨B 7,0,none⟩) ca.aZ.length ca.aZ.length,.slice (some ⟨B 9,0,none⟩) ca.aZ.length ca.aZ.length,.slice (some ⟨B 11,0,none⟩) ca.aZ.length ca.aZ.length⟩++cJ).toArray):=by rw [hw6];(apply aS;focus (with_reducible (repeat (first|exact hrow|apply aU|apply aP|apply aF))));rfl
  have hfr6:Fr (fun k=>k=p) w5 w6:=by rw [hw6];(repeat (first|(with_reducible (first|exact Fr.refl _ _|refine Fr.setCell ?_ ?_ _|refine Fr.drewN ?_ _|refine Fr.drew ?_))|exact Or.inl rfl))
  have h6:=h5.set 1 rfl (bG (bH ca ⟨pp,B 3,0,.slice (some ⟨B 7,0,none⟩) ca.aZ.length ca.aZ.length,.slice (some ⟨B 9,0,none⟩) ca.aZ.length ca.aZ.length,.slice (some ⟨B 11,0,none⟩) ca.aZ.length ca.aZ.length⟩++cJ).toArray) hfr6 hrow6
  have H7:=aQ (show dY (fun _=>False) Z W (dJ p (bG (bH ca ⟨pp,B 3,0,.slice (some ⟨B 7,0,none⟩) ca.aZ.length ca.aZ.length,.slice (some ⟨B 9,0,none⟩) ca.aZ.length ca.aZ.length,.slice (some ⟨B 11,0,none⟩) ca.aZ.length ca.aZ.length⟩++cJ).toArray)::(bA ca ⟨pp,B 3,0,.slice (some ⟨B 7,0,none⟩) ca.aZ.length ca.aZ.length,.slice (some ⟨B 9,0,none⟩) ca.aZ.length ca.aZ.length,.slice (some ⟨B 11,0,none⟩) ca.aZ.length ca.aZ.length⟩++ts)) w6 from swap_new (us:=[bP pp (cPrt ca),dJ p (bG (bH ca ⟨pp,B 3,0,.slice (some ⟨B 7,0,none⟩) ca.aZ.length ca.aZ.length,.slice (some ⟨B 9,0,none⟩) ca.aZ.length ca.aZ.length,.slice (some ⟨B 11,0,none⟩) ca.aZ.length ca.aZ.length⟩++cJ).toArray)]) (ns:=[tSc (B 3) Sc.new,tBBy (.slice (some ⟨B 7,0,none⟩) ca.aZ.length ca.aZ.length) (List.replicate ca.aZ.length []),tBBy (.slice (some ⟨B 9,0,none⟩) ca.aZ.length ca.aZ.length) (List.replicate ca.aZ.length []),tSq dK 3 (.slice (some ⟨B 11,0,none⟩) ca.aZ.length ca.aZ.length) (List.replicate ca.aZ.length 0)]) h6 (vs:=dJ p (bG (bH ca ⟨pp,B 3,0,.slice (some ⟨B 7,0,none⟩) ca.aZ.length ca.aZ.length,.slice (some ⟨B 9,0,none⟩) ca.aZ.length ca.aZ.length,.slice (some ⟨B 11,0,none⟩) ca.aZ.length ca.aZ.length⟩++cJ).toArray)::bA ca ⟨pp,B 3,0,.slice (some ⟨B 7,0,none⟩) ca.aZ.length ca.aZ.length,.slice (some ⟨B 9,0,none⟩) ca.aZ.length ca.aZ.length,.slice (some ⟨B 11,0,none⟩) ca.aZ.length ca.aZ.length⟩) [1,0,2,3,4,5] (by decide) rfl)
  have hS6:w6.heap[wr.heap.size]? = some (cfgRow ca (some ⟨ab,ao,none⟩) ak):=(hfr6.block _ (lt_of_block hS5) (fun e=>hpx e.symm)).trans hS5
  rw [<-hw6]
  clear hw6 hrow hrow6 hfr6 h5 h6 hf q0 q1 q2 q3 q4 q5 q6 hall hinj hb hS5 H2 HBX
  refine hK.out _ _ hS6 ?_
  clear hK K
  refine wpAnyH_done (by kernel_rfl) ?_ _
  go_wp2_with fail
  go_roundw
  case rel=>exact .inr ⟨rfl,_,H7⟩
  case measure=>simp [intOf]
 ·have hix1:=run_idxC1 ca.inc 0 (some ⟨ab,ao,none⟩) ca.aZ.length ak ca.w ca.t ca.d b.inc ba b.aZ.length bk b.w b.t b.d
  obtain ⟨_,_,hrd⟩:=HK.out.get (j2+6) HJ2.out
  have hba:=aK wr (rawRow b ba bk)
  have HP:=aQ (pnew_no (rc:=bk) (wr.alloc (rawRow b ba bk)) hbl HNB.out ((nums_of (show RdS (eInt .i64) wr _ (.slice ba b.aZ.length bk) b.aZ from hrd)).below hba))
  have HX:=aQ (HK.out.own hba)
  clear hba hrd HK
  go_wp2_with fail
  refine HP.out.mono ?_
  rintro e w2 ⟨rfl,hb⟩
  have HY:=aQ (HX.out.own hb)
  clear hb HX
  go_wp2_with fail
  go_ret2
  exact ⟨rfl,dY.pickL (us:=dJ p (bG (bH ca v++cJ).toArray)::bA ca v) (vs:=[]) (by exact HY.out) [] (by decide) rfl⟩
end
end

end Go.Proofs.YtcbnhebiagdbiaaGreatDoor
