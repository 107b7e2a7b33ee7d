/- Several texts in one: A port in memory: New.; The law's awake.; A port in memory: Restart. -/
import Derived.Test.YtckdblgobmofgaaGreatDoorPkG2
import Derived.Great.BuildSlice
namespace Go.Proofs.YtckdblgobmofgaaGreatDoor
section
open Go.RowKit
theorem cloneN_any {w:World} {ra:Option Addr} {rc:Nat} {rooms:List Nat} (h0:1<=rooms.length) (h4:rooms.length<=4) (hrc:rooms.length<=rc) (hrm:rc<=maxLen) (hr:∀(k x:Nat),rooms[k]? = some x->∃b o,ra=some ⟨b,o,none⟩/\w.cell? ⟨b,o+k,none⟩=some (.int .i64 (x:Int))) :
  Calls Tryz.prog 73 #[.slice ra rooms.length rc] w fun e w'=>∃v',e=.returned v'/\Sq eNat 3 w' (fun k=>w.heap.size<=k) (fun _=>False) v' rooms/\Below w.heap.size w w':=by
 obtain ⟨b,o,rfl⟩:∃b o,ra=some ⟨b,o,none⟩:=by
  obtain ⟨b,o,e,_⟩:=hr 0 _ (List.getElem?_eq_getElem h0);exact ⟨b,o,e⟩
 have hsn:=fun a n c n' c'=>Lib.run_eql_slice_nil (P:=Tryz.prog) w 28 3 a n c n' c' Tryz.underlying28
 have HRD:=Lib.hid (show Rd w 1 (.slice (some ⟨b,o,none⟩) rooms.length rc) rooms.length (rooms.map fun (x:Nat)=>Value.int .i64 (x:Int)) from ⟨by simp,_,rc,rfl,hrc,hrm,(fun e=>by cases e),fun b' hb j u hj=>by
  obtain rfl:=Option.some.inj hb
  rw [List.getElem?_map] at hj
  cases hx:rooms[j]? with
  |none=>rw [hx] at hj;cases hj
  |some x=>
   rw [hx] at hj
   obtain rfl:=Option.some.inj hj
   obtain ⟨b',o',e,hc⟩:=hr j x hx
   obtain ⟨rfl,rfl⟩:b=b'/\o=o':=by simpa using e
   exact ⟨rfl,hc⟩⟩)
 clear hr
 go_enter Tryz.func73,Tryz.ntmps73
 go_wp2_with (at_builtin;refine wpList_app slInt rfl _ _ rfl w.heap.size _ 0 [] rfl (World.ownsRow_made _ _ 0 (Nat.le_refl _) (Nat.zero_le _) rfl) _ rooms.length (rooms.map fun (x:Nat)=>Value.int .i64 (x:Int)) rfl (HRD.out.keep fun k _ hk=>Below.heap_alloc _ _ k hk) (by intro u hu;obtain ⟨x,_,rfl⟩:=List.mem_map.1 hu;rfl) (by unfold maxLen;omega) (by omega) (by simp) ?_;intro v2 w2 hown2 hg2 hiff;clear hiff;have HB2:=Lib.hid (((Below.refl w.heap.size w).alloc (Nat.le_refl _) _).grown hg2 (by simp) (fun k e=>by cases e;exact Nat.le_refl _));have HO2:=Lib.hid hown2;clear hown2 hg2)
 go_ret
 have ho:=HO2.out
 rw [Nat.zero_add,List.nil_append] at ho
 refine ⟨_,rfl,⟨fun k=>w.heap.size<=k/\k < w2.heap.size,fun _=>False,_,fun k hk=>hk.elim (·.1) False.elim,fun _ _ f=>f,fun k hk=>hk.2,(Sl.of_own ho fun _ h=>h).bound,?_⟩,HB2.out⟩
 have:=pure_nat.of (w:=w2) (Z:=fun _=>False) (fun _=>False) rooms
 rw [List.map_eq_flatMap];exact this
theorem slBBB:SlT Tryz.prog 67 37 (.slice none 0 0) 1 24:=⟨Tryz.underlying67,info_parts (by kernel_rfl),rfl,by decide⟩
theorem pnew_no {inc wi ti de:Int} {rooms:List Int} {ra:Option Addr} {rc:Nat} (w:World) (hl:rooms.length<=1000000) (hok:¬CfgOk inc rooms wi ti de) (hr:Nums w ra rooms) :
  Calls Tryz.prog 39 #[cfgV inc ra rooms.length rc wi ti de] w fun e w'=>e=.returned (.tuple #[.pointer none,.int .i64 2])/\Below w.heap.size w w':=by
 have hb0:=below_alloc w (.cells #[.int .i64 inc,.slice ra rooms.length rc,.int .i64 wi,.int .i64 ti,.int .i64 de] 30)
 have HQ:=Lib.hid (valid_no (rc:=rc) (w.alloc (.cells #[.int .i64 inc,.slice ra rooms.length rc,.int .i64 wi,.int .i64 ti,.int .i64 de] 30)) hl hok (hr.below hb0))
 have HB0:=Lib.hid hb0
 clear hok hr hb0
 go_enter Tryz.func39,Tryz.ntmps39
 go_wp2_with fail
 refine HQ.out.mono ?_
 rintro e w' ⟨rfl,hb⟩
 have HB:=Lib.hid (HB0.out.trans (hb.mono HB0.out.size))
 clear hb
 go_wp2_with fail
 go_ret2
 exact ⟨rfl,HB.out⟩
theorem star_of {w:World} {Z:BS}:∀(l:List (Nat × Th)),(l.map (·.1)).Nodup->(∀x ∈ l,x.2.on w (fun k=>k=x.1) Z)->Star (l.map (·.2)) w (fun k=>k ∈ l.map (·.1)) Z
 |[],_,_=>Star.nil w _ Z
 |x::l,hn,h=>by
  rw [List.map_cons,List.nodup_cons] at hn
  refine Star.cons (h x List.mem_cons_self) (star_of l hn.2 fun y hy=>h y (List.mem_cons_of_mem _ hy)) (fun k a b=>?_) (fun k hk=>?_) fun k hk=>List.mem_cons_of_mem _ hk
  ·have hk:k=x.1:=a
   subst hk
   exact hn.1 b
  ·have hk':k=x.1:=hk
   subst hk'
   exact List.mem_cons_self
theorem sq_zero {α : Type} {E:El α} {T:TypeId} {w:World} {b n:Nat} {z:Value} {a0 : α} (hsz:E.size=1) (he:∀w Z,E.rd w (fun _=>False) Z [z] a0) (h:Sl w (fun k=>k=b) T 1 (.slice (some ⟨b,0,none⟩) n n) n (List.replicate n z)) (hb:b < w.heap.size) :
  Sq E T w (fun k=>k=b) (fun _=>False) (.slice (some ⟨b,0,none⟩) n n) (List.replicate n a0):=by
 refine ⟨fun k=>k=b,fun _=>False,List.replicate n z,fun k hk=>hk.elim id False.elim,fun _ _ f=>f,fun k hk=>by subst hk;exact hb,by rw [List.length_replicate,hsz];exact h,?_⟩
 have:=Els.zero (E:=E) (Z:=fun _=>False) (he w _) n
 rwa [show (List.replicate n [z]).flatten=List.replicate n z by rw [List.flatten_replicate_singleton]] at this
set_option maxRecDepth 100000 in
set_option maxHeartbeats 16000000 in
theorem pnew_any {inc wi ti de:Nat} {rooms:List Nat} {rb ro rc:Nat} (w:World) (hok:CfgOk (inc:Int) (rooms.map fun (x:Nat)=>(x:Int)) wi ti de) (hrc:rooms.length<=rc) (hrm:rc<=maxLen) (hr:∀(k x:Nat),rooms[k]? = some x->w.cell? ⟨rb,ro+k,none⟩=some (.int .i64 (x:Int))) :
  Calls Tryz.prog 39 #[cfgV inc (some ⟨rb,ro,none⟩) rooms.length rc wi ti de] w fun e w'=>∃p,e=.returned (.tuple #[.pointer (some ⟨p,0,none⟩),.int .i64 0])/\Made w (tPort p (newPrt inc rooms wi ti de)) w':=by
 have hN:Nums w (some ⟨rb,ro,none⟩) (rooms.map fun (x:Nat)=>(x:Int)):=fun k x hk=>by
  rw [List.getElem?_map] at hk
  cases hx:rooms[k]? with
  |none=>rw [hx] at hk;cases hk
  |some y=>
   rw [hx] at hk
   obtain rfl:=Option.some.inj hk
   exact ⟨rb,ro,rfl,hr k y hx⟩
 have hb0:=below_alloc w (.cells #[.int .i64 (inc:Int),.slice (some ⟨rb,ro,none⟩) rooms.length rc,.int .i64 (wi:Int),.int .i64 (ti:Int),.int .i64 (de:Int)] 30)
 have hq:=valid_yes (rc:=rc) (w.alloc (.cells #[.int .i64 (inc:Int),.slice (some ⟨rb,ro,none⟩) rooms.length rc,.int .i64 (wi:Int),.int .i64 (ti:Int),.int .i64 (de:Int)] 30)) hok (hN.below hb0)
 rw [List.length_map] at hq
 have HQ:=Lib.hid hq
 have HB0:=Lib.hid hb0
 have HR:=Lib.hid hr
 have HOK:=Lib.hid hok
 have n1:1<=rooms.length:=by have:=hok.n1;rwa [List.length_map] at this
 have n4:rooms.length<=4:=by have:=hok.n4;rwa [List.length_map] at this
 clear hok hr hb0 hq hN
 go_enter Tryz.func39,Tryz.ntmps39
 go_wp2_with fail
 refine HQ.out.mono ?_
 rintro e w2 ⟨rfl,hb⟩
 have hr2:=(hb.block _ (lt_of_block (heap_alloc_new w _))).trans (heap_alloc_new w (.cells #[.int .i64 (inc:Int),.slice (some ⟨rb,ro,none⟩) rooms.length rc,.int .i64 (wi:Int),.int .i64 (ti:Int),.int .i64 (de:Int)] 30))
 have HB2:=Lib.hid (HB0.out.trans (hb.mono HB0.out.size))
 have H2:=Lib.hid (((Held.start0 (fun _=>False) (fun _=>False) (fun _ f=>f.elim) w).new (.cells #[.int .i64 (inc:Int),.slice (some ⟨rb,ro,none⟩) rooms.length rc,.int .i64 (wi:Int),.int .i64 (ti:Int),.int .i64 (de:Int)] 30)).own hb)
 have c1:=blk_cell (i:=1) hr2 rfl
 clear hb hr2
 go_wp2_with fail
 refine (cloneN_any (w:=w2) (rooms:=rooms) n1 n4 hrc hrm fun k x hk=>⟨rb,ro,rfl,(World.cell?_of_block (HB2.out.block rb (World.block_lt_of_cell? w _ (HR.out k x hk)))).trans (HR.out k x hk)⟩).mono ?_
 rintro e w3 ⟨rv,rfl,hsq,hb⟩
 obtain ⟨b1,o1,k1,rfl,m1,m1'⟩:=sq_some hsq n1
 have H3:=Lib.hid (H2.out.add hb (T:=tSq eNat 3 (.slice (some ⟨b1,o1,none⟩) rooms.length k1) rooms) hsq)
 have hr3:=H3.out.blk 0 rfl
 have d1:=blk_cell (i:=1) hr3 rfl
 have cf:=fun i=>blk_free hr3 i
 have h4:=H3.out.set 0 rfl (.cells #[.int .i64 (inc:Int),.slice (some ⟨b1,o1,none⟩) rooms.length k1,.int .i64 (wi:Int),.int .i64 (ti:Int),.int .i64 (de:Int)] 30) (w':=w3.setCell ⟨w.heap.size,1,none⟩ (.slice (some ⟨b1,o1,none⟩) rooms.length k1)) (by (repeat (first|(with_reducible exact Fr.refl _ _)|exact Or.inl rfl|(with_reducible refine Fr.setCell ?_ ?_ _)|(with_reducible refine Fr.drewN ?_ _)|(with_reducible refine Fr.drew ?_)))) (by (apply row_trans;focus (repeat (first|(with_reducible exact hr3)|(with_reducible apply row_set)|(with_reducible apply row_drewN)|(with_reducible apply row_drew))));rfl)
 clear hb hsq hr3 c1 H2
 go_upto_region 4 with fail
 generalize w3.setCell ⟨w.heap.size,1,none⟩ (.slice (some ⟨b1,o1,none⟩) rooms.length k1)=w4 at h4 ⊢
 have H4:=Lib.hid (show Held (fun _=>False) (fun _=>False) w [tBlk w.heap.size (.cells #[.int .i64 (inc:Int),.slice (some ⟨b1,o1,none⟩) rooms.length k1,.int .i64 (wi:Int),.int .i64 (ti:Int),.int .i64 (de:Int)] 30),tSq eNat 3 (.slice (some ⟨b1,o1,none⟩) rooms.length k1) rooms] w4 from h4)
 clear h4 H3 cf d1
 have HROW:=Lib.hid (H4.out.blk 0 rfl)
 have d1:=blk_cell (i:=1) HROW.out rfl
 have hwl:w.heap.size < w4.heap.size:=lt_of_block HROW.out
 go_upto_region 5 with fail
 clear d1
 refine wp_region_held_drew (S:=fun w'=>w'.heap[w.heap.size]? = some (.cells #[.int .i64 (inc:Int),.slice (some ⟨b1,o1,none⟩) rooms.length k1,.int .i64 (wi:Int),.int .i64 (ti:Int),.int .i64 (de:Int)] 30)) (by kernel_rfl) HROW.out (fun hS0=>?_)
 change wpAnyH _ _ _ _ _ (14+2) _ _ _
 refine wpAnyH_take_n 0 2 (by kernel_rfl) hS0 (fun _ _ _ _ _ h=>h) ?_
 simp only [List.drop_zero,List.take_succ_cons,List.take_zero]
 (refine wpFirst_val (v:=?_) (by rfl) ?_ ?_;rotate_left 1;(focus ((intro w' hS';have l0:=blk_cell (i:=0) hS' rfl;have l1:=blk_cell (i:=1) hS' rfl;have l2:=blk_cell (i:=2) hS' rfl;have l3:=blk_cell (i:=3) hS' rfl;have l4:=blk_cell (i:=4) hS' rfl;clear hS';go_simp);try with_reducible rfl));simp only [Act.put,List.setIfInBounds_toArray,List.set_cons_zero,List.set_cons_succ])
 (refine wpFirst_val (v:=?_) (by rfl) ?_ ?_;rotate_left 1;(focus ((intro w' hS';go_simp);try with_reducible rfl));simp only [Act.put,List.setIfInBounds_toArray,List.set_cons_zero,List.set_cons_succ])
 refine wpFirst_nil ?_
 change wpAnyH _ _ _ _ _ (13+1) _ _ _
 refine wpAnyH_take_n 3 1 (by kernel_rfl) hS0 (fun _ _ _ _ _ h=>h) ?_
 simp only [List.drop_succ_cons,List.drop_zero,List.take_succ_cons,List.take_zero]
 (refine wpFirst_val (v:=?_) (by rfl) ?_ ?_;rotate_left 1;(focus ((intro w' hS';go_simp);try with_reducible rfl));simp only [Act.put,List.setIfInBounds_toArray,List.set_cons_zero,List.set_cons_succ])
 refine wpFirst_nil ?_
 change wpAnyH _ _ _ _ _ (12+1) _ _ _
 refine wpAnyH_take_n 5 1 (by kernel_rfl) hS0 (fun _ _ _ _ _ h=>h) ?_
 simp only [List.drop_succ_cons,List.drop_zero,List.take_succ_cons,List.take_zero]
 (refine wpFirst_val (v:=?_) (by rfl) ?_ ?_;rotate_left 1;(focus ((intro w' hS';go_simp);try with_reducible rfl));simp only [Act.put,List.setIfInBounds_toArray,List.set_cons_zero,List.set_cons_succ])
 refine wpFirst_nil ?_
 change wpAnyH _ _ _ _ _ (11+1) _ _ _
 refine wpAnyH_take_n 7 1 (by kernel_rfl) hS0 (fun _ _ _ _ _ h=>h) ?_
 simp only [List.drop_succ_cons,List.drop_zero,List.take_succ_cons,List.take_zero]
 (refine wpFirst_val (v:=?_) (by rfl) ?_ ?_;rotate_left 1;(focus ((intro w' hS';go_simp);try with_reducible rfl));simp only [Act.put,List.setIfInBounds_toArray,List.set_cons_zero,List.set_cons_succ])
 refine wpFirst_nil ?_
 change wpAnyH _ _ _ _ _ (10+1) _ _ _
 refine wpAnyH_take_n 9 1 (by kernel_rfl) hS0 (fun _ _ _ _ _ h=>h) ?_
 simp only [List.drop_succ_cons,List.drop_zero,List.take_succ_cons,List.take_zero]
 (refine wpFirst_val (v:=?_) (by rfl) ?_ ?_;rotate_left 1;(focus ((intro w' hS';go_simp);try with_reducible rfl));simp only [Act.put,List.setIfInBounds_toArray,List.set_cons_zero,List.set_cons_succ])
 refine wpFirst_nil ?_
 change wpAnyH _ _ _ _ _ (9+1) _ _ _
 refine wpAnyH_take_n 11 1 (by kernel_rfl) hS0 (fun _ _ _ _ _ h=>h) ?_
 simp only [List.drop_succ_cons,List.drop_zero,List.take_succ_cons,List.take_zero]
 (refine wpFirst_val (v:=?_) (by rfl) ?_ ?_;rotate_left 1;(focus ((intro w' hS';go_simp);try with_reducible rfl));simp only [Act.put,List.setIfInBounds_toArray,List.set_cons_zero,List.set_cons_succ])
 refine wpFirst_nil ?_
 change wpAnyH _ _ _ _ _ (3+6) _ _ _
 refine wpAnyH_makes rooms.length (by unfold maxLen;omega) (fun j=>j+16) (fun i j h=>by omega) (fun j=>if j<=4 then 37 else 3) (fun j=>if j<=4 then .slice none 0 0 else .int .i64 0) 3 6 [2,4,6,8,10,12] _ _ _ rfl (by decide) (by kernel_rfl) (fun w' hb=>(hb.block _ hwl).trans HROW.out) (fun j hj=>?_) (fun B w5 hb hall hinj=>?_)
 ·simp only [List.mem_cons,List.not_mem_nil,or_false] at hj
  rcases hj with rfl|rfl|rfl|rfl|rfl|rfl
  ·exact ⟨_,_,_,_,rfl,rfl,rfl,rfl,by decide,rfl,slBBB,rfl,by omega⟩
  ·exact ⟨_,_,_,_,rfl,rfl,rfl,rfl,by decide,rfl,slBBB,rfl,by omega⟩
  ·exact ⟨_,_,_,_,rfl,rfl,rfl,rfl,by decide,rfl,slInt,rfl,by omega⟩
  ·exact ⟨_,_,_,_,rfl,rfl,rfl,rfl,by decide,rfl,slInt,rfl,by omega⟩
  ·exact ⟨_,_,_,_,rfl,rfl,rfl,rfl,by decide,rfl,slInt,rfl,by omega⟩
  ·exact ⟨_,_,_,_,rfl,rfl,rfl,rfl,by decide,rfl,slInt,rfl,by omega⟩
 ·simp only [List.foldl_cons,List.foldl_nil,Act.put,List.setIfInBounds_toArray,Nat.reduceAdd,List.set_cons_zero,List.set_cons_succ]
  have hS5:=(hb.block _ hwl).trans HROW.out
  change wpAnyH _ _ _ _ _ (2+1) _ _ _
  refine wpAnyH_take_n 13 1 (by kernel_rfl) hS5 (fun _ _ _ _ _ h=>h) ?_
  simp only [List.drop_succ_cons,List.drop_zero,List.take_succ_cons,List.take_zero]
  refine wpFirst_val (v:=.agg #[.int .i64 (inc:Int),.slice (some ⟨b1,o1,none⟩) rooms.length k1,.int .i64 (wi:Int),.int .i64 (ti:Int),.int .i64 (de:Int),.pointer none,.pointer none,.slice (some ⟨B 2,0,none⟩) rooms.length rooms.length,.slice (some ⟨B 4,0,none⟩) rooms.length rooms.length,.int .i64 0,.pointer none,.pointer none,.pointer none,.pointer none,.slice (some ⟨B 6,0,none⟩) rooms.length rooms.length,.slice none 0 0,.slice (some ⟨B 8,0,none⟩) rooms.length rooms.length,.slice (some ⟨B 10,0,none⟩) rooms.length rooms.length,.slice (some ⟨B 12,0,none⟩) rooms.length rooms.length,.int .i64 0]) (by rfl) (fun w' _=>by kernel_rfl) ?_
  simp only [Act.put,List.setIfInBounds_toArray,List.set_cons_zero,List.set_cons_succ]
  refine wpFirst_nil ?_
  refine wpAnyH_one 14 (by kernel_rfl) rfl (fun K hK=>?_)
  refine step_val (v:=.pointer (some ⟨w5.heap.size,0,none⟩)) (w':=w5.alloc (.cells #[.int .i64 (inc:Int),.slice (some ⟨b1,o1,none⟩) rooms.length k1,.int .i64 (wi:Int),.int .i64 (ti:Int),.int .i64 (de:Int),.pointer none,.pointer none,.slice (some ⟨B 2,0,none⟩) rooms.length rooms.length,.slice (some ⟨B 4,0,none⟩) rooms.length rooms.length,.int .i64 0,.pointer none,.pointer none,.pointer none,.pointer none,.slice (some ⟨B 6,0,none⟩) rooms.length rooms.length,.slice none 0 0,.slice (some ⟨B 8,0,none⟩) rooms.length rooms.length,.slice (some ⟨B 10,0,none⟩) rooms.length rooms.length,.slice (some ⟨B 12,0,none⟩) rooms.length rooms.length,.int .i64 0] 132)) (by rfl) (by kernel_rfl) ?_
  simp only [Act.put,List.setIfInBounds_toArray,List.set_cons_zero,List.set_cons_succ]
  refine hK.out _ _ ((Below.heap_alloc _ _ _ (Nat.lt_of_lt_of_le hwl hb.size)).trans hS5) ?_
  clear hK K
  refine wpAnyH_one 15 (by kernel_rfl) rfl (fun K hK=>?_)
  go_simp
  refine hK.out _ _ ((Below.heap_alloc _ _ _ (Nat.lt_of_lt_of_le hwl hb.size)).trans hS5) ?_
  clear hK K
  refine wpAnyH_done (by kernel_rfl) ?_ _
  have hB:∀j ∈ [2,4,6,8,10,12],B j < w5.heap.size:=fun j hj=>by
   have:=(hall j hj).2
   exact this.free.2.1
  have hnd:([2,4,6,8,10,12].map B).Nodup:=by
   rw [List.Nodup,List.pairwise_map]
   exact (show ([2,4,6,8,10,12]:List Nat).Nodup by decide).imp_of_mem fun hi hj hne e=>hne (hinj _ hi _ hj e)
  have hstar:=star_of (w:=w5) (Z:=fun _=>False) [(B 2,tSq (eSq eBy 22) 37 (.slice (some ⟨B 2,0,none⟩) rooms.length rooms.length) (List.replicate rooms.length ([]:List Bytes))),(B 4,tSq (eSq eBy 22) 37 (.slice (some ⟨B 4,0,none⟩) rooms.length rooms.length) (List.replicate rooms.length ([]:List Bytes))),(B 6,tSq eNat 3 (.slice (some ⟨B 6,0,none⟩) rooms.length rooms.length) (List.replicate rooms.length 0)),(B 8,tSq eNat 3 (.slice (some ⟨B 8,0,none⟩) rooms.length rooms.length) (List.replicate rooms.length 0)),(B 10,tSq eNat 3 (.slice (some ⟨B 10,0,none⟩) rooms.length rooms.length) (List.replicate rooms.length 0)),(B 12,tSq eNat 3 (.slice (some ⟨B 12,0,none⟩) rooms.length rooms.length) (List.replicate rooms.length 0))] hnd (fun x hx=>by
   simp only [List.mem_cons,List.not_mem_nil,or_false] at hx
   rcases hx with rfl|rfl|rfl|rfl|rfl|rfl
   ·exact sq_zero rfl (fun w Z=>⟨_,rfl,Sq.nil _ _ _ _ _⟩) (hall 2 (by decide)).2 (hB 2 (by decide))
   ·exact sq_zero rfl (fun w Z=>⟨_,rfl,Sq.nil _ _ _ _ _⟩) (hall 4 (by decide)).2 (hB 4 (by decide))
   ·exact sq_zero rfl (fun _ _=>rfl) (hall 6 (by decide)).2 (hB 6 (by decide))
   ·exact sq_zero rfl (fun _ _=>rfl) (hall 8 (by decide)).2 (hB 8 (by decide))
   ·exact sq_zero rfl (fun _ _=>rfl) (hall 10 (by decide)).2 (hB 10 (by decide))
   ·exact sq_zero rfl (fun _ _=>rfl) (hall 12 (by decide)).2 (hB 12 (by decide)))
  have h5:=H4.out.drew.adds (rest:=[tSq (eSq eBy 22) 37 (.slice (some ⟨B 2,0,none⟩) rooms.length rooms.length) (List.replicate rooms.length ([]:List Bytes)),tSq (eSq eBy 22) 37 (.slice (some ⟨B 4,0,none⟩) rooms.length rooms.length) (List.replicate rooms.length ([]:List Bytes)),tSq eNat 3 (.slice (some ⟨B 6,0,none⟩) rooms.length rooms.length) (List.replicate rooms.length 0),tSq eNat 3 (.slice (some ⟨B 8,0,none⟩) rooms.length rooms.length) (List.replicate rooms.length 0),tSq eNat 3 (.slice (some ⟨B 10,0,none⟩) rooms.length rooms.length) (List.replicate rooms.length 0),tSq eNat 3 (.slice (some ⟨B 12,0,none⟩) rooms.length rooms.length) (List.replicate rooms.length 0)]) (Did.news (Z:=fun k=>k < w.heap.size/\False/\¬False) hb (hstar.mono (fun k hk=>by
   obtain ⟨x,hx,rfl⟩:=List.mem_map.1 hk
   simp only [List.mem_cons,List.not_mem_nil,or_false] at hx
   rcases hx with rfl|rfl|rfl|rfl|rfl|rfl
   ·exact (hall 2 (by decide)).1
   ·exact (hall 4 (by decide)).1
   ·exact (hall 6 (by decide)).1
   ·exact (hall 8 (by decide)).1
   ·exact (hall 10 (by decide)).1
   ·exact (hall 12 (by decide)).1) fun _ f=>f.elim) fun k h=>h.2.1.elim)
  have h6:=(h5.new (.cells #[.int .i64 (inc:Int),.slice (some ⟨b1,o1,none⟩) rooms.length k1,.int .i64 (wi:Int),.int .i64 (ti:Int),.int .i64 (de:Int),.pointer none,.pointer none,.slice (some ⟨B 2,0,none⟩) rooms.length rooms.length,.slice (some ⟨B 4,0,none⟩) rooms.length rooms.length,.int .i64 0,.pointer none,.pointer none,.pointer none,.pointer none,.slice (some ⟨B 6,0,none⟩) rooms.length rooms.length,.slice none 0 0,.slice (some ⟨B 8,0,none⟩) rooms.length rooms.length,.slice (some ⟨B 10,0,none⟩) rooms.length rooms.length,.slice (some ⟨B 12,0,none⟩) rooms.length rooms.length,.int .i64 0] 132)).front
  clear hstar hnd hall hinj hB h5
  generalize w5.alloc (.cells #[.int .i64 (inc:Int),.slice (some ⟨b1,o1,none⟩) rooms.length k1,.int .i64 (wi:Int),.int .i64 (ti:Int),.int .i64 (de:Int),.pointer none,.pointer none,.slice (some ⟨B 2,0,none⟩) rooms.length rooms.length,.slice (some ⟨B 4,0,none⟩) rooms.length rooms.length,.int .i64 0,.pointer none,.pointer none,.pointer none,.pointer none,.slice (some ⟨B 6,0,none⟩) rooms.length rooms.length,.slice none 0 0,.slice (some ⟨B 8,0,none⟩) rooms.length rooms.length,.slice (some ⟨B 10,0,none⟩) rooms.length rooms.length,.slice (some ⟨B 12,0,none⟩) rooms.length rooms.length,.int .i64 0] 132)=w6 at h6 ⊢
  generalize w5.heap.size=p at h6 ⊢
  have H6:=Lib.hid (show Held (fun _=>False) (fun _=>False) w [tBlk p (.cells #[.int .i64 (inc:Int),.slice (some ⟨b1,o1,none⟩) rooms.length k1,.int .i64 (wi:Int),.int .i64 (ti:Int),.int .i64 (de:Int),.pointer none,.pointer none,.slice (some ⟨B 2,0,none⟩) rooms.length rooms.length,.slice (some ⟨B 4,0,none⟩) rooms.length rooms.length,.int .i64 0,.pointer none,.pointer none,.pointer none,.pointer none,.slice (some ⟨B 6,0,none⟩) rooms.length rooms.length,.slice none 0 0,.slice (some ⟨B 8,0,none⟩) rooms.length rooms.length,.slice (some ⟨B 10,0,none⟩) rooms.length rooms.length,.slice (some ⟨B 12,0,none⟩) rooms.length rooms.length,.int .i64 0] 132),tBlk w.heap.size (.cells #[.int .i64 (inc:Int),.slice (some ⟨b1,o1,none⟩) rooms.length k1,.int .i64 (wi:Int),.int .i64 (ti:Int),.int .i64 (de:Int)] 30),tSq eNat 3 (.slice (some ⟨b1,o1,none⟩) rooms.length k1) rooms,tSq (eSq eBy 22) 37 (.slice (some ⟨B 2,0,none⟩) rooms.length rooms.length) (List.replicate rooms.length ([]:List Bytes)),tSq (eSq eBy 22) 37 (.slice (some ⟨B 4,0,none⟩) rooms.length rooms.length) (List.replicate rooms.length ([]:List Bytes)),tSq eNat 3 (.slice (some ⟨B 6,0,none⟩) rooms.length rooms.length) (List.replicate rooms.length 0),tSq eNat 3 (.slice (some ⟨B 8,0,none⟩) rooms.length rooms.length) (List.replicate rooms.length 0),tSq eNat 3 (.slice (some ⟨B 10,0,none⟩) rooms.length rooms.length) (List.replicate rooms.length 0),tSq eNat 3 (.slice (some ⟨B 12,0,none⟩) rooms.length rooms.length) (List.replicate rooms.length 0)] w6 from h6)
  clear h6 hb H4 HROW hwl hS5
  go_upto_region 6 with fail
  have hrow:=H6.out.blk 1 rfl
  have d0:=blk_cell (i:=0) hrow rfl
  have d4:=blk_cell (i:=4) hrow rfl
  clear hrow
  have hok:=HOK.out
  obtain ⟨_,_,_,i1,i2,_,_,_,_,e1,e2⟩:=hok
  go_wp2_with fail
  refine (newSide_any inc de w6 (by omega) (by omega) (by omega) (by omega)).mono ?_
  rintro e w7 ⟨rfl,hside,hb7⟩
  have H7:=Lib.hid (H6.out.add hb7 (T:=tSide w6.heap.size (newSide inc de)) ⟨Nat.le_refl _,hside⟩).front
  have hrow:=H7.out.blk 1 rfl
  have c5:=blk_cell (i:=5) hrow rfl
  have cf:=fun i=>blk_free hrow i
  generalize w6.heap.size=sq at H7 ⊢
  have h8:=H7.out.set 1 rfl (.cells #[.int .i64 (inc:Int),.slice (some ⟨b1,o1,none⟩) rooms.length k1,.int .i64 (wi:Int),.int .i64 (ti:Int),.int .i64 (de:Int),.pointer (some ⟨sq,0,none⟩),.pointer none,.slice (some ⟨B 2,0,none⟩) rooms.length rooms.length,.slice (some ⟨B 4,0,none⟩) rooms.length rooms.length,.int .i64 0,.pointer none,.pointer none,.pointer none,.pointer none,.slice (some ⟨B 6,0,none⟩) rooms.length rooms.length,.slice none 0 0,.slice (some ⟨B 8,0,none⟩) rooms.length rooms.length,.slice (some ⟨B 10,0,none⟩) rooms.length rooms.length,.slice (some ⟨B 12,0,none⟩) rooms.length rooms.length,.int .i64 0] 132) (w':=w7.setCell ⟨p,5,none⟩ (.pointer (some ⟨sq,0,none⟩))) (by (repeat (first|(with_reducible exact Fr.refl _ _)|exact Or.inl rfl|(with_reducible refine Fr.setCell ?_ ?_ _)|(with_reducible refine Fr.drewN ?_ _)|(with_reducible refine Fr.drew ?_)))) (by (apply row_trans;focus (repeat (first|(with_reducible exact hrow)|(with_reducible apply row_set)|(with_reducible apply row_drewN)|(with_reducible apply row_drew))));rfl)
  clear hrow hside hb7 H6 d0 d4 i1 i2 e1 e2
  go_upto_region 7 with fail
  generalize w7.setCell ⟨p,5,none⟩ (.pointer (some ⟨sq,0,none⟩))=w8 at h8 ⊢
  have H8:=Lib.hid (show Held (fun _=>False) (fun _=>False) w [tSide sq (newSide inc de),tBlk p (.cells #[.int .i64 (inc:Int),.slice (some ⟨b1,o1,none⟩) rooms.length k1,.int .i64 (wi:Int),.int .i64 (ti:Int),.int .i64 (de:Int),.pointer (some ⟨sq,0,none⟩),.pointer none,.slice (some ⟨B 2,0,none⟩) rooms.length rooms.length,.slice (some ⟨B 4,0,none⟩) rooms.length rooms.length,.int .i64 0,.pointer none,.pointer none,.pointer none,.pointer none,.slice (some ⟨B 6,0,none⟩) rooms.length rooms.length,.slice none 0 0,.slice (some ⟨B 8,0,none⟩) rooms.length rooms.length,.slice (some ⟨B 10,0,none⟩) rooms.length rooms.length,.slice (some ⟨B 12,0,none⟩) rooms.length rooms.length,.int .i64 0] 132),tBlk w.heap.size (.cells #[.int .i64 (inc:Int),.slice (some ⟨b1,o1,none⟩) rooms.length k1,.int .i64 (wi:Int),.int .i64 (ti:Int),.int .i64 (de:Int)] 30),tSq eNat 3 (.slice (some ⟨b1,o1,none⟩) rooms.length k1) rooms,tSq (eSq eBy 22) 37 (.slice (some ⟨B 2,0,none⟩) rooms.length rooms.length) (List.replicate rooms.length ([]:List Bytes)),tSq (eSq eBy 22) 37 (.slice (some ⟨B 4,0,none⟩) rooms.length rooms.length) (List.replicate rooms.length ([]:List Bytes)),tSq eNat 3 (.slice (some ⟨B 6,0,none⟩) rooms.length rooms.length) (List.replicate rooms.length 0),tSq eNat 3 (.slice (some ⟨B 8,0,none⟩) rooms.length rooms.length) (List.replicate rooms.length 0),tSq eNat 3 (.slice (some ⟨B 10,0,none⟩) rooms.length rooms.length) (List.replicate rooms.length 0),tSq eNat 3 (.slice (some ⟨B 12,0,none⟩) rooms.length rooms.length) (List.replicate rooms.length 0)] w8 from h8)
  clear h8 H7 c5 cf
  go_wp2_with fail
  refine (newArb_any rooms.length w8 n1 (by omega)).mono ?_
  rintro e w9 ⟨aq,rfl,hm⟩
  have H9:=Lib.hid (H8.out.made hm).front
  have hrow:=H9.out.blk 2 rfl
  have c6:=blk_cell (i:=6) hrow rfl
  have cf:=fun i=>blk_free hrow i
  have h10:=H9.out.set 2 rfl (portRowG ⟨inc,rooms,wi,ti,de,newSide inc de,newArb rooms.length,List.replicate rooms.length [],List.replicate rooms.length [],0,newSnd wi ti,0,[],[],List.replicate rooms.length 0,[],List.replicate rooms.length 0,List.replicate rooms.length 0,List.replicate rooms.length 0,0⟩ ⟨.slice (some ⟨b1,o1,none⟩) rooms.length k1,sq,aq,.slice (some ⟨B 2,0,none⟩) rooms.length rooms.length,.slice (some ⟨B 4,0,none⟩) rooms.length rooms.length,0,0,0,0,.slice (some ⟨B 6,0,none⟩) rooms.length rooms.length,.slice none 0 0,.slice (some ⟨B 8,0,none⟩) rooms.length rooms.length,.slice (some ⟨B 10,0,none⟩) rooms.length rooms.length,.slice (some ⟨B 12,0,none⟩) rooms.length rooms.length⟩ (.pointer none) (.pointer none) (.pointer none) (.pointer none)) (w':=w9.setCell ⟨p,6,none⟩ (.pointer (some ⟨aq,0,none⟩))) (by (repeat (first|(with_reducible exact Fr.refl _ _)|exact Or.inl rfl|(with_reducible refine Fr.setCell ?_ ?_ _)|(with_reducible refine Fr.drewN ?_ _)|(with_reducible refine Fr.drew ?_)))) (by (apply row_trans;focus (repeat (first|(with_reducible exact hrow)|(with_reducible apply row_set)|(with_reducible apply row_drewN)|(with_reducible apply row_drew))));rfl)
  clear hrow hm H8
  go_upto_region 8 with fail
  generalize w9.setCell ⟨p,6,none⟩ (.pointer (some ⟨aq,0,none⟩))=w10 at h10 ⊢
  have H10:=Lib.hid (h10.add (Below.refl _ _) (T:=tSq eKept 214 (.slice none 0 0) []) (Sq.nil _ _ _ _ _))
  clear h10 H9 c6 cf
  have H11:=Lib.hid (show Held (fun _=>False) (fun _=>False) w (begThs p ⟨inc,rooms,wi,ti,de,newSide inc de,newArb rooms.length,List.replicate rooms.length [],List.replicate rooms.length [],0,newSnd wi ti,0,[],[],List.replicate rooms.length 0,[],List.replicate rooms.length 0,List.replicate rooms.length 0,List.replicate rooms.length 0,0⟩ ⟨.slice (some ⟨b1,o1,none⟩) rooms.length k1,sq,aq,.slice (some ⟨B 2,0,none⟩) rooms.length rooms.length,.slice (some ⟨B 4,0,none⟩) rooms.length rooms.length,0,0,0,0,.slice (some ⟨B 6,0,none⟩) rooms.length rooms.length,.slice none 0 0,.slice (some ⟨B 8,0,none⟩) rooms.length rooms.length,.slice (some ⟨B 10,0,none⟩) rooms.length rooms.length,.slice (some ⟨B 12,0,none⟩) rooms.length rooms.length⟩ (.pointer none) (.pointer none) (.pointer none) (.pointer none)++[tSide sq (newSide inc de),tArb aq (newArb rooms.length),tSq eNat 3 (.slice (some ⟨B 8,0,none⟩) rooms.length rooms.length) (List.replicate rooms.length 0),tSq eNat 3 (.slice (some ⟨B 10,0,none⟩) rooms.length rooms.length) (List.replicate rooms.length 0),tSq eNat 3 (.slice (some ⟨B 12,0,none⟩) rooms.length rooms.length) (List.replicate rooms.length 0)]) w10 from
   H10.out.pick [2,4,5,6,7,11,1,0,8,9,10] _ (by decide) (by simp))
  go_wp2_with fail
  refine (begin_h (N:=0) ?_ (by omega) 0 H11.out).mono ?_
  ·have hok:=HOK.out
   exact ⟨n1,n4,fun x hx=>by have:=hok.rm _ (List.mem_map.2 ⟨x,hx,rfl⟩);omega,by have:=hok.w1;dsimp only;omega,by have:=hok.w2;dsimp only;omega,by have:=hok.t1;dsimp only;omega,by have:=hok.t2;dsimp only;omega,
    by simp,by simp,by simp,by simp,fun l hl=>by rw [(List.mem_replicate.1 hl).2];exact Nat.le_refl _,fun l hl=>by rw [(List.mem_replicate.1 hl).2];exact Nat.le_refl _⟩
  rintro e w12 ⟨rfl,snp,rcp,tkp,gvp,hh⟩
  have HH:=Lib.hid hh
  clear hh H11 H10
  go_wp2_with fail
  go_ret2
  refine ⟨p,rfl,Made.of ?_⟩
  exact Held.shut (f:=portThs p (newPrt inc rooms wi ti de)) (i:=⟨.slice (some ⟨b1,o1,none⟩) rooms.length k1,sq,aq,.slice (some ⟨B 2,0,none⟩) rooms.length rooms.length,.slice (some ⟨B 4,0,none⟩) rooms.length rooms.length,snp,rcp,tkp,gvp,.slice (some ⟨B 6,0,none⟩) rooms.length rooms.length,.slice none 0 0,.slice (some ⟨B 8,0,none⟩) rooms.length rooms.length,.slice (some ⟨B 10,0,none⟩) rooms.length rooms.length,.slice (some ⟨B 12,0,none⟩) rooms.length rooms.length⟩) (ts:=[]) (by
   rw [List.append_nil]
   exact HH.out.pick [0,1,10,11,2,3,6,7,8,9,4,5,12,13,14] _ (by decide) rfl)
end


section
open Go.RowKit
section
variable {F Z:BS} {W w:World} {ts:List Th} {p N:Nat} {a:Prt}
theorem nat_at {w:World} {F Z:BS} {T:TypeId} {a:Option Addr} {n c:Nat} {l:List Nat} (h:Sq eNat T w F Z (.slice a n c) l) {i:Nat} {x:Nat} (hi:l[i]? = some x):∃b off,a=some ⟨b,off,none⟩/\w.cell? ⟨b,off+i,none⟩=some (.int .i64 (x:Int)):=by
 obtain ⟨b,off,cs,A,e,_,hr,_,hc⟩:=h.at (by decide) hi
 have h1:cs=[.int .i64 (x:Int)]:=hr
 subst h1
 refine ⟨b,off,e,?_⟩
 have:=hc 0 _ rfl
 rw [show off+i*eNat.size+0=off+i by show off+i*1+0=_;omega] at this
 exact this
theorem rooms_nums {T:TypeId} {w:World} {F Z:BS} {b off n cap:Nat} {l:List Nat} (h:Sq eNat T w F Z (.slice (some ⟨b,off,none⟩) n cap) l):∀(k x:Nat),l[k]? = some x->w.cell? ⟨b,off+k,none⟩=some (.int .i64 (x:Int)):=fun k x hk=>by
 obtain ⟨b',off',e,hc⟩:=nat_at h hk
 obtain ⟨rfl,rfl⟩:b=b'/\off=off':=by simpa using e
 exact hc
theorem Prt.Ok.cfg (h:a.Ok N) {c:Int} (h1:(a.inc:Int) < c) (h2:c<=1099511627775):CfgOk c (a.rooms.map fun (x:Nat)=>(x:Int)) a.window a.timeout a.dead:=by
 have i1:=h.i1;have w1:=h.w1;have w2:=h.w2;have t1:=h.t1;have t2:=h.t2;have d1:=h.d1;have d2:=h.d2
 refine ⟨by rw [List.length_map];exact h.n1,by rw [List.length_map];exact h.n4,fun x hx=>?_,by omega,h2,by omega,by omega,by omega,by omega,by omega,by omega⟩
 obtain ⟨y,hy,rfl⟩:=List.mem_map.1 hx
 have:=h.rm y hy
 omega
set_option maxRecDepth 100000 in
set_option maxHeartbeats 8000000 in
theorem restart_yes (h : Held F Z W ts w) (i : Nat) (hi : ts[i]? = some (tPort p a)) (hok : a.Ok N) (c : Nat) (h1 : a.inc < c) (h2 : c ≤ 1099511627775) :
    Calls Tryz.prog 119 #[.pointer (some ⟨p, 0, none⟩), .int .i64 (c : Int)] w fun e w' => e = .returned (.int .i64 0) ∧ Held F Z W (ts.set i (tPort p (newPrt c a.rooms a.window a.timeout a.dead))) w' := by
  have HCF := Lib.hid (hok.cfg (c := (c : Int)) (by omega) (by omega))
  obtain ⟨G, Y, hon, hd, _, _, hback⟩ := h.use i hi
  suffices hs : Calls Tryz.prog 119 #[.pointer (some ⟨p, 0, none⟩), .int .i64 (c : Int)] w fun e w' => e = .returned (.int .i64 0) ∧ Held G Y w [tPort p (newPrt c a.rooms a.window a.timeout a.dead)] w' by
    refine hs.mono fun e w' ⟨he, hh⟩ => ⟨he, ?_⟩
    have := hback w' _ [] hh.did
    rwa [List.append_nil] at this
  clear hback h
  obtain ⟨x, hst⟩ := Held.port hon hd
  obtain ⟨rv, sp, ap, wv, bv, snp, rcp, tkp, gvp, bsv, kv, acv, rev, tav⟩ := x
  have n1 := hok.n1
  obtain ⟨_, _, hr⟩ := hst.get 1 rfl
  obtain ⟨rb, ro, rc, rfl, m1, m1'⟩ := sq_some (show Sq eNat 3 w _ _ rv a.rooms from hr) n1
  have hrow := hst.blk 0 rfl
  obtain ⟨c0, c1, c2, c3, c4, _⟩ := port_cells hrow
  dsimp only at c0 c1 c2 c3 c4
  have HN := Lib.hid (rooms_nums (show Sq eNat 3 w _ _ (.slice (some ⟨rb, ro, none⟩) a.rooms.length rc) a.rooms from hr))
  have HST := Lib.hid (hst.new (.cells #[.int .i64 (c : Int), .slice (some ⟨rb, ro, none⟩) a.rooms.length rc, .int .i64 (a.window : Int), .int .i64 (a.timeout : Int), .int .i64 (a.dead : Int)] 30))
  clear hst hrow hr hon hd hi hok
  go_enter Tryz.func119, Tryz.ntmps119
  go_wp2_with fail
  refine (pnew_any (inc := c) (rooms := a.rooms) (wi := a.window) (ti := a.timeout) (de := a.dead) (rb := rb) (ro := ro) (rc := rc) _ HCF.out m1 m1' (fun k x hk => ?_)).mono ?_
  · have := HN.out k x hk
    exact (World.cell?_of_block ((below_alloc w _).block rb (World.block_lt_of_cell? w _ this))).trans this
  rintro e w2 ⟨fp, rfl, hm⟩
  obtain ⟨q, hq⟩ : ∃ q, q = newPrt c a.rooms a.window a.timeout a.dead := ⟨_, rfl⟩
  have HQ := Lib.hid hq
  rw [← hq] at hm
  clear hq
  obtain ⟨y, h2⟩ := ((HST.out.made hm).pick [16, 0] [tPort fp q, tBlk p (portRow a ⟨.slice (some ⟨rb, ro, none⟩) a.rooms.length rc, sp, ap, wv, bv, snp, rcp, tkp, gvp, bsv, kv, acv, rev, tav⟩)] (by decide) rfl).port'
  obtain ⟨rv', sp', ap', wv', bv', snp', rcp', tkp', gvp', bsv', kv', acv', rev', tav'⟩ := y
  obtain ⟨_, _, g1⟩ := h2.get 1 rfl
  obtain ⟨_, _, g2⟩ := h2.get 4 rfl
  obtain ⟨_, _, g3⟩ := h2.get 5 rfl
  obtain ⟨_, _, g4⟩ := h2.get 10 rfl
  obtain ⟨_, _, g5⟩ := h2.get 11 rfl
  obtain ⟨_, _, g6⟩ := h2.get 12 rfl
  obtain ⟨_, _, g7⟩ := h2.get 13 rfl
  obtain ⟨_, _, g8⟩ := h2.get 14 rfl
  obtain ⟨u1, k1, e1⟩ := Sq.shape (show Sq eNat 3 _ _ _ rv' q.rooms from g1)
  obtain ⟨u2, k2, e2⟩ := Sq.shape (show Sq (eSq eBy 22) 37 _ _ _ wv' q.waiting from g2)
  obtain ⟨u3, k3, e3⟩ := Sq.shape (show Sq (eSq eBy 22) 37 _ _ _ bv' q.buffer from g3)
  obtain ⟨u4, k4, e4⟩ := Sq.shape (show Sq eNat 3 _ _ _ bsv' q.base from g4)
  obtain ⟨u5, k5, e5⟩ := Sq.shape (show Sq eKept 214 _ _ _ kv' q.kept from g5)
  obtain ⟨u6, k6, e6⟩ := Sq.shape (show Sq eNat 3 _ _ _ acv' q.acked from g6)
  obtain ⟨u7, k7, e7⟩ := Sq.shape (show Sq eNat 3 _ _ _ rev' q.received from g7)
  obtain ⟨u8, k8, e8⟩ := Sq.shape (show Sq eNat 3 _ _ _ tav' q.taken from g8)
  have HC1 := Lib.hid (show #[Value.int .i64 (q.inc : Int), rv', .int .i64 (q.window : Int), .int .i64 (q.timeout : Int), .int .i64 (q.dead : Int), .pointer (some ⟨sp', 0, none⟩), .pointer (some ⟨ap', 0, none⟩), wv', bv', .int .i64 (q.peer : Int),
        .pointer (some ⟨snp', 0, none⟩), .pointer (some ⟨rcp', 0, none⟩), .pointer (some ⟨tkp', 0, none⟩), .pointer (some ⟨gvp', 0, none⟩), bsv', kv', acv', rev', tav', .int .i64 (q.overflows : Int)].all (·.oneCell') = true by
    rw [e1, e2, e3, e4, e5, e6, e7, e8]; simp [Value.oneCell'])
  clear g1 g2 g3 g4 g5 g6 g7 g8 e1 e2 e3 e4 e5 e6 e7 e8
  have hrow := h2.blk 0 rfl
  have hrow2 := h2.blk 15 rfl
  have H2 := Lib.hid h2
  have HF := Lib.hid hrow
  have HR := Lib.hid hrow2
  clear HST HN HCF hm h2 hrow hrow2 c0 c1 c2 c3 c4
  go_wp2_with (first
    | (refine wpList_load_row rfl 132 _ rfl fp (by rfl) 132 _ (0, 0) _ HF.out Tryz.underlying132 rfl (by kernel_rfl) ?_)
    | (refine wpList_store_rowTo rfl 132 _ _ rfl rfl p #[.int .i64 (q.inc : Int), rv', .int .i64 (q.window : Int), .int .i64 (q.timeout : Int), .int .i64 (q.dead : Int), .pointer (some ⟨sp', 0, none⟩), .pointer (some ⟨ap', 0, none⟩), wv', bv', .int .i64 (q.peer : Int),
        .pointer (some ⟨snp', 0, none⟩), .pointer (some ⟨rcp', 0, none⟩), .pointer (some ⟨tkp', 0, none⟩), .pointer (some ⟨gvp', 0, none⟩), bsv', kv', acv', rev', tav', .int .i64 (q.overflows : Int)] (by rfl) (by rfl) 132 _ HR.out (by kernel_rfl) (by rfl) HC1.out ?_))
  go_ret
  refine ⟨rfl, ?_⟩
  have hfr : Fr (fun k => k = p) w2 (w2.setRow p #[.int .i64 (q.inc : Int), rv', .int .i64 (q.window : Int), .int .i64 (q.timeout : Int), .int .i64 (q.dead : Int), .pointer (some ⟨sp', 0, none⟩), .pointer (some ⟨ap', 0, none⟩), wv', bv', .int .i64 (q.peer : Int),
        .pointer (some ⟨snp', 0, none⟩), .pointer (some ⟨rcp', 0, none⟩), .pointer (some ⟨tkp', 0, none⟩), .pointer (some ⟨gvp', 0, none⟩), bsv', kv', acv', rev', tav', .int .i64 (q.overflows : Int)]) := ⟨rfl, rfl, rfl, by simp, fun k _ hk => setRow_other w2 p k _ hk⟩
  have h3 := H2.out.set 15 rfl (portRow q ⟨rv', sp', ap', wv', bv', snp', rcp', tkp', gvp', bsv', kv', acv', rev', tav'⟩) hfr (setRow_heap w2 p _ _ _ _ HR.out)
  rw [← HQ.out]
  exact Held.shut (f := portThs p q) (ts := []) (h3.pick [15, 1, 2, 3, 4, 5, 6, 7, 8, 9, 10, 11, 12, 13, 14] (portThs p q ⟨rv', sp', ap', wv', bv', snp', rcp', tkp', gvp', bsv', kv', acv', rev', tav'⟩) (by decide) rfl)
end
end

end Go.Proofs.YtckdblgobmofgaaGreatDoor
