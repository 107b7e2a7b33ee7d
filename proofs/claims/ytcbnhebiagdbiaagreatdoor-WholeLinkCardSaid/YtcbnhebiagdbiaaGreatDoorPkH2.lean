/- Lemmas of this proof (texts LnkV). -/
import Derived.Test.YtcbnhebiagdbiaaGreatDoorPkH1
namespace Go.Proofs.YtcbnhebiagdbiaaGreatDoor
set_option maxHeartbeats 64000000
set_option maxRecDepth 100000
section
open Go.RowKit
abbrev cJ:List Value:=[.pointer none,.pointer none,.pointer none,.int .i64 0,.slice none 0 0,.slice none 0 0,.slice none 0 0]
abbrev cfgRow (c:Cfg) (a:Option Addr) (k:Nat):Obj:=.cells #[.int .i64 (c.inc:Int),.slice a c.aZ.length k,.int .i64 (c.w:Int),.int .i64 (c.t:Int),.int .i64 (c.d:Int)] 24
theorem run_idxC0 (a:Int) (_:Int) (aa:Option Addr) (n k:Nat) (c d e f:Int) (ba:Option Addr) (m l:Nat) (g h i:Int) (w:World):(Instr.index 117 (.agg #[.int .i64 a,.slice aa n k,.int .i64 c,.int .i64 d,.int .i64 e,.int .i64 f,.slice ba m l,.int .i64 g,.int .i64 h,.int .i64 i]) (.int .i64 0)).run Tryz.prog w=.ok (.agg #[.int .i64 a,.slice aa n k,.int .i64 c,.int .i64 d,.int .i64 e]) w:=rfl
theorem run_idxC1 (a:Int) (_:Int) (aa:Option Addr) (n k:Nat) (c d e f:Int) (ba:Option Addr) (m l:Nat) (g h i:Int) (w:World):(Instr.index 117 (.agg #[.int .i64 a,.slice aa n k,.int .i64 c,.int .i64 d,.int .i64 e,.int .i64 f,.slice ba m l,.int .i64 g,.int .i64 h,.int .i64 i]) (.int .i64 1)).run Tryz.prog w=.ok (.agg #[.int .i64 f,.slice ba m l,.int .i64 g,.int .i64 h,.int .i64 i]) w:=rfl
theorem rd_nums {w:World} {Z:BS} {a:Option Addr} {n c:Nat} {l:List Nat} (h:RdS dK w Z (.slice a n c) l) (h0:0 < l.length):∃b o,a=some ⟨b,o,none⟩/\l.length<=c/\c<=maxLen/\∀(k x:Nat),l[k]? = some x->w.cell? ⟨b,o+k,none⟩=some (.int .i64 (x:Int)):=by
 obtain ⟨b,off,cs,e,_,hr,hc⟩:=h.at (by decide) (List.getElem?_eq_getElem h0)
 obtain ⟨a',c',e',m1,m2⟩:=h.shape
 obtain ⟨rfl,rfl,rfl⟩:a=a'/\n=l.length/\c=c':=by simpa using e'
 refine ⟨b,off,e,m1,m2,fun k x hk=>?_⟩
 obtain ⟨b2,off2,cs2,e2,_,hr2,hc2⟩:=h.at (by decide) hk
 rw [e] at e2
 obtain ⟨rfl,rfl⟩:b=b2/\off=off2:=by simpa using e2
 have h1:cs2=[.int .i64 (x:Int)]:=hr2
 subst h1
 have:=hc2 0 _ rfl
 rwa [show off+k*dK.size+0=off+k by show off+k*1+0=_;omega] at this
theorem Cfg.Ok.cfg {c:Cfg} (h:c.Ok):CfgOk c.inc (c.aZ.map fun (x:Nat)=>(x:Int)) c.w c.t c.d:=by
 have i1:=h.i1;have i2:=h.i2;have w1:=h.w1;have w2:=h.w2;have t1:=h.t1;have t2:=h.t2;have d1:=h.d1;have d2:=h.d2
 refine ⟨by rw [List.length_map];exact h.n1,by rw [List.length_map];exact h.n4,fun x hx=>?_,by omega,by omega,by omega,by omega,by omega,by omega,by omega,by omega⟩
 obtain ⟨y,hy,rfl⟩:=List.mem_map.1 hx
 have:=h.rm y hy
 omega
abbrev cPrt (c:Cfg):Prt:=dG c.inc c.aZ c.w c.t c.d
abbrev bH (c:Cfg) (v:EV):List Value:=[.pointer (some ⟨v.pp,0,none⟩),.pointer (some ⟨v.sp,0,none⟩),.pointer none,.int .i64 (c.inc:Int),v.ov,v.tv,v.nv]
abbrev bA (c:Cfg) (v:EV):List Th:=[bP v.pp (cPrt c),tSc v.sp Sc.new,tBBy v.ov (List.replicate c.aZ.length []),tBBy v.tv (List.replicate c.aZ.length []),tSq dK 3 v.nv (List.replicate c.aZ.length 0)]
def endNew (n:Nat) (j b:Nat) (w:World):Prop:=
 (j=3/\w.heap[b]? = some (.cells #[.bool false,.slice none 0 0,.int .i64 0] 188))\/(j=11/\Sl w (fun k=>k=b) 3 1 (.slice (some ⟨b,0,none⟩) n n) n (List.replicate n (.int .i64 0)))\/(j≠3/\j≠11/\Sl w (fun k=>k=b) 40 1 (.slice (some ⟨b,0,none⟩) n n) n (List.replicate n (.slice none 0 0)))
theorem endNew_stay (n j b:Nat) (w w':World) (h:endNew n j b w) (hb:b < w.heap.size) (hw:Below w.heap.size w w'):endNew n j b w':=by
 rcases h with ⟨e,h⟩|⟨e,h⟩|⟨e1,e2,h⟩
 ·exact .inl ⟨e,(hw.block b hb).trans h⟩
 ·exact .inr (.inl ⟨e,h.keep fun k _ hl=>hw.block k hl⟩)
 ·exact .inr (.inr ⟨e1,e2,h.keep fun k _ hl=>hw.block k hl⟩)
def endVal (n j b:Nat):Value:=if j=3 then .pointer (some ⟨b,0,none⟩) else .slice (some ⟨b,0,none⟩) n n
theorem endNew_star {n:Nat} {B:Nat->Nat} {w0 w:World} {Z:BS} (hall:∀j ∈ [3,7,9,11],w0.heap.size<=B j/\B j < w.heap.size/\endNew n j (B j) w) (hinj:∀i ∈ [3,7,9,11],∀j ∈ [3,7,9,11],B i=B j->i=j) :
  Star [tSc (B 3) Sc.new,tBBy (.slice (some ⟨B 7,0,none⟩) n n) (List.replicate n []),tBBy (.slice (some ⟨B 9,0,none⟩) n n) (List.replicate n []),tSq dK 3 (.slice (some ⟨B 11,0,none⟩) n n) (List.replicate n 0)] w (fun k=>w0.heap.size<=k) Z:=by
 have hnd:([3,7,9,11].map B).Nodup:=by
  rw [List.Nodup,List.pairwise_map]
  exact (show ([3,7,9,11]:List Nat).Nodup by decide).imp_of_mem fun hi hj hne e=>hne (hinj _ hi _ hj e)
 have hstar:=star_of (w:=w) (Z:=fun _=>False) [(B 3,tSc (B 3) Sc.new),(B 7,tBBy (.slice (some ⟨B 7,0,none⟩) n n) (List.replicate n [])),(B 9,tBBy (.slice (some ⟨B 9,0,none⟩) n n) (List.replicate n [])),(B 11,tSq dK 3 (.slice (some ⟨B 11,0,none⟩) n n) (List.replicate n 0))] hnd (fun x hx=>by
  simp only [List.mem_cons,List.not_mem_nil,or_false] at hx
  rcases hx with rfl|rfl|rfl|rfl
  ·obtain ⟨_,h2,⟨_,h3⟩|⟨e,_⟩|⟨e,_⟩⟩:=hall 3 (by decide)
   ·exact ⟨rfl,fun _=>False,none,[],0,fun _ f=>f.elim,h3,Sl.nil _ _ _ _,(fun h=>by cases h),(fun _=>rfl),(fun h=>by cases h)⟩
   ·cases e
   ·exact absurd rfl e
  ·obtain ⟨_,h2,⟨e,_⟩|⟨e,_⟩|⟨_,_,h3⟩⟩:=hall 7 (by decide)
   ·cases e
   ·cases e
   ·exact sq_zero rfl (fun w Z=>⟨_,rfl,Sq.nil _ _ _ _ _⟩) h3 h2
  ·obtain ⟨_,h2,⟨e,_⟩|⟨e,_⟩|⟨_,_,h3⟩⟩:=hall 9 (by decide)
   ·cases e
   ·cases e
   ·exact sq_zero rfl (fun w Z=>⟨_,rfl,Sq.nil _ _ _ _ _⟩) h3 h2
  ·obtain ⟨_,h2,⟨e,_⟩|⟨_,h3⟩|⟨_,e,_⟩⟩:=hall 11 (by decide)
   ·cases e
   ·exact sq_zero rfl (fun _ _=>rfl) h3 h2
   ·exact absurd rfl e)
 exact hstar.mono (fun k hk=>by
  obtain ⟨x,hx,rfl⟩:=List.mem_map.1 hk
  simp only [List.mem_cons,List.not_mem_nil,or_false] at hx
  rcases hx with rfl|rfl|rfl|rfl
  ·exact (hall 3 (by decide)).1
  ·exact (hall 7 (by decide)).1
  ·exact (hall 9 (by decide)).1
  ·exact (hall 11 (by decide)).1) fun _ f=>f.elim
theorem run_idxF0 (ua:Option Addr) (n uc:Nat) (va:Option Addr) (m vc:Nat) (w:World):(Instr.index 121 (.agg #[.slice ua n uc,.slice va m vc]) (.int .i64 0)).run Tryz.prog w=.ok (.slice ua n uc) w:=rfl
theorem run_idxF1 (ua:Option Addr) (n uc:Nat) (va:Option Addr) (m vc:Nat) (w:World):(Instr.index 121 (.agg #[.slice ua n uc,.slice va m vc]) (.int .i64 1)).run Tryz.prog w=.ok (.slice va m vc) w:=rfl
theorem swap_new {F Z:BS} {W w:World} {us ts ns vs:List Th} (h:dY F Z W (us++ts++ns) w) (js:List Nat) (hn:js.Nodup) (he:js.map (fun j=>(us++ns)[j]?)=vs.map some):dY F Z W (vs++ts) w:=by
 have h1:dY F Z W ((us++ns)++ts) w:=by
  refine h.pick ((List.range us.length)++((List.range ns.length).map (· + (us.length+ts.length)))++((List.range ts.length).map (· + us.length))) _ ?_ ?_
  ·rw [List.nodup_append,List.nodup_append]
   refine ⟨⟨List.nodup_range,List.Pairwise.map _ (fun a b h e=>h (by omega)) List.nodup_range,fun a ha b hb e=>?_⟩,List.Pairwise.map _ (fun a b h e=>h (by omega)) List.nodup_range,fun a ha b hb e=>?_⟩
   ·obtain ⟨c,_,rfl⟩:=List.mem_map.1 hb
    have:=List.mem_range.1 ha;omega
   ·obtain ⟨c,hc,rfl⟩:=List.mem_map.1 hb
    have hc:=List.mem_range.1 hc
    rcases List.mem_append.1 ha with ha|ha
    ·have:=List.mem_range.1 ha;omega
    ·obtain ⟨d,_,rfl⟩:=List.mem_map.1 ha;omega
  ·rw [List.map_append,List.map_append,List.map_append,List.map_append,List.map_map,List.map_map]
   congr 1
   ·congr 1
    ·refine List.ext_getElem? fun k=>?_
     rw [List.getElem?_map,List.getElem?_map]
     rcases Nat.lt_or_ge k us.length with hk|hk
     ·rw [List.getElem?_range hk,List.getElem?_eq_getElem hk]
      show some ((us++ts++ns)[k]?)=some (some us[k])
      rw [List.append_assoc,List.getElem?_append_left hk,List.getElem?_eq_getElem hk]
     ·rw [List.getElem?_eq_none (by rw [List.length_range];exact hk),List.getElem?_eq_none hk];rfl
    ·refine List.ext_getElem? fun k=>?_
     rw [List.getElem?_map,List.getElem?_map]
     rcases Nat.lt_or_ge k ns.length with hk|hk
     ·rw [List.getElem?_range hk,List.getElem?_eq_getElem hk]
      show some ((us++ts++ns)[k+(us.length+ts.length)]?)=some (some ns[k])
      rw [List.getElem?_append_right (by rw [List.length_append];omega),List.length_append,Nat.add_sub_cancel,List.getElem?_eq_getElem hk]
     ·rw [List.getElem?_eq_none (by rw [List.length_range];exact hk),List.getElem?_eq_none hk];rfl
   ·refine List.ext_getElem? fun k=>?_
    rw [List.getElem?_map,List.getElem?_map]
    rcases Nat.lt_or_ge k ts.length with hk|hk
    ·rw [List.getElem?_range hk,List.getElem?_eq_getElem hk]
     show some ((us++ts++ns)[k+us.length]?)=some (some ts[k])
     rw [List.append_assoc,List.getElem?_append_right (by omega),Nat.add_sub_cancel,List.getElem?_append_left hk,List.getElem?_eq_getElem hk]
    ·rw [List.getElem?_eq_none (by rw [List.length_range];exact hk),List.getElem?_eq_none hk];rfl
 exact h1.pickL js hn he
section
variable {Z:BS} {W w:World} {ts:List Th}
def NewP (Z:BS) (W:World) (ts:List Th) (ca cb:Cfg) (dl:Int) (there back:List Flt) (e:Ending) (w':World):Prop:=
 (¬(1<=dl/\dl<=8)/\e=.returned (.tuple #[.pointer none,.int .i64 2])/\dY (fun _=>False) Z W ts w') \/
 ((1<=dl/\dl<=8)/\¬(okF (-1) there=true/\okF (-1) back=true)/\e=.returned (.tuple #[.pointer none,.int .i64 1])/\dY (fun _=>False) Z W ts w') \/
 ((1<=dl/\dl<=8)/\okF (-1) there=true/\okF (-1) back=true/\∃p,e=.returned (.tuple #[.pointer (some ⟨p,0,none⟩),.int .i64 0])/\dY (fun _=>False) Z W (bI p (newLk ca cb dl.toNat there back)::ts) w')
theorem newL_any (ca cb:Cfg) (oka:ca.Ok) (okb:cb.Ok) (dl:Int) (there back:List Flt) (l1:there.length<=1000) (l2:back.length<=1000)
  (aa ba:Option Addr) (ak bk:Nat) (tv bv:Value) (j1 j2 j3 j4:Nat) (h1:ts[j1]? = some (tRd dK (.slice aa ca.aZ.length ak) ca.aZ)) (h2:ts[j2]? = some (tRd dK (.slice ba cb.aZ.length bk) cb.aZ)) (h3:ts[j3]? = some (tRd eFlt tv there)) (h4:ts[j4]? = some (tRd eFlt bv back)) (h:dY (fun _=>False) Z W ts w) :
  Calls Tryz.prog 10 #[cfgV ca.inc aa ca.aZ.length ak ca.w ca.t ca.d,cfgV cb.inc ba cb.aZ.length bk cb.w cb.t cb.d,.int .i64 dl,tv,bv] w (NewP Z W ts ca cb dl there back):=by
 obtain ⟨_,_,ra⟩:=h.get j1 h1
 obtain ⟨ab,ao,rfl,_⟩:=rd_nums (show RdS dK w _ (.slice aa ca.aZ.length ak) ca.aZ from ra) oka.n1
 obtain ⟨_,_,rb⟩:=h.get j2 h2
 obtain ⟨bb,bo,rfl,_⟩:=rd_nums (show RdS dK w _ (.slice ba cb.aZ.length bk) cb.aZ from rb) okb.n1
 obtain ⟨_,_,rt⟩:=h.get j3 h3
 obtain ⟨ta,tk,rfl,_,_⟩:=RdS.shape (show RdS eFlt w _ tv there from rt)
 obtain ⟨_,_,rk⟩:=h.get j4 h4
 obtain ⟨ka,kk,rfl,_,_⟩:=RdS.shape (show RdS eFlt w _ bv back from rk)
 have HH:=aQ h
 have na:=oka.n4
 have nb:=okb.n4
 have HOA:=aQ oka
 have HOB:=aQ okb
 have HJ1:=aQ h1
 have HJ2:=aQ h2
 have HJ3:=aQ h3
 have HJ4:=aQ h4
 clear h ra rb rt rk oka okb h1 h2 h3 h4
 go_enter Tryz.func10,Tryz.ntmps10
 go_wp2_with fail
 obtain ⟨p,hp⟩:∃p,p=w.heap.size+1+1:=⟨_,rfl⟩
 have H1:=aQ (show dY (fun _=>False) Z W (dJ p (bG (cJ++cJ).toArray)::ts) _ from by
  have:=((HH.out.alloc (cfgRow ca (some ⟨ab,ao,none⟩) ak)).alloc (cfgRow cb (some ⟨bb,bo,none⟩) bk)).new (bG (cJ++cJ).toArray)
  rw [World.size_alloc,World.size_alloc,<-hp] at this
  exact this.front)
 rw [<-hp]
 clear hp HH
 go_loopw [27] (fun i wr=>
   (i=.int .i64 0/\Hid (dY (fun _=>False) Z W (dJ p (bG (cJ++cJ).toArray)::ts) wr)) \/
   (i=.int .i64 1/\∃v,Hid (dY (fun _=>False) Z W (dJ p (bG (bH ca v++cJ).toArray)::(bA ca v++ts)) wr)) \/
   (i=.int .i64 2/\∃v u,Hid (dY (fun _=>False) Z W (dJ p (bG (bH ca v++bH cb u).toArray)::(bA ca v++(bA cb u++ts))) wr)))
  (fun i _=>2 - (intOf i).toNat)
 case atStart=>exact .inl ⟨rfl,H1⟩
 case round=>
 clear H1
 rcases hrel with ⟨rfl,HK⟩|⟨rfl,v,HK⟩|⟨rfl,v,u,HK⟩
 ·have hix0:=run_idxC0 ca.inc 0 (some ⟨ab,ao,none⟩) ca.aZ.length ak ca.w ca.t ca.d cb.inc (some ⟨bb,bo,none⟩) cb.aZ.length bk cb.w cb.t cb.d
  go_wp2_with fail
  obtain ⟨_,_,hrd⟩:=HK.out.get (j1+1) HJ1.out
  obtain ⟨b',o',e',m1,m2,hnum⟩:=rd_nums (show RdS dK wr _ (.slice (some ⟨ab,ao,none⟩) ca.aZ.length ak) ca.aZ from hrd) HOA.out.n1
  obtain ⟨rfl,rfl⟩:ab=b'/\ao=o':=by simpa using e'
  have hba:=aK wr (cfgRow ca (some ⟨ab,ao,none⟩) ak)
  refine (pnew_any (inc:=ca.inc) (aZ:=ca.aZ) (wi:=ca.w) (ti:=ca.t) (de:=ca.d) (rb:=ab) (ro:=ao) (rc:=ak) _ HOA.out.cfg m1 m2 (fun k x hk=>(World.cell?_of_block (hba.block ab (World.block_lt_of_cell? wr _ (hnum k x hk)))).trans (hnum k x hk))).mono ?_
  rintro e w2 ⟨pp,rfl,hm⟩
  have hbox:w2.heap[wr.heap.size]? = some (cfgRow ca (some ⟨ab,ao,none⟩) ak):=(hm.1.block _ (by simp)).trans (heap_alloc_new wr _)
  have H2:=aQ ((HK.out.own hba).made hm).front
  have HBX:=aQ hbox
  have x0:=aJ (i:=0) hbox rfl
  have x1:=aJ (i:=1) hbox rfl
  have hpx:¬p=wr.heap.size:=fun e=>by have:=lt_of_block (HK.out.blk 0 rfl);omega
  clear hm hba hnum hrd HK hbox
  go_upto_region 9 with (fail)
  clear x0 x1
  have hn4:ca.aZ.length<=4:=na
  refine wp_region_held_drew (S:=fun w'=>w'.heap[wr.heap.size]? = some (cfgRow ca (some ⟨ab,ao,none⟩) ak)) (by kernel_rfl) HBX.out (fun hS0=>?_)
  change wpAnyH _ _ _ _ _ (14+3) _ _ _
  refine aH 0 3 (by kernel_rfl) hS0 (fun _ _ _ _ _ h=>h) ?_
  simp only [List.drop_zero,List.take_succ_cons,List.take_zero]
  iterate 3 (refine aR (v:=?_) (by rfl) ?_ ?_;rotate_left 1;(focus ((intro w' hS';go_simp);try with_reducible rfl));simp only [Act.put,jQ1,jQ2,jQ3])
  refine aT ?_
  change wpAnyH _ _ _ _ _ (11+3) _ _ _
  refine aH 4 3 (by kernel_rfl) hS0 (fun _ _ _ _ _ h=>h) ?_
  simp only [List.drop_succ_cons,List.drop_zero,List.take_succ_cons,List.take_zero]
  (refine aR (v:=?_) (by rfl) ?_ ?_;rotate_left 1;(focus ((intro w' hS';go_simp);try with_reducible rfl));simp only [Act.put,jQ1,jQ2,jQ3])
  (refine aR (v:=?_) (by rfl) ?_ ?_;rotate_left 1;(focus ((intro w' hS';have l0:=aJ (i:=0) hS' rfl;clear hS';go_simp);try with_reducible rfl));simp only [Act.put,jQ1,jQ2,jQ3])
  (refine aR (v:=?_) (by rfl) ?_ ?_;rotate_left 1;(focus ((intro w' hS';go_simp);try with_reducible rfl));simp only [Act.put,jQ1,jQ2,jQ3])
  refine aT ?_
  change wpAnyH _ _ _ _ _ (10+1) _ _ _
  refine aH 8 1 (by kernel_rfl) hS0 (fun _ _ _ _ _ h=>h) ?_
  simp only [List.drop_succ_cons,List.drop_zero,List.take_succ_cons,List.take_zero]
  (refine aR (v:=?_) (by rfl) ?_ ?_;rotate_left 1;(focus ((intro w' hS';go_simp);try with_reducible rfl));simp only [Act.put,jQ1,jQ2,jQ3])
  refine aT ?_
  change wpAnyH _ _ _ _ _ (9+1) _ _ _
  refine aH 10 1 (by kernel_rfl) hS0 (fun _ _ _ _ _ h=>h) ?_
  simp only [List.drop_succ_cons,List.drop_zero,List.take_succ_cons,List.take_zero]
  (refine aR (v:=?_) (by rfl) ?_ ?_;rotate_left 1;(focus ((intro w' hS';go_simp);try with_reducible rfl));simp only [Act.put,jQ1,jQ2,jQ3])
  refine aT ?_
  change wpAnyH _ _ _ _ _ (7+2) _ _ _
  refine aH 13 2 (by kernel_rfl) hS0 (fun _ _ _ _ _ h=>h) ?_
  simp only [List.drop_succ_cons,List.drop_zero,List.take_succ_cons,List.take_zero]
  iterate 2 (refine aR (v:=?_) (by rfl) ?_ ?_;rotate_left 1;(focus ((intro w' hS';go_simp);try with_reducible rfl));simp only [Act.put,jQ1,jQ2,jQ3])
  refine aT ?_
  change wpAnyH _ _ _ _ _ (3+4) _ _ _
  refine wpAnyH_fresh (fun j=>j+42) (fun i j h=>by omega) (endVal ca.aZ.length) (endNew ca.aZ.length) (endNew_stay _) 3 4 [3,7,9,11] _ _ _ rfl (by decide) (by kernel_rfl) (fun w' hb=>(hb.block _ (lt_of_block hS0)).trans hS0) (fun j hj=>?_) (fun B w5 hb hall hinj=>?_)
  ·simp only [List.mem_cons,List.not_mem_nil,or_false] at hj
   rcases hj with rfl|rfl|rfl|rfl
   ·refine ⟨{ dst:=some 45,op:=Op.call { callee:=Callee.value (Operand.func 44),args := #[],argTypes := #[] },type := 110,pos := "link.go:58",after := #[],guard:=none },[],rfl,rfl,(fun x hx=>by cases hx),fun a' w1 K E _ hK=>?_⟩
    (refine step_call (f := 44) (args := #[]) (by rfl) ?_ ?_;(focus (go_simp;first|done|(with_reducible rfl)|rfl)))
    refine (newF_any w1).mono ?_
    rintro e' w2' ⟨rfl,rfl⟩
    exact ⟨_,rfl,hK w1.heap.size _ (aK w1 _) (Nat.le_refl _) (by simp) (.inl ⟨rfl,heap_alloc_new w1 _⟩)⟩
   ·exact fsh_make (n:=ca.aZ.length) (by unfold maxLen;omega) rfl rfl rfl rfl (by decide) rfl slBBB rfl (by omega) (fun b=>rfl) fun b w' h=>.inr (.inr ⟨by decide,by decide,h⟩)
   ·exact fsh_make (n:=ca.aZ.length) (by unfold maxLen;omega) rfl rfl rfl rfl (by decide) rfl slBBB rfl (by omega) (fun b=>rfl) fun b w' h=>.inr (.inr ⟨by decide,by decide,h⟩)
   ·exact fsh_make (n:=ca.aZ.length) (by unfold maxLen;omega) rfl rfl rfl rfl (by decide) rfl slNat rfl (by omega) (fun b=>rfl) fun b w' h=>.inr (.inl ⟨rfl,h⟩)
  simp only [List.foldl_cons,List.foldl_nil,Act.put,jQ1,Nat.reduceAdd,jQ2,jQ3]
  have hS5:=(hb.block _ (lt_of_block hS0)).trans hS0
  have hrow:w5.heap[p]? = some (bG (cJ++cJ).toArray):=(hb.block _ (lt_of_block (H2.out.blk 1 rfl))).trans (H2.out.drew.blk 1 rfl)
  have hf:=fun i=>aD hrow i
  have q0:=aJ (i:=0) hrow rfl
  have q1:=aJ (i:=1) hrow rfl
  have q2:=aJ (i:=2) hrow rfl
  have q3:=aJ (i:=3) hrow rfl
  have q4:=aJ (i:=4) hrow rfl
  have q5:=aJ (i:=5) hrow rfl
  have q6:=aJ (i:=6) hrow rfl
  have h5:=H2.out.drew.adds (rest:=[tSc (B 3) Sc.new,tBBy (.slice (some ⟨B 7,0,none⟩) ca.aZ.length ca.aZ.length) (List.replicate ca.aZ.length []),tBBy (.slice (some ⟨B 9,0,none⟩) ca.aZ.length ca.aZ.length) (List.replicate ca.aZ.length []),tSq dK 3 (.slice (some ⟨B 11,0,none⟩) ca.aZ.length ca.aZ.length) (List.replicate ca.aZ.length 0)])
   (Did.news (Z:=fun k=>k < W.heap.size/\Z k/\¬False) hb (endNew_star hall hinj) fun k h=>Nat.lt_of_lt_of_le h.1 H2.out.drew.below.size)
  change wpAnyH _ _ _ _ _ (2+1) _ _ _
  refine aH 12 1 (by kernel_rfl) hS5 (fun _ _ _ _ _ h=>h) ?_
  simp only [List.drop_succ_cons,List.drop_zero,List.take_succ_cons,List.take_zero]
  refine aR (v:=.agg #[.pointer (some ⟨pp,0,none⟩),.pointer (some ⟨B 3,0,none⟩),.pointer none,.int .i64 (ca.inc:Int),.slice (some ⟨B 7,0,none⟩) ca.aZ.length ca.aZ.length,.slice (some ⟨B 9,0,none⟩) ca.aZ.length ca.aZ.length,.slice (some ⟨B 11,0,none⟩) ca.aZ.length ca.aZ.length]) (by rfl) (fun w' _=>by kernel_rfl) ?_
  simp only [Act.put,jQ1,jQ2,jQ3]
  refine aT ?_
  refine aM 15 (by kernel_rfl) rfl (fun K hK=>?_)
  go_simp
  refine hK.out _ _ hS5 ?_
  clear hK K
  refine aM 16 (by kernel_rfl) rfl (fun K hK=>?_)
  go_simp
  obtain ⟨w6,hw6⟩:∃w6,w6=(((((((w5.setCell ⟨p,0,none⟩ (.pointer (some ⟨pp,0,none⟩))).setCell ⟨p,1,none⟩ (.pointer (some ⟨B 3,0,none⟩))).setCell ⟨p,2,none⟩ (.pointer none)).setCell ⟨p,3,none⟩ (.int .i64 (ca.inc:Int))).setCell ⟨p,4,none⟩ (.slice (some ⟨B 7,0,none⟩) ca.aZ.length ca.aZ.length)).setCell ⟨p,5,none⟩ (.slice (some ⟨B 9,0,none⟩) ca.aZ.length ca.aZ.length)).setCell ⟨p,6,none⟩ (.slice (some ⟨B 11,0,none⟩) ca.aZ.length ca.aZ.length)):=⟨_,rfl⟩
  have hrow6:w6.heap[p]? = some (bG (bH ca ⟨pp,B 3,0,.slice (some ⟨B 7,0,none⟩) ca.aZ.length ca.aZ.length,.slice (some ⟨B 9,0,none⟩) ca.aZ.length ca.aZ.length,.slice (some ⟨B 11,0,none⟩) ca.aZ.length ca.aZ.length⟩++cJ).toArray):=by rw [hw6];(apply aS;focus (with_reducible (repeat (first|exact hrow|apply aU|apply aP|apply aF))));rfl
  have hfr6:Fr (fun k=>k=p) w5 w6:=by rw [hw6];(repeat (first|(with_reducible (first|exact Fr.refl _ _|refine Fr.setCell ?_ ?_ _|refine Fr.drewN ?_ _|refine Fr.drew ?_))|exact Or.inl rfl))
  have h6:=h5.set 1 rfl (bG (bH ca ⟨pp,B 3,0,.slice (some ⟨B 7,0,none⟩) ca.aZ.length ca.aZ.length,.slice (some ⟨B 9,0,none⟩) ca.aZ.length ca.aZ.length,.slice (some ⟨B 11,0,none⟩) ca.aZ.length ca.aZ.length⟩++cJ).toArray) hfr6 hrow6
  have H7:=aQ (show dY (fun _=>False) Z W (dJ p (bG (bH ca ⟨pp,B 3,0,.slice (some ⟨B 7,0,none⟩) ca.aZ.length ca.aZ.length,.slice (some ⟨B 9,0,none⟩) ca.aZ.length ca.aZ.length,.slice (some ⟨B 11,0,none⟩) ca.aZ.length ca.aZ.length⟩++cJ).toArray)::(bA ca ⟨pp,B 3,0,.slice (some ⟨B 7,0,none⟩) ca.aZ.length ca.aZ.length,.slice (some ⟨B 9,0,none⟩) ca.aZ.length ca.aZ.length,.slice (some ⟨B 11,0,none⟩) ca.aZ.length ca.aZ.length⟩++ts)) w6 from swap_new (us:=[bP pp (cPrt ca),dJ p (bG (bH ca ⟨pp,B 3,0,.slice (some ⟨B 7,0,none⟩) ca.aZ.length ca.aZ.length,.slice (some ⟨B 9,0,none⟩) ca.aZ.length ca.aZ.length,.slice (some ⟨B 11,0,none⟩) ca.aZ.length ca.aZ.length⟩++cJ).toArray)]) (ns:=[tSc (B 3) Sc.new,tBBy (.slice (some ⟨B 7,0,none⟩) ca.aZ.length ca.aZ.length) (List.replicate ca.aZ.length []),tBBy (.slice (some ⟨B 9,0,none⟩) ca.aZ.length ca.aZ.length) (List.replicate ca.aZ.length []),tSq dK 3 (.slice (some ⟨B 11,0,none⟩) ca.aZ.length ca.aZ.length) (List.replicate ca.aZ.length 0)]) h6 (vs:=dJ p (bG (bH ca ⟨pp,B 3,0,.slice (some ⟨B 7,0,none⟩) ca.aZ.length ca.aZ.length,.slice (some ⟨B 9,0,none⟩) ca.aZ.length ca.aZ.length,.slice (some ⟨B 11,0,none⟩) ca.aZ.length ca.aZ.length⟩++cJ).toArray)::bA ca ⟨pp,B 3,0,.slice (some ⟨B 7,0,none⟩) ca.aZ.length ca.aZ.length,.slice (some ⟨B 9,0,none⟩) ca.aZ.length ca.aZ.length,.slice (some ⟨B 11,0,none⟩) ca.aZ.length ca.aZ.length⟩) [1,0,2,3,4,5] (by decide) rfl)
  have hS6:w6.heap[wr.heap.size]? = some (cfgRow ca (some ⟨ab,ao,none⟩) ak):=(hfr6.block _ (lt_of_block hS5) (fun e=>hpx e.symm)).trans hS5
  rw [<-hw6]
  clear hw6 hrow hrow6 hfr6 h5 h6 hf q0 q1 q2 q3 q4 q5 q6 hall hinj hb hS5 H2 HBX
  refine hK.out _ _ hS6 ?_
  clear hK K
  refine wpAnyH_done (by kernel_rfl) ?_ _
  go_wp2_with fail
  go_roundw
  case rel=>exact .inr (.inl ⟨rfl,_,H7⟩)
  case measure=>simp [intOf]
 ·have hix1:=run_idxC1 ca.inc 0 (some ⟨ab,ao,none⟩) ca.aZ.length ak ca.w ca.t ca.d cb.inc (some ⟨bb,bo,none⟩) cb.aZ.length bk cb.w cb.t cb.d
  go_wp2_with fail
  obtain ⟨_,_,hrd⟩:=HK.out.get (j2+6) HJ2.out
  obtain ⟨b',o',e',m1,m2,hnum⟩:=rd_nums (show RdS dK wr _ (.slice (some ⟨bb,bo,none⟩) cb.aZ.length bk) cb.aZ from hrd) HOB.out.n1
  obtain ⟨rfl,rfl⟩:bb=b'/\bo=o':=by simpa using e'
  have hba:=aK wr (cfgRow cb (some ⟨bb,bo,none⟩) bk)
  refine (pnew_any (inc:=cb.inc) (aZ:=cb.aZ) (wi:=cb.w) (ti:=cb.t) (de:=cb.d) (rb:=bb) (ro:=bo) (rc:=bk) _ HOB.out.cfg m1 m2 (fun k x hk=>(World.cell?_of_block (hba.block bb (World.block_lt_of_cell? wr _ (hnum k x hk)))).trans (hnum k x hk))).mono ?_
  rintro e w2 ⟨pp,rfl,hm⟩
  have hbox:w2.heap[wr.heap.size]? = some (cfgRow cb (some ⟨bb,bo,none⟩) bk):=(hm.1.block _ (by simp)).trans (heap_alloc_new wr _)
  have H2:=aQ ((HK.out.own hba).made hm).front
  have HBX:=aQ hbox
  have x0:=aJ (i:=0) hbox rfl
  have x1:=aJ (i:=1) hbox rfl
  have hpx:¬p=wr.heap.size:=fun e=>by have:=lt_of_block (HK.out.blk 0 rfl);omega
  clear hm hba hnum hrd HK hbox
  go_upto_region 9 with (fail)
  clear x0 x1
  have hn4:cb.aZ.length<=4:=nb
  refine wp_region_held_drew (S:=fun w'=>w'.heap[wr.heap.size]? = some (cfgRow cb (some ⟨bb,bo,none⟩) bk)) (by kernel_rfl) HBX.out (fun hS0=>?_)
  change wpAnyH _ _ _ _ _ (14+3) _ _ _
  refine aH 0 3 (by kernel_rfl) hS0 (fun _ _ _ _ _ h=>h) ?_
  simp only [List.drop_zero,List.take_succ_cons,List.take_zero]
  iterate 3 (refine aR (v:=?_) (by rfl) ?_ ?_;rotate_left 1;(focus ((intro w' hS';go_simp);try with_reducible rfl));simp only [Act.put,jQ1,jQ2,jQ3])
  refine aT ?_
  change wpAnyH _ _ _ _ _ (11+3) _ _ _
  refine aH 4 3 (by kernel_rfl) hS0 (fun _ _ _ _ _ h=>h) ?_
  simp only [List.drop_succ_cons,List.drop_zero,List.take_succ_cons,List.take_zero]
  (refine aR (v:=?_) (by rfl) ?_ ?_;rotate_left 1;(focus ((intro w' hS';go_simp);try with_reducible rfl));simp only [Act.put,jQ1,jQ2,jQ3])
  (refine aR (v:=?_) (by rfl) ?_ ?_;rotate_left 1;(focus ((intro w' hS';have l0:=aJ (i:=0) hS' rfl;clear hS';go_simp);try with_reducible rfl));simp only [Act.put,jQ1,jQ2,jQ3])
  (refine aR (v:=?_) (by rfl) ?_ ?_;rotate_left 1;(focus ((intro w' hS';go_simp);try with_reducible rfl));simp only [Act.put,jQ1,jQ2,jQ3])
  refine aT ?_
  change wpAnyH _ _ _ _ _ (10+1) _ _ _
  refine aH 8 1 (by kernel_rfl) hS0 (fun _ _ _ _ _ h=>h) ?_
  simp only [List.drop_succ_cons,List.drop_zero,List.take_succ_cons,List.take_zero]
  (refine aR (v:=?_) (by rfl) ?_ ?_;rotate_left 1;(focus ((intro w' hS';go_simp);try with_reducible rfl));simp only [Act.put,jQ1,jQ2,jQ3])
  refine aT ?_
  change wpAnyH _ _ _ _ _ (9+1) _ _ _
  refine aH 10 1 (by kernel_rfl) hS0 (fun _ _ _ _ _ h=>h) ?_
  simp only [List.drop_succ_cons,List.drop_zero,List.take_succ_cons,List.take_zero]
  (refine aR (v:=?_) (by rfl) ?_ ?_;rotate_left 1;(focus ((intro w' hS';go_simp);try with_reducible rfl));simp only [Act.put,jQ1,jQ2,jQ3])
  refine aT ?_
  change wpAnyH _ _ _ _ _ (7+2) _ _ _
  refine aH 13 2 (by kernel_rfl) hS0 (fun _ _ _ _ _ h=>h) ?_
  simp only [List.drop_succ_cons,List.drop_zero,List.take_succ_cons,List.take_zero]
  iterate 2 (refine aR (v:=?_) (by rfl) ?_ ?_;rotate_left 1;(focus ((intro w' hS';go_simp);try with_reducible rfl));simp only [Act.put,jQ1,jQ2,jQ3])
  refine aT ?_
  change wpAnyH _ _ _ _ _ (3+4) _ _ _
  refine wpAnyH_fresh (fun j=>j+42) (fun i j h=>by omega) (endVal cb.aZ.length) (endNew cb.aZ.length) (endNew_stay _) 3 4 [3,7,9,11] _ _ _ rfl (by decide) (by kernel_rfl) (fun w' hb=>(hb.block _ (lt_of_block hS0)).trans hS0) (fun j hj=>?_) (fun B w5 hb hall hinj=>?_)
  ·simp only [List.mem_cons,List.not_mem_nil,or_false] at hj
   rcases hj with rfl|rfl|rfl|rfl
   ·refine ⟨{ dst:=some 45,op:=Op.call { callee:=Callee.value (Operand.func 44),args := #[],argTypes := #[] },type := 110,pos := "link.go:58",after := #[],guard:=none },[],rfl,rfl,(fun x hx=>by cases hx),fun a' w1 K E _ hK=>?_⟩
    (refine step_call (f := 44) (args := #[]) (by rfl) ?_ ?_;(focus (go_simp;first|done|(with_reducible rfl)|rfl)))
    refine (newF_any w1).mono ?_
    rintro e' w2' ⟨rfl,rfl⟩
    exact ⟨_,rfl,hK w1.heap.size _ (aK w1 _) (Nat.le_refl _) (by simp) (.inl ⟨rfl,heap_alloc_new w1 _⟩)⟩
   ·exact fsh_make (n:=cb.aZ.length) (by unfold maxLen;omega) rfl rfl rfl rfl (by decide) rfl slBBB rfl (by omega) (fun b=>rfl) fun b w' h=>.inr (.inr ⟨by decide,by decide,h⟩)
   ·exact fsh_make (n:=cb.aZ.length) (by unfold maxLen;omega) rfl rfl rfl rfl (by decide) rfl slBBB rfl (by omega) (fun b=>rfl) fun b w' h=>.inr (.inr ⟨by decide,by decide,h⟩)
   ·exact fsh_make (n:=cb.aZ.length) (by unfold maxLen;omega) rfl rfl rfl rfl (by decide) rfl slNat rfl (by omega) (fun b=>rfl) fun b w' h=>.inr (.inl ⟨rfl,h⟩)
  simp only [List.foldl_cons,List.foldl_nil,Act.put,jQ1,Nat.reduceAdd,jQ2,jQ3]
  have hS5:=(hb.block _ (lt_of_block hS0)).trans hS0
  have hrow:w5.heap[p]? = some (bG (bH ca v++cJ).toArray):=(hb.block _ (lt_of_block (H2.out.blk 1 rfl))).trans (H2.out.drew.blk 1 rfl)
  have hf:=fun i=>aD hrow i
  have q0:=aJ (i:=7) hrow rfl
  have q1:=aJ (i:=8) hrow rfl
  have q2:=aJ (i:=9) hrow rfl
  have q3:=aJ (i:=10) hrow rfl
  have q4:=aJ (i:=11) hrow rfl
  have q5:=aJ (i:=12) hrow rfl
  have q6:=aJ (i:=13) hrow rfl
  have h5:=H2.out.drew.adds (rest:=[tSc (B 3) Sc.new,tBBy (.slice (some ⟨B 7,0,none⟩) cb.aZ.length cb.aZ.length) (List.replicate cb.aZ.length []),tBBy (.slice (some ⟨B 9,0,none⟩) cb.aZ.length cb.aZ.length) (List.replicate cb.aZ.length []),tSq dK 3 (.slice (some ⟨B 11,0,none⟩) cb.aZ.length cb.aZ.length) (List.replicate cb.aZ.length 0)])
   (Did.news (Z:=fun k=>k < W.heap.size/\Z k/\¬False) hb (endNew_star hall hinj) fun k h=>Nat.lt_of_lt_of_le h.1 H2.out.drew.below.size)
  change wpAnyH _ _ _ _ _ (2+1) _ _ _
  refine aH 12 1 (by kernel_rfl) hS5 (fun _ _ _ _ _ h=>h) ?_
  simp only [List.drop_succ_cons,List.drop_zero,List.take_succ_cons,List.take_zero]
  refine aR (v:=.agg #[.pointer (some ⟨pp,0,none⟩),.pointer (some ⟨B 3,0,none⟩),.pointer none,.int .i64 (cb.inc:Int),.slice (some ⟨B 7,0,none⟩) cb.aZ.length cb.aZ.length,.slice (some ⟨B 9,0,none⟩) cb.aZ.length cb.aZ.length,.slice (some ⟨B 11,0,none⟩) cb.aZ.length cb.aZ.length]) (by rfl) (fun w' _=>by kernel_rfl) ?_
  simp only [Act.put,jQ1,jQ2,jQ3]
  refine aT ?_
  refine aM 15 (by kernel_rfl) rfl (fun K hK=>?_)
  go_simp
  refine hK.out _ _ hS5 ?_
  clear hK K
  refine aM 16 (by kernel_rfl) rfl (fun K hK=>?_)
  go_simp
  obtain ⟨w6,hw6⟩:∃w6,w6=(((((((w5.setCell ⟨p,7,none⟩ (.pointer (some ⟨pp,0,none⟩))).setCell ⟨p,8,none⟩ (.pointer (some ⟨B 3,0,none⟩))).setCell ⟨p,9,none⟩ (.pointer none)).setCell ⟨p,10,none⟩ (.int .i64 (cb.inc:Int))).setCell ⟨p,11,none⟩ (.slice (some ⟨B 7,0,none⟩) cb.aZ.length cb.aZ.length)).setCell ⟨p,12,none⟩ (.slice (some ⟨B 9,0,none⟩) cb.aZ.length cb.aZ.length)).setCell ⟨p,13,none⟩ (.slice (some ⟨B 11,0,none⟩) cb.aZ.length cb.aZ.length)):=⟨_,rfl⟩
  have hrow6:w6.heap[p]? = some (bG (bH ca v++bH cb ⟨pp,B 3,0,.slice (some ⟨B 7,0,none⟩) cb.aZ.length cb.aZ.length,.slice (some ⟨B 9,0,none⟩) cb.aZ.length cb.aZ.length,.slice (some ⟨B 11,0,none⟩) cb.aZ.length cb.aZ.length⟩).toArray):=by rw [hw6];(apply aS;focus (with_reducible (repeat (first|exact hrow|apply aU|apply aP|apply aF))));rfl
  have hfr6:Fr (fun k=>k=p) w5 w6:=by rw [hw6];(repeat (first|(with_reducible (first|exact Fr.refl _ _|refine Fr.setCell ?_ ?_ _|refine Fr.drewN ?_ _|refine Fr.drew ?_))|exact Or.inl rfl))
  have h6:=h5.set 1 rfl (bG (bH ca v++bH cb ⟨pp,B 3,0,.slice (some ⟨B 7,0,none⟩) cb.aZ.length cb.aZ.length,.slice (some ⟨B 9,0,none⟩) cb.aZ.length cb.aZ.length,.slice (some ⟨B 11,0,none⟩) cb.aZ.length cb.aZ.length⟩).toArray) hfr6 hrow6
  have H7:=aQ (show dY (fun _=>False) Z W (dJ p (bG (bH ca v++bH cb ⟨pp,B 3,0,.slice (some ⟨B 7,0,none⟩) cb.aZ.length cb.aZ.length,.slice (some ⟨B 9,0,none⟩) cb.aZ.length cb.aZ.length,.slice (some ⟨B 11,0,none⟩) cb.aZ.length cb.aZ.length⟩).toArray)::(bA ca v++(bA cb ⟨pp,B 3,0,.slice (some ⟨B 7,0,none⟩) cb.aZ.length cb.aZ.length,.slice (some ⟨B 9,0,none⟩) cb.aZ.length cb.aZ.length,.slice (some ⟨B 11,0,none⟩) cb.aZ.length cb.aZ.length⟩++ts))) w6 from by rw [<-List.append_assoc];exact swap_new (us:=bP pp (cPrt cb)::dJ p (bG (bH ca v++bH cb ⟨pp,B 3,0,.slice (some ⟨B 7,0,none⟩) cb.aZ.length cb.aZ.length,.slice (some ⟨B 9,0,none⟩) cb.aZ.length cb.aZ.length,.slice (some ⟨B 11,0,none⟩) cb.aZ.length cb.aZ.length⟩).toArray)::bA ca v) (ns:=[tSc (B 3) Sc.new,tBBy (.slice (some ⟨B 7,0,none⟩) cb.aZ.length cb.aZ.length) (List.replicate cb.aZ.length []),tBBy (.slice (some ⟨B 9,0,none⟩) cb.aZ.length cb.aZ.length) (List.replicate cb.aZ.length []),tSq dK 3 (.slice (some ⟨B 11,0,none⟩) cb.aZ.length cb.aZ.length) (List.replicate cb.aZ.length 0)]) h6 (vs:=dJ p (bG (bH ca v++bH cb ⟨pp,B 3,0,.slice (some ⟨B 7,0,none⟩) cb.aZ.length cb.aZ.length,.slice (some ⟨B 9,0,none⟩) cb.aZ.length cb.aZ.length,.slice (some ⟨B 11,0,none⟩) cb.aZ.length cb.aZ.length⟩).toArray)::(bA ca v++bA cb ⟨pp,B 3,0,.slice (some ⟨B 7,0,none⟩) cb.aZ.length cb.aZ.length,.slice (some ⟨B 9,0,none⟩) cb.aZ.length cb.aZ.length,.slice (some ⟨B 11,0,none⟩) cb.aZ.length cb.aZ.length⟩)) [1,2,3,4,5,6,0,7,8,9,10] (by decide) rfl)
  have hS6:w6.heap[wr.heap.size]? = some (cfgRow cb (some ⟨bb,bo,none⟩) bk):=(hfr6.block _ (lt_of_block hS5) (fun e=>hpx e.symm)).trans hS5
  rw [<-hw6]
  clear hw6 hrow hrow6 hfr6 h5 h6 hf q0 q1 q2 q3 q4 q5 q6 hall hinj hb hS5 H2 HBX
  refine hK.out _ _ hS6 ?_
  clear hK K
  refine wpAnyH_done (by kernel_rfl) ?_ _
  go_wp2_with fail
  go_roundw
  case rel=>exact .inr (.inr ⟨rfl,v,_,H7⟩)
  case measure=>simp [intOf]
 ·by_cases hdl:¬(1<=dl/\dl<=8)
  ·have hq:dl < 1\/(1<=dl/\8 < dl):=by omega
   rcases hq with q1|⟨q1,q2⟩
   all_goals
    go_wp2_with fail
    go_ret2
    exact .inl ⟨hdl,rfl,dY.pickL (us:=dJ p (bG (bH ca v++bH cb u).toArray)::(bA ca v++bA cb u)) (vs:=[]) (by exact HK.out) [] (by decide) rfl⟩
  obtain ⟨cB,rfl⟩:∃n:Nat,dl=(n:Int):=⟨dl.toNat,by omega⟩
  have d1:1<=cB:=by omega
  have d2:cB<=8:=by omega
  have dd1:decide ((cB:Int) < 1)=false:=by simp;omega
  have dd2:decide (8 < (cB:Int))=false:=by simp;omega
  clear hdl
  go_wp2_with fail
  go_loopw [68] (fun i wr=>
    (i=.int .i64 0/\Hid (dY (fun _=>False) Z W (dJ p (bG (bH ca v++bH cb u).toArray)::(bA ca v++(bA cb u++ts))) wr)) \/
    (i=.int .i64 1/\Hid (okF (-1) back=true)/\∃c0:Nat,Hid (dY (fun _=>False) Z W (tCab c0 (Cab.new cB back)::dJ p (bG ((bH ca v).set 2 (.pointer (some ⟨c0,0,none⟩))++bH cb u).toArray)::(bA ca v++(bA cb u++ts))) wr)) \/
    (i=.int .i64 2/\Hid (okF (-1) back=true/\okF (-1) there=true)/\∃c0 c1:Nat,Hid (dY (fun _=>False) Z W (tCab c1 (Cab.new cB there)::tCab c0 (Cab.new cB back)::dJ p (bG ((bH ca v).set 2 (.pointer (some ⟨c0,0,none⟩))++(bH cb u).set 2 (.pointer (some ⟨c1,0,none⟩))).toArray)::(bA ca v++(bA cb u++ts))) wr)))
   (fun i _=>2 - (intOf i).toNat)
  case atStart=>exact .inl ⟨rfl,HK⟩
  case round=>
  clear HK
  rcases hrel with ⟨rfl,HK⟩|⟨rfl,HG,c0,HK⟩|⟨rfl,HG,c0,c1,HK⟩
  ·have hix:=run_idxF0 ka back.length kk ta there.length tk wr
   obtain ⟨_,_,hrd⟩:=HK.out.get (j4+11) HJ4.out
   have HR:=aQ (show RdS eFlt wr _ (.slice ka back.length kk) back from hrd)
   clear hrd
   go_wp2_with fail
   refine (c_new_any wr _ _ back HR.out (by omega) cB d1 (by omega)).mono ?_
   rintro e w2 (⟨hbad,rfl,hb⟩|⟨hgood,c0,rfl,hm⟩)
   ·have HX:=aQ (HK.out.own hb)
    have HBD:=aQ hbad
    clear HK HR hb hbad
    go_wp2_with fail
    go_ret2
    exact .inr (.inl ⟨⟨by omega,by omega⟩,fun h=>(by have:=HBD.out;rw [h.2] at this;cases this),rfl,dY.pickL (us:=dJ p (bG (bH ca v++bH cb u).toArray)::(bA ca v++bA cb u)) (vs:=[]) (by exact HX.out) [] (by decide) rfl⟩)
   have HG0:=aQ hgood
   clear hgood
   have h2:=(HK.out.made hm).front
   have hrow:=h2.blk 1 rfl
   have hf:=fun i=>aD hrow i
   have q2:=aJ (i:=2) hrow rfl
   have H3:=aQ (show dY (fun _=>False) Z W (tCab c0 (Cab.new cB back)::dJ p (bG ((bH ca v).set 2 (.pointer (some ⟨c0,0,none⟩))++bH cb u).toArray)::(bA ca v++(bA cb u++ts))) (w2.setCell ⟨p,2,none⟩ (.pointer (some ⟨c0,0,none⟩))) from h2.set 1 rfl _ (by (repeat (first|(with_reducible (first|exact Fr.refl _ _|refine Fr.setCell ?_ ?_ _|refine Fr.drewN ?_ _|refine Fr.drew ?_))|exact Or.inl rfl))) (by (apply aS;focus (with_reducible (repeat (first|exact hrow|apply aU|apply aP|apply aF))));rfl))
   clear h2 hm hrow HR
   go_wp2_with fail
   go_roundw
   case rel=>exact .inr (.inl ⟨rfl,HG0,c0,H3⟩)
   case measure=>simp [intOf]
  ·have hix:=run_idxF1 ka back.length kk ta there.length tk wr
   obtain ⟨_,_,hrd⟩:=HK.out.get (j3+12) HJ3.out
   have HR:=aQ (show RdS eFlt wr _ (.slice ta there.length tk) there from hrd)
   clear hrd
   go_wp2_with fail
   refine (c_new_any wr _ _ there HR.out (by omega) cB d1 (by omega)).mono ?_
   rintro e w2 (⟨hbad,rfl,hb⟩|⟨hgood,c1,rfl,hm⟩)
   ·have HX:=aQ (HK.out.own hb)
    have HBD:=aQ hbad
    clear HK HR hb hbad
    go_wp2_with fail
    go_ret2
    exact .inr (.inl ⟨⟨by omega,by omega⟩,fun h=>(by have:=HBD.out;rw [h.1] at this;cases this),rfl,dY.pickL (us:=tCab c0 (Cab.new cB back)::dJ p (bG ((bH ca v).set 2 (.pointer (some ⟨c0,0,none⟩))++bH cb u).toArray)::(bA ca v++bA cb u)) (vs:=[]) (by exact HX.out) [] (by decide) rfl⟩)
   have HG1:=aQ (And.intro HG.out hgood)
   clear hgood
   have h2:=(HK.out.made hm).front
   have hrow:=h2.blk 2 rfl
   have hf:=fun i=>aD hrow i
   have q2:=aJ (i:=9) hrow rfl
   have H3:=aQ (show dY (fun _=>False) Z W (tCab c1 (Cab.new cB there)::tCab c0 (Cab.new cB back)::dJ p (bG ((bH ca v).set 2 (.pointer (some ⟨c0,0,none⟩))++(bH cb u).set 2 (.pointer (some ⟨c1,0,none⟩))).toArray)::(bA ca v++(bA cb u++ts))) (w2.setCell ⟨p,9,none⟩ (.pointer (some ⟨c1,0,none⟩))) from h2.set 2 rfl _ (by (repeat (first|(with_reducible (first|exact Fr.refl _ _|refine Fr.setCell ?_ ?_ _|refine Fr.drewN ?_ _|refine Fr.drew ?_))|exact Or.inl rfl))) (by (apply aS;focus (with_reducible (repeat (first|exact hrow|apply aU|apply aP|apply aF))));rfl))
   clear h2 hm hrow HR
   go_wp2_with fail
   go_roundw
   case rel=>exact .inr (.inr ⟨rfl,HG1,c0,c1,H3⟩)
   case measure=>simp [intOf]
  ·go_wp2_with fail
   go_ret2
   refine .inr (.inr ⟨⟨by omega,by omega⟩,HG.out.2,HG.out.1,p,rfl,?_⟩)
   have h3:=HK.out.pickL (us:=tCab c1 (Cab.new cB there)::tCab c0 (Cab.new cB back)::dJ p (bG ((bH ca v).set 2 (.pointer (some ⟨c0,0,none⟩))++(bH cb u).set 2 (.pointer (some ⟨c1,0,none⟩))).toArray)::(bA ca v++bA cb u)) (vs:=dJ p (bG ((bH ca v).set 2 (.pointer (some ⟨c0,0,none⟩))++(bH cb u).set 2 (.pointer (some ⟨c1,0,none⟩))).toArray)::(bY (newLk ca cb cB there back).l { v with cp:=c0 }++bY (newLk ca cb cB there back).r { u with cp:=c1 })) [2,3,4,1,5,6,7,8,9,0,10,11,12] (by decide) rfl
   refine dY.bE (cs:=((bH ca v).set 2 (.pointer (some ⟨c0,0,none⟩))++(bH cb u).set 2 (.pointer (some ⟨c1,0,none⟩))).toArray) (v:={ v with cp:=c0 }) (u:={ u with cp:=c1 }) ?_ ?_ rfl (by rw [<-List.append_assoc];exact h3)
   ·intro j x hj
    match j,hj with
    |0,hj=>exact hj
    |1,hj=>exact hj
    |2,hj=>exact hj
    |3,hj=>exact hj
    |4,hj=>exact hj
    |5,hj=>exact hj
    |6,hj=>exact hj
    |j+7,hj=>simp [endCells] at hj
   ·intro j x hj
    match j,hj with
    |0,hj=>exact hj
    |1,hj=>exact hj
    |2,hj=>exact hj
    |3,hj=>exact hj
    |4,hj=>exact hj
    |5,hj=>exact hj
    |6,hj=>exact hj
    |j+7,hj=>simp [endCells] at hj
end
end

end Go.Proofs.YtcbnhebiagdbiaaGreatDoor
