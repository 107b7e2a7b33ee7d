/- Lemmas of this proof (texts RpK RpL RpM RpN RpP RpO Rgo). -/
import Derived.Test.YtbgjpfbcelkllaaPkR1
import Derived.Test.YtbgjpfbcelkllaaPkG2
import Derived.Test.YtbgjpfbcelkllaaPkG3
import Derived.Test.YtbgjpfbcelkllaaPkA1
import Derived.Test.YtbgjpfbcelkllaaPkG1
namespace Go.Proofs.Ytbgjpfbcelkllaa
set_option maxHeartbeats 64000000
section
open Go.RowKit
set_option maxRecDepth 100000
section
variable {F Z:BS} {W w:World} {ts:List Th} {p N:Nat} {a:Prt}
theorem rstale_c (x:Pt) (pa:Option Addr) (pn pc:Nat) (hk:x.kind≠1#8) (hup:¬(a.cS.state=2/\(a.cS.cM:Int)=x.value)) (h:dY F Z W (tRp p a::ts) w) :
  Calls Try.prog 41 #[.pointer (some ⟨p,0,none⟩),dH x (.slice pa pn pc)] w fun e w'=>e=.returned (.tuple #[])/\dY F Z W (tRp p a::ts) w':=by
 obtain ⟨y,hst⟩:=h.rp
 have h1:=(hst.new (bW x (.slice pa pn pc)))
 have H1:=aQ (show dY F Z W (rpThs p a y++(ts++[dJ w.heap.size (bW x (.slice pa pn pc))])) (w.alloc (bW x (.slice pa pn pc))) by rw [<-List.append_assoc];exact h1)
 have hrow:=h1.blk 0 rfl
 have c7:(w.alloc (bW x (.slice pa pn pc))).cell? ⟨p,7,none⟩=some (.int .i64 (a.cS.cM:Int)):=aJ hrow rfl
 have c9:(w.alloc (bW x (.slice pa pn pc))).cell? ⟨p,9,none⟩=some (.int .i64 (a.cS.state:Int)):=aJ hrow rfl
 obtain ⟨k0,k1,k2,k3,_⟩:=pt_cells (heap_alloc_new w (bW x (.slice pa pn pc)))
 have b2:((U x.kind:Int) == 1)=false:=by rw [beq_eq_false_iff_ne];intro e;exact hk (U_inj.1 (e.trans (by rfl:(1:Int)=U (1#8))))
 clear hst h1 hrow h hk k1 k2
 by_cases h0:a.cS.state=2
 ·have b3:((a.cS.state:Int) != 2)=false:=by rw [h0];rfl
  have b4:(x.value != (a.cS.cM:Int))=true:=by rw [bne_iff_ne];intro e;exact hup ⟨h0,e.symm⟩
  clear h0 hup
  go_enter Try.func41,Try.ntmps41
  go_wp2_with fail
  generalize w.alloc (bW x (.slice pa pn pc))=w1 at *
  go_quiet (fail)
  go_wp2_with fail
  refine bodyPost_ret (v:=.tuple #[]) (by simp [results,Try.results41,go_sem]) rfl ?_
  exact ⟨rfl,(H1.out.own (bS _ _)).dropLast.rp_shut⟩
 ·have b3:((a.cS.state:Int) != 2)=true:=by rw [bne_iff_ne];omega
  clear h0 hup
  go_enter Try.func41,Try.ntmps41
  go_wp2_with fail
  generalize w.alloc (bW x (.slice pa pn pc))=w1 at *
  go_quiet (fail)
  go_wp2_with fail
  refine bodyPost_ret (v:=.tuple #[]) (by simp [results,Try.results41,go_sem]) rfl ?_
  exact ⟨rfl,(H1.out.own (bS _ _)).dropLast.rp_shut⟩
theorem rother_c (x:Pt) (pa:Option Addr) (pn pc:Nat) (h1:x.kind≠1#8) (h2:x.kind≠2#8) (h3:x.kind≠3#8) (h4:x.kind≠4#8) (hs:a.cS.state=2) (hv:(a.cS.cM:Int)=x.value) (h:dY F Z W (tRp p a::ts) w) :
  Calls Try.prog 41 #[.pointer (some ⟨p,0,none⟩),dH x (.slice pa pn pc)] w fun e w'=>e=.returned (.tuple #[])/\dY F Z W (tRp p a::ts) w':=by
 obtain ⟨y,hst⟩:=h.rp
 have hn:=(hst.new (bW x (.slice pa pn pc)))
 have H1:=aQ (show dY F Z W (rpThs p a y++(ts++[dJ w.heap.size (bW x (.slice pa pn pc))])) (w.alloc (bW x (.slice pa pn pc))) by rw [<-List.append_assoc];exact hn)
 have hrow:=hn.blk 0 rfl
 have c7:(w.alloc (bW x (.slice pa pn pc))).cell? ⟨p,7,none⟩=some (.int .i64 (a.cS.cM:Int)):=aJ hrow rfl
 have c9:(w.alloc (bW x (.slice pa pn pc))).cell? ⟨p,9,none⟩=some (.int .i64 (a.cS.state:Int)):=aJ hrow rfl
 obtain ⟨k0,k1,k2,k3,_⟩:=pt_cells (heap_alloc_new w (bW x (.slice pa pn pc)))
 have b1:((U x.kind:Int) == 1)=false:=by rw [beq_eq_false_iff_ne];intro e;exact h1 (U_inj.1 (e.trans (by rfl:(1:Int)=U (1#8))))
 have b2:((U x.kind:Int) == 2)=false:=by rw [beq_eq_false_iff_ne];intro e;exact h2 (U_inj.1 (e.trans (by rfl:(2:Int)=U (2#8))))
 have b3:((U x.kind:Int) == 3)=false:=by rw [beq_eq_false_iff_ne];intro e;exact h3 (U_inj.1 (e.trans (by rfl:(3:Int)=U (3#8))))
 have b4:((U x.kind:Int) == 4)=false:=by rw [beq_eq_false_iff_ne];intro e;exact h4 (U_inj.1 (e.trans (by rfl:(4:Int)=U (4#8))))
 have b5:((a.cS.state:Int) != 2)=false:=by rw [hs];rfl
 have b6:(x.value != (a.cS.cM:Int))=false:=by rw [hv];simp
 clear hst hn hrow h h1 h2 h3 h4 k1 k2 hs hv
 go_enter Try.func41,Try.ntmps41
 go_wp2_with fail
 generalize w.alloc (bW x (.slice pa pn pc))=w1 at *
 go_quiet (fail)
 go_wp2_with fail
 go_end0
 exact ⟨rfl,(H1.out.own (bS _ _)).dropLast.rp_shut⟩
theorem rraise_c (x:Pt) (pa:Option Addr) (pn pc:Nat) (hk:x.kind=4#8) (hs:a.cS.state=2) (hv:(a.cS.cM:Int)=x.value) (hok:a.Ok N) (h:dY F Z W (tRp p a::ts) w) :
  Calls Try.prog 41 #[.pointer (some ⟨p,0,none⟩),dH x (.slice pa pn pc)] w fun e w'=>e=.returned (.tuple #[])/\dY F Z W (tRp p (a.raise x)::ts) w':=by
 obtain ⟨y,hst⟩:=h.rp
 have hn:=(hst.new (bW x (.slice pa pn pc)))
 obtain ⟨rv,wv,bv,kv,cv,tv,gv,ev,av,sv,nv,hv',ch⟩:=y
 have H1:=aQ (show dY F Z W (rpThs p a ⟨rv,wv,bv,kv,cv,tv,gv,ev,av,sv,nv,hv',ch⟩++(ts++[dJ w.heap.size (bW x (.slice pa pn pc))])) (w.alloc (bW x (.slice pa pn pc))) by rw [<-List.append_assoc];exact hn)
 have hrow:=hn.blk 0 rfl
 have c1:(w.alloc (bW x (.slice pa pn pc))).cell? ⟨p,1,none⟩=some rv:=aJ hrow rfl
 have c7:(w.alloc (bW x (.slice pa pn pc))).cell? ⟨p,7,none⟩=some (.int .i64 (a.cS.cM:Int)):=aJ hrow rfl
 have c9:(w.alloc (bW x (.slice pa pn pc))).cell? ⟨p,9,none⟩=some (.int .i64 (a.cS.state:Int)):=aJ hrow rfl
 obtain ⟨_,_,hr⟩:=hn.get 1 rfl
 obtain ⟨ra,rc,e1,_⟩:=RdS.shape (show RdS dK _ _ rv a.aZ from hr)
 subst e1
 obtain ⟨k0,k1,k2,k3,_⟩:=pt_cells (heap_alloc_new w (bW x (.slice pa pn pc)))
 have b1:((U x.kind:Int) == 1)=false:=by rw [hk];rfl
 have b2:((U x.kind:Int) == 2)=false:=by rw [hk];rfl
 have b3:((U x.kind:Int) == 3)=false:=by rw [hk];rfl
 have b4:((U x.kind:Int) == 4)=true:=by rw [hk];rfl
 have b5:((a.cS.state:Int) != 2)=false:=by rw [hs];rfl
 have b6:(x.value != (a.cS.cM:Int))=false:=by rw [hv];simp
 have HOK:=aQ hok
 have n4:=hok.n4
 have tl:=hok.tl
 clear hst hn hrow h hs hv hr hok hk
 go_enter Try.func41,Try.ntmps41
 go_wp2_with fail
 generalize w.alloc (bW x (.slice pa pn pc))=w1 at *
 go_quiet (fail)
 generalize hw2:World.drewN w1 _=w2
 have hb2:Below w1.heap.size w1 w2:=by rw [<-hw2];exact bS w1 _
 have H2:=aQ (H1.out.own hb2)
 have k1:w2.cell? ⟨w.heap.size,1,none⟩=some (.int .i64 x.cls):=by rw [<-hw2];exact k1
 have k2:w2.cell? ⟨w.heap.size,2,none⟩=some (.int .i64 x.number):=by rw [<-hw2];exact k2
 have k0:w2.cell? ⟨w.heap.size,0,none⟩=some (.int .u8 (U x.kind)):=by rw [<-hw2];exact k0
 have c1:w2.cell? ⟨p,1,none⟩=some (.slice ra a.aZ.length rc):=by rw [<-hw2];exact c1
 clear hw2 hb2 H1 c7 c9 k3 b5 b6
 by_cases hc:0<=x.cls/\x.cls < a.aZ.length
 ·obtain ⟨c,hcc⟩:∃c:Nat,x.cls=(c:Int):=⟨x.cls.toNat,by omega⟩
  have hcl:c < a.aZ.length:=by omega
  have HG:=aQ (show a.raise x={ a with tak:=a.tak.set c ((a.tak.getD c ⟨0,0⟩).raise x.number) } by
   unfold Prt.raise
   rw [if_pos (show a.has x.cls from hc),hcc];rfl)
  have HQ:=aQ (rhas_yes (p:=p) (w:=w2) c ra rc hcl c1)
  rw [hcc] at k1
  clear hc
  have hg:=bT (d:=(⟨0,0⟩:Tak)) (show c < a.tak.length by rw [tl];exact hcl)
  obtain ⟨_,_,hb6⟩:=H2.out.get 6 rfl
  obtain ⟨b3',o3,k3',e3,m3,m3'⟩:=bR (show Sq eTk 102 w2 _ _ tv a.tak from hb6) (by omega)
  subst e3
  have hg3:=tk_cells (show Sq eTk 102 w2 _ _ (.slice (some ⟨b3',o3,none⟩) a.tak.length k3') a.tak from hb6) hg
  have c25:w2.cell? ⟨p,25,none⟩=some (.slice (some ⟨b3',o3,none⟩) a.tak.length k3'):=aJ (H2.out.blk 0 rfl) rfl
  obtain ⟨g,hgg⟩:∃g,g=a.tak.getD c ⟨0,0⟩:=⟨_,rfl⟩
  rw [<-hgg] at hg3 HG
  have HGET:=aQ hg
  rw [tl] at c25 m3
  have hci:(c:Int) < (a.aZ.length:Int):=by omega
  clear hb6 hg hgg
  go_wp2_with (go_at_call 22;refine HQ.out.mono ?_;rintro e w' ⟨rfl,rfl⟩)
  refine wp_region_lag 21 (S:=fun w'=>w'.cell? ⟨p,25,none⟩=some (.slice (some ⟨b3',o3,none⟩) a.aZ.length k3')/\w'.cell? ⟨w.heap.size,1,none⟩=some (.int .i64 (c:Int))/\w'.cell? ⟨w.heap.size,2,none⟩=some (.int .i64 x.number)/\w'.cell? ⟨b3',o3+c*2,none⟩=some (.int .i64 (g.cP:Int))/\w'.cell? ⟨b3',o3+c*2+1,none⟩=some (.int .i64 (g.cE:Int))) (by kernel_rfl) ⟨c25,k1,k2,hg3.1,hg3.2⟩ (fun hS0=>?_)
  change wpAnyL _ _ _ _ _ _ (6+16) _ _ _
  refine wpAnyL_take_n 0 16 (by kernel_rfl) hS0 (fun _ _ _ _ _ h=>h) ?_
  simp only [List.drop_zero,List.take_succ_cons,List.take_zero]
  iterate 16 (refine aR (v:=?_) (by rfl) ?_ ?_;rotate_left 1;(focus ((intro w' hS';obtain ⟨l1,l2,l3,l4,l5⟩:=hS';go_simp);try with_reducible rfl));simp only [Act.put,List.setIfInBounds_toArray,List.set_cons_zero,List.set_cons_succ])
  refine aT ?_
  refine wpAnyL_one 16 (by kernel_rfl) rfl (fun K hK=>?_)
  (refine step_call (f:=?_) (args:=?_) (by rfl) ?_ ?_;rotate_left 2;(focus (go_simp;first|(with_reducible rfl)|(refine ⟨?_,?_⟩ <;> with_reducible rfl)));(refine (rraise_any g x.number _).mono ?_);rintro e w3 ⟨⟨r3,rfl⟩,hb3⟩)
  refine ⟨_,rfl,?_⟩
  simp only [Act.put,List.setIfInBounds_toArray,List.set_cons_zero,List.set_cons_succ]
  have hb4:Below w2.heap.size w2 w3:=Below.trans (by (with_reducible (repeat (first|exact Below.refl _ _|refine Bw.alloc ?_ _|refine Bw.drewN ?_ _|refine Bw.drew ?_)))) hb3
  have hs3:=H2.out.own hb4
  have d25:w3.cell? ⟨p,25,none⟩=some (.slice (some ⟨b3',o3,none⟩) a.aZ.length k3'):=(World.cell?_of_block (hb4.block _ (World.block_lt_of_cell? _ _ c25))).trans c25
  have d1:w3.cell? ⟨w.heap.size,1,none⟩=some (.int .i64 (c:Int)):=(World.cell?_of_block (hb4.block _ (World.block_lt_of_cell? _ _ k1))).trans k1
  have d2:w3.cell? ⟨w.heap.size,2,none⟩=some (.int .i64 x.number):=(World.cell?_of_block (hb4.block _ (World.block_lt_of_cell? _ _ k2))).trans k2
  have e1:w3.cell? ⟨b3',o3+c*2,none⟩=some (.int .i64 (g.cP:Int)):=(World.cell?_of_block (hb4.block _ (World.block_lt_of_cell? _ _ hg3.1))).trans hg3.1
  have e2:w3.cell? ⟨b3',o3+c*2+1,none⟩=some (.int .i64 (g.cE:Int)):=(World.cell?_of_block (hb4.block _ (World.block_lt_of_cell? _ _ hg3.2))).trans hg3.2
  have hgf:∀j,w3.frozen? ⟨b3',j,none⟩=false:=by
   obtain ⟨_,_,hb⟩:=hs3.get 6 rfl
   exact (Sq.free (show Sq eTk 102 w3 _ _ (.slice (some ⟨b3',o3,none⟩) a.tak.length k3') a.tak from hb)).2.2.2
  have HS4:=aQ (hs3.putK 6 rfl HGET.out (g.raise x.number))
  refine hK.out _ _ (fun _=>⟨d25,d1,d2,e1,e2⟩) ?_
  clear hK K hb3 hb4 hs3 hS0 c25 k1 k2 hg3
  refine wpAnyL_pure 17 (by kernel_rfl) rfl (fun _=>⟨d25,d1,d2,e1,e2⟩) (fun _ _ _ _ _ h=>h) ?_
  (refine aR (v:=?_) (by rfl) ?_ ?_;rotate_left 1;(focus ((intro w' hS';go_simp);try with_reducible rfl));simp only [Act.put,List.setIfInBounds_toArray,List.set_cons_zero,List.set_cons_succ])
  refine aT ?_
  refine wpAnyL_pure 18 (by kernel_rfl) rfl (fun _=>⟨d25,d1,d2,e1,e2⟩) (fun _ _ _ _ _ h=>h) ?_
  (refine aR (v:=?_) (by rfl) ?_ ?_;rotate_left 1;(focus ((intro w' hS';go_simp);try with_reducible rfl));simp only [Act.put,List.setIfInBounds_toArray,List.set_cons_zero,List.set_cons_succ])
  refine aT ?_
  refine wpAnyL_pure 19 (by kernel_rfl) rfl (fun _=>⟨d25,d1,d2,e1,e2⟩) (fun _ _ _ _ _ h=>h) ?_
  (refine aR (v:=?_) (by rfl) ?_ ?_;rotate_left 1;(focus ((intro w' hS';go_simp);try with_reducible rfl));simp only [Act.put,List.setIfInBounds_toArray,List.set_cons_zero,List.set_cons_succ])
  refine aT ?_
  refine wpAnyL_one 20 (by kernel_rfl) rfl (fun K hK=>?_)
  go_simp
  refine hK.out _ _ (fun _=>⟨d25,d1,d2,e1,e2⟩) ?_
  clear hK K
  refine wpAnyL_one 21 (by kernel_rfl) rfl (fun K hK=>?_)
  go_simp
  refine hK.out _ _ (fun e=>absurd rfl e) ?_
  clear hK K
  refine wpAnyL_done (by kernel_rfl) ?_ _
  go_wp2_with fail
  go_end0
  refine ⟨rfl,?_⟩
  rw [HG.out]
  refine dY.rp_shut (x:=⟨.slice ra a.aZ.length rc,wv,bv,kv,cv,.slice (some ⟨b3',o3,none⟩) a.tak.length k3',gv,ev,av,sv,nv,hv',ch⟩) ?_
  refine dY.dropLast (T:=dJ w.heap.size (bW x (.slice pa pn pc))) ?_
  exact HS4.out
 ·have HG:=aQ (show a.raise x=a by
   unfold Prt.raise
   rw [if_neg (show ¬a.has x.cls from hc)])
  have HQ:=aQ (rhas_no (p:=p) (w:=w2) x.cls ra rc (n:=a.aZ.length) (by omega) c1)
  clear hc
  go_wp2_with (go_at_call 22;refine HQ.out.mono ?_;rintro e w' ⟨rfl,rfl⟩)
  go_end0
  refine ⟨rfl,?_⟩
  rw [HG.out]
  exact H2.out.dropLast.rp_shut
end
end

section
open Go.RowKit
set_option maxRecDepth 100000
section
variable {F Z:BS} {W w:World} {ts:List Th} {p N:Nat} {a:Prt}
theorem rackn_c (x:Pt) (pa:Option Addr) (pn pc:Nat) (hk:x.kind=3#8) (hs:a.cS.state=2) (hv:(a.cS.cM:Int)=x.value) (hok:a.Ok N) (hN:N<=1000000000) (h:dY F Z W (tRp p a::ts) w) :
  Calls Try.prog 41 #[.pointer (some ⟨p,0,none⟩),dH x (.slice pa pn pc)] w fun e w'=>e=.returned (.tuple #[])/\dY F Z W (tRp p (a.bQ x)::ts) w':=by
 obtain ⟨y,hst⟩:=h.rp
 have hn:=(hst.new (bW x (.slice pa pn pc)))
 have H1:=aQ (show dY F Z W (tRp p a::(ts++[dJ w.heap.size (bW x (.slice pa pn pc))])) (w.alloc (bW x (.slice pa pn pc))) from (show dY F Z W (rpThs p a y++(ts++[dJ w.heap.size (bW x (.slice pa pn pc))])) (w.alloc (bW x (.slice pa pn pc))) by rw [<-List.append_assoc];exact hn).rp_shut)
 have hrow:=hn.blk 0 rfl
 have c7:(w.alloc (bW x (.slice pa pn pc))).cell? ⟨p,7,none⟩=some (.int .i64 (a.cS.cM:Int)):=aJ hrow rfl
 have c9:(w.alloc (bW x (.slice pa pn pc))).cell? ⟨p,9,none⟩=some (.int .i64 (a.cS.state:Int)):=aJ hrow rfl
 obtain ⟨k0,k1,k2,k3,_⟩:=pt_cells (heap_alloc_new w (bW x (.slice pa pn pc)))
 have b1:((U x.kind:Int) == 1)=false:=by rw [hk];rfl
 have b2:((U x.kind:Int) == 2)=false:=by rw [hk];rfl
 have b3:((U x.kind:Int) == 3)=true:=by rw [hk];rfl
 have b5:((a.cS.state:Int) != 2)=false:=by rw [hs];rfl
 have b6:(x.value != (a.cS.cM:Int))=false:=by rw [hv];simp
 have HOK:=aQ hok
 have n4:=hok.n4
 obtain ⟨k,hkk0⟩:∃k,k=(a.snd.ack x.number).1:=⟨_,rfl⟩
 have hkl:=ack_le hok.snd x.number
 have hkk:=hok.keptl
 have hkm:=hok.snd.cT
 have hw2:=hok.snd.w2
 rw [<-hkk] at hkl hkm
 rw [<-hkk0] at hkl
 have HK:=aQ hkk0
 have htot:a.snd.aG+a.snd.cT.length < 1000000000000:=by have:=hok.tot;unfold Snd.total at this;omega
 clear hst hn hrow h hs hv hok hk hkk hkk0
 go_enter Try.func41,Try.ntmps41
 go_wp2_with fail
 generalize w.alloc (bW x (.slice pa pn pc))=w1 at *
 go_quiet (fail)
 generalize hw2:World.drewN w1 _=w2
 have hb2:Below w1.heap.size w1 w2:=by rw [<-hw2];exact bS w1 _
 have H2:=aQ (H1.out.own hb2)
 have k2:w2.cell? ⟨w.heap.size,2,none⟩=some (.int .i64 x.number):=by rw [<-hw2];exact k2
 have k0:w2.cell? ⟨w.heap.size,0,none⟩=some (.int .u8 (U x.kind)):=by rw [<-hw2];exact k0
 clear hw2 hb2 H1 c7 c9 k3 b5 b6 k1
 go_wp2_with fail
 refine wp_region_still_tail 5 (by kernel_rfl) (by kernel_rfl) ?_
 simp only [List.take_succ_cons,List.take_zero,List.drop_succ_cons,List.drop_zero]
 change wpStill _ _ (World.drew _) (fun a'=>wpList _ _ _ _ a' (World.drew _)) _ _
 repeat still_step
 refine wpStill_nil ?_
 go_wp2_with fail
 refine (rack_p x.number HOK.out.snd htot H2.out.drew).mono ?_
 rintro e w3 ⟨rfl,hh⟩
 rw [<-HK.out]
 obtain ⟨y2,hst⟩:=hh.rp
 obtain ⟨rv,wv,bv,kv,cv,tv,gv,ev,av,sv,nv,hv,ch⟩:=y2
 obtain ⟨_,_,hkp⟩:=hst.get 5 rfl
 obtain ⟨ka,kc,e5,q1,q2,q3⟩:=Sq.le (show Sq dK 3 w3 _ _ cv (a.cT.map (·.1)) from hkp)
 subst e5
 obtain ⟨_,_,hac⟩:=hst.get 10 rfl
 obtain ⟨ab,ao,ac,e6,r1,r2⟩:=bR (show Sq dK 3 w3 _ _ sv a.aG from hac) (by rw [HOK.out.al];exact HOK.out.n1)
 subst e6
 have HH:=aQ (show dY F Z W (rpThs p { a with snd:=(a.snd.ack x.number).2 } ⟨rv,wv,bv,kv,.slice ka (a.cT.map (·.1)).length kc,tv,gv,ev,av,.slice (some ⟨ab,ao,none⟩) a.aG.length ac,nv,hv,ch⟩++(ts++[dJ w.heap.size (bW x (.slice pa pn pc))])) w3 from hst)
 have HCN:=aQ (show (a.cT.map (·.1)).length=a.cT.length from List.length_map ..)
 rw [HCN.out] at q1 q3
 unfold maxLen at q2
 clear hkp hac hh hst H2 k0 k2
 go_wp2_with fail
 go_loopw [6] (fun i wr=>∃j:Nat,j<=k/\i=.int .i64 (j:Int)/\Hid (dY F Z W (rpThs p { a with snd:=(a.snd.ack x.number).2,aG:=tally a.aG (a.cT.take j) } ⟨rv,wv,bv,kv,.slice ka (a.cT.map (·.1)).length kc,tv,gv,ev,av,.slice (some ⟨ab,ao,none⟩) a.aG.length ac,nv,hv,ch⟩++(ts++[dJ w.heap.size (bW x (.slice pa pn pc))])) wr)) (fun i _=>k - (intOf i).toNat)
 case atStart=>exact ⟨0,Nat.zero_le _,rfl,HH⟩
 case round=>
  clear HH
  obtain ⟨j,hj,rfl,HJ⟩:=hrel
  by_cases hlt:j < k
  ·obtain ⟨⟨fc,fd⟩,hx⟩:∃f,a.cT[j]? = some f:=⟨_,List.getElem?_eq_getElem (by omega)⟩
   have hcl:=HOK.out.kcl _ (List.mem_of_getElem? hx)
   have hxc:(a.cT.map (·.1))[j]? = some fc:=by rw [List.getElem?_map,hx];rfl
   obtain ⟨_,_,hkp⟩:=HJ.out.get 5 rfl
   obtain ⟨kb,ko,kcc,e5,_,_⟩:=bR (show Sq dK 3 wr _ _ (.slice ka (a.cT.map (·.1)).length kc) (a.cT.map (·.1)) from hkp) (by rw [HCN.out];omega)
   obtain ⟨rfl,rfl⟩:ka=some ⟨kb,ko,none⟩/\kc=kcc:=by simpa using e5
   have hkc:=nat_cell hkp hxc
   obtain ⟨_,_,hac⟩:=HJ.out.get 10 rfl
   have hac':=show Sq dK 3 wr _ _ (.slice (some ⟨ab,ao,none⟩) a.aG.length ac) (tally a.aG (a.cT.take j)) from hac
   have haf:=(Sq.free hac').2.2.2
   have hal:(tally a.aG (a.cT.take j)).length=a.aZ.length:=by rw [tally_length,HOK.out.al]
   dsimp only at hcl
   have hz:=bT (d:=0) (show fc < (tally a.aG (a.cT.take j)).length by rw [hal];exact hcl)
   have hzb:=tally_le (a.cT.take j) HOK.out.acn _ (List.mem_of_getElem? hz)
   rw [List.length_take] at hzb
   have hzc:=nat_cell hac' hz
   have hrow:=HJ.out.blk 0 rfl
   have c23:wr.cell? ⟨p,23,none⟩=some (.slice (some ⟨kb,ko,none⟩) (a.cT.map (·.1)).length kc):=aJ hrow rfl
   have c30:wr.cell? ⟨p,30,none⟩=some (.slice (some ⟨ab,ao,none⟩) a.aG.length ac):=aJ hrow rfl
   rw [HOK.out.al] at c30 r1
   rw [HCN.out] at c23
   have hs:=(HJ.out.putN (xs:=tally a.aG (a.cT.take j)) 10 rfl (c:=fc) (y:=(tally a.aG (a.cT.take j)).getD fc 0+1) (u:=((tally a.aG (a.cT.take j)).getD fc 0:Int)+1) (by rw [hal];exact hcl) (by omega)).drew
   have e9:=tally_snoc a.aG hx
   dsimp only at e9
   rw [<-e9] at hs
   have HS:=aQ hs
   obtain ⟨z,hzz⟩:∃z,z=(tally a.aG (a.cT.take j)).getD fc 0:=⟨_,rfl⟩
   rw [<-hzz] at hzb hzc HS
   have hjl:j < a.cT.length:=by omega
   clear hkp e5 hx hxc hac hac' hz hzz hrow hs e9 hal
   have hw1:IntKind.i64.wrap ((z:Int)+1)=(z:Int)+1:=IntWalk.i64_in _ (by omega)
   go_wp2_with fail
   refine wp_region_still_tail 15 (by kernel_rfl) (by kernel_rfl) ?_
   simp only [List.take_succ_cons,List.take_zero,List.drop_succ_cons,List.drop_zero]
   change wpStill _ _ (World.drew _) (fun a'=>wpList _ _ _ _ a' (World.drew _)) _ _
   repeat still_step
   refine wpStill_nil ?_
   go_wp2_with fail
   go_roundw
   case rel=>exact ⟨j+1,by omega,by go_num,HS⟩
   case measure=>first|(simp [intOf];done)|(simp [intOf];omega)
  ·obtain rfl:k=j:=by omega
   have HG:=aQ (show a.bQ x={ a with snd:=(a.snd.ack x.number).2,aG:=tally a.aG (a.cT.take k),cT:=a.cT.drop k } by
    unfold Prt.bQ;rw [<-HK.out])
   have hrow:=HJ.out.blk 0 rfl
   have c23:wr.cell? ⟨p,23,none⟩=some (.slice ka (a.cT.map (·.1)).length kc):=aJ hrow rfl
   rw [HCN.out] at c23
   have cf:=fun i=>aD hrow i
   have HROW:=aQ hrow
   have HCUT:=aQ (fun (nv2:Value) (hnv:∀G Y,Sq dK 3 wr G Y (.slice ka (a.cT.map (·.1)).length kc) (a.cT.map (·.1))->Sq dK 3 wr G Y nv2 ((a.cT.drop k).map (·.1)))=>
    show dY F Z W (rpThs p { a with snd:=(a.snd.ack x.number).2,aG:=tally a.aG (a.cT.take k),cT:=a.cT.drop k } ⟨rv,wv,bv,kv,nv2,tv,gv,ev,av,.slice (some ⟨ab,ao,none⟩) a.aG.length ac,nv,hv,ch⟩++(ts++[dJ w.heap.size (bW x (.slice pa pn pc))])) (wr.setCell ⟨p,23,none⟩ nv2) from by
     have h1:=HJ.out.upd 5 rfl (T':=tSq dK 3 nv2 (List.map (fun f:Nat × dV=>f.1) (a.cT.drop k))) (w':=wr) fun G Y hon _=>⟨hnv G Y hon,Fr.refl _ _⟩
     exact h1.set 0 rfl (rpRow { a with snd:=(a.snd.ack x.number).2,aG:=tally a.aG (a.cT.take k),cT:=a.cT.drop k } ⟨rv,wv,bv,kv,nv2,tv,gv,ev,av,.slice (some ⟨ab,ao,none⟩) a.aG.length ac,nv,hv,ch⟩) (w':=wr.setCell ⟨p,23,none⟩ nv2) (by (repeat (first|(with_reducible (first|exact Fr.refl _ _|refine Fr.setCell ?_ ?_ _|refine Fr.drewN ?_ _|refine Fr.drew ?_))|exact Or.inl rfl))) (by have hr:=HROW.out;(apply aS;focus (with_reducible (repeat (first|exact hr|apply aU|apply aP|apply aF))));rfl))
   clear hrow
   have hki:(k:Int)<=(a.cT.length:Int):=by omega
   have hkci:(a.cT.length:Int)<=(kc:Int):=by omega
   cases ka with
   |none=>
    obtain ⟨z1,z2⟩:=q3 rfl
    have hk0:k=0:=by omega
    subst hk0
    subst z2
    rw [z1] at c23
    have HS:=aQ (HCUT.out (.slice none 0 0) fun G Y _=>by
     rw [List.drop_zero,List.eq_nil_of_length_eq_zero z1]
     exact Sq.nil _ _ _ _ _)
    clear q3 HCUT
    go_wp2_with fail
    go_end0
    refine ⟨rfl,?_⟩
    rw [HG.out]
    exact HS.out.dropLast.rp_shut
   |some kad=>
    obtain ⟨kb,ko,rfl⟩:∃kb ko,kad=⟨kb,ko,none⟩:=by
     obtain ⟨_,_,K,D,us,_,_,_,⟨_,⟨h,_⟩|⟨g,off,cap,cur,e,_⟩⟩,_⟩:=HJ.out.get 5 rfl
     ·cases h
     ·obtain ⟨rfl,_⟩:kad=⟨g,off,none⟩/\kc=cap:=by simpa using e
      exact ⟨g,off,rfl⟩
    have HS:=aQ (HCUT.out (.slice (if kc=k then some ⟨kb,ko,none⟩ else some ⟨kb,ko+k,none⟩) (a.cT.length - k) (kc - k)) fun G Y h=>by
     have:=sq_cut h (show k<=(a.cT.map (·.1)).length by rw [HCN.out];exact hkl)
     rw [HCN.out,show k*(dK).size=k from Nat.mul_one k,<-List.map_drop] at this
     exact this)
    obtain ⟨na,hna⟩:∃na,(if kc=k then some (⟨kb,ko,none⟩:Addr) else some ⟨kb,ko+k,none⟩)=na:=⟨_,rfl⟩
    rw [hna] at HS
    clear q3 HCUT
    go_wp2_with fail
    go_end0
    refine ⟨rfl,?_⟩
    rw [HG.out]
    exact HS.out.dropLast.rp_shut
end
end

section
open Go.RowKit
set_option maxRecDepth 100000
structure Prt.Fit (p:Prt):Prop where
 buf:∀c,(p.aY.getD c []).length<=p.aZ.getD c 0
 rcd:∀c,(p.giv.getD c ⟨0,0,0⟩).aW=(p.giv.getD c ⟨0,0,0⟩).cI+(p.aY.getD c []).length
 room:∀c,(p.giv.getD c ⟨0,0,0⟩).room=p.aZ.getD c 0
section
variable {F Z:BS} {W w:World} {ts:List Th} {p N:Nat} {a:Prt}
theorem rdata_no (x:Pt) (pa:Option Addr) (pn pc:Nat) (hk:x.kind=2#8) (hs:a.cS.state=2) (hv:(a.cS.cM:Int)=x.value) (hno:¬(0<=x.cls/\x.cls < a.aZ.length)\/(0<=x.cls/\x.cls < a.aZ.length)/\x.number≠(a.rcv % 256:Nat)) (h:dY F Z W (tRp p a::ts) w) :
  Calls Try.prog 41 #[.pointer (some ⟨p,0,none⟩),dH x (.slice pa pn pc)] w fun e w'=>e=.returned (.tuple #[])/\dY F Z W (tRp p a::ts) w':=by
 obtain ⟨y,hst⟩:=h.rp
 obtain ⟨rv,wv,bv,kv,cv,tv,gv,ev,av,sv,nv,hv',ch⟩:=y
 have hn:=(hst.new (bW x (.slice pa pn pc)))
 have H1:=aQ (show dY F Z W (rpThs p a ⟨rv,wv,bv,kv,cv,tv,gv,ev,av,sv,nv,hv',ch⟩++(ts++[dJ w.heap.size (bW x (.slice pa pn pc))])) (w.alloc (bW x (.slice pa pn pc))) by rw [<-List.append_assoc];exact hn)
 have hrow:=hn.blk 0 rfl
 have c1:(w.alloc (bW x (.slice pa pn pc))).cell? ⟨p,1,none⟩=some rv:=aJ hrow rfl
 have c7:(w.alloc (bW x (.slice pa pn pc))).cell? ⟨p,7,none⟩=some (.int .i64 (a.cS.cM:Int)):=aJ hrow rfl
 have c9:(w.alloc (bW x (.slice pa pn pc))).cell? ⟨p,9,none⟩=some (.int .i64 (a.cS.state:Int)):=aJ hrow rfl
 have c24:(w.alloc (bW x (.slice pa pn pc))).cell? ⟨p,24,none⟩=some (.int .i64 (a.rcv:Int)):=aJ hrow rfl
 obtain ⟨_,_,hr⟩:=hn.get 1 rfl
 obtain ⟨ra,rc,e1,_⟩:=RdS.shape (show RdS dK _ _ rv a.aZ from hr)
 subst e1
 obtain ⟨k0,k1,k2,k3,_⟩:=pt_cells (heap_alloc_new w (bW x (.slice pa pn pc)))
 have b1:((U x.kind:Int) == 1)=false:=by rw [hk];rfl
 have b2:((U x.kind:Int) == 2)=true:=by rw [hk];rfl
 have b5:((a.cS.state:Int) != 2)=false:=by rw [hs];rfl
 have b6:(x.value != (a.cS.cM:Int))=false:=by rw [hv];simp
 clear hst hn hrow h hs hv hr hk
 go_enter Try.func41,Try.ntmps41
 go_wp2_with fail
 generalize w.alloc (bW x (.slice pa pn pc))=w1 at *
 go_quiet (fail)
 generalize hw2:World.drewN w1 _=w2
 have hb2:Below w1.heap.size w1 w2:=by rw [<-hw2];exact bS w1 _
 have H2:=aQ (H1.out.own hb2)
 have k1:w2.cell? ⟨w.heap.size,1,none⟩=some (.int .i64 x.cls):=by rw [<-hw2];exact k1
 have k2:w2.cell? ⟨w.heap.size,2,none⟩=some (.int .i64 x.number):=by rw [<-hw2];exact k2
 have k0:w2.cell? ⟨w.heap.size,0,none⟩=some (.int .u8 (U x.kind)):=by rw [<-hw2];exact k0
 have c1:w2.cell? ⟨p,1,none⟩=some (.slice ra a.aZ.length rc):=by rw [<-hw2];exact c1
 have c24:w2.cell? ⟨p,24,none⟩=some (.int .i64 (a.rcv:Int)):=by rw [<-hw2];exact c24
 clear hw2 hb2 H1 c7 c9 k3 b5 b6
 go_wp2_with fail
 rcases hno with hno|⟨hc,hno⟩
 ·have HQ:=aQ (fun n=>rhas_no (p:=p) (w:=w2.drewN n) x.cls ra rc (n:=a.aZ.length) (by omega) c1)
  clear hno
  go_quiet ((go_at_call 22;exact Calls.quiet_of_same ((HQ.out _).mono fun e w' h=>⟨show e=.returned (.bool false) from h.1,h.2.symm⟩)))
  go_wp2_with fail
  go_end0
  exact ⟨rfl,(H2.out.own (bS _ _)).dropLast.rp_shut⟩
 ·obtain ⟨c,hcc⟩:∃c:Nat,x.cls=(c:Int):=⟨x.cls.toNat,by omega⟩
  rw [hcc] at k1
  have HQ:=aQ (fun n=>rhas_yes (p:=p) (w:=w2.drewN n) c ra rc (n:=a.aZ.length) (by omega) c1)
  have HR:=aQ (fun n=>rrcv_no (p:=p) (w:=w2.drewN n) x.number a.rcv hno c24)
  clear hno hc
  go_quiet (first|(go_at_call 22;exact Calls.quiet_of_same ((HQ.out _).mono fun e w' h=>⟨show e=.returned (.bool true) from h.1,h.2.symm⟩))|(go_at_call 72;exact Calls.quiet_of_same ((HR.out _).mono fun e w' h=>⟨show e=.returned (.bool false) from h.1,h.2.symm⟩)))
  go_wp2_with fail
  go_end0
  exact ⟨rfl,(H2.out.own (bS _ _)).dropLast.rp_shut⟩
theorem rdata_c (x:Pt) (pv:Value) (hk:x.kind=2#8) (hs:a.cS.state=2) (hv:(a.cS.cM:Int)=x.value) (hok:a.Ok N) (hN:N<=1000000000) (hfit:a.Fit) (h:dY F Z W (tRp p a::ts) w) (j:Nat) (hj:ts[j]? = some (tBy pv x.pay)) (hpl:x.pay.length<=1000) :
  Calls Try.prog 41 #[.pointer (some ⟨p,0,none⟩),dH x pv] w fun e w'=>e=.returned (.tuple #[])/\dY F Z W (tRp p (a.cO x)::ts) w':=by
 obtain ⟨_,_,hby⟩:=h.get (j+1) (T:=tBy pv x.pay) (by simpa using hj)
 obtain ⟨pa,pc,rfl⟩:=ByZ.slice hby
 by_cases hyes:(0<=x.cls/\x.cls < a.aZ.length)/\x.number=(a.rcv % 256:Nat)
 ·obtain ⟨hc,hnum⟩:=hyes
  obtain ⟨y,hst⟩:=h.rp
  have hn:=(hst.new (bW x (.slice pa x.pay.length pc)))
  have H1:=aQ (show dY F Z W (tRp p a::(ts++[dJ w.heap.size (bW x (.slice pa x.pay.length pc))])) (w.alloc (bW x (.slice pa x.pay.length pc))) from (show dY F Z W (rpThs p a y++(ts++[dJ w.heap.size (bW x (.slice pa x.pay.length pc))])) (w.alloc (bW x (.slice pa x.pay.length pc))) by rw [<-List.append_assoc];exact hn).rp_shut)
  have hrow:=hn.blk 0 rfl
  have c1:(w.alloc (bW x (.slice pa x.pay.length pc))).cell? ⟨p,1,none⟩=some y.rv:=aJ hrow rfl
  have c7:(w.alloc (bW x (.slice pa x.pay.length pc))).cell? ⟨p,7,none⟩=some (.int .i64 (a.cS.cM:Int)):=aJ hrow rfl
  have c9:(w.alloc (bW x (.slice pa x.pay.length pc))).cell? ⟨p,9,none⟩=some (.int .i64 (a.cS.state:Int)):=aJ hrow rfl
  obtain ⟨_,_,hr⟩:=hn.get 1 rfl
  obtain ⟨ra,rc,e1,_⟩:=RdS.shape (show RdS dK _ _ y.rv a.aZ from hr)
  rw [e1] at c1
  obtain ⟨k0,k1,k2,k3,k4⟩:=pt_cells (heap_alloc_new w (bW x (.slice pa x.pay.length pc)))
  have b1:((U x.kind:Int) == 1)=false:=by rw [hk];rfl
  have b2:((U x.kind:Int) == 2)=true:=by rw [hk];rfl
  have b5:((a.cS.state:Int) != 2)=false:=by rw [hs];rfl
  have b6:(x.value != (a.cS.cM:Int))=false:=by rw [hv];simp
  obtain ⟨c,hcc⟩:∃c:Nat,x.cls=(c:Int):=⟨x.cls.toNat,by omega⟩
  have hcl:c < a.aZ.length:=by omega
  have HHAS:=aQ (show a.has x.cls from hc)
  have HCC:=aQ hcc
  have HNM:=aQ hnum
  have HOK:=aQ hok
  have HJ:=aQ hj
  have HFIT:=aQ hfit
  have n4:=hok.n4
  rw [hcc] at k1
  clear hst hn hrow h hs hv hr hk hc hcc hok hj hby e1 hfit hnum
  go_enter Try.func41,Try.ntmps41
  go_wp2_with fail
  generalize w.alloc (bW x (.slice pa x.pay.length pc))=w1 at *
  go_quiet (fail)
  generalize hw2:World.drewN w1 _=w2
  have hb2:Below w1.heap.size w1 w2:=by rw [<-hw2];exact bS w1 _
  have H2:=aQ (H1.out.own hb2)
  have k1:w2.cell? ⟨w.heap.size,1,none⟩=some (.int .i64 (c:Int)):=by rw [<-hw2];exact k1
  have k2:w2.cell? ⟨w.heap.size,2,none⟩=some (.int .i64 x.number):=by rw [<-hw2];exact k2
  have k0:w2.cell? ⟨w.heap.size,0,none⟩=some (.int .u8 (U x.kind)):=by rw [<-hw2];exact k0
  have c1:w2.cell? ⟨p,1,none⟩=some (.slice ra a.aZ.length rc):=by rw [<-hw2];exact c1
  clear hw2 hb2 H1 c7 c9 k3 b5 b6 k4
  go_wp2_with fail
  refine wp_region_held_drew (S:=fun w'=>(∃ra rc,w'.cell? ⟨p,1,none⟩=some (.slice ra a.aZ.length rc))/\w'.cell? ⟨w.heap.size,1,none⟩=some (.int .i64 (c:Int))/\w'.cell? ⟨w.heap.size,2,none⟩=some (.int .i64 x.number)) (by kernel_rfl) ⟨⟨ra,rc,c1⟩,k1,k2⟩ (fun hS0=>?_)
  change wpAnyH _ _ _ _ _ (2+10) _ _ _
  refine aH 0 10 (by kernel_rfl) hS0 (fun _ _ _ _ _ h=>h) ?_
  simp only [List.drop_zero,List.take_succ_cons,List.take_zero]
  iterate 3 (refine aR (v:=?_) (by rfl) ?_ ?_;rotate_left 1;(focus ((intro w' hS';obtain ⟨l1,l2,l3⟩:=hS';go_simp);try with_reducible rfl));simp only [Act.put,List.setIfInBounds_toArray,List.set_cons_zero,List.set_cons_succ])
  (refine wpFirst_call (v:=?_) (f:=?_) (args:=?_) (by rfl) ?_ ?_ ?_;rotate_left 3;(focus (intro w';go_simp;first|(with_reducible rfl)|(refine ⟨?_,?_⟩ <;> with_reducible rfl)));(focus (intro w' hS';with_reducible exact (by obtain ⟨⟨ra',rc',l1⟩,_⟩:=hS';exact rhas_yes (p:=p) (w:=w') c ra' rc' hcl l1)));simp only [Act.put,List.setIfInBounds_toArray,List.set_cons_zero,List.set_cons_succ])
  iterate 6 (refine aR (v:=?_) (by rfl) ?_ ?_;rotate_left 1;(focus ((intro w' hS';obtain ⟨l1,l2,l3⟩:=hS';go_simp);try with_reducible rfl));simp only [Act.put,List.setIfInBounds_toArray,List.set_cons_zero,List.set_cons_succ])
  refine aT ?_
  refine aM 10 (by kernel_rfl) rfl (fun K hK=>?_)
  (refine step_call (f:=?_) (args:=?_) (by rfl) ?_ ?_;rotate_left 2;(focus (go_simp;first|(with_reducible rfl)|(refine ⟨?_,?_⟩ <;> with_reducible rfl)));(refine (rrcv_yes x.number HNM.out (by have:=HOK.out.rcv;omega) H2.out.drew).mono ?_);rintro e w3 ⟨rfl,hh⟩)
  refine ⟨_,rfl,?_⟩
  simp only [Act.put,List.setIfInBounds_toArray,List.set_cons_zero,List.set_cons_succ]
  obtain ⟨y3,hst3⟩:=hh.rp
  obtain ⟨rv,wv,bv,kv,cv,tv,gv,ev,av,sv,nv,hv,ch⟩:=y3
  have hrow:=hst3.blk 0 rfl
  obtain ⟨_,_,hr⟩:=hst3.get 1 rfl
  obtain ⟨ra3,rc3,e1,_⟩:=RdS.shape (show RdS dK _ _ rv a.aZ from hr)
  subst e1
  have c1':w3.cell? ⟨p,1,none⟩=some (.slice ra3 a.aZ.length rc3):=aJ hrow rfl
  have hbx:=hst3.lastBlk (us:=rpThs p { a with rcv:=a.rcv+1 } ⟨.slice ra3 a.aZ.length rc3,wv,bv,kv,cv,tv,gv,ev,av,sv,nv,hv,ch⟩)
  obtain ⟨_,k1',k2',_,k4'⟩:=pt_cells hbx
  rw [HCC.out] at k1'
  refine hK.out _ _ ⟨⟨ra3,rc3,c1'⟩,k1',k2'⟩ ?_
  clear hK K
  refine aM 11 (by kernel_rfl) rfl (fun K hK=>?_)
  go_simp
  refine hK.out _ _ ⟨⟨ra3,rc3,c1'⟩,k1',k2'⟩ ?_
  clear hK K
  refine wpAnyH_done (by kernel_rfl) ?_ _
  have gl:=HOK.out.gl
  have hg:=bT (d:=(⟨0,0,0⟩:Giv)) (show c < a.giv.length by rw [gl];exact hcl)
  have hgb:=HOK.out.giv _ (List.mem_of_getElem? hg)
  obtain ⟨_,_,hb7⟩:=hst3.get 7 rfl
  obtain ⟨b3,o3,k3,e3,m3,m3'⟩:=bR (show Sq eGv 100 w3 _ _ gv a.giv from hb7) (by rw [gl];omega)
  subst e3
  have hg3:=gv_cells (show Sq eGv 100 w3 _ _ (.slice (some ⟨b3,o3,none⟩) a.giv.length k3) a.giv from hb7) hg
  have c26:w3.cell? ⟨p,26,none⟩=some (.slice (some ⟨b3,o3,none⟩) a.giv.length k3):=aJ hrow rfl
  obtain ⟨g,hgg⟩:∃g,g=a.giv.getD c ⟨0,0,0⟩:=⟨_,rfl⟩
  have HGG:=aQ hgg
  rw [<-hgg] at hg3 hgb
  have hgr:g.cI<=g.aW/\g.aW<=g.room+g.cI:=by
   have h1:=HFIT.out.rcd c
   have h2:=HFIT.out.buf c
   have h3:=HFIT.out.room c
   rw [<-hgg] at h1 h3
   omega
  have HGET:=aQ hg
  have HS3:=aQ (show dY F Z W (rpThs p { a with rcv:=a.rcv+1 } ⟨.slice ra3 a.aZ.length rc3,wv,bv,kv,cv,tv,.slice (some ⟨b3,o3,none⟩) a.giv.length k3,ev,av,sv,nv,hv,ch⟩++(ts++[dJ w.heap.size (bW x (.slice pa x.pay.length pc))])) w3 from hst3)
  rw [gl] at c26 m3
  have hci:(c:Int) < (a.aZ.length:Int):=by omega
  clear hh hst3 hrow hr hbx hb7 hg hgg k0 k1 k2 c1 hS0 H2 c1' k2'
  go_wp2_with fail
  refine wp_region_lag 19 (S:=fun w'=>w'.cell? ⟨p,26,none⟩=some (.slice (some ⟨b3,o3,none⟩) a.aZ.length k3)/\w'.cell? ⟨w.heap.size,1,none⟩=some (.int .i64 (c:Int))/\w'.cell? ⟨b3,o3+c*3,none⟩=some (.int .i64 (g.room:Int))/\w'.cell? ⟨b3,o3+c*3+1,none⟩=some (.int .i64 (g.aW:Int))/\w'.cell? ⟨b3,o3+c*3+2,none⟩=some (.int .i64 (g.cI:Int))) (by kernel_rfl) ⟨c26,k1',hg3.1,hg3.2.1,hg3.2.2⟩ (fun hS0=>?_)
  change wpAnyL _ _ _ _ _ _ (7+14) _ _ _
  refine wpAnyL_take_n 0 14 (by kernel_rfl) hS0 (fun _ _ _ _ _ h=>h) ?_
  simp only [List.drop_zero,List.take_succ_cons,List.take_zero]
  iterate 14 (refine aR (v:=?_) (by rfl) ?_ ?_;rotate_left 1;(focus ((intro w' hS';obtain ⟨l1,l2,l3,l4,l5⟩:=hS';go_simp);try with_reducible rfl));simp only [Act.put,List.setIfInBounds_toArray,List.set_cons_zero,List.set_cons_succ])
  refine aT ?_
  refine wpAnyL_one 14 (by kernel_rfl) rfl (fun K hK=>?_)
  (refine step_call (f:=?_) (args:=?_) (by rfl) ?_ ?_;rotate_left 2;(focus (go_simp;first|(with_reducible rfl)|(refine ⟨?_,?_⟩ <;> with_reducible rfl)));(refine (rgivRec_any g hgr.1 hgr.2 (by omega) _).mono ?_);rintro e w4 ⟨he,hb4⟩)
  obtain ⟨z,hz⟩:∃z:Int,z=(if g.cO.1=true then 0 else 5):=⟨_,rfl⟩
  rw [<-hz] at he
  have HZ:=aQ hz
  subst he
  refine ⟨_,rfl,?_⟩
  simp only [Act.put,List.setIfInBounds_toArray,List.set_cons_zero,List.set_cons_succ]
  have hb5:Below w3.heap.size w3 w4:=Below.trans (by (with_reducible (repeat (first|exact Below.refl _ _|refine Bw.alloc ?_ _|refine Bw.drewN ?_ _|refine Bw.drew ?_)))) hb4
  have hs4:=HS3.out.own hb5
  have d26:w4.cell? ⟨p,26,none⟩=some (.slice (some ⟨b3,o3,none⟩) a.aZ.length k3):=(World.cell?_of_block (hb5.block _ (World.block_lt_of_cell? _ _ c26))).trans c26
  have d1:w4.cell? ⟨w.heap.size,1,none⟩=some (.int .i64 (c:Int)):=(World.cell?_of_block (hb5.block _ (World.block_lt_of_cell? _ _ k1'))).trans k1'
  have e1:w4.cell? ⟨b3,o3+c*3,none⟩=some (.int .i64 (g.room:Int)):=(World.cell?_of_block (hb5.block _ (World.block_lt_of_cell? _ _ hg3.1))).trans hg3.1
  have e2:w4.cell? ⟨b3,o3+c*3+1,none⟩=some (.int .i64 (g.aW:Int)):=(World.cell?_of_block (hb5.block _ (World.block_lt_of_cell? _ _ hg3.2.1))).trans hg3.2.1
  have e3:w4.cell? ⟨b3,o3+c*3+2,none⟩=some (.int .i64 (g.cI:Int)):=(World.cell?_of_block (hb5.block _ (World.block_lt_of_cell? _ _ hg3.2.2))).trans hg3.2.2
  have hgf:∀j,w4.frozen? ⟨b3,j,none⟩=false:=by
   obtain ⟨_,_,hb⟩:=hs4.get 7 rfl
   exact (Sq.free (show Sq eGv 100 w4 _ _ (.slice (some ⟨b3,o3,none⟩) a.giv.length k3) a.giv from hb)).2.2.2
  have HS4:=aQ (hs4.putG 7 rfl HGET.out g.cO.2)
  refine hK.out _ _ (fun _=>⟨d26,d1,e1,e2,e3⟩) ?_
  clear hK K hb4 hb5 hs4 hS0 c26 hg3 hz k1'
  refine wpAnyL_pure 15 (by kernel_rfl) rfl (fun _=>⟨d26,d1,e1,e2,e3⟩) (fun _ _ _ _ _ h=>h) ?_
  (refine aR (v:=?_) (by rfl) ?_ ?_;rotate_left 1;(focus ((intro w' hS';go_simp);try with_reducible rfl));simp only [Act.put,List.setIfInBounds_toArray,List.set_cons_zero,List.set_cons_succ])
  refine aT ?_
  refine wpAnyL_pure 16 (by kernel_rfl) rfl (fun _=>⟨d26,d1,e1,e2,e3⟩) (fun _ _ _ _ _ h=>h) ?_
  (refine aR (v:=?_) (by rfl) ?_ ?_;rotate_left 1;(focus ((intro w' hS';go_simp);try with_reducible rfl));simp only [Act.put,List.setIfInBounds_toArray,List.set_cons_zero,List.set_cons_succ])
  refine aT ?_
  refine wpAnyL_pure 17 (by kernel_rfl) rfl (fun _=>⟨d26,d1,e1,e2,e3⟩) (fun _ _ _ _ _ h=>h) ?_
  (refine aR (v:=?_) (by rfl) ?_ ?_;rotate_left 1;(focus ((intro w' hS';go_simp);try with_reducible rfl));simp only [Act.put,List.setIfInBounds_toArray,List.set_cons_zero,List.set_cons_succ])
  refine aT ?_
  refine wpAnyL_one 18 (by kernel_rfl) rfl (fun K hK=>?_)
  go_simp
  refine hK.out _ _ (fun _=>⟨d26,d1,e1,e2,e3⟩) ?_
  clear hK K
  refine wpAnyL_one 19 (by kernel_rfl) rfl (fun K hK=>?_)
  go_simp
  refine hK.out _ _ (fun e=>absurd rfl e) ?_
  clear hK K
  refine wpAnyL_late 20 (by kernel_rfl) rfl (by kernel_rfl) (fun K hK=>?_)
  go_simp
  refine hK.out _ _ ?_
  clear hK K
  refine wpAnyL_done (by kernel_rfl) ?_ _
  clear d26 d1 e1 e2 e3 hgf k4' HS3
  generalize World.setCell (World.setCell (World.setCell w4 _ _) _ _) _ _=w5 at HS4 ⊢
  have HS5:=aQ (show dY F Z W (rpThs p { a with rcv:=a.rcv+1,giv:=a.giv.set c g.cO.2 } ⟨.slice ra3 a.aZ.length rc3,wv,bv,kv,cv,tv,.slice (some ⟨b3,o3,none⟩) a.giv.length k3,ev,av,sv,nv,hv,ch⟩++(ts++[dJ w.heap.size (bW x (.slice pa x.pay.length pc))])) w5 from HS4.out)
  clear HS4
  cases hrv:g.cO.1 with
  |false=>
   obtain rfl:z=5:=by rw [HZ.out,hrv];rfl
   have HG:=aQ (show a.cO x={ a with rcv:=a.rcv+1,giv:=a.giv.set c g.cO.2,bL:=a.bL+1 } by
    have e:g.cO.2=g:=by
     revert hrv
     unfold Giv.cO
     split
     ·intro _;rfl
     ·intro h;cases h
    unfold Prt.cO
    rw [if_neg (by rintro (h|h);exact h HHAS.out;exact h HNM.out),HCC.out]
    dsimp only [Int.toNat_natCast]
    rw [<-HGG.out,if_pos hrv,e,set_same' (HGG.out ▸ HGET.out)])
   have hrow:=HS5.out.blk 0 rfl
   have c33:w5.cell? ⟨p,33,none⟩=some (.int .i64 (a.bL:Int)):=aJ hrow rfl
   have cf:=fun i=>aD hrow i
   have hov:=HOK.out.ovn
   have HROW:=aQ hrow
   clear hrow hrv
   go_wp2_with fail
   refine bodyPost_ret (v:=.tuple #[]) (by simp [results,Try.results41,go_sem]) rfl ?_
   refine ⟨rfl,?_⟩
   rw [HG.out]
   refine dY.rp_shut (x:=⟨.slice ra3 a.aZ.length rc3,wv,bv,kv,cv,tv,.slice (some ⟨b3,o3,none⟩) a.giv.length k3,ev,av,sv,nv,hv,ch⟩) ?_
   refine dY.dropLast (T:=dJ w.heap.size (bW x (.slice pa x.pay.length pc))) ?_
   refine HS5.out.set 0 rfl (rpRow { a with rcv:=a.rcv+1,giv:=a.giv.set c g.cO.2,bL:=a.bL+1 } ⟨.slice ra3 a.aZ.length rc3,wv,bv,kv,cv,tv,.slice (some ⟨b3,o3,none⟩) a.giv.length k3,ev,av,sv,nv,hv,ch⟩) (by (repeat (first|(with_reducible (first|exact Fr.refl _ _|refine Fr.setCell ?_ ?_ _|refine Fr.drewN ?_ _|refine Fr.drew ?_))|exact Or.inl rfl))) ?_
   have hr:=HROW.out
   (apply aS;focus (with_reducible (repeat (first|exact hr|apply aU|apply aP|apply aF))))
   first|rfl|(simp;done)|(simp;omega)
  |true=>
   obtain rfl:z=0:=by rw [HZ.out,hrv];rfl
   have HRV:=aQ hrv
   clear hrv
   have hrow:=HS5.out.blk 0 rfl
   have bl:=HOK.out.bl
   obtain ⟨_,_,hb3⟩:=HS5.out.get 3 rfl
   obtain ⟨b1,o1,k1,e1,m1,m1'⟩:=bR (show Sq (eSq eBy 27) 54 w5 _ _ bv a.aY from hb3) (by omega)
   subst e1
   have hx:=bT (d:=[]) (show c < a.aY.length by omega)
   have hln:=HOK.out.bln _ (List.mem_of_getElem? hx)
   have hbf:=(Sq.free (show Sq (eSq eBy 27) 54 w5 _ _ (.slice (some ⟨b1,o1,none⟩) a.aY.length k1) a.aY from hb3)).2.2.2
   have hbx:=HS5.out.lastBlk (us:=rpThs p { a with rcv:=a.rcv+1,giv:=a.giv.set c g.cO.2 } ⟨.slice ra3 a.aZ.length rc3,wv,.slice (some ⟨b1,o1,none⟩) a.aY.length k1,kv,cv,tv,.slice (some ⟨b3,o3,none⟩) a.giv.length k3,ev,av,sv,nv,hv,ch⟩)
   obtain ⟨_,q1,_,_,q4⟩:=pt_cells hbx
   rw [HCC.out] at q1
   obtain ⟨_,_,hby⟩:=HS5.out.get (13+j) (get_later (us:=rpThs p { a with rcv:=a.rcv+1,giv:=a.giv.set c g.cO.2 } ⟨.slice ra3 a.aZ.length rc3,wv,.slice (some ⟨b1,o1,none⟩) a.aY.length k1,kv,cv,tv,.slice (some ⟨b3,o3,none⟩) a.giv.length k3,ev,av,sv,nv,hv,ch⟩) HJ.out)
   have HBY:=aQ hby.1
   have c13:w5.cell? ⟨p,13,none⟩=some (.slice (some ⟨b1,o1,none⟩) a.aY.length k1):=aJ hrow rfl
   obtain ⟨xs,hxs⟩:∃xs,xs=a.aY.getD c []:=⟨_,rfl⟩
   have HXS:=aQ hxs
   rw [<-hxs] at hx hln
   obtain ⟨vc,hvc,hout0⟩:=HS5.out.out 3 rfl hx
   have hout:dY F Z W ((tSq eBy 27 vc xs::(rpThs p { a with rcv:=a.rcv+1,giv:=a.giv.set c g.cO.2 } ⟨.slice ra3 a.aZ.length rc3,wv,.slice (some ⟨b1,o1,none⟩) a.aY.length k1,kv,cv,tv,.slice (some ⟨b3,o3,none⟩) a.giv.length k3,ev,av,sv,nv,hv,ch⟩).set 3 (tSq (eOpt (eSq eBy 27)) 54 (.slice (some ⟨b1,o1,none⟩) a.aY.length k1) ((a.aY.map some).set c none)))++(ts++[dJ w.heap.size (bW x (.slice pa x.pay.length pc))])) w5:=hout0.front
   obtain ⟨_,_,hsq⟩:=hout.get 0 rfl
   obtain ⟨va,k2,e3⟩:=Sq.shape (show Sq eBy 27 w5 _ _ vc xs from hsq)
   subst e3
   have hpb:p≠b1:=hout.apart 1 4 (by decide) rfl rfl (fun _ _ h=>h.2) fun _ _ h=>(Sq.free (show Sq _ _ _ _ _ (.slice (some ⟨b1,o1,none⟩) a.aY.length k1) _ from h)).2.1
   have hbb:w.heap.size≠b1:=hout.apart (14+ts.length) 4 (by omega) (get_last' (us:=tSq eBy 27 (.slice va xs.length k2) xs::(rpThs p { a with rcv:=a.rcv+1,giv:=a.giv.set c g.cO.2 } ⟨.slice ra3 a.aZ.length rc3,wv,.slice (some ⟨b1,o1,none⟩) a.aY.length k1,kv,cv,tv,.slice (some ⟨b3,o3,none⟩) a.giv.length k3,ev,av,sv,nv,hv,ch⟩).set 3 (tSq (eOpt (eSq eBy 27)) 54 (.slice (some ⟨b1,o1,none⟩) a.aY.length k1) ((a.aY.map some).set c none)))) rfl (fun _ _ h=>h.2) fun _ _ h=>(Sq.free (show Sq _ _ _ _ _ (.slice (some ⟨b1,o1,none⟩) a.aY.length k1) _ from h)).2.1
   have HOUT:=aQ hout
   rw [bl] at c13 m1
   clear hrow hb3 hx hbx hby hxs hout0 hout hsq HS5
   go_wp2_with fail
   refine wp_region_lag 21 (S:=fun w'=>w'.cell? ⟨p,13,none⟩=some (.slice (some ⟨b1,o1,none⟩) a.aZ.length k1)/\w'.cell? ⟨w.heap.size,1,none⟩=some (.int .i64 (c:Int))/\w'.cell? ⟨w.heap.size,4,none⟩=some (.slice pa x.pay.length pc)/\w'.cell? ⟨b1,o1+c,none⟩=some (.slice va xs.length k2)) (by kernel_rfl) ⟨c13,q1,q4,hvc⟩ (fun hS0=>?_)
   change wpAnyL _ _ _ _ _ _ (8+14) _ _ _
   refine wpAnyL_take_n 0 14 (by kernel_rfl) hS0 (fun _ _ _ _ _ h=>h) ?_
   simp only [List.drop_zero,List.take_succ_cons,List.take_zero]
   iterate 14 (refine aR (v:=?_) (by rfl) ?_ ?_;rotate_left 1;(focus ((intro w' hS';obtain ⟨l1,l2,l3,l4⟩:=hS';go_simp);try with_reducible rfl));simp only [Act.put,List.setIfInBounds_toArray,List.set_cons_zero,List.set_cons_succ])
   refine aT ?_
   change wpAnyL _ _ _ _ _ _ (6+2) _ _ _
   refine wpAnyL_take_n 15 2 (by kernel_rfl) hS0 (fun _ _ _ _ _ h=>h) ?_
   simp only [List.drop_succ_cons,List.drop_zero,List.take_succ_cons,List.take_zero]
   iterate 2 (refine aR (v:=?_) (by rfl) ?_ ?_;rotate_left 1;(focus ((intro w' hS';obtain ⟨l1,l2,l3,l4⟩:=hS';go_simp);try with_reducible rfl));simp only [Act.put,List.setIfInBounds_toArray,List.set_cons_zero,List.set_cons_succ])
   refine aT ?_
   refine wpAnyL_one 14 (by kernel_rfl) rfl (fun K hK=>?_)
   go_simp
   refine hK.out _ _ (fun _=>⟨aI _ _ c13,aI _ _ q1,aI _ _ q4,aI _ _ hvc⟩) ?_
   clear hK K
   refine wpAnyL_one 17 (by kernel_rfl) rfl (fun K hK=>?_)
   refine step_app_sl slB rfl _ _ rfl (fun k=>w5.heap.size<=k) _ 0 [] rfl (by exact sl_made _ _ _ _ rfl rfl) _ x.pay.length (cu x.pay) rfl (by exact (HBY.out.drewN 1).alloc _) cu_one (by unfold maxLen;omega) (by omega) ?_
   intro v1 w6 hsl1 hfr1
   rw [Nat.zero_add,List.nil_append] at hsl1
   obtain ⟨v1a,v1c,rfl⟩:=hsl1.shape
   have hbw:Below w5.heap.size w5 ((w5.drew).alloc (.cells #[] 5)):=by (with_reducible (repeat (first|exact Below.refl _ _|refine Bw.alloc ?_ _|refine Bw.drewN ?_ _|refine Bw.drew ?_)))
   have hb1':Below w5.heap.size w5 w6:=hbw.trans ((hfr1.below (B:=w5.heap.size) (by simp) fun k hk=>hk))
   have hbz:ByZ w6 (fun k=>w5.heap.size<=k) (.slice v1a x.pay.length v1c) x.pay:=Sl.byZ (hsl1.mono (G:=fun k=>w5.heap.size<=k) (by rintro k (h|h);exact h;simp at h;omega)) (Nat.le_refl _)
   have hS1:w6.cell? ⟨p,13,none⟩=some (.slice (some ⟨b1,o1,none⟩) a.aZ.length k1)/\w6.cell? ⟨w.heap.size,1,none⟩=some (.int .i64 (c:Int))/\w6.cell? ⟨w.heap.size,4,none⟩=some (.slice pa x.pay.length pc)/\w6.cell? ⟨b1,o1+c,none⟩=some (.slice va xs.length k2):=
    ⟨(World.cell?_of_block (hb1'.block _ (World.block_lt_of_cell? _ _ c13))).trans c13,(World.cell?_of_block (hb1'.block _ (World.block_lt_of_cell? _ _ q1))).trans q1,(World.cell?_of_block (hb1'.block _ (World.block_lt_of_cell? _ _ q4))).trans q4,(World.cell?_of_block (hb1'.block _ (World.block_lt_of_cell? _ _ hvc))).trans hvc⟩
   refine hK.out _ _ (fun _=>hS1) ?_
   clear hK K
   simp only [Act.put,List.setIfInBounds_toArray,List.set_cons_zero,List.set_cons_succ]
   have hA:dY F Z W ((tBy (.slice v1a x.pay.length v1c) x.pay::tSq eBy 27 (.slice va xs.length k2) xs::(rpThs p { a with rcv:=a.rcv+1,giv:=a.giv.set c g.cO.2 } ⟨.slice ra3 a.aZ.length rc3,wv,.slice (some ⟨b1,o1,none⟩) a.aY.length k1,kv,cv,tv,.slice (some ⟨b3,o3,none⟩) a.giv.length k3,ev,av,sv,nv,hv,ch⟩).set 3 (tSq (eOpt (eSq eBy 27)) 54 (.slice (some ⟨b1,o1,none⟩) a.aY.length k1) ((a.aY.map some).set c none)))++(ts++[dJ w.heap.size (bW x (.slice pa x.pay.length pc))])) w6:=(HOUT.out.addZ hb1' (T:=tBy (.slice v1a x.pay.length v1c) x.pay) hbz).front
   obtain ⟨Kx,us,Yx,hsl,hKn,hoth,hback⟩:=hA.appY 1 rfl
   have hKp:¬Kx p:=hKn p 2 _ (by decide) rfl fun H Y h=>.inl h.2
   have hKb:¬Kx b1:=hKn b1 5 _ (by decide) rfl fun H Y h=>.inl (Sq.free (show Sq _ _ _ H Y (.slice (some ⟨b1,o1,none⟩) a.aY.length k1) _ from h)).2.1
   have hKx:¬Kx w.heap.size:=hKn _ (15+ts.length) (dJ w.heap.size (bW x (.slice pa x.pay.length pc))) (by omega) (get_last' (us:=tBy (.slice v1a x.pay.length v1c) x.pay::tSq eBy 27 (.slice va xs.length k2) xs::(rpThs p { a with rcv:=a.rcv+1,giv:=a.giv.set c g.cO.2 } ⟨.slice ra3 a.aZ.length rc3,wv,.slice (some ⟨b1,o1,none⟩) a.aY.length k1,kv,cv,tv,.slice (some ⟨b3,o3,none⟩) a.giv.length k3,ev,av,sv,nv,hv,ch⟩).set 3 (tSq (eOpt (eSq eBy 27)) 54 (.slice (some ⟨b1,o1,none⟩) a.aY.length k1) ((a.aY.map some).set c none)))) fun H Y h=>.inl h.2
   obtain ⟨_,_,hbyY⟩:=hoth 0 _ (by decide) rfl
   have HBACK:=aQ hback
   have HSL:=aQ hsl
   obtain ⟨s1,s2,s3,s4⟩:=hS1
   have hba:=aK w6 (.cells #[.slice v1a x.pay.length v1c] 27)
   have hS2:(w6.alloc (.cells #[.slice v1a x.pay.length v1c] 27)).cell? ⟨p,13,none⟩=some (.slice (some ⟨b1,o1,none⟩) a.aZ.length k1)/\(w6.alloc (.cells #[.slice v1a x.pay.length v1c] 27)).cell? ⟨w.heap.size,1,none⟩=some (.int .i64 (c:Int))/\(w6.alloc (.cells #[.slice v1a x.pay.length v1c] 27)).cell? ⟨w.heap.size,4,none⟩=some (.slice pa x.pay.length pc)/\(w6.alloc (.cells #[.slice v1a x.pay.length v1c] 27)).cell? ⟨b1,o1+c,none⟩=some (.slice va xs.length k2):=
    ⟨aI _ _ s1,aI _ _ s2,aI _ _ s3,aI _ _ s4⟩
   have HARM:=aQ (fun (v2:Value) (w7:World) (hsl2:Sl w7 (fun k=>Kx k\/(w6.alloc (.cells #[.slice v1a x.pay.length v1c] 27)).heap.size<=k) 27 1 v2 (xs.length+1) (us++[.slice v1a x.pay.length v1c])) (hfr2:Fr Kx (w6.alloc (.cells #[.slice v1a x.pay.length v1c] 27)) w7)=>
    show ∃g2 off2 cap2,v2=.slice (some ⟨g2,off2,none⟩) (xs.length+1) cap2/\w7.cell? ⟨p,13,none⟩=some (.slice (some ⟨b1,o1,none⟩) a.aZ.length k1)/\w7.cell? ⟨w.heap.size,1,none⟩=some (.int .i64 (c:Int))/\w7.cell? ⟨w.heap.size,4,none⟩=some (.slice pa x.pay.length pc)/\w7.cell? ⟨b1,o1+c,none⟩=some (.slice va xs.length k2)/\(∀j,w7.frozen? ⟨b1,j,none⟩=false)/\Hid (dY F Z W (rpThs p { a with rcv:=a.rcv+1,giv:=a.giv.set c g.cO.2,aY:=a.aY.set c (xs++[x.pay]) } ⟨.slice ra3 a.aZ.length rc3,wv,.slice (some ⟨b1,o1,none⟩) a.aY.length k1,kv,cv,tv,.slice (some ⟨b3,o3,none⟩) a.giv.length k3,ev,av,sv,nv,hv,ch⟩++(ts++[dJ w.heap.size (bW x (.slice pa x.pay.length pc))])) (w7.setCell ⟨b1,o1+c,none⟩ (.slice (some ⟨g2,off2,none⟩) (xs.length+1) cap2))) from by
     obtain ⟨g2,off2,cap2,rfl,_⟩:=Sl.head hsl2 (by omega)
     obtain ⟨t1,t2,t3,t4⟩:=hS2
     have hl:∀b,¬Kx b->b < (w6.alloc (.cells #[.slice v1a x.pay.length v1c] 27)).heap.size->w7.heap[b]? = (w6.alloc (.cells #[.slice v1a x.pay.length v1c] 27)).heap[b]?:=fun b hn hl=>hfr2.block b hl hn
     have h1:=hback _ w7 [.slice v1a x.pay.length v1c] [x.pay] _ hba hsl2 hfr2 ⟨fun _=>False,Yx,fun _ f=>f.elim,fun _ y=>.inl y,fun _ f=>f.elim,Els.single (E:=eBy) ⟨_,rfl,ByZ.below hbyY hba⟩⟩
     have h2:dY F Z W (((rpThs p { a with rcv:=a.rcv+1,giv:=a.giv.set c g.cO.2 } ⟨.slice ra3 a.aZ.length rc3,wv,.slice (some ⟨b1,o1,none⟩) a.aY.length k1,kv,cv,tv,.slice (some ⟨b3,o3,none⟩) a.giv.length k3,ev,av,sv,nv,hv,ch⟩).set 3 (tSq (eOpt (eSq eBy 27)) 54 (.slice (some ⟨b1,o1,none⟩) a.aY.length k1) ((a.aY.map some).set c none))++(ts++[dJ w.heap.size (bW x (.slice pa x.pay.length pc))]))++[tSq eBy 27 (.slice (some ⟨g2,off2,none⟩) (xs.length+1) cap2) (xs++[x.pay])]) w7:=dY.rear (dY.tail h1)
     have h3:=dY.back (c:=c) (yss:=a.aY.set c (xs++[x.pay])) h2 3 rfl (by rw [List.length_set,List.length_map,bl];exact hcl) set_gap
     have hbf2:∀j,w7.frozen? ⟨b1,j,none⟩=false:=by
      obtain ⟨_,_,hh⟩:=h2.get 3 rfl
      exact (Sq.free (show Sq (eOpt (eSq eBy 27)) 54 w7 _ _ (.slice (some ⟨b1,o1,none⟩) a.aY.length k1) ((a.aY.map some).set c none) from hh)).2.2.2
     exact ⟨g2,off2,cap2,rfl,(World.cell?_of_block (hl p hKp (World.block_lt_of_cell? _ _ t1))).trans t1,(World.cell?_of_block (hl _ hKx (World.block_lt_of_cell? _ _ t2))).trans t2,(World.cell?_of_block (hl _ hKx (World.block_lt_of_cell? _ _ t3))).trans t3,(World.cell?_of_block (hl b1 hKb (World.block_lt_of_cell? _ _ t4))).trans t4,hbf2,aQ h3⟩)
   clear hsl1 hfr1 hbw hb1' hbz hA hKn hoth hback hsl hbyY hKp hKb hKx hba HBACK HOUT c13 q1 q4 hvc hS0 hbf
   refine wpAnyL_one 18 (by kernel_rfl) rfl (fun K hK=>?_)
   go_simp
   refine hK.out _ _ (fun _=>hS2) ?_
   clear hK K
   refine wpAnyL_one 19 (by kernel_rfl) rfl (fun K hK=>?_)
   refine step_app_sl slBB rfl _ _ rfl Kx (.slice va xs.length k2) xs.length us rfl (HSL.out.alloc _) _ 1 [.slice v1a x.pay.length v1c] rfl (rd_one _ _ _ _ rfl) (by intro u hu;simp at hu;subst hu;rfl) (by unfold maxLen;omega) (by omega) ?_
   intro v2 w7 hsl2 hfr2
   obtain ⟨g2,off2,cap2,rfl,t1,t2,t3,t4,tf,HS7⟩:=HARM.out v2 w7 hsl2 hfr2
   clear hsl2 hfr2 HARM HSL
   refine hK.out _ _ (fun _=>⟨t1,t2,t3,t4⟩) ?_
   clear hK K
   simp only [Act.put,List.setIfInBounds_toArray,List.set_cons_zero,List.set_cons_succ]
   refine wpAnyL_one 20 (by kernel_rfl) rfl (fun K hK=>?_)
   go_simp
   refine hK.out _ _ (fun _=>⟨t1,t2,t3,t4⟩) ?_
   clear hK K
   refine wpAnyL_one 21 (by kernel_rfl) rfl (fun K hK=>?_)
   go_simp
   refine hK.out _ _ (fun e=>absurd rfl e) ?_
   clear hK K
   refine wpAnyL_done (by kernel_rfl) ?_ _
   clear t1 t2 t3 t4 tf s1 s2 s3 s4 hS2
   generalize World.setCell w7 _ _=w8 at HS7 ⊢
   have hs8:dY F Z W (rpThs p { a with rcv:=a.rcv+1,giv:=a.giv.set c g.cO.2,aY:=a.aY.set c (xs++[x.pay]) } ⟨.slice ra3 a.aZ.length rc3,wv,.slice (some ⟨b1,o1,none⟩) a.aY.length k1,kv,cv,tv,.slice (some ⟨b3,o3,none⟩) a.giv.length k3,ev,av,sv,nv,hv,ch⟩++(ts++[dJ w.heap.size (bW x (.slice pa x.pay.length pc))])) w8:=HS7.out
   clear HS7
   have hrow:=hs8.blk 0 rfl
   have c31:w8.cell? ⟨p,31,none⟩=some nv:=aJ hrow rfl
   have hbx:=hs8.lastBlk (us:=rpThs p { a with rcv:=a.rcv+1,giv:=a.giv.set c g.cO.2,aY:=a.aY.set c (xs++[x.pay]) } ⟨.slice ra3 a.aZ.length rc3,wv,.slice (some ⟨b1,o1,none⟩) a.aY.length k1,kv,cv,tv,.slice (some ⟨b3,o3,none⟩) a.giv.length k3,ev,av,sv,nv,hv,ch⟩)
   obtain ⟨_,q1,_,_,_⟩:=pt_cells hbx
   rw [HCC.out] at q1
   have rl:=HOK.out.rl
   obtain ⟨_,_,hb⟩:=hs8.get 11 rfl
   obtain ⟨b4,o4,k4,e4,m4,m4'⟩:=bR (show Sq dK 3 w8 _ _ nv a.aW from hb) (by omega)
   subst e4
   have hx4:=bT (d:=0) (show c < a.aW.length by omega)
   have ht4:=HOK.out.ren _ (List.mem_of_getElem? hx4)
   have hc4:=nat_cell hb hx4
   have hf4:=(Sq.free hb).2.2.2
   have HS9:=aQ (hs8.drew.putN (xs:=a.aW) 11 rfl (c:=c) (y:=a.aW.getD c 0+1) (u:=(a.aW.getD c 0:Int)+1) (by omega) (by omega))
   obtain ⟨z,hz⟩:∃z,z=a.aW.getD c 0:=⟨_,rfl⟩
   have HZ2:=aQ hz
   rw [<-hz] at ht4 hc4
   rw [rl] at c31 m4
   have hw1:IntKind.i64.wrap ((z:Int)+1)=(z:Int)+1:=IntWalk.i64_in _ (by omega)
   clear hrow hbx hb hx4 hz hs8
   go_wp2_with fail
   refine wp_region_still_tail 10 (by kernel_rfl) (by kernel_rfl) ?_
   simp only [List.take_succ_cons,List.take_zero,List.drop_succ_cons,List.drop_zero]
   change wpStill _ _ (World.drew _) (fun a'=>wpList _ _ _ _ a' (World.drew _)) _ _
   repeat still_step
   refine wpStill_nil ?_
   go_wp2_with fail
   go_end0
   refine ⟨rfl,?_⟩
   have HG:=(show a.cO x={ a with rcv:=a.rcv+1,giv:=a.giv.set c g.cO.2,aY:=a.aY.set c (a.aY.getD c []++[x.pay]),aW:=a.aW.set c (a.aW.getD c 0+1) } by
    unfold Prt.cO
    rw [if_neg (by rintro (h|h);exact h HHAS.out;exact h HNM.out),HCC.out]
    dsimp only [Int.toNat_natCast]
    rw [<-HGG.out,if_neg (by rw [HRV.out];decide)])
   rw [HG,<-HXS.out]
   have hz:=HZ2.out
   subst hz
   refine dY.rp_shut (x:=⟨.slice ra3 a.aZ.length rc3,wv,.slice (some ⟨b1,o1,none⟩) a.aY.length k1,kv,cv,tv,.slice (some ⟨b3,o3,none⟩) a.giv.length k3,ev,av,sv,.slice (some ⟨b4,o4,none⟩) a.aW.length k4,hv,ch⟩) ?_
   refine dY.dropLast (T:=dJ w.heap.size (bW x (.slice pa x.pay.length pc))) ?_
   exact HS9.out
 ·have HG:=aQ (show a.cO x=a by
   unfold Prt.cO
   rw [if_pos (show ¬a.has x.cls\/_ from by
    by_cases hc:0<=x.cls/\x.cls < a.aZ.length
    ·exact .inr fun e=>hyes ⟨hc,e⟩
    ·exact .inl hc)])
  rw [HG.out]
  refine rdata_no x pa x.pay.length pc hk hs hv ?_ h
  by_cases hc:0<=x.cls/\x.cls < a.aZ.length
  ·exact .inr ⟨hc,fun e=>hyes ⟨hc,e⟩⟩
  ·exact .inl hc
end
end

section
open Go.RowKit
set_option maxRecDepth 100000
section
variable {F Z:BS} {W w:World} {ts:List Th} {p N:Nat} {a:Prt}
theorem rhandle_c (x:Pt) (pv:Value) (hok:a.Ok N) (hN:N<=1000000000) (hfit:a.Fit) (h:dY F Z W (tRp p a::ts) w) (j:Nat) (hj:ts[j]? = some (tBy pv x.pay)) (hpl:x.pay.length<=1000) :
  Calls Try.prog 41 #[.pointer (some ⟨p,0,none⟩),dH x pv] w fun e w'=>e=.returned (.tuple #[])/\dY F Z W (tRp p (a.cU x)::ts) w':=by
 have hby:∃pa pc,pv=.slice pa x.pay.length pc:=by
  obtain ⟨_,_,hby⟩:=h.get (j+1) (T:=tBy pv x.pay) (by simpa using hj)
  exact ByZ.slice hby
 unfold Prt.cU
 by_cases h1:x.kind=1#8
 ·rw [if_pos h1]
  obtain ⟨pa,pc,rfl⟩:=hby
  exact rgreet_c x pa _ pc h1 hok hN hfit.buf h
 ·rw [if_neg h1]
  by_cases hup:a.cS.state=2/\(a.cS.cM:Int)=x.value
  ·have hz:=hok.cS.zero
   rw [if_neg (fun hn=>hn ⟨hup.1,(fun e=>by have:=hz.1 e;omega),hup.2⟩)]
   by_cases h2:x.kind=2#8
   ·rw [if_pos h2]
    exact rdata_c x pv h2 hup.1 hup.2 hok hN hfit h j hj hpl
   ·rw [if_neg h2]
    obtain ⟨pa,pc,rfl⟩:=hby
    by_cases h3:x.kind=3#8
    ·rw [if_pos h3]
     exact rackn_c x pa _ pc h3 hup.1 hup.2 hok hN h
    ·rw [if_neg h3]
     by_cases h4:x.kind=4#8
     ·rw [if_pos h4]
      exact rraise_c x pa _ pc h4 hup.1 hup.2 hok h
     ·rw [if_neg h4]
      exact rother_c x pa _ pc h1 h2 h3 h4 hup.1 hup.2 h
  ·rw [if_pos (fun hn=>hup ⟨hn.1,hn.2.2⟩)]
   obtain ⟨pa,pc,rfl⟩:=hby
   exact rstale_c x pa _ pc h1 hup h
theorem rpick_c {T:TypeId} {qv:Value} {req:List Bool} (h:dY F Z W (tRp p a::ts) w) (j:Nat) (hj:ts[j]? = some (tSq eBool T qv req)) (hok:a.arb.Ok req.length) :
  Calls Try.prog 44 #[.pointer (some ⟨p,28,none⟩),qv] w fun e w'=>e=.returned (.int .i64 (chNum (a.arb.pick req).1))/\dY F Z W (tRp p { a with arb:=(a.arb.pick req).2 }::ts) w':=by
 obtain ⟨G,Y,hon,hd,_,hoth,hback⟩:=h.use 0 rfl
 obtain ⟨H,hGH,_,hreq⟩:=hoth (j+1) _ (by omega) (by simpa using hj)
 suffices hs:Calls Try.prog 44 #[.pointer (some ⟨p,28,none⟩),qv] w fun e w'=>e=.returned (.int .i64 (chNum (a.arb.pick req).1))/\Did w G Y [tRp p { a with arb:=(a.arb.pick req).2 }] w' by
  refine hs.mono fun e w' ⟨he,hh⟩=>⟨he,?_⟩
  have:=hback w' _ [] hh
  rwa [List.append_nil] at this
 clear hback hoth h
 obtain ⟨x,hh⟩:=dY.rpOf hon hd
 obtain ⟨rv,wv,bv,kv,cv,tv,gv,ev,av,sv,nv,hv,ch0⟩:=x
 obtain ⟨n1,n2,hal,hpt,hag⟩:=hok
 have hn1:0 < req.length:=n1
 have hage:=fun k=>show a.arb.ages.getD k 0<=1073741824 from by
  rw [List.getD]
  cases hk:a.arb.ages[k]? with
  |none=>simp
  |some x=>exact hag x (List.mem_of_getElem? hk)
 have hreq':=hreq
 obtain ⟨K,D,us,_,_,_,hsl,_⟩:=hreq'
 obtain ⟨rb,ro,rc,rfl,_,hrc⟩:=hsl.head hn1
 obtain ⟨_,hrH,hrl,_⟩:=Sq.free hreq
 have hrc2:rc<=9223372036854775807:=by obtain ⟨_,_,cap,e,_,h,_⟩:=hsl.rd;obtain ⟨_,rfl⟩:_/\rc=cap:=(by simpa using e);exact h
 have hrG:¬G rb:=fun g=>hGH rb g hrH
 have HRQ:=aQ (fun k (hk:k < req.length)=>show w.cell? ⟨rb,ro+k,none⟩=some (.bool (req.getD k false)) from by
  have:=bool_cell hreq (List.getElem?_eq_getElem hk)
  simpa [List.getD,hk] using this)
 obtain ⟨_,_,hb9⟩:=hh.get 9 rfl
 obtain ⟨ab,ao,ac,e9,hac1,hac2⟩:=bR (show Sq dK 3 w _ _ av a.arb.ages from hb9) (by omega)
 subst e9
 clear hsl hreq hj hd hGH hon hb9
 have HAL:=aQ hal
 rw [hal] at hac1 hh
 have HH:=aQ hh
 have hrow:=hh.blk 0 rfl
 have c28:w.cell? ⟨p,28,none⟩=some (.int .i64 (a.arb.ptr:Int)):=aJ hrow rfl
 have c29:w.cell? ⟨p,29,none⟩=some (.slice (some ⟨ab,ao,none⟩) req.length ac):=aJ hrow rfl
 clear hh hrow hal hag
 have hz0:((req.length:Int) == 0)=false:=by rw [beq_eq_false_iff_ne];omega
 go_enter Try.func44,Try.ntmps44
 go_wp2_with fail
 go_loop [7,6,8] (fun i c _=>∃k:Nat,k<=req.length/\i=.int .i64 ((k:Int) - 1)/\c=.int .i64 (chNum (firstReq req a.arb.ptr req.length k (req.length - k)))) (fun i _ _=>(intOf i+1).toNat)
 case atStart=>exact ⟨req.length,Nat.le_refl _,rfl,by rw [Nat.sub_self];rfl⟩
 case round=>
  obtain ⟨k,hk,rfl,rfl⟩:=hrel
  by_cases hlt:0 < k
  ·obtain ⟨i,rfl⟩:∃i,k=i+1:=⟨k - 1,by omega⟩
   have hij:((i+1:Nat):Int) - 1=(i:Int):=by omega
   rw [hij]
   have hkk:=HRQ.out ((a.arb.ptr+i) % req.length) (Nat.mod_lt _ hn1)
   have hml:(a.arb.ptr+i) % req.length < req.length:=Nat.mod_lt _ hn1
   obtain ⟨m,hm⟩:∃m,(a.arb.ptr+i) % req.length=m:=⟨_,rfl⟩
   rw [hm] at hkk hml
   have hmz:((a.arb.ptr:Int)+(i:Int)) % (req.length:Int)=(m:Int):=by rw [<-hm];push_cast;rfl
   have HSTEP:=aQ (show firstReq req a.arb.ptr req.length i (req.length - i)=if req.getD m false then some m else firstReq req a.arb.ptr req.length (i+1) (req.length - (i+1)) by
    rw [show req.length - i=(req.length - (i+1))+1 by omega]
    conv=>lhs;unfold firstReq
    rw [hm])
   clear hm hij
   generalize hq:firstReq req a.arb.ptr req.length (i+1) (req.length - (i+1))=q at *
   clear hq
   cases hb:req.getD m false with
   |true=>
    rw [hb] at hkk HSTEP
    clear hb
    go_wp2_with fail
    go_round
    case rel=>exact ⟨i,by omega,by go_num,by rw [HSTEP.out,if_pos rfl];show _=Value.int .i64 (m:Int);first|rfl|rw [hmz]⟩
    case measure=>first|(simp [intOf];done)|(simp [intOf];omega)
   |false=>
    rw [hb] at hkk HSTEP
    clear hb
    go_wp2_with fail
    go_round
    case rel=>exact ⟨i,by omega,by go_num,by rw [HSTEP.out];rfl⟩
    case measure=>first|(simp [intOf];done)|(simp [intOf];omega)
  ·obtain rfl:k=0:=by omega
   rw [show firstReq req a.arb.ptr req.length 0 (req.length - 0)=a.arb.choice req from rfl]
   obtain ⟨ch,hch⟩:∃ch,ch=a.arb.choice req:=⟨_,rfl⟩
   have HCH:=aQ hch
   have hcl:=fun c (e:ch=some c)=>(firstReq_lt hn1 (show firstReq req a.arb.ptr req.length 0 req.length=some c from by rw [<-e,hch];rfl)).1
   rw [<-hch]
   have hz1:((0:Nat):Int) - 1 = -1:=rfl
   rw [hz1]
   clear hch hz1 hk hlt
   go_wp2_with fail
   go_loopw [9] (fun i wr=>∃k:Nat,k<=req.length/\i=.int .i64 (k:Int)/\Hid (dY G Y w ((rpThs p a ⟨rv,wv,bv,kv,cv,tv,gv,ev,.slice (some ⟨ab,ao,none⟩) req.length ac,sv,nv,hv,ch0⟩).set 9 (tSq dK 3 (.slice (some ⟨ab,ao,none⟩) req.length ac) (agesTo a.arb req ch k))) wr)) (fun i _=>req.length - (intOf i).toNat)
   case atStart=>exact ⟨0,Nat.zero_le _,rfl,aQ (by rw [agesTo_zero ch HAL.out];exact HH.out)⟩
   case round=>
    clear c28 c29
    obtain ⟨k,hk,rfl,HK⟩:=hrel
    by_cases hlt:k < req.length
    ·have hrow:=HK.out.blk 0 rfl
     have c29:wr.cell? ⟨p,29,none⟩=some (.slice (some ⟨ab,ao,none⟩) req.length ac):=aJ hrow rfl
     have hkk:wr.cell? ⟨rb,ro+k,none⟩=some (.bool (req.getD k false)):=(World.cell?_of_block (HK.out.fr.block rb hrl hrG)).trans (HRQ.out k hlt)
     obtain ⟨_,_,hsq⟩:=HK.out.get 9 rfl
     have hfr:=(Sq.free hsq).2.2.2
     have hck:=nat_cell hsq (agesTo_get hlt (Nat.le_refl k))
     have hge:=hage k
     obtain ⟨x,hx⟩:∃x,x=a.arb.ages.getD k 0:=⟨_,rfl⟩
     rw [<-hx] at hck hge
     have HX:=aQ hx
     have HSTEP:=aQ (fun (y:Nat) (hy:y=if req.getD k false=true/\some k≠ch then min (a.arb.ages.getD k 0+1) 1073741824 else 0)=>
      show dY G Y w ((rpThs p a ⟨rv,wv,bv,kv,cv,tv,gv,ev,.slice (some ⟨ab,ao,none⟩) req.length ac,sv,nv,hv,ch0⟩).set 9 (tSq dK 3 (.slice (some ⟨ab,ao,none⟩) req.length ac) (agesTo a.arb req ch (k+1)))) (wr.setCell ⟨ab,ao+k,none⟩ (.int .i64 (y:Int))) from by
       have:=HK.out.put pure_nat 9 rfl (c:=k) (j:=0) (a:=x) (a':=y) (u:=.int .i64 (y:Int)) (by rw [HX.out];exact agesTo_get hlt (Nat.le_refl k)) (by decide) rfl
       rw [agesTo_set hy] at this
       simpa [dK] using this)
     clear hsq hrow hx
     by_cases hpc:req.getD k false=true/\some k≠ch
     ·have hb1:=hpc.1
      have hb2:((k:Int) == chNum ch)=false:=by
       cases ch with
       |none=>rw [beq_eq_false_iff_ne];show (k:Int) ≠ -1;omega
       |some c=>
        have:k≠c:=fun e=>hpc.2 (by rw [e])
        rw [beq_eq_false_iff_ne];show (k:Int)≠(c:Int);omega
      rw [hb1] at hkk
      obtain ⟨m,hm⟩:∃m,min (x+1) 1073741824=m:=⟨_,rfl⟩
      have hmi:min ((x:Int)+1) 1073741824=(m:Int):=by rw [<-hm,<-min_cast];simp
      have HS:=aQ (HSTEP.out m (by rw [if_pos hpc,<-HX.out,hm]))
      have HX1:=hge
      clear hb1 hpc HSTEP hm
      go_wp2_with fail
      have hwr:IntKind.i64.wrap ((x:Int)+1)=(x:Int)+1:=IntWalk.i64_in _ (by omega)
      refine wp_region_still_tail 15 (by kernel_rfl) (by kernel_rfl) ?_
      simp only [List.take_succ_cons,List.take_zero,List.drop_succ_cons,List.drop_zero]
      change wpStill _ _ (World.drew _) (fun a'=>wpList _ _ _ _ a' (World.drew _)) _ _
      repeat still_step
      refine wpStill_nil ?_
      go_wp2_with fail
      go_roundw
      case rel=>exact ⟨k+1,by omega,by go_num,aQ HS.out.drew⟩
      case measure=>first|(simp [intOf];done)|(simp [intOf];omega)
     ·have HS:=aQ (HSTEP.out 0 (by rw [if_neg hpc]))
      cases hb:req.getD k false with
      |false=>
       rw [hb] at hkk
       clear hb hpc HSTEP
       go_wp2_with fail
       go_roundw
       case rel=>exact ⟨k+1,by omega,by go_num,HS⟩
       case measure=>first|(simp [intOf];done)|(simp [intOf];omega)
      |true=>
       have hb2:((k:Int) == chNum ch)=true:=by
        have:some k=ch:=Decidable.byContradiction fun e=>hpc ⟨hb,e⟩
        rw [<-this];simp [chNum]
       rw [hb] at hkk
       clear hb hpc HSTEP
       go_wp2_with fail
       go_roundw
       case rel=>exact ⟨k+1,by omega,by go_num,HS⟩
       case measure=>first|(simp [intOf];done)|(simp [intOf];omega)
    ·obtain rfl:req.length=k:=by omega
     have hrow:=HK.out.blk 0 rfl
     have c28:wr.cell? ⟨p,28,none⟩=some (.int .i64 (a.arb.ptr:Int)):=aJ hrow rfl
     have cf:=fun j=>aD hrow j
     have HROW:=aQ hrow
     clear hrow
     have HPK:=aQ (show (a.arb.pick req).1=ch by rw [HCH.out];rfl)
     have HAG:=aQ (show agesTo a.arb req ch req.length=(a.arb.pick req).2.ages by rw [HCH.out];exact agesTo_all a.arb req)
     have HPL:=aQ (show (a.arb.pick req).2.ages.length=req.length by simp [Arb.pick])
     have HEND:=aQ (fun (w':World) (q:Nat) (hq:(a.arb.pick req).2.ptr=q) (h':dY G Y w ((rpThs p { a with arb:={ a.arb with ptr:=q } } ⟨rv,wv,bv,kv,cv,tv,gv,ev,.slice (some ⟨ab,ao,none⟩) req.length ac,sv,nv,hv,ch0⟩).set 9 (tSq dK 3 (.slice (some ⟨ab,ao,none⟩) req.length ac) (agesTo a.arb req ch req.length))) w')=>
      show Did w G Y [tRp p { a with arb:=(a.arb.pick req).2 }] w' from by
       refine dY.rp_did (x:=⟨rv,wv,bv,kv,cv,tv,gv,ev,.slice (some ⟨ab,ao,none⟩) req.length ac,sv,nv,hv,ch0⟩) ?_
       have e:(a.arb.pick req).2=⟨q,agesTo a.arb req ch req.length⟩:=by rw [<-hq,HAG.out]
       rw [e]
       exact h')
     cases ch with
     |none=>
      have HPT:=aQ (show (a.arb.pick req).2.ptr=a.arb.ptr by show (match a.arb.choice req with|some c=>(c+1) % req.length|none=>a.arb.ptr)=_;rw [<-HCH.out])
      have hch:chNum none = -1:=rfl
      rw [hch]
      clear hch
      go_wp2_with fail
      go_ret
      exact ⟨by rw [HPK.out];rfl,HEND.out _ _ HPT.out HK.out⟩
     |some c=>
      have hc:=hcl c rfl
      have HPT:=aQ (show (a.arb.pick req).2.ptr=(c+1) % req.length by show (match a.arb.choice req with|some c=>(c+1) % req.length|none=>a.arb.ptr)=_;rw [<-HCH.out])
      have hch:chNum (some c)=(c:Int):=rfl
      rw [hch]
      clear hch hcl
      go_wp2_with fail
      go_ret
      refine ⟨by rw [HPK.out];rfl,HEND.out _ _ HPT.out ?_⟩
      have:=HK.out.set 0 rfl (rpRow { a with arb:={ a.arb with ptr:=(c+1) % req.length } } ⟨rv,wv,bv,kv,cv,tv,gv,ev,.slice (some ⟨ab,ao,none⟩) req.length ac,sv,nv,hv,ch0⟩) (w':=wr.setCell ⟨p,28,none⟩ (.int .i64 (((c:Int)+1) % (req.length:Int)))) (by (repeat (first|(with_reducible (first|exact Fr.refl _ _|refine Fr.setCell ?_ ?_ _|refine Fr.drewN ?_ _|refine Fr.drew ?_))|exact Or.inl rfl))) (by have hr:=HROW.out;(apply aS;focus (with_reducible (repeat (first|exact hr|apply aU|apply aP|apply aF))));first|(simp;done)|(push_cast;rfl))
      exact this
end
end

section
theorem getD_setl {α : Type} {l:List α} {i c:Nat} {v d : α}:(l.set i v).getD c d=if i=c/\i < l.length then v else l.getD c d:=by
 rw [List.getD_eq_getElem?_getD,List.getD_eq_getElem?_getD,List.getElem?_set]
 by_cases h:i=c
 ·subst h
  by_cases hl:i < l.length
  ·simp [hl]
  ·simp [hl]
 ·simp [h]
theorem getD_over {α : Type} {l:List α} {c:Nat} {d : α} (h:l.length<=c):l.getD c d=d:=by
 rw [List.getD_eq_getElem?_getD,List.getElem?_eq_none h];rfl
theorem Prt.Fit.begin {N:Nat} {p:Prt} (hok:p.Ok N) (h:∀c,(p.aY.getD c []).length<=p.aZ.getD c 0) (cM:Nat):(p.begin cM).Fit:=by
 have hg:∀c,(p.begin cM).giv.getD c ⟨0,0,0⟩=⟨p.aZ.getD c 0,(p.aY.getD c []).length,0⟩:=fun c=>by
  have e:(p.begin cM).giv=(List.range p.aZ.length).map fun c=>Giv.held ⟨p.aZ.getD c 0,0,0⟩ (p.aY.getD c []).length:=rfl
  rw [e]
  by_cases hc:c < p.aZ.length
  ·rw [List.getD_eq_getElem?_getD,List.getElem?_map,List.getElem?_range hc,Option.map_some,held_eq,Nat.min_eq_left (h c)];rfl
  ·rw [getD_over (by simp;omega),getD_over (l:=p.aZ) (by omega),getD_over (l:=p.aY) (by rw [hok.bl];omega)];rfl
 refine ⟨h,fun c=>?_,fun c=>?_⟩
 ·rw [hg];show (p.aY.getD c []).length=0+(p.aY.getD c []).length;omega
 ·rw [hg];rfl
theorem Prt.Fit.greet {N:Nat} {p:Prt} (hok:p.Ok N) (h:p.Fit) (x:Pt):(p.greet x).Fit:=by
 unfold Prt.greet
 dsimp only
 split
 ·have hb:=Prt.Fit.begin hok h.buf (p.cS.cO x.number x.value).cM
  exact ⟨hb.buf,hb.rcd,hb.room⟩
 ·exact ⟨h.buf,h.rcd,h.room⟩
theorem Prt.Fit.cO {N:Nat} {p:Prt} (hok:p.Ok N) (h:p.Fit) (x:Pt):(p.cO x).Fit:=by
 unfold Prt.cO
 split
 ·exact h
 ·rename_i hn
  have hc:0<=x.cls/\x.cls < p.aZ.length:=Decidable.byContradiction fun e=>hn (.inl e)
  obtain ⟨c,hcc⟩:∃c:Nat,x.cls=(c:Int):=⟨x.cls.toNat,by omega⟩
  have hcl:c < p.aZ.length:=by omega
  rw [hcc]
  dsimp only [Int.toNat_natCast]
  split
  ·exact ⟨h.buf,h.rcd,h.room⟩
  ·rename_i hr
   have e:(p.giv.getD c ⟨0,0,0⟩).cO.2={ p.giv.getD c ⟨0,0,0⟩ with aW:=(p.giv.getD c ⟨0,0,0⟩).aW+1 }/\(p.giv.getD c ⟨0,0,0⟩).aW < (p.giv.getD c ⟨0,0,0⟩).cE:=by
    revert hr
    unfold Giv.cO
    split
    ·intro h;exact absurd rfl h
    ·rename_i h;intro _;exact ⟨rfl,by omega⟩
   have h1:=h.buf c;have h2:=h.rcd c;have h3:=h.room c
   have h4:=e.2
   unfold Giv.cE at h4
   refine ⟨fun k=>?_,fun k=>?_,fun k=>?_⟩
   ·show ((p.aY.set c _).getD k []).length<=p.aZ.getD k 0
    rw [getD_setl]
    split
    ·rename_i hk
     obtain ⟨rfl,_⟩:=hk
     rw [List.length_append,List.length_singleton];omega
    ·exact h.buf k
   ·show ((p.giv.set c _).getD k ⟨0,0,0⟩).aW=((p.giv.set c _).getD k ⟨0,0,0⟩).cI+((p.aY.set c _).getD k []).length
    rw [getD_setl,getD_setl]
    by_cases hk:c=k
    ·subst hk
     rw [if_pos ⟨rfl,by rw [hok.gl];exact hcl⟩,if_pos ⟨rfl,by rw [hok.bl];exact hcl⟩,e.1,List.length_append,List.length_singleton]
     dsimp only;omega
    ·rw [if_neg (fun h=>hk h.1),if_neg (fun h=>hk h.1)]
     exact h.rcd k
   ·show ((p.giv.set c _).getD k ⟨0,0,0⟩).room=p.aZ.getD k 0
    rw [getD_setl]
    split
    ·rename_i hk
     obtain ⟨rfl,_⟩:=hk
     rw [e.1];exact h3
    ·exact h.room k
theorem Prt.Fit.cU {N:Nat} {p:Prt} (hok:p.Ok N) (h:p.Fit) (x:Pt):(p.cU x).Fit:=by
 unfold Prt.cU
 split
 ·exact h.greet hok x
 ·split
  ·exact h
  ·split
   ·exact h.cO hok x
   ·split
    ·exact ⟨h.buf,h.rcd,h.room⟩
    ·split
     ·unfold Prt.raise;split
      ·exact ⟨h.buf,h.rcd,h.room⟩
      ·exact h
     ·exact h
theorem Prt.Fit.handles {p:Prt}:∀(l:List Pt) {N:Nat},p.Ok N->(∀x ∈ l,x.pay.length<=1000)->p.Fit->(l.foldl Prt.cU p).Fit
 |[],_,_,_,h=>h
 |x::l,_,hok,hl,h=>by
  rw [List.foldl_cons]
  exact Prt.Fit.handles l (hok.cU x (hl x List.mem_cons_self)) (fun y hy=>hl y (List.mem_cons_of_mem _ hy)) (h.cU hok x)
theorem Prt.choose_same (p:Prt):p.choose.aY=p.aY/\p.choose.giv=p.giv/\p.choose.aZ=p.aZ:=by
 unfold Prt.choose
 split
 ·exact ⟨rfl,rfl,rfl⟩
 ·split <;> exact ⟨rfl,rfl,rfl⟩
theorem Prt.Fit.cR {p:Prt} {N:Nat} (hok:p.Ok N) (h:p.Fit) (l:List Pt) (hl:∀x ∈ l,x.pay.length<=1000):(p.cR l).2.Fit:=by
 have h1:=Prt.Fit.handles l hok hl h
 obtain ⟨a1,ha1⟩:∃a1,a1=l.foldl Prt.cU p:=⟨_,rfl⟩
 rw [<-ha1] at h1
 unfold Prt.cR
 rw [<-ha1]
 dsimp only
 have h2:(Prt.choose { a1 with cS:=a1.cS.cR }).Fit:=by
  obtain ⟨e1,e2,e3⟩:=Prt.choose_same { a1 with cS:=a1.cS.cR }
  exact ⟨by rw [e1,e3];exact h1.buf,by rw [e1,e2];exact h1.rcd,by rw [e2,e3];exact h1.room⟩
 split
 ·exact ⟨h1.buf,h1.rcd,h1.room⟩
 ·split <;> exact ⟨h2.buf,h2.rcd,h2.room⟩
theorem Prt.Fit.dQ {p:Prt} (h:p.Fit) (c:Int) (d:dV):(p.dQ c d).2.Fit:=by
 unfold Prt.dQ
 split
 ·exact h
 ·split
  ·exact h
  ·exact ⟨h.buf,h.rcd,h.room⟩
theorem Prt.Fit.take {p:Prt} {N:Nat} (hok:p.Ok N) (h:p.Fit) (c:Int):(p.take c).2.Fit:=by
 unfold Prt.take
 split
 ·exact h
 ·rename_i d hd
  unfold Prt.peek at hd
  split at hd
  ·rename_i hc
   obtain ⟨k,rfl⟩:∃k:Nat,c=(k:Int):=⟨c.toNat,by have:=hc.1;omega⟩
   have hkl:k < p.aZ.length:=by have:=hc.2;omega
   dsimp only [Int.toNat_natCast] at *
   have hln:0 < (p.aY.getD k []).length:=by
    cases hb:p.aY.getD k [] with
    |nil=>rw [hb] at hd;cases hd
    |cons _ _=>simp
   have h2:=h.rcd k
   have e:(p.giv.getD k ⟨0,0,0⟩).free={ p.giv.getD k ⟨0,0,0⟩ with cI:=(p.giv.getD k ⟨0,0,0⟩).cI+1 }:=by unfold Giv.free;rw [if_neg (by omega)]
   refine ⟨fun j=>?_,fun j=>?_,fun j=>?_⟩
   ·show ((p.aY.set k _).getD j []).length<=p.aZ.getD j 0
    rw [getD_setl]
    split
    ·rename_i hj
     obtain ⟨rfl,_⟩:=hj
     have:=h.buf k
     rw [List.length_drop];omega
    ·exact h.buf j
   ·show ((p.giv.set k _).getD j ⟨0,0,0⟩).aW=((p.giv.set k _).getD j ⟨0,0,0⟩).cI+((p.aY.set k _).getD j []).length
    rw [getD_setl,getD_setl]
    by_cases hj:k=j
    ·subst hj
     rw [if_pos ⟨rfl,by rw [hok.gl];exact hkl⟩,if_pos ⟨rfl,by rw [hok.bl];exact hkl⟩,e,List.length_drop]
     show (p.giv.getD k ⟨0,0,0⟩).aW=(p.giv.getD k ⟨0,0,0⟩).cI+1+_
     omega
    ·rw [if_neg (fun h=>hj h.1),if_neg (fun h=>hj h.1)]
     exact h.rcd j
   ·show ((p.giv.set k _).getD j ⟨0,0,0⟩).room=p.aZ.getD j 0
    rw [getD_setl]
    split
    ·rename_i hj
     obtain ⟨rfl,_⟩:=hj
     rw [e];exact h.room k
    ·exact h.room j
  ·cases hd
theorem newPrt_fit (inc:Nat) (aZ:List Nat) (wi ti de:Nat):(dG inc aZ wi ti de).Fit:=by
 have hb:∀c:Nat,((List.replicate aZ.length ([]:List dV)).getD c []).length=0:=fun c=>by
  rw [List.getD_eq_getElem?_getD,List.getElem?_replicate]
  split <;> rfl
 have hg:∀c,(dG inc aZ wi ti de).giv.getD c ⟨0,0,0⟩=⟨aZ.getD c 0,0,0⟩:=fun c=>by
  have e:(dG inc aZ wi ti de).giv=(List.range aZ.length).map fun c=>Giv.held ⟨aZ.getD c 0,0,0⟩ ((List.replicate aZ.length ([]:List dV)).getD c []).length:=rfl
  rw [e]
  by_cases hc:c < aZ.length
  ·rw [List.getD_eq_getElem?_getD,List.getElem?_map,List.getElem?_range hc,Option.map_some,hb];rfl
  ·rw [getD_over (by simp;omega),getD_over (l:=aZ) (by omega)]
 refine ⟨fun c=>?_,fun c=>?_,fun c=>?_⟩
 ·show ((List.replicate aZ.length ([]:List dV)).getD c []).length<=_
  rw [hb];exact Nat.zero_le _
 ·rw [hg]
  show (0:Nat)=0+((List.replicate aZ.length ([]:List dV)).getD c []).length
  rw [hb]
 ·rw [hg];rfl
end

section
open Go.RowKit
set_option maxRecDepth 100000
def RTickPost (F Z:BS) (W:World) (ts:List Th) (p:Nat) (r:List Pt × Prt) (e:Ending) (w':World):Prop:=
 ∃(sa:Option Addr) (sc:Nat),e=.returned (.slice sa r.1.length sc)/\dY F Z W (tSq ePt 32 (.slice sa r.1.length sc) r.1::tRp p r.2::ts) w'
theorem Prt.choose_some {a:Prt} {c:Nat} {d:dV} {dl:List dV} {s:Snd} (h1:¬a.cA<=a.snd.cT.length) (h2:(a.arb.pick a.bK).1=some c) (h3:a.aX.getD c []=d::dl) (h4:a.snd.dQ d=(0,s)) :
  a.choose={ a with arb:=(a.arb.pick a.bK).2,aX:=a.aX.set c dl,tak:=a.tak.set c (a.tak.getD c ⟨0,0⟩).take,snd:=s,cT:=a.cT++[(c,d)] }:=by
 have e:a.choose=(match (a.arb.pick a.bK).1 with
  |none=>{ a with arb:=(a.arb.pick a.bK).2 }
  |some c=>{ a with
    arb:=(a.arb.pick a.bK).2
    aX:=a.aX.set c ((a.aX.getD c []).drop 1)
    tak:=a.tak.set c (a.tak.getD c ⟨0,0⟩).take
    snd:=(a.snd.dQ ((a.aX.getD c []).getD 0 [])).2
    cT:=a.cT++[(c,(a.aX.getD c []).getD 0 [])] }):=by
  unfold Prt.choose
  exact if_neg h1
 rw [e,h2]
 show ({ a with arb:=_,aX:=a.aX.set c ((a.aX.getD c []).drop 1),tak:=_,snd:=(a.snd.dQ ((a.aX.getD c []).getD 0 [])).2,cT:=a.cT++[(c,(a.aX.getD c []).getD 0 [])] }:Prt)=_
 rw [h3]
 show ({ a with arb:=_,aX:=a.aX.set c dl,tak:=_,snd:=(a.snd.dQ d).2,cT:=a.cT++[(c,d)] }:Prt)=_
 rw [h4]
theorem Prt.choose_inc (p:Prt):p.choose.inc=p.inc:=by
 unfold Prt.choose
 split
 ·rfl
 ·split <;> rfl
theorem Sq.ofSl {α : Type} {E:El α} {f : α -> List Value} {T:TypeId} {w:World} {v:Value} {xs:List α} {B:Nat} (hp:Pure E f) (h:Sl w (fun k=>B<=k) T E.size v xs.length (xs.flatMap f)):Sq E T w (fun k=>B<=k) (fun _=>False) v xs:=
 ⟨fun k=>B<=k/\k < w.heap.size,fun _=>False,xs.flatMap f,fun _ hk=>hk.elim (·.1) False.elim,fun _ _ f=>f,fun _ hk=>hk.2,h.bound,hp.of _ _⟩
section
variable {F Z:BS} {W w:World} {ts:List Th} {p N:Nat} {a:Prt}
theorem rtickP_c (bV:List Pt) (av0:Value) (hok:a.Ok N) (hfit:a.Fit) (hN:N+200*bV.length+1000<=1000000000) (harr:∀x ∈ bV,x.pay.length<=1000) (h:dY F Z W (tRp p a::ts) w) (j:Nat) (hj:ts[j]? = some (tRd ePt av0 bV)) :
  Calls Try.prog 11 #[.pointer (some ⟨p,0,none⟩),av0] w (RTickPost F Z W ts p (a.cR bV)):=by
 obtain ⟨_,_,hrd⟩:=h.get (j+1) (T:=tRd ePt av0 bV) (by simpa using hj)
 obtain ⟨aa,ac,rfl,m1,m2⟩:=RdS.shape hrd
 have HH:=aQ h
 have HOK:=aQ hok
 have HFIT:=aQ hfit
 have HARR:=aQ harr
 have HJ:=aQ hj
 clear hrd h hok harr hj hfit
 go_enter Try.func11,Try.ntmps11
 go_wp2_with fail
 go_loopw [5] (fun i wr=>∃k:Nat,k<=bV.length/\i=.int .i64 (k:Int)/\Hid (dY F Z W (tRp p ((bV.take k).foldl Prt.cU a)::ts) wr)) (fun i _=>bV.length - (intOf i).toNat)
 case atStart=>exact ⟨0,Nat.zero_le _,rfl,HH⟩
 case round=>
  clear HH
  obtain ⟨k,hk,rfl,HK⟩:=hrel
  by_cases hlt:k < bV.length
  ·obtain ⟨x,hx⟩:∃x,bV[k]? = some x:=⟨_,List.getElem?_eq_getElem hlt⟩
   obtain ⟨_,_,hrd⟩:=HK.out.get (j+1) (T:=tRd ePt (.slice aa bV.length ac) bV) (by simpa using HJ.out)
   obtain ⟨b,off,pa,pc,e1,_,k0,k1,k2,k3,k4⟩:=pt_at hrd hx
   subst e1
   have HW:=aQ (HK.out.weak (j+1) (A:=tRd ePt (.slice (some ⟨b,off,none⟩) bV.length ac) bV) (T:=tBy (.slice pa x.pay.length pc) x.pay) (by simpa using HJ.out) fun G Y hon=>by
    obtain ⟨b',off',pa',pc',e',hby,_,_,_,_,k4'⟩:=pt_at (show RdS ePt wr Y _ _ from hon) hx
    obtain ⟨rfl,rfl⟩:b=b'/\off=off':=by simpa using e'
    rw [k4] at k4'
    obtain ⟨rfl,rfl⟩:pa=pa'/\pc=pc':=by simpa using k4'
    exact hby)
   have hokk:=HOK.out.handles (bV.take k) fun y hy=>HARR.out y (List.mem_of_mem_take hy)
   have hfitk:=Prt.Fit.handles (bV.take k) HOK.out (fun y hy=>HARR.out y (List.mem_of_mem_take hy)) HFIT.out
   have hlk:(bV.take k).length<=bV.length:=by rw [List.length_take];omega
   have HQ:=aQ (rhandle_c (ts:=ts++[tBy (.slice pa x.pay.length pc) x.pay]) x (.slice pa x.pay.length pc) hokk (by omega) hfitk (show dY F Z W (tRp p ((bV.take k).foldl Prt.cU a)::(ts++[tBy (.slice pa x.pay.length pc) x.pay])) wr from HW.out) ts.length (by simp) (HARR.out x (List.mem_of_getElem? hx)))
   have HT:=aQ (show (bV.take (k+1)).foldl Prt.cU a=((bV.take k).foldl Prt.cU a).cU x by rw [List.take_add_one,hx,List.foldl_append];rfl)
   clear hrd hx hokk hfitk hlk
   go_wp2_with fail
   refine HQ.out.mono ?_
   rintro e w' ⟨rfl,hh⟩
   have H2:=aQ (show dY F Z W (tRp p ((bV.take (k+1)).foldl Prt.cU a)::ts) w' by
    rw [HT.out]
    exact dY.dropLast (us:=[tRp p (((bV.take k).foldl Prt.cU a).cU x)]) hh)
   clear hh HQ HW k0 k1 k2 k3 k4
   go_wp2_with fail
   go_roundw
   case rel=>exact ⟨k+1,by omega,by go_num,H2⟩
   case measure=>first|(simp [intOf];done)|(simp [intOf];omega)
  ·obtain rfl:bV.length=k:=by omega
   rw [List.take_length] at HK
   have HOK1:=aQ (HOK.out.handles bV HARR.out)
   obtain ⟨a1,ha1⟩:∃a1,a1=bV.foldl Prt.cU a:=⟨_,rfl⟩
   have hfit1:=Prt.Fit.handles bV HOK.out HARR.out HFIT.out
   rw [<-ha1] at HK HOK1 hfit1
   have HFIT1:=aQ hfit1
   have HA1:=aQ ha1
   obtain ⟨y,hst⟩:=HK.out.rp
   obtain ⟨rv,wv,bv,kv,cv,tv,gv,ev,av,sv,nv,hv,ch⟩:=y
   have hrow:=hst.blk 0 rfl
   have c0:wr.cell? ⟨p,0,none⟩=some (.int .i64 (a1.inc:Int)):=aJ hrow rfl
   have c5:wr.cell? ⟨p,5,none⟩=some (.int .i64 (a1.cS.mine:Int)):=aJ hrow rfl
   have c6:wr.cell? ⟨p,6,none⟩=some (.int .i64 (a1.cS.dead:Int)):=aJ hrow rfl
   have c7:wr.cell? ⟨p,7,none⟩=some (.int .i64 (a1.cS.cM:Int)):=aJ hrow rfl
   have c8:wr.cell? ⟨p,8,none⟩=some (.int .i64 (a1.cS.seen:Int)):=aJ hrow rfl
   have c9:wr.cell? ⟨p,9,none⟩=some (.int .i64 (a1.cS.state:Int)):=aJ hrow rfl
   have c10:wr.cell? ⟨p,10,none⟩=some (.int .i64 (a1.cS.silent:Int)):=aJ hrow rfl
   have c11:wr.cell? ⟨p,11,none⟩=some (.int .i64 ch):=aJ hrow rfl
   have H1:=aQ hst
   clear hst hrow ha1 hfit1 HK HOK HARR HFIT
   go_wp2_with fail
   refine (rsideTick_any a1.cS HOK1.out.cS ch wr).mono ?_
   rintro e w2 ⟨ch2,rfl,hb2⟩
   clear c0 c5 c6 c7 c8 c9 c10 c11
   have hst:=H1.out.own hb2
   have hrow:=hst.blk 0 rfl
   have c5:w2.cell? ⟨p,5,none⟩=some (.int .i64 (a1.cS.mine:Int)):=aJ hrow rfl
   have c6:w2.cell? ⟨p,6,none⟩=some (.int .i64 (a1.cS.dead:Int)):=aJ hrow rfl
   have c7:w2.cell? ⟨p,7,none⟩=some (.int .i64 (a1.cS.cM:Int)):=aJ hrow rfl
   have c8:w2.cell? ⟨p,8,none⟩=some (.int .i64 (a1.cS.seen:Int)):=aJ hrow rfl
   have c9:w2.cell? ⟨p,9,none⟩=some (.int .i64 (a1.cS.state:Int)):=aJ hrow rfl
   have c10:w2.cell? ⟨p,10,none⟩=some (.int .i64 (a1.cS.silent:Int)):=aJ hrow rfl
   have c11:w2.cell? ⟨p,11,none⟩=some (.int .i64 ch):=aJ hrow rfl
   have cf:=fun i=>aD hrow i
   obtain ⟨s2,hs2⟩:∃s2,s2=a1.cS.cR:=⟨_,rfl⟩
   have HS2:=aQ hs2
   rw [<-hs2]
   clear hs2
   go_upto_region 7 with fail
   have HS4:=aQ (hst.set 0 rfl (rpRow { a1 with cS:=s2 } ⟨rv,wv,bv,kv,cv,tv,gv,ev,av,sv,nv,hv,ch2⟩) (w':=((((((w2.setCell ⟨p,5,none⟩ (.int .i64 s2.mine)).setCell ⟨p,6,none⟩ (.int .i64 s2.dead)).setCell ⟨p,7,none⟩ (.int .i64 s2.cM)).setCell ⟨p,8,none⟩ (.int .i64 s2.seen)).setCell ⟨p,9,none⟩ (.int .i64 s2.state)).setCell ⟨p,10,none⟩ (.int .i64 s2.silent)).setCell ⟨p,11,none⟩ (.int .i64 ch2)) (by (repeat (first|(with_reducible (first|exact Fr.refl _ _|refine Fr.setCell ?_ ?_ _|refine Fr.drewN ?_ _|refine Fr.drew ?_))|exact Or.inl rfl))) (by (apply aS;focus (with_reducible (repeat (first|exact hrow|apply aU|apply aP|apply aF))));rfl))
   clear hst hrow c5 c6 c7 c8 c9 c10 c11 cf hb2 H1
   generalize World.setCell (World.setCell (World.setCell (World.setCell (World.setCell (World.setCell (World.setCell w2 _ _) _ _) _ _) _ _) _ _) _ _) _ _=w3 at HS4 ⊢
   have H3:=aQ (show dY F Z W (rpThs p { a1 with cS:=s2 } ⟨rv,wv,bv,kv,cv,tv,gv,ev,av,sv,nv,hv,ch2⟩++ts) w3 from HS4.out)
   clear HS4
   have hrow:=H3.out.blk 0 rfl
   have c7:w3.cell? ⟨p,7,none⟩=some (.int .i64 (s2.cM:Int)):=aJ hrow rfl
   clear hrow
   go_upto_region 8 with fail
   have h4:=H3.out.lit_pt (x:=a1.hail) (v:=.slice none 0 0) fun Y=>ByZ.nil _ Y
   rw [show a1.hail=⟨1#8,0,a1.inc,(s2.cM:Int),[]⟩ by rw [HS2.out]] at h4
   change dY F Z W _ (w3.alloc (.cells #[.int .u8 1,.int .i64 0,.int .i64 (a1.inc:Int),.int .i64 (s2.cM:Int),.slice none 0 0] 32)) at h4
   generalize w3.alloc (.cells #[.int .u8 1,.int .i64 0,.int .i64 (a1.inc:Int),.int .i64 (s2.cM:Int),.slice none 0 0] 32)=w4 at h4 ⊢
   generalize w3.heap.size=lb at h4 ⊢
   have HHL:=aQ (show a1.hail=⟨1#8,0,a1.inc,(s2.cM:Int),[]⟩ by rw [HS2.out])
   rw [<-HHL.out] at h4
   have H4:=aQ (show dY F Z W (tSq ePt 32 (.slice (some ⟨lb,0,none⟩) 1 1) [a1.hail]::(rpThs p { a1 with cS:=s2 } ⟨rv,wv,bv,kv,cv,tv,gv,ev,av,sv,nv,hv,ch2⟩++ts)) w4 from h4)
   have hrow:=h4.blk 1 rfl
   have c9:w4.cell? ⟨p,9,none⟩=some (.int .i64 (s2.state:Int)):=aJ hrow rfl
   have c24:w4.cell? ⟨p,24,none⟩=some (.int .i64 (a1.rcv:Int)):=aJ hrow rfl
   have c1:w4.cell? ⟨p,1,none⟩=some rv:=aJ hrow rfl
   obtain ⟨_,_,hr⟩:=h4.get 2 rfl
   obtain ⟨ra,rc,e1,hrc1,hrc2⟩:=RdS.shape (show RdS dK _ _ rv a1.aZ from hr)
   subst e1
   have hbl:a1.aZ.length<=4:=HOK1.out.n4
   clear h4 hrow hr H3 c7
   by_cases hup:s2.state=2
   ·have b1:((s2.state:Int) != 2)=false:=by rw [hup];rfl
    have HUP:=aQ hup
    obtain ⟨rx,hrx⟩:∃rx:Nat,rx=a1.rcv % 256:=⟨_,rfl⟩
    have HRX:=aQ hrx
    have hrxi:(a1.rcv:Int) % 256=(rx:Int):=by omega
    clear hup hrx
    go_upto_region 11 with (at_builtin;refine wpList_app_pt (xs:=[a1.hail]) (x:=⟨3#8,0,(rx:Int),a1.inc,[]⟩) (pa:=none) (pn:=0) (pc:=0) rfl _ _ rfl H4.out 0 rfl (fun Y _=>ByZ.nil _ Y) (aK w4 _) (by simp) rfl w4.heap.size rfl (heap_alloc_new w4 _) ?_;intro sa sc w5 h5;have H5:=aQ h5;clear h5)
    have HL2:=aQ (show [a1.hail]++[(⟨3#8,0,(rx:Int),a1.inc,[]⟩:Pt)]=a1.hail::a1.ackn::(List.range 0).map a1.cred by rw [HRX.out];rfl)
    rw [HL2.out] at H5
    have H6:=aQ (show dY F Z W (tSq ePt 32 (.slice sa (a1.hail::a1.ackn::(List.range 0).map a1.cred).length sc) (a1.hail::a1.ackn::(List.range 0).map a1.cred)::(rpThs p { a1 with cS:=s2 } ⟨.slice ra a1.aZ.length rc,wv,bv,kv,cv,tv,gv,ev,av,sv,nv,hv,ch2⟩++ts)) w5 from H5.out)
    have c1:w5.cell? ⟨p,1,none⟩=some (.slice ra a1.aZ.length rc):=aJ (H6.out.blk 1 rfl) rfl
    clear H5 H4 c9 c24 HL2
    go_wp2_with (at_make;refine wpList_mkH (E:=eBool) slBool rfl (a0:=false) (fun _ _=>rfl) rfl _ _ rfl a1.aZ.length rfl rfl (by omega) (by unfold maxLen;omega) ?_;intro w6 hb6 hs6;obtain ⟨qb,hqb⟩:∃qb,qb=w5.heap.size:=⟨_,rfl⟩;rw [<-hqb] at hs6 ⊢;have H7:=aQ ((H6.out.add hb6 (T:=tSq eBool 4 (.slice (some ⟨qb,0,none⟩) a1.aZ.length a1.aZ.length) (List.replicate a1.aZ.length false)) (by rw [hqb] at hs6 ⊢;exact hs6)).front);clear hb6 hs6 hqb c1)
    go_loopw [9,7] (fun i u7 wr=>∃(k:Nat) (l:List Pt) (sa:Option Addr) (sc:Nat),k<=a1.aZ.length/\i=.int .i64 (k:Int)/\u7=.slice sa l.length sc/\Hid (l=a1.hail::a1.ackn::(List.range k).map a1.cred)/\l.length<=6/\Hid (dY F Z W (tSq eBool 4 (.slice (some ⟨qb,0,none⟩) a1.aZ.length a1.aZ.length) (upTo a1.aZ.length (askC a1) (fun _=>false) k)::tSq ePt 32 (.slice sa l.length sc) l::(rpThs p { a1 with cS:=s2 } ⟨.slice ra a1.aZ.length rc,wv,bv,kv,cv,tv,gv,ev,av,sv,nv,hv,ch2⟩++ts)) wr)) (fun i _ _=>a1.aZ.length - (intOf i).toNat)
    case atStart=>exact ⟨0,_,sa,sc,Nat.zero_le _,rfl,rfl,aQ rfl,by simp,aQ (by rw [upTo_zero,show (List.range a1.aZ.length).map (fun _=>false)=List.replicate a1.aZ.length false by rw [List.map_const',List.length_range]];exact H7.out)⟩
    case round=>
     clear H7 H6
     obtain ⟨k,l,ua,uc,hk,rfl,rfl,HLL,hl6,HK⟩:=hrel
     by_cases hlt:k < a1.aZ.length
     ·-- DEVSTOP
      have hrow:=HK.out.blk 2 rfl
      have c26:wr.cell? ⟨p,26,none⟩=some gv:=aJ hrow rfl
      have c27:wr.cell? ⟨p,27,none⟩=some ev:=aJ hrow rfl
      obtain ⟨_,_,hgv⟩:=HK.out.get 9 rfl
      have hg:=bT (d:=(⟨0,0,0⟩:Giv)) (show k < a1.giv.length by rw [HOK1.out.gl];exact hlt)
      have hgb:=HOK1.out.giv _ (List.mem_of_getElem? hg)
      obtain ⟨gb,go',gc,e3,_,_⟩:=bR (show Sq eGv 100 wr _ _ gv a1.giv from hgv) (by rw [HOK1.out.gl];omega)
      subst e3
      have hg3:=gv_cells (show Sq eGv 100 wr _ _ (.slice (some ⟨gb,go',none⟩) a1.giv.length gc) a1.giv from hgv) hg
      obtain ⟨_,_,hbs⟩:=HK.out.get 10 rfl
      obtain ⟨eb,eo,ec,e4,_,_⟩:=bR (show Sq dK 3 wr _ _ ev a1.base from hbs) (by rw [HOK1.out.sl];omega)
      subst e4
      have hz:=bT (d:=0) (show k < a1.base.length by rw [HOK1.out.sl];exact hlt)
      have hzb:=HOK1.out.bas _ (List.mem_of_getElem? hz)
      have hzc:=nat_cell (show Sq dK 3 wr _ _ (.slice (some ⟨eb,eo,none⟩) a1.base.length ec) a1.base from hbs) hz
      obtain ⟨z,hzz⟩:∃z,z=a1.base.getD k 0:=⟨_,rfl⟩
      obtain ⟨g,hgg⟩:∃g,g=a1.giv.getD k ⟨0,0,0⟩:=⟨_,rfl⟩
      rw [<-hzz] at hzb hzc
      rw [<-hgg] at hgb hg3
      have HGG:=aQ hgg
      have HZZ:=aQ hzz
      have HCR:=aQ (show (⟨4#8,(k:Int),(g.cE:Int) - (z:Int),a1.inc,[]⟩:Pt)=a1.cred k by
       unfold Prt.cred
       rw [<-hgg,<-hzz])
      have hlb:g.cE<=2000000000:=by unfold Giv.cE;omega
      rw [HOK1.out.gl] at c26
      rw [HOK1.out.sl] at c27
      have hki:(k:Int) < (a1.aZ.length:Int):=by omega
      clear hrow hgv hg hbs hz hzz hgg
      go_wp2_with fail
      refine wp_region_held_drew (S:=fun w'=>w'.cell? ⟨p,26,none⟩=some (.slice (some ⟨gb,go',none⟩) a1.aZ.length gc)/\w'.cell? ⟨p,27,none⟩=some (.slice (some ⟨eb,eo,none⟩) a1.aZ.length ec)/\(w'.cell? ⟨gb,go'+k*3,none⟩=some (.int .i64 (g.room:Int))/\w'.cell? ⟨gb,go'+k*3+1,none⟩=some (.int .i64 (g.aW:Int))/\w'.cell? ⟨gb,go'+k*3+2,none⟩=some (.int .i64 (g.cI:Int)))/\w'.cell? ⟨eb,eo+k,none⟩=some (.int .i64 (z:Int))) (by kernel_rfl) ⟨c26,c27,hg3,hzc⟩ (fun hS0=>?_)
      change wpAnyH _ _ _ _ _ (14+9) _ _ _
      refine aH 0 9 (by kernel_rfl) hS0 (fun _ _ _ _ _ h=>h) ?_
      simp only [List.drop_zero,List.take_succ_cons,List.take_zero]
      iterate 9 (refine aR (v:=?_) (by rfl) ?_ ?_;rotate_left 1;(focus ((intro w' hS';obtain ⟨l1,l2,⟨l3,l4,l5⟩,l6⟩:=hS';go_simp);try with_reducible rfl));simp only [Act.put,List.setIfInBounds_toArray,List.set_cons_zero,List.set_cons_succ])
      refine aT ?_
      change wpAnyH _ _ _ _ _ (7+7) _ _ _
      refine aH 10 7 (by kernel_rfl) hS0 (fun _ _ _ _ _ h=>h) ?_
      simp only [List.drop_succ_cons,List.drop_zero,List.take_succ_cons,List.take_zero]
      iterate 7 (refine aR (v:=?_) (by rfl) ?_ ?_;rotate_left 1;(focus ((intro w' hS';obtain ⟨l1,l2,⟨l3,l4,l5⟩,l6⟩:=hS';go_simp);try with_reducible rfl));simp only [Act.put,List.setIfInBounds_toArray,List.set_cons_zero,List.set_cons_succ])
      refine aT ?_
      change wpAnyH _ _ _ _ _ (6+1) _ _ _
      refine aH 18 1 (by kernel_rfl) hS0 (fun _ _ _ _ _ h=>h) ?_
      simp only [List.drop_succ_cons,List.drop_zero,List.take_succ_cons,List.take_zero]
      (refine aR (v:=?_) (by rfl) ?_ ?_;rotate_left 1;(focus ((intro w' hS';go_simp);try with_reducible rfl));simp only [Act.put,List.setIfInBounds_toArray,List.set_cons_zero,List.set_cons_succ])
      refine aT ?_
      refine aM 9 (by kernel_rfl) rfl (fun K hK=>?_)
      (refine step_call (f:=?_) (args:=?_) (by rfl) ?_ ?_;rotate_left 2;(focus (go_simp;first|(with_reducible rfl)|(refine ⟨?_,?_⟩ <;> with_reducible rfl)));(refine (rlimit_any g (by unfold Giv.cE at hlb;exact hlb) _).mono ?_);rintro e w6 ⟨rfl,hb6⟩)
      refine ⟨_,rfl,?_⟩
      simp only [Act.put,List.setIfInBounds_toArray,List.set_cons_zero,List.set_cons_succ]
      have hb7:Below wr.heap.size wr w6:=Below.trans (by (with_reducible (repeat (first|exact Below.refl _ _|refine Bw.alloc ?_ _|refine Bw.drewN ?_ _|refine Bw.drew ?_)))) hb6
      have hS6:w6.cell? ⟨p,26,none⟩=some (.slice (some ⟨gb,go',none⟩) a1.aZ.length gc)/\w6.cell? ⟨p,27,none⟩=some (.slice (some ⟨eb,eo,none⟩) a1.aZ.length ec)/\(w6.cell? ⟨gb,go'+k*3,none⟩=some (.int .i64 (g.room:Int))/\w6.cell? ⟨gb,go'+k*3+1,none⟩=some (.int .i64 (g.aW:Int))/\w6.cell? ⟨gb,go'+k*3+2,none⟩=some (.int .i64 (g.cI:Int)))/\w6.cell? ⟨eb,eo+k,none⟩=some (.int .i64 (z:Int)):=
       ⟨(World.cell?_of_block (hb7.block _ (World.block_lt_of_cell? _ _ c26))).trans c26,(World.cell?_of_block (hb7.block _ (World.block_lt_of_cell? _ _ c27))).trans c27,⟨(World.cell?_of_block (hb7.block _ (World.block_lt_of_cell? _ _ hg3.1))).trans hg3.1,(World.cell?_of_block (hb7.block _ (World.block_lt_of_cell? _ _ hg3.2.1))).trans hg3.2.1,(World.cell?_of_block (hb7.block _ (World.block_lt_of_cell? _ _ hg3.2.2))).trans hg3.2.2⟩,(World.cell?_of_block (hb7.block _ (World.block_lt_of_cell? _ _ hzc))).trans hzc⟩
      refine hK.out _ _ hS6 ?_
      clear hK K c26 c27 hg3 hzc hS0 hb6
      have H8:=aQ (HK.out.own hb7)
      have hlim2:(g.cE:Int)<=2000000000:=by omega
      have hlim0:0<=(g.cE:Int):=by omega
      have hzi:(z:Int)<=1000000000:=by omega
      have hz0:0<=(z:Int):=by omega
      generalize (g.cE:Int)=lim at *
      have hwrp:IntKind.i64.wrap (lim - (z:Int))=lim - (z:Int):=IntWalk.i64_in _ (by omega)
      refine aM 17 (by kernel_rfl) rfl (fun K hK=>?_)
      go_simp
      refine hK.out _ _ hS6 ?_
      clear hK K
      refine aM 19 (by kernel_rfl) rfl (fun K hK=>?_)
      go_simp
      refine hK.out _ _ hS6 ?_
      clear hK K
      refine aM 20 (by kernel_rfl) rfl (fun K hK=>?_)
      go_simp
      obtain ⟨s1,s2',⟨s3,s4,s5⟩,s6⟩:=hS6
      refine hK.out _ _ ⟨aI _ _ s1,aI _ _ s2',⟨aI _ _ s3,aI _ _ s4,aI _ _ s5⟩,aI _ _ s6⟩ ?_
      clear hK K
      refine aM 21 (by kernel_rfl) rfl (fun K hK=>?_)
      refine step_app_pt (xs:=l) (x:=⟨4#8,(k:Int),lim - (z:Int),a1.inc,[]⟩) (pa:=none) (pn:=0) (pc:=0) rfl _ _ rfl H8.out 1 rfl (fun Y _=>ByZ.nil _ Y) (aK w6 _) (by omega) rfl w6.heap.size rfl (heap_alloc_new w6 _) ?_
      intro va vc w7 h7
      have hrow:=h7.blk 2 rfl
      have hS7:w7.cell? ⟨p,26,none⟩=some (.slice (some ⟨gb,go',none⟩) a1.aZ.length gc)/\w7.cell? ⟨p,27,none⟩=some (.slice (some ⟨eb,eo,none⟩) a1.aZ.length ec)/\(w7.cell? ⟨gb,go'+k*3,none⟩=some (.int .i64 (g.room:Int))/\w7.cell? ⟨gb,go'+k*3+1,none⟩=some (.int .i64 (g.aW:Int))/\w7.cell? ⟨gb,go'+k*3+2,none⟩=some (.int .i64 (g.cI:Int)))/\w7.cell? ⟨eb,eo+k,none⟩=some (.int .i64 (z:Int)):=by
       have q26:w7.cell? ⟨p,26,none⟩=some (.slice (some ⟨gb,go',none⟩) a1.giv.length gc):=aJ hrow rfl
       have q27:w7.cell? ⟨p,27,none⟩=some (.slice (some ⟨eb,eo,none⟩) a1.base.length ec):=aJ hrow rfl
       rw [HOK1.out.gl] at q26
       rw [HOK1.out.sl] at q27
       obtain ⟨_,_,hgv⟩:=h7.get 9 rfl
       obtain ⟨_,_,hbs⟩:=h7.get 10 rfl
       have e1:=gv_cells (show Sq eGv 100 w7 _ _ (.slice (some ⟨gb,go',none⟩) a1.giv.length gc) a1.giv from hgv) (bT (d:=(⟨0,0,0⟩:Giv)) (show k < a1.giv.length by rw [HOK1.out.gl];exact hlt))
       have e2:=nat_cell (show Sq dK 3 w7 _ _ (.slice (some ⟨eb,eo,none⟩) a1.base.length ec) a1.base from hbs) (bT (d:=0) (show k < a1.base.length by rw [HOK1.out.sl];exact hlt))
       rw [<-HGG.out] at e1
       rw [<-HZZ.out] at e2
       exact ⟨q26,q27,e1,e2⟩
      refine hK.out _ _ hS7 ?_
      clear hK K hrow
      simp only [Act.put,List.setIfInBounds_toArray,List.set_cons_zero,List.set_cons_succ]
      refine aM 22 (by kernel_rfl) rfl (fun K hK=>?_)
      go_simp
      refine hK.out _ _ hS7 ?_
      clear hK K hS7
      refine wpAnyH_done (by kernel_rfl) ?_ _
      have HL7:=aQ (show l++[(⟨4#8,(k:Int),lim - (z:Int),a1.inc,[]⟩:Pt)]=a1.hail::a1.ackn::(List.range (k+1)).map a1.cred by
       rw [HLL.out,HCR.out,List.range_succ,List.map_append];rfl)
      rw [HL7.out] at h7
      obtain ⟨l',hl'⟩:∃l',l'=a1.hail::a1.ackn::(List.range (k+1)).map a1.cred:=⟨_,rfl⟩
      have hlen:l.length+1=l'.length:=by rw [hl',<-HL7.out];simp
      have hl6':l'.length<=6:=by rw [hl'];simp;omega
      rw [<-hl'] at h7
      have H8:=aQ (show dY F Z W (tSq eBool 4 (.slice (some ⟨qb,0,none⟩) a1.aZ.length a1.aZ.length) (upTo a1.aZ.length (askC a1) (fun _=>false) k)::tSq ePt 32 (.slice va l'.length vc) l'::(rpThs p { a1 with cS:=s2 } ⟨.slice ra a1.aZ.length rc,wv,bv,kv,cv,tv,.slice (some ⟨gb,go',none⟩) a1.giv.length gc,.slice (some ⟨eb,eo,none⟩) a1.base.length ec,av,sv,nv,hv,ch2⟩++ts)) w7 from h7)
      have HLL':=aQ hl'
      rw [hlen]
      clear h7 hl' HL7 hlen s1 s2' s3 s4 s5 s6
      have hrow:=H8.out.blk 2 rfl
      have c12:w7.cell? ⟨p,12,none⟩=some wv:=aJ hrow rfl
      have c25:w7.cell? ⟨p,25,none⟩=some tv:=aJ hrow rfl
      obtain ⟨_,_,hwt⟩:=H8.out.get 4 rfl
      obtain ⟨wb,wo,wk,e5,_,_⟩:=bR (show Sq (eSq eBy 27) 54 w7 _ _ wv a1.aX from hwt) (by rw [HOK1.out.wl];omega)
      subst e5
      have hx:=bT (d:=[]) (show k < a1.aX.length by rw [HOK1.out.wl];exact hlt)
      have hln:=HOK1.out.wln _ (List.mem_of_getElem? hx)
      obtain ⟨xv,_,hxv,hsq,_⟩:=sqsq_at (show Sq (eSq eBy 27) 54 w7 _ _ (.slice (some ⟨wb,wo,none⟩) a1.aX.length wk) a1.aX from hwt) hx
      obtain ⟨xa,xc,rfl⟩:=hsq.shape
      obtain ⟨_,_,htk⟩:=H8.out.get 8 rfl
      obtain ⟨tb,tO,tc,e6,_,_⟩:=bR (show Sq eTk 102 w7 _ _ tv a1.tak from htk) (by rw [HOK1.out.tl];omega)
      subst e6
      have htg:=bT (d:=(⟨0,0⟩:Tak)) (show k < a1.tak.length by rw [HOK1.out.tl];exact hlt)
      obtain ⟨t1,t2⟩:=tk_cells (show Sq eTk 102 w7 _ _ (.slice (some ⟨tb,tO,none⟩) a1.tak.length tc) a1.tak from htk) htg
      obtain ⟨_,_,hrq⟩:=H8.out.get 0 rfl
      have hrf:=(Sq.free (show Sq eBool 4 w7 _ _ (.slice (some ⟨qb,0,none⟩) a1.aZ.length a1.aZ.length) _ from hrq)).2.2.2
      have hrcq:=bool_cell hrq (upTo_get hlt)
      rw [Nat.zero_add] at hrcq
      obtain ⟨ln,hln2⟩:∃ln,ln=(a1.aX.getD k []).length:=⟨_,rfl⟩
      have HLN:=aQ hln2
      rw [<-hln2] at hxv hln
      rw [HOK1.out.wl] at c12
      rw [HOK1.out.tl] at c25
      have HPUT:=aQ (show dY F Z W (tSq eBool 4 (.slice (some ⟨qb,0,none⟩) a1.aZ.length a1.aZ.length) (upTo a1.aZ.length (askC a1) (fun _=>false) (k+1))::tSq ePt 32 (.slice va l'.length vc) l'::(rpThs p { a1 with cS:=s2 } ⟨.slice ra a1.aZ.length rc,(.slice (some ⟨wb,wo,none⟩) a1.aX.length wk),bv,kv,cv,(.slice (some ⟨tb,tO,none⟩) a1.tak.length tc),.slice (some ⟨gb,go',none⟩) a1.giv.length gc,.slice (some ⟨eb,eo,none⟩) a1.base.length ec,av,sv,nv,hv,ch2⟩++ts)) (w7.drew.setCell ⟨qb,k,none⟩ (.bool (askC a1 k))) from by
       have:=put_bool H8.out.drew 0 rfl (c:=k) (y:=askC a1 k) (by rw [upTo_length];exact hlt)
       rw [upTo_set (f:=askC a1),Nat.zero_add] at this
       exact this)
      clear hrow hwt hx hsq htk htg hrq hln2 H8 HK
      obtain ⟨sn,hsn⟩:∃sn,sn=(a1.tak.getD k ⟨0,0⟩).cP:=⟨_,rfl⟩
      obtain ⟨lm,hlm⟩:∃lm,lm=(a1.tak.getD k ⟨0,0⟩).cE:=⟨_,rfl⟩
      rw [<-hsn] at t1
      rw [<-hlm] at t2
      have HAS:=aQ (show askC a1 k=(decide (0 < ln) && decide (sn < lm)) by unfold askC;rw [<-HLN.out,<-hsn,<-hlm])
      clear hsn hlm
      go_wp2_with fail
      by_cases h0:ln=0
      ·have HB:=aQ (show askC a1 k=false by rw [HAS.out,h0];rfl)
       rw [HB.out] at HPUT
       subst h0
       refine wp_region_lag 31 (S:=fun w'=>w'.cell? ⟨p,12,none⟩=some (.slice (some ⟨wb,wo,none⟩) a1.aZ.length wk)/\w'.cell? ⟨p,25,none⟩=some (.slice (some ⟨tb,tO,none⟩) a1.aZ.length tc)/\w'.cell? ⟨wb,wo+k,none⟩=some (.slice xa 0 xc)/\w'.cell? ⟨tb,tO+k*2,none⟩=some (.int .i64 (sn:Int))/\w'.cell? ⟨tb,tO+k*2+1,none⟩=some (.int .i64 (lm:Int))) (by kernel_rfl) ⟨c12,c25,hxv,t1,t2⟩ (fun hS0=>?_)
       change wpAnyL _ _ _ _ _ _ (1+31) _ _ _
       refine wpAnyL_take_n 0 31 (by kernel_rfl) hS0 (fun _ _ _ _ _ h=>h) ?_
       simp only [List.drop_zero,List.take_succ_cons,List.take_zero]
       iterate 31 (first|(refine aR (v:=?_) (by rfl) ?_ ?_;rotate_left 1;(focus ((intro w' hS';obtain ⟨l1,l2,l3,l4,l5⟩:=hS';go_simp);try with_reducible rfl));simp only [Act.put,List.setIfInBounds_toArray,List.set_cons_zero,List.set_cons_succ])|(refine wpFirst_un (by rfl) ?_;simp only [Act.put,List.setIfInBounds_toArray,List.set_cons_zero,List.set_cons_succ]))
       refine aT ?_
       refine wpAnyL_one 31 (by kernel_rfl) rfl (fun K hK=>?_)
       go_simp
       refine hK.out _ _ (fun e=>absurd rfl e) ?_
       clear hK K
       refine wpAnyL_done (by kernel_rfl) ?_ _
       go_wp2_with fail
       go_roundw
       case rel=>exact ⟨k+1,l',va,vc,by omega,by go_num,rfl,HLL',hl6',HPUT⟩
       case measure=>first|(simp [intOf];done)|(simp [intOf];omega)
      ·have hlp:0 < (ln:Int):=by omega
       have hlq:0 < ln:=by omega
       have hlr:decide ((0:Int) < (ln:Int))=true:=decide_eq_true hlp
       have HB:=aQ (show askC a1 k=decide (sn < lm) by rw [HAS.out,show decide (0 < ln)=true from decide_eq_true (by omega),Bool.true_and])
       rw [HB.out] at HPUT
       refine wp_region_lag 31 (S:=fun w'=>w'.cell? ⟨p,12,none⟩=some (.slice (some ⟨wb,wo,none⟩) a1.aZ.length wk)/\w'.cell? ⟨p,25,none⟩=some (.slice (some ⟨tb,tO,none⟩) a1.aZ.length tc)/\w'.cell? ⟨wb,wo+k,none⟩=some (.slice xa ln xc)/\w'.cell? ⟨tb,tO+k*2,none⟩=some (.int .i64 (sn:Int))/\w'.cell? ⟨tb,tO+k*2+1,none⟩=some (.int .i64 (lm:Int))) (by kernel_rfl) ⟨c12,c25,hxv,t1,t2⟩ (fun hS0=>?_)
       change wpAnyL _ _ _ _ _ _ (1+31) _ _ _
       refine wpAnyL_take_n 0 31 (by kernel_rfl) hS0 (fun _ _ _ _ _ h=>h) ?_
       simp only [List.drop_zero,List.take_succ_cons,List.take_zero]
       iterate 31 (first|(refine aR (v:=?_) (by rfl) ?_ ?_;rotate_left 1;(focus ((intro w' hS';obtain ⟨l1,l2,l3,l4,l5⟩:=hS';go_simp);try with_reducible rfl));simp only [Act.put,List.setIfInBounds_toArray,List.set_cons_zero,List.set_cons_succ])|(refine wpFirst_un (by rfl) ?_;simp only [Act.put,List.setIfInBounds_toArray,List.set_cons_zero,List.set_cons_succ]))
       refine aT ?_
       refine wpAnyL_one 31 (by kernel_rfl) rfl (fun K hK=>?_)
       go_simp
       refine hK.out _ _ (fun e=>absurd rfl e) ?_
       clear hK K
       refine wpAnyL_done (by kernel_rfl) ?_ _
       go_wp2_with fail
       go_roundw
       case rel=>exact ⟨k+1,l',va,vc,by omega,by go_num,rfl,HLL',hl6',HPUT⟩
       case measure=>first|(simp [intOf];done)|(simp [intOf];omega)
     ·obtain rfl:a1.aZ.length=k:=by omega
      have h5:=HK.out
      rw [requests_eq HOK1.out.wl] at h5
      obtain ⟨M,hM⟩:∃M,M=N+200*bV.length:=⟨_,rfl⟩
      have hokA:Prt.Ok M { a1 with cS:=s2 }:=by rw [hM,HS2.out];exact HOK1.out.sideTick
      obtain ⟨a2,ha2⟩:∃a2:Prt,a2={ a1 with cS:=s2 }:=⟨_,rfl⟩
      have HA2:=aQ ha2
      rw [<-ha2] at hokA
      have HOK2:=aQ hokA
      have h6:dY F Z W (tRp p a2::(ts++([tSq eBool 4 (.slice (some ⟨qb,0,none⟩) a2.aZ.length a2.aZ.length) a2.bK]++[tSq ePt 32 (.slice ua l.length uc) l]))) wr:=by
       subst ha2
       refine dY.rp_shut (x:=⟨.slice ra a1.aZ.length rc,wv,bv,kv,cv,tv,gv,ev,av,sv,nv,hv,ch2⟩) ?_
       rw [<-List.append_assoc,<-List.append_assoc]
       exact h5.rear.rear
      have HLB:=aQ (show l=a1.hail::a1.ackn::(List.range a1.base.length).map a1.cred by rw [HLL.out,HOK1.out.sl])
      have hrl:a2.aZ.length=a1.aZ.length:=by rw [ha2]
      have hincE:(a1.inc:Int)=(a2.inc:Int):=by rw [ha2]
      have HM:=aQ hM
      have HRL:=aQ hrl
      rw [<-hrl] at hk ⊢
      rw [hincE]
      have HINC:=aQ hincE
      have HTU:=aQ (Prt.tick_up HA1.out (show a1.cS.cR.state=2 by rw [<-HS2.out];exact HUP.out))
      have H6:=aQ h6
      clear h5 hokA h6 HK hM ha2 hrl hincE b1 hbl hk hlt hrxi
      obtain ⟨TR,hTR⟩:∃TR,TR=tSq eBool 4 (.slice (some ⟨qb,0,none⟩) a2.aZ.length a2.aZ.length) a2.bK:=⟨_,rfl⟩
      obtain ⟨TL,hTL⟩:∃TL,TL=tSq ePt 32 (.slice ua l.length uc) l:=⟨_,rfl⟩
      have HTR:=aQ hTR
      have HTL:=aQ hTL
      rw [<-hTR,<-hTL] at H6
      clear hTR hTL
      obtain ⟨y2,hst⟩:=H6.out.rp
      obtain ⟨rv,wv,bv,kv,cv,tv,gv,ev,av,sv,nv,hv,ch⟩:=y2
      have hrow:=hst.blk 0 rfl
      have c2:wr.cell? ⟨p,2,none⟩=some (.int .i64 (a2.cA:Int)):=aJ hrow rfl
      obtain ⟨_,_,hb4⟩:=hst.get 4 rfl
      obtain ⟨ka,kc,e4,q1,q1',_⟩:=(show Sq eBy 27 wr _ _ kv a2.snd.cT from hb4).le
      subst e4
      have c17:wr.cell? ⟨p,17,none⟩=some (.slice ka a2.snd.cT.length kc):=aJ hrow rfl
      have n1:=HOK2.out.n1;have n4:=HOK2.out.n4
      clear hst hrow hb4
      go_upto_region 17 with fail
      by_cases hfull:a2.cA<=a2.snd.cT.length
      focus
        have HG:=aQ (show a2.choose=a2 by unfold Prt.choose;rw [if_pos hfull])
        have hfi:decide ((a2.snd.cT.length:Int) < (a2.cA:Int))=false:=by simp;omega
        have hfn:decide (a2.snd.cT.length < a2.cA)=false:=by simp;omega
        have hfm:¬(a2.snd.cT.length < a2.cA):=by omega
        clear hfull
        go_wp2_with fail
        go_quiet (fail)
        generalize hwc:World.drewN wr _=wc
        have HC:=aQ (show dY F Z W (tRp p a2.choose::(ts++([TR]++[TL]))) wc by rw [HG.out,<-hwc];exact H6.out.own (bS _ _))
        clear hwc HG H6 c2 c17
        go_upto_region 24 with fail
      rotate_left
      focus
        have hfi:decide ((a2.snd.cT.length:Int) < (a2.cA:Int))=true:=by simp;omega
        have HROOM:=aQ hfull
        have hfj:(a2.snd.cT.length:Int) < (a2.cA:Int):=by omega
        have hfk:a2.snd.cT.length < a2.cA:=by omega
        have hfn:decide (a2.snd.cT.length < a2.cA)=true:=decide_eq_true hfk
        clear hfull
        go_wp2_with fail
        go_quiet (fail)
        generalize hw7:World.drewN wr _=w7
        have H7:=aQ (show dY F Z W (tRp p a2::(ts++([TR]++[TL]))) w7 by rw [<-hw7];exact H6.out.own (bS _ _))
        clear hw7 H6 c2 c17
        go_wp2_with fail
        have hrq:a2.bK.length=a2.aZ.length:=by unfold Prt.bK;simp [HOK2.out.wl]
        refine (rpick_c (T := 4) (req:=a2.bK) (qv:=.slice (some ⟨qb,0,none⟩) a2.aZ.length a2.aZ.length) H7.out ts.length (by rw [HTR.out];simp) (by rw [hrq];exact HOK2.out.arb)).mono ?_
        rintro e w8 ⟨rfl,hh⟩
        have HH:=aQ hh
        clear hh
        cases hpk:(a2.arb.pick a2.bK).1
        focus
         have HG:=aQ (show a2.choose={ a2 with arb:=(a2.arb.pick a2.bK).2 } by unfold Prt.choose;rw [if_neg HROOM.out,hpk])
         have hcn:chNum none = -1:=rfl
         rw [hcn]
         clear hcn hpk
         have HC:=aQ (show dY F Z W (tRp p a2.choose::(ts++([TR]++[TL]))) w8 by rw [HG.out];exact HH.out)
         clear HH HG
         generalize w8=wc at HC ⊢
         go_upto_region 24 with fail
        rotate_left
        focus
         rename_i c
         have hps:=Prt.pick_some HOK2.out hpk
         have hcn:chNum (some c)=(c:Int):=rfl
         have HPK:=aQ hpk
         rw [hcn]
         clear hcn hpk
         obtain ⟨hcl,hwc,htk⟩:=hps
         obtain ⟨a3,ha3⟩:∃a3:Prt,a3={ a2 with arb:=(a2.arb.pick a2.bK).2 }:=⟨_,rfl⟩
         rw [<-ha3] at HH
         have HA3:=aQ ha3
         clear ha3
         have h3tl:a3.tak.length=a3.aZ.length:=by rw [HA3.out];exact HOK2.out.tl
         have h3wl:a3.aX.length=a3.aZ.length:=by rw [HA3.out];exact HOK2.out.wl
         have h3n4:a3.aZ.length<=4:=by rw [HA3.out];exact n4
         have hcl3:c < a3.aZ.length:=by rw [HA3.out];exact hcl
         obtain ⟨y3,hst⟩:=HH.out.rp
         obtain ⟨rv,wv,bv,kv,cv,tv,gv,ev,av,sv,nv,hv,ch⟩:=y3
         have hg:=bT (d:=(⟨0,0⟩:Tak)) (show c < a3.tak.length by omega)
         obtain ⟨_,_,hb6⟩:=hst.get 6 rfl
         obtain ⟨tb,tO,tc,e6,m6,m6'⟩:=bR (show Sq eTk 102 w8 _ _ tv a3.tak from hb6) (by omega)
         subst e6
         obtain ⟨t1,t2⟩:=tk_cells (show Sq eTk 102 w8 _ _ (.slice (some ⟨tb,tO,none⟩) a3.tak.length tc) a3.tak from hb6) hg
         have c25:w8.cell? ⟨p,25,none⟩=some (.slice (some ⟨tb,tO,none⟩) a3.tak.length tc):=aJ (hst.blk 0 rfl) rfl
         obtain ⟨g,hgg⟩:∃g,g=a3.tak.getD c ⟨0,0⟩:=⟨_,rfl⟩
         have HGG:=aQ hgg
         have hgl:g.cE<=1099511627776:=by rw [hgg,HA3.out];exact (HOK2.out.tak _ (List.mem_of_getElem? (bT (d:=(⟨0,0⟩:Tak)) (show c < a2.tak.length by rw [HOK2.out.tl];exact hcl)))).2
         rw [<-hgg] at t1 t2
         have HGET:=aQ hg
         rw [h3tl] at c25 m6
         have hci:(c:Int) < (a3.aZ.length:Int):=by omega
         have HST:=aQ hst
         clear hst hb6 hg hgg HH
         go_wp2_with fail
         refine wp_region_lag 17 (S:=fun w'=>w'.cell? ⟨p,25,none⟩=some (.slice (some ⟨tb,tO,none⟩) a3.aZ.length tc)/\w'.cell? ⟨tb,tO+c*2,none⟩=some (.int .i64 (g.cP:Int))/\w'.cell? ⟨tb,tO+c*2+1,none⟩=some (.int .i64 (g.cE:Int))) (by kernel_rfl) ⟨c25,t1,t2⟩ (fun hS0=>?_)
         change wpAnyL _ _ _ _ _ _ (6+12) _ _ _
         refine wpAnyL_take_n 0 12 (by kernel_rfl) hS0 (fun _ _ _ _ _ h=>h) ?_
         simp only [List.drop_zero,List.take_succ_cons,List.take_zero]
         iterate 12 (refine aR (v:=?_) (by rfl) ?_ ?_;rotate_left 1;(focus ((intro w' hS';obtain ⟨l1,l2,l3⟩:=hS';go_simp);try with_reducible rfl));simp only [Act.put,List.setIfInBounds_toArray,List.set_cons_zero,List.set_cons_succ])
         refine aT ?_
         refine wpAnyL_one 12 (by kernel_rfl) rfl (fun K hK=>?_)
         (refine step_call (f:=?_) (args:=?_) (by rfl) ?_ ?_;rotate_left 2;(focus (go_simp;first|(with_reducible rfl)|(refine ⟨?_,?_⟩ <;> with_reducible rfl)));(refine (rtake_any g hgl _).mono ?_);rintro e w9 ⟨⟨r9,rfl⟩,hb9⟩)
         refine ⟨_,rfl,?_⟩
         simp only [Act.put,List.setIfInBounds_toArray,List.set_cons_zero,List.set_cons_succ]
         have hb10:Below w8.heap.size w8 w9:=Below.trans (by (with_reducible (repeat (first|exact Below.refl _ _|refine Bw.alloc ?_ _|refine Bw.drewN ?_ _|refine Bw.drew ?_)))) hb9
         have hs9:=HST.out.own hb10
         have d25:w9.cell? ⟨p,25,none⟩=some (.slice (some ⟨tb,tO,none⟩) a3.aZ.length tc):=(World.cell?_of_block (hb10.block _ (World.block_lt_of_cell? _ _ c25))).trans c25
         have e1:w9.cell? ⟨tb,tO+c*2,none⟩=some (.int .i64 (g.cP:Int)):=(World.cell?_of_block (hb10.block _ (World.block_lt_of_cell? _ _ t1))).trans t1
         have e2:w9.cell? ⟨tb,tO+c*2+1,none⟩=some (.int .i64 (g.cE:Int)):=(World.cell?_of_block (hb10.block _ (World.block_lt_of_cell? _ _ t2))).trans t2
         have hgf:∀j,w9.frozen? ⟨tb,j,none⟩=false:=by
          obtain ⟨_,_,hb⟩:=hs9.get 6 rfl
          exact (Sq.free (show Sq eTk 102 w9 _ _ (.slice (some ⟨tb,tO,none⟩) a3.tak.length tc) a3.tak from hb)).2.2.2
         have HS4:=aQ (hs9.putK 6 rfl HGET.out g.take)
         refine hK.out _ _ (fun _=>⟨d25,e1,e2⟩) ?_
         clear hK K hb9 hb10 hs9 hS0 c25 t1 t2
         refine wpAnyL_pure 13 (by kernel_rfl) rfl (fun _=>⟨d25,e1,e2⟩) (fun _ _ _ _ _ h=>h) ?_
         (refine aR (v:=?_) (by rfl) ?_ ?_;rotate_left 1;(focus ((intro w' hS';go_simp);try with_reducible rfl));simp only [Act.put,List.setIfInBounds_toArray,List.set_cons_zero,List.set_cons_succ])
         refine aT ?_
         refine wpAnyL_pure 14 (by kernel_rfl) rfl (fun _=>⟨d25,e1,e2⟩) (fun _ _ _ _ _ h=>h) ?_
         (refine aR (v:=?_) (by rfl) ?_ ?_;rotate_left 1;(focus ((intro w' hS';go_simp);try with_reducible rfl));simp only [Act.put,List.setIfInBounds_toArray,List.set_cons_zero,List.set_cons_succ])
         refine aT ?_
         refine wpAnyL_pure 15 (by kernel_rfl) rfl (fun _=>⟨d25,e1,e2⟩) (fun _ _ _ _ _ h=>h) ?_
         (refine aR (v:=?_) (by rfl) ?_ ?_;rotate_left 1;(focus ((intro w' hS';go_simp);try with_reducible rfl));simp only [Act.put,List.setIfInBounds_toArray,List.set_cons_zero,List.set_cons_succ])
         refine aT ?_
         refine wpAnyL_one 16 (by kernel_rfl) rfl (fun K hK=>?_)
         go_simp
         refine hK.out _ _ (fun _=>⟨d25,e1,e2⟩) ?_
         clear hK K
         refine wpAnyL_one 17 (by kernel_rfl) rfl (fun K hK=>?_)
         go_simp
         refine hK.out _ _ (fun e=>absurd rfl e) ?_
         clear hK K
         refine wpAnyL_done (by kernel_rfl) ?_ _
         clear d25 e1 e2 hgf HST
         obtain ⟨a4,ha4⟩:∃a4:Prt,a4={ a3 with tak:=a3.tak.set c g.take }:=⟨_,rfl⟩
         have HA4:=aQ ha4
         generalize World.setCell (World.setCell w9 _ _) _ _=w10 at HS4 ⊢
         have hs10:dY F Z W (rpThs p a4 ⟨rv,wv,bv,kv,cv,.slice (some ⟨tb,tO,none⟩) a3.tak.length tc,gv,ev,av,sv,nv,hv,ch⟩++(ts++([TR]++[TL]))) w10:=by subst ha4;exact HS4.out
         clear HS4
         have h4wl:a4.aX.length=a4.aZ.length:=by rw [ha4];exact h3wl
         have hcl4:c < a4.aZ.length:=by rw [ha4];exact hcl3
         have h4n4:a4.aZ.length<=4:=by rw [ha4];exact h3n4
         have hx:=bT (d:=[]) (show c < a4.aX.length by omega)
         have hwe:a4.aX=a2.aX:=by rw [ha4,HA3.out]
         have hse:a4.snd=a2.snd:=by rw [ha4,HA3.out]
         have hke:a4.cT=a2.cT:=by rw [ha4,HA3.out]
         obtain ⟨d,dl,hdl⟩:∃d dl,a4.aX.getD c []=d::dl:=by
          cases hq:a4.aX.getD c [] with
          |nil=>rw [hwe] at hq;rw [hq] at hwc;exact absurd hwc (by simp)
          |cons d dl=>exact ⟨d,dl,rfl⟩
         have hd64:d.length<=64:=HOK2.out.wsz _ (List.mem_of_getElem? (bT (d:=[]) (show c < a2.aX.length by rw [HOK2.out.wl];exact hcl))) d (by rw [<-hwe,hdl];exact List.mem_cons_self)
         have hln:=HOK2.out.wln _ (List.mem_of_getElem? (bT (d:=[]) (show c < a2.aX.length by rw [HOK2.out.wl];exact hcl)))
         rw [<-hwe,hdl] at hln
         rw [hdl] at hx
         obtain ⟨_,_,hb2⟩:=hs10.get 2 rfl
         obtain ⟨wb,wo,wk,e5,m5,m5'⟩:=bR (show Sq (eSq eBy 27) 54 w10 _ _ wv a4.aX from hb2) (by omega)
         subst e5
         obtain ⟨xb,xo,xk,dv,hxv,mx,mx',hdv,hs11⟩:=hs10.byAt 2 rfl hx (k:=0) rfl
         have hby:By w10 dv d:=by obtain ⟨_,_,hb⟩:=hs11.front.get 0 rfl;exact hb.1
         have c12:w10.cell? ⟨p,12,none⟩=some (.slice (some ⟨wb,wo,none⟩) a4.aX.length wk):=aJ (hs10.blk 0 rfl) rfl
         have HS10:=aQ hs10.rp_shut
         rw [show (d::dl).length=dl.length+1 from rfl] at hxv mx hln
         rw [h4wl] at c12 m5
         rw [Nat.add_zero] at hdv
         have hci4:(c:Int) < (a4.aZ.length:Int):=by omega
         have hBY:=aQ hby
         have h0l:(0:Int) < (dl.length:Int)+1:=by omega
         have hHX:=aQ hx
         have HHL2:=aQ hdl
         clear hs10 hs11 hb2 hby ha4 hx
         go_wp2_with fail
         refine wp_region_still_tail 12 (by kernel_rfl) (by kernel_rfl) ?_
         simp only [List.take_succ_cons,List.take_zero,List.drop_succ_cons,List.drop_zero]
         change wpStill _ _ (World.drew _) (fun a'=>wpList _ _ _ _ a' (World.drew _)) _ _
         repeat still_step
         refine wpStill_nil ?_
         go_wp2_with fail
         have hr1:a4.snd.cT.length < a4.snd.cA:=by rw [hse,HOK2.out.win];exact hfk
         have hr2:a4.snd.cA<=128:=by rw [hse];exact HOK2.out.snd.w2
         have hr3:a4.snd.aG+a4.snd.cT.length < 1000000000000:=by rw [hse];have:=HOK2.out.tot;unfold Snd.total at this;have:=HM.out;omega
         refine (rsoffer_p (p:=p) (a:=a4) dv d (hBY.out.drewN 1) hd64 hr1 hr2 hr3 HS10.out.drew).mono ?_
         rintro e w11 ⟨rfl,hh⟩
         obtain ⟨a5,ha5⟩:∃a5:Prt,a5={ a4 with snd:={ a4.snd with cT:=a4.snd.cT++[d] } }:=⟨_,rfl⟩
         rw [<-ha5] at hh
         have HA5:=aQ ha5
         obtain ⟨y5,hst⟩:=hh.rp
         obtain ⟨rv,wv,bv,kv,cv,tv,gv,ev,av,sv,nv,hv,ch⟩:=y5
         obtain ⟨_,_,hb5⟩:=hst.get 5 rfl
         have hb5':=show Sq dK 3 w11 _ _ cv (a5.cT.map (·.1)) from hb5
         obtain ⟨ca,cc,e5,q5,q5',_⟩:=hb5'.le
         subst e5
         obtain ⟨K5,D5,us,_,_,_,hsl5,hel5⟩:=hb5
         obtain rfl:us=(a5.cT.map (·.1)).flatMap (fun (n:Nat)=>[Value.int .i64 (n:Int)]):=pure_nat.els hel5
         have c23:w11.cell? ⟨p,23,none⟩=some (.slice ca (a5.cT.map (·.1)).length cc):=aJ (hst.blk 0 rfl) rfl
         obtain ⟨cn,hcn⟩:∃cn,cn=(a5.cT.map (·.1)).length:=⟨_,rfl⟩
         have HCN:=aQ hcn
         have hcnl:cn<=128:=by rw [hcn,List.length_map,ha5];show a4.cT.length<=128;rw [hke];have:=HOK2.out.keptl;have:=HOK2.out.snd.cT;have:=HOK2.out.snd.w2;omega
         have HRD:=aQ (show Rd w11 1 (.slice ca cn cc) cn _ by rw [hcn];exact hsl5.rd)
         have HONE:=aQ hel5.one
         have HST:=aQ hst
         rw [<-hcn] at c23 q5
         unfold maxLen at q5'
         have hp11:=World.block_lt_of_cell? w11 _ c23
         generalize hus:(a5.cT.map (·.1)).flatMap (fun (n:Nat)=>[Value.int .i64 (n:Int)])=us at HRD HONE
         have HUS:=aQ hus
         clear hst hh hb5' hsl5 hel5 hcn hus HS10 hBY hxv c12 hdv ha5
         go_wp2_with (first
          |(at_builtin;refine cQ slInt rfl _ _ rfl (fun k=>w11.heap.size<=k) (.slice (some ⟨w11.heap.size,0,none⟩) 0 0) 0 [] rfl (by exact sl_made _ _ _ _ rfl rfl) (.slice ca cn cc) cn us rfl (HRD.out.keep fun k _ hl=>(aK w11 _).block k hl) HONE.out (by unfold maxLen;omega) (by omega) ?_;intro v1 w12 hsl1 hfr1;rw [Nat.zero_add,List.nil_append] at hsl1;obtain ⟨v1a,v1c,rfl⟩:=hsl1.shape;have HB12:=aQ (show Below w11.heap.size w11 w12 from (aK w11 _).trans (hfr1.below (B:=w11.heap.size) (by simp) fun k hk=>hk));have HSL1:=aQ (hsl1.mono (G:=fun k=>w11.heap.size<=k) (by rintro k (h|h);exact h;simp at h;omega));clear hsl1 hfr1)
          |(at_builtin;refine cQ slInt rfl _ _ rfl (fun k=>w11.heap.size<=k) (.slice v1a cn v1c) cn us rfl (HSL1.out.alloc _) _ 1 [.int .i64 (c:Int)] rfl (rd_one _ _ _ _ rfl) (by intro u hu;simp at hu;subst hu;rfl) (by unfold maxLen;omega) (by omega) ?_;intro v2 w13 hsl2 hfr2;obtain ⟨v2a,v2c,rfl⟩:=hsl2.shape;have HB13:=aQ (show Below w11.heap.size w11 w13 from (HB12.out.trans ((aK w12 _).mono HB12.out.size)).trans (hfr2.below (B:=w11.heap.size) (by have:=HB12.out.size;simp;omega) fun k hk=>hk));have HSL2:=aQ (hsl2.mono (G:=fun k=>w11.heap.size<=k) (by rintro k (h|h);exact h;have:=HB12.out.size;simp at h;omega));clear hsl2 hfr2;have e23:w13.cell? ⟨p,23,none⟩=some (.slice ca cn cc):=(World.cell?_of_block (HB13.out.block p hp11)).trans c23;have cf:∀i,w13.frozen? ⟨p,i,none⟩=false:=fun i=>aD ((HST.out.own HB13.out).blk 0 rfl) i))
         generalize hw14:World.setCell w13 _ _=w14
         obtain ⟨a6,ha6⟩:∃a6:Prt,a6={ a5 with cT:=a5.cT++[(c,d)] }:=⟨_,rfl⟩
         have hs14:dY F Z W (rpThs p a6 ⟨rv,wv,bv,kv,.slice v2a (cn+1) v2c,tv,gv,ev,av,sv,nv,hv,ch⟩++(ts++([TR]++[TL]))) w14:=by
          have h1:=(HST.out.own HB13.out).blk 0 rfl
          have e9:(a5.cT++[(c,d)]).map (·.1)=a5.cT.map (·.1)++[c]:=by rw [List.map_append];rfl
          have h2:=(HST.out.add HB13.out (T:=tSq dK 3 (.slice v2a (cn+1) v2c) ((a5.cT++[(c,d)]).map (fun f:Nat × dV=>f.1))) (Sq.ofSl pure_nat (by
           show Sl w13 _ _ 1 _ _ _
           rw [e9,List.length_append,<-HCN.out,List.flatMap_append,HUS.out]
           exact HSL2.out))).front
          have h3:=dY.pickL (us:=tSq dK 3 (.slice v2a (cn+1) v2c) ((a5.cT++[(c,d)]).map (fun f:Nat × dV=>f.1))::rpThs p a5 ⟨rv,wv,bv,kv,.slice ca (a5.cT.map (·.1)).length cc,tv,gv,ev,av,sv,nv,hv,ch⟩) (vs:=(rpThs p a5 ⟨rv,wv,bv,kv,.slice ca (a5.cT.map (·.1)).length cc,tv,gv,ev,av,sv,nv,hv,ch⟩).set 5 (tSq dK 3 (.slice v2a (cn+1) v2c) ((a5.cT++[(c,d)]).map (fun f:Nat × dV=>f.1)))) h2 [1,2,3,4,5,0,7,8,9,10,11,12,13] (by decide) rfl
          subst ha6
          rw [<-hw14]
          exact h3.set 0 rfl (rpRow { a5 with cT:=a5.cT++[(c,d)] } ⟨rv,wv,bv,kv,.slice v2a (cn+1) v2c,tv,gv,ev,av,sv,nv,hv,ch⟩) (by (repeat (first|(with_reducible (first|exact Fr.refl _ _|refine Fr.setCell ?_ ?_ _|refine Fr.drewN ?_ _|refine Fr.drew ?_))|exact Or.inl rfl))) (by (apply aS;focus (with_reducible (repeat (first|exact h1|apply aU|apply aP|apply aF))));rfl)
         have HA6:=aQ ha6
         clear hw14 HST HB13 HSL2 HSL1 HB12 HRD HONE e23 cf c23 ha6
         have h6w:a6.aX=a4.aX:=by rw [HA6.out,HA5.out]
         have h6r:a6.aZ=a4.aZ:=by rw [HA6.out,HA5.out]
         obtain ⟨_,_,hb2⟩:=hs14.get 2 rfl
         obtain ⟨wb,wo,wk,e5,m5,m5'⟩:=bR (show Sq (eSq eBy 27) 54 w14 _ _ wv a6.aX from hb2) (by rw [h6w];omega)
         subst e5
         have hbf:=(Sq.free (show Sq (eSq eBy 27) 54 w14 _ _ (.slice (some ⟨wb,wo,none⟩) a6.aX.length wk) a6.aX from hb2)).2.2.2
         obtain ⟨vc,hvc,⟨_,_,hsq⟩,hinner⟩:=hs14.inner 2 rfl (show a6.aX[c]? = some (d::dl) by rw [h6w];exact hHX.out)
         obtain ⟨b2,o2,k2,rfl,m2,m2'⟩:=bR hsq (by simp)
         have c12:w14.cell? ⟨p,12,none⟩=some (.slice (some ⟨wb,wo,none⟩) a6.aX.length wk):=aJ (hs14.blk 0 rfl) rfl
         rw [h6w,h4wl] at c12 m5
         have HS2:=aQ (hinner (.slice (if k2=1 then some ⟨b2,o2,none⟩ else some ⟨b2,o2+1,none⟩) dl.length (k2 - 1)) dl fun G Y h=>by
          obtain ⟨g,off,e,_,_,h'⟩:=h.drop (k:=1) (by decide) (by simp)
          obtain ⟨rfl,rfl⟩:b2=g/\o2=off:=by simpa using e
          simpa [eBy] using h')
         rw [show (d::dl).length=dl.length+1 from rfl] at hvc m2
         have h1l:(1:Int)<=(dl.length:Int)+1:=by omega
         obtain ⟨na,hna⟩:∃na,(if k2=1 then some (⟨b2,o2,none⟩:Addr) else some ⟨b2,o2+1,none⟩)=na:=⟨_,rfl⟩
         have hsl1:dl.length+1 - 1=dl.length:=rfl
         have hm2:((dl.length:Int)+1)<=(k2:Int):=by omega
         rw [hna] at HS2
         clear m2 hsl1 hb2 hsq hinner hs14
         go_wp2_with fail
         refine wp_region_still_tail 14 (by kernel_rfl) (by kernel_rfl) ?_
         simp only [List.take_succ_cons,List.take_zero,List.drop_succ_cons,List.drop_zero]
         change wpStill _ _ (World.drew _) (fun a'=>wpList _ _ _ _ a' (World.drew _)) _ _
         repeat still_step
         refine wpStill_nil ?_
         go_upto_region 24 with fail
         generalize hwc:World.drew (World.setCell w14 _ _)=wc
         have HC:=aQ (show dY F Z W (tRp p a2.choose::(ts++([TR]++[TL]))) wc by
          have hof:=offer_takes (s:=a2.snd) (d:=d) hd64 (by rw [HOK2.out.win];exact hfk)
          have hdd:a2.aX.getD c []=d::dl:=by rw [<-hwe];exact HHL2.out
          have e:a2.choose={ a6 with aX:=a6.aX.set c dl }:=by
           rw [Prt.choose_some HROOM.out HPK.out hdd hof,HA6.out,HA5.out,HA4.out,HGG.out,HA3.out]
          rw [e,<-hwc]
          exact (show dY F Z W (rpThs p { a6 with aX:=a6.aX.set c dl } ⟨rv,.slice (some ⟨wb,wo,none⟩) a6.aX.length wk,bv,kv,.slice v2a (cn+1) v2c,tv,gv,ev,av,sv,nv,hv,ch⟩++(ts++([TR]++[TL]))) _ from HS2.out).drew.rp_shut)
         clear hwc HS2 hvc c12 h1l hm2 hna hbf
      all_goals
       have hok7:=HOK2.out.choose
       obtain ⟨a7,ha7⟩:∃a7,a7=a2.choose:=⟨_,rfl⟩
       have hinc7:a7.inc=a2.inc:=by rw [ha7];exact Prt.choose_inc a2
       have hTT:=HTU.out
       rw [<-HLB.out,show ({ a1 with cS:=a1.cS.cR }:Prt)=a2 by rw [HA2.out,HS2.out],<-ha7] at hTT
       have HT7:=aQ hTT
       rw [<-ha7] at HC hok7
       have HOK7:=aQ hok7
       have HINC7:=aQ hinc7
       have ht7:a7.snd.aG+a7.snd.cT.length < 1000000000000:=by have:=hok7.tot;unfold Snd.total at this;have:=HM.out;omega
       have HTS:=aQ (rtick_p (p:=p) (a:=a7) hok7.snd ht7 HC.out)
       clear hok7 ha7 hinc7 hTT ht7 HC HTU
       go_wp2_with fail
       cases ht:a7.snd.cR with
       |mk o s'=>
       rw [ht] at HTS HT7
       have HTT:=aQ ht
       clear ht
       cases o with
       |none=>
        refine HTS.out.mono ?_
        rintro e w5 ⟨v,rfl,hh⟩
        have H5:=aQ hh
        clear hh HTS
        go_wp2_with fail
        go_ret
        refine ⟨ua,uc,by rw [HT7.out];rfl,?_⟩
        rw [HT7.out]
        have h6:=dY.tail (dY.front (ts:=tRp p { a7 with snd:=s' }::(ts++([TR]++[TL]))) H5.out)
        rw [<-List.append_assoc] at h6
        have h7:=dY.front (ts:=tRp p { a7 with snd:=s' }::(ts++[TR])) h6
        rw [HTL.out] at h7
        exact dY.dropLast (us:=[tSq ePt 32 (.slice ua l.length uc) l,tRp p { a7 with snd:=s' }]) h7
       |some nd=>
        obtain ⟨n,d⟩:=nd
        have hts:=tick_some HOK7.out.snd HTT.out
        have hkk:=HOK7.out.keptl
        refine HTS.out.mono ?_
        rintro e w5 ⟨v,rfl,hh⟩
        have h6:=dY.front (ts:=tRp p { a7 with snd:=s' }::(ts++([TR]++[TL]))) hh
        obtain ⟨_,_,hby⟩:=h6.get 0 rfl
        obtain ⟨va,vc,rfl⟩:=ByZ.slice hby
        obtain ⟨y7,hst⟩:=hh.rp
        have hrow:=hst.blk 0 rfl
        have c19:w5.cell? ⟨p,19,none⟩=some (.int .i64 (s'.aG:Int)):=aJ hrow rfl
        obtain ⟨ki,hki⟩:∃ki:Nat,ki=(n+256 - s'.aG % 256) % 256:=⟨_,rfl⟩
        have hkl:ki < a7.cT.length:=by rw [hki,hkk];exact hts.2
        obtain ⟨_,_,hb5⟩:=hst.get 5 rfl
        obtain ⟨cb,co,cc,e5,_,_⟩:=bR (show Sq dK 3 w5 _ _ y7.cv (a7.cT.map (·.1)) from hb5) (by rw [List.length_map];omega)
        have c23:w5.cell? ⟨p,23,none⟩=some y7.cv:=aJ hrow rfl
        rw [e5] at hb5
        rw [e5] at c23
        rw [List.length_map] at c23
        obtain ⟨cl,hcl⟩:∃cl,cl=Prt.classOf { a7 with snd:=s' } n:=⟨_,rfl⟩
        have hgc:(a7.cT.map (·.1))[ki]? = some cl:=by
         rw [List.getElem?_map,bT (d:=(0,[])) hkl,hcl,hki];rfl
        have hcc:=nat_cell (show Sq dK 3 w5 _ _ (.slice (some ⟨cb,co,none⟩) (a7.cT.map (·.1)).length cc) (a7.cT.map (·.1)) from hb5) hgc
        have hkz:((n:Int) - (s'.aG:Int) % 256+256) % 256=(ki:Int):=by rw [hki];omega
        have h8:dY F Z W (TL::tBy (.slice va d.length vc) d::tRp p { a7 with snd:=s' }::(ts++[TR])) w5:=by
         have h7:=h6
         rw [<-List.append_assoc] at h7
         exact dY.front (ts:=tBy (.slice va d.length vc) d::tRp p { a7 with snd:=s' }::(ts++[TR])) h7
        rw [HTL.out] at h8
        have H8:=aQ h8
        have HCL:=aQ hcl
        have hn256:(n:Int) < 256:=by have:=hts.1;omega
        have hkli:(ki:Int) < (a7.cT.length:Int):=by omega
        have hak:(s'.aG:Int) % 256 < 256:=by omega
        have hak0:0<=(s'.aG:Int) % 256:=by omega
        clear hh h6 h8 hst hrow hb5 hby hgc hki hkk hts HTS hcl e5
        dsimp only [Option.elim,Option.isSome]
        rw [show (a2.inc:Int)=(a7.inc:Int) by rw [HINC7.out]]
        go_wp2_with (at_builtin;refine wpList_app_pt (xs:=l) (x:=⟨2#8,(cl:Int),(n:Int),a7.inc,d⟩) (pa:=va) (pn:=d.length) (pc:=vc) rfl _ _ rfl H8.out 0 rfl (fun Y hO=>by obtain ⟨_,_,hb⟩:=hO 1 _ (by decide) rfl;exact hb) (aK w5 _) (by omega) rfl w5.heap.size rfl (heap_alloc_new w5 _) ?_;intro xa xc w7 h7;have H7:=aQ h7;clear h7)
        go_ret
        refine ⟨xa,xc,by rw [HT7.out];dsimp only;rw [List.length_append];rfl,?_⟩
        rw [HT7.out,<-HCL.out]
        have h7:=dY.pickL (us:=[tSq ePt 32 (.slice xa (l++[(⟨2#8,(cl:Int),(n:Int),a7.inc,d⟩:Pt)]).length xc) (l++[(⟨2#8,(cl:Int),(n:Int),a7.inc,d⟩:Pt)]),tBy (.slice va d.length vc) d,tRp p { a7 with snd:=s' }]) (vs:=[tSq ePt 32 (.slice xa (l++[(⟨2#8,(cl:Int),(n:Int),a7.inc,d⟩:Pt)]).length xc) (l++[(⟨2#8,(cl:Int),(n:Int),a7.inc,d⟩:Pt)]),tRp p { a7 with snd:=s' }]) (ts:=ts++[TR]) H7.out [0,2] (by decide) rfl
        exact dY.dropLast (us:=[tSq ePt 32 (.slice xa (l++[(⟨2#8,(cl:Int),(n:Int),a7.inc,d⟩:Pt)]).length xc) (l++[(⟨2#8,(cl:Int),(n:Int),a7.inc,d⟩:Pt)]),tRp p { a7 with snd:=s' }]) h7
   ·have b1:((s2.state:Int) != 2)=true:=by rw [bne_iff_ne];omega
    have HG:=aQ (Prt.cX HA1.out (by rw [<-HS2.out];exact hup))
    clear hup
    go_wp2_with fail
    go_ret
    refine ⟨some ⟨lb,0,none⟩,1,by rw [HG.out];rfl,?_⟩
    rw [HG.out,<-HS2.out]
    have h5:dY F Z W (rpThs p { a1 with cS:=s2 } ⟨.slice ra a1.aZ.length rc,wv,bv,kv,cv,tv,gv,ev,av,sv,nv,hv,ch2⟩++(ts++[tSq ePt 32 (.slice (some ⟨lb,0,none⟩) 1 1) [a1.hail]])) w4:=by rw [<-List.append_assoc];exact dY.rear H4.out
    exact dY.front (ts:=tRp p { a1 with cS:=s2 }::ts) (dY.rp_shut (ts:=ts++[tSq ePt 32 (.slice (some ⟨lb,0,none⟩) 1 1) [a1.hail]]) h5)
end
end

section
open Go.RowKit
section
variable {P:Program} {Q:Exit->Act->World->Prop} {md:Region.Mode} {S:World->Prop} {l:List Oper} {fuel:Nat} {listed:Array Bool} {a:Act} {w:World}
def PickH (P:Program) (md:Region.Mode) (l:List Oper) (Q:Exit->Act->World->Prop) (S:World->Prop) (fuel i:Nat) (listed:Array Bool) (a:Act) (w:World):Prop:=
 wpOp P l.toArray Q i (fun a' w'=>S w'/\wpAnyH P md l.toArray Q S fuel (listed.setIfInBounds i true) a' w') a w
theorem anyH1 (i:Nat) (hr:Region.ready md l.toArray listed=[i]) (h:PickH P md l Q S fuel i listed a w):wpAnyH P md l.toArray Q S (fuel+1) listed a w:=by
 refine wpAnyH_all hr (by simp) fun k hk=>?_
 obtain rfl:k=i:=by simpa using hk
 exact h
theorem anyH2 (i j:Nat) (hr:Region.ready md l.toArray listed=[i,j]) (h:PickH P md l Q S fuel i listed a w) (h':PickH P md l Q S fuel j listed a w):wpAnyH P md l.toArray Q S (fuel+1) listed a w:=by
 refine wpAnyH_all hr (by simp) fun k hk=>?_
 have hk':k=i\/k=j:=by simpa using hk
 rcases hk' with rfl|rfl
 ·exact h
 ·exact h'
theorem anyH3 (i j m:Nat) (hr:Region.ready md l.toArray listed=[i,j,m]) (h:PickH P md l Q S fuel i listed a w) (h':PickH P md l Q S fuel j listed a w) (h'':PickH P md l Q S fuel m listed a w):wpAnyH P md l.toArray Q S (fuel+1) listed a w:=by
 refine wpAnyH_all hr (by simp) fun k hk=>?_
 have hk':k=i\/k=j\/k=m:=by simpa using hk
 rcases hk' with rfl|rfl|rfl
 ·exact h
 ·exact h'
 ·exact h''
theorem pickH (i:Nat) {o:Oper} {rest:List Oper} (ho:l.drop i=o::rest)
  (h:∀K:Act->World->Prop,Shut (∀a w,S w->wpAnyH P md l.toArray Q S fuel (listed.setIfInBounds i true) a w->K a w)->if Region.wanted o (yielded l.toArray a.tmps)=true then Oper.wp P o a w K Q else K (a.put o.dst undef) w) :
  PickH P md l Q S fuel i listed a w:=by
 have ho':l.toArray[i]? = some o:=by
  have:(l.drop i)[0]? = some o:=by rw [ho];rfl
  rw [List.getElem?_drop] at this
  simpa using this
 exact wpOp_step ho' fun K hK=>h K fun a w hS hW=>hK a w ⟨hS,hW⟩
def tNo:Th:=tStar []
theorem dY.no {F Z:BS} {W:World} {ts:List Th} (h:dY F Z W ts w):dY F Z W (ts++[tNo]) w:=h.add (Below.refl _ _) (T:=tNo) (Star.nil _ _ _)
theorem step_mkH {α : Type} {E:El α} {t e:TypeId} {z:Value} {bytes:Nat} (X:SlT P t e z 1 bytes) (hsz:E.size=1) (hzz:z.cells = #[z]) {a0 : α} (he:∀w Z,E.rd w (fun _=>False) Z [z] a0) {ops:Array Oper} {o:Oper} {K:Act->World->Prop} {E0:Prop}
  (hg:o.guard=none) (x:Operand) (hop:o.op=Op.makeSlice t x x) (n:Nat) (hl:a.eval x=.int .i64 (n:Int)) (b2:bytes*n<=281474976710656) (b3:n<=maxLen) {F Z:BS} {W:World} {ts:List Th} (h:dY F Z W ts w) (i:Nat) (hi:ts[i]? = some tNo)
  (hK:∀b w',Below w.heap.size w w'->dY F Z W (ts.set i (tSq E e (.slice (some ⟨b,0,none⟩) n n) (List.replicate n a0))) w'->K (a.put o.dst (.slice (some ⟨b,0,none⟩) n n)) w') :
  if Region.wanted o (yielded ops a.tmps)=true then Oper.wp P o a w K Q else E0:=by
 obtain ⟨u,hu,hz,hsz2,hby⟩:=X.info
 obtain ⟨w1,hrun,hown,hgr⟩:=run_make_full (P:=P) (w:=w) w.heap.size t e u z 1 X.under hu hz hsz2 .i64 .i64 n (by rw [hby];exact b2) b3 (Nat.le_refl _)
 have hb1:Below w.heap.size w w1:=(Below.refl w.heap.size w).grown hgr (Nat.le_refl _) (fun k e=>by cases e)
 rw [hzz,Nat.mul_one,toList_madeCells_one] at hown
 have hsl:Sl w1 (fun k=>k=w.heap.size) e 1 (.slice (some ⟨w.heap.size,0,none⟩) n n) n (List.replicate n z):=by
  obtain ⟨hl,⟨h,_⟩|⟨g,cap,cur,e,hb,hg,h10,h11,h12,h13⟩⟩:=hown
  ·cases h
  ·obtain ⟨rfl,rfl⟩:w.heap.size=g/\n=cap:=by simpa using e
   exact ⟨hl,.inr ⟨_,0,_,cur,rfl,rfl,hg,h10,h11,by omega,by simpa using h13⟩⟩
 have hkl:w.heap.size < w1.heap.size:=by
  obtain ⟨_,⟨h,_⟩|⟨g,off,cap,cur,e,rfl,hg,_⟩⟩:=hsl
  ·cases h
  ·exact lt_of_block hg
 refine step_val (v:=.slice (some ⟨w.heap.size,0,none⟩) n n) (w':=w1) (by simp [Region.wanted,hg]) (by simp [execOp,hop,hl,hrun,Result.andThen]) ?_
 refine hK _ _ hb1 (h.grow i hi fun G Y _ hd=>⟨fun k=>k=w.heap.size,fun _=>False,fun k hk=>.inr (by subst hk;exact Nat.le_refl _),fun _ f=>f.elim,fun _ _ f=>f,?_,Fr.of_below (Fr.refl _ _) hb1⟩)
 refine ⟨fun k=>k=w.heap.size,fun _=>False,List.replicate n z,fun k hk=>hk.elim id False.elim,fun _ _ f=>f,fun k hk=>by subst hk;exact hkl,by rw [List.length_replicate,hsz];exact hsl,?_⟩
 have:=Els.zero (E:=E) (Z:=fun _=>False) (he w1 _) n
 rwa [show (List.replicate n [z]).flatten=List.replicate n z by rw [List.flatten_replicate_singleton]] at this
end
end

end Go.Proofs.Ytbgjpfbcelkllaa
