/- Lemmas; no condition on the program. -/
import Derived.Test.YtjnbanjjoomecaaGreatDoorPkE1
namespace Go.Proofs.YtjnbanjjoomecaaGreatDoor
open Go.RowKit
open List renaming replicate→Vr, getElem?_eq_getElem→Vw, length_append→Vx, append_nil→Wp, not_mem_nil→WE, mem_append→WY, take_length→Xd, take_add_one→Xr, eq_of_mem_replicate→XP, takeWhile_cons→Y4, filter_append→Y_, find?_append→Ze, mem_filter→Zu
open _root_.Go.Proofs.Tryz renaming prog→Vs
open Nat renaming le_refl→Vu, zero_le→VJ, zero_add→V5
open _root_.Go.RowKit.Below renaming setCell→VK, refl→VQ
open Option.some renaming inj→VM
open World.ownsRow renaming lt→Xv, frozenAt→Zg, cellAt→Zh
open World renaming ownsRow_made→XM
open List.Pairwise renaming nil→YI
open Int renaming emod_nonneg→YR
open Bool renaming not_true→ZE
set_option maxRecDepth 100000
set_option maxHeartbeats 64000000

def kF (c:az) (fv lv:Value):Value:=.agg #[.int .i64 (c.cB:Int),fv,.bool (!c.up),.int .i64 (c.cP:Int),.int .i64 (c.cC:Int),lv,.int .i64 (c.lost:Int)]
theorem vY (w:World) (c:az) (fa:Option Addr) (fn fc:Nat) (la:Option Addr) (lc:Nat) (hl:c.aL.length<=64) (hs:c.lost < 1000000000) :
  Calls Vs 37 #[kF c (.slice fa fn fc) (.slice la c.aL.length lc)] w fun e w'=>e=.returned (kF c.cut (.slice fa fn fc) (.slice none 0 0))/\Below w.heap.size w w':=by
 unfold kF;go_enter Tryz.func37,Tryz.ntmps37;go_wp2_with fail;exact bodyPost_ret (v:=.agg #[.int .i64 (c.cB:Int),.slice fa fn fc,.bool true,.int .i64 (c.cP:Int),.int .i64 (c.cC:Int),.slice none 0 0,.int .i64 ((c.lost:Int)+(c.aL.length:Int))]) (by simp [results,Tryz.results37,go_sem]) rfl ⟨by simp [az.cut],by exact dC⟩
theorem nD (w:World) (Z:BS) (v:Value) (fs:List jV) (h:dh dO w Z v fs) (hl:fs.length<=1000000) (t:Int) :
  Calls Vs 82 #[v,.int .i64 t] w fun e w'=>e=.returned (.agg #[.int .i64 (gD fs t).at',.int .i64 (gD fs t).kind,.int .i64 (gD fs t).arg])/\Below w.heap.size w w':=by
 obtain ⟨a,c,rfl,hc1,hc2⟩:=h.shape;have H:=aQ h;clear h;go_enter Tryz.func82,Tryz.ntmps82;go_wp2_with fail;have HB0:=aQ ((VQ w.heap.size w).alloc (Vu _) (.cells #[.int .i64 0,.int .i64 0,.int .i64 0] 144));go_loopw [5] (fun i wr=>∃j:Nat,j<=fs.length/\i=.int .i64 j/\Hid ((fs.take j).find? (fun f=>f.at' == t)=none)/\wr=w.alloc (.cells #[.int .i64 0,.int .i64 0,.int .i64 0] 144)) (fun i _=>fs.length - (intOf i).toNat)
 case atStart=>exact ⟨0,by omega,rfl,aQ rfl,rfl⟩
 case round=>
  obtain ⟨j,hj,rfl,HN,rfl⟩:=hrel;by_cases hlt:j < fs.length
  ·obtain ⟨f,hf⟩:∃f,fs[j]? = some f:=⟨fs[j],Vw hlt⟩
   obtain ⟨b,off,rfl,c0,c1,c2,w0,w1,w2⟩:=nV (H.out.below HB0.out) hf;have HF:=aQ hf;clear hf;by_cases he:f.at'=t
   ·have hb:(f.at' == t)=true:=by simpa using he
    have HE:Hid (gD fs t=f):=aQ (by
     have hfi:fs.find? (fun f=>f.at' == t)=some f:=by
      rw [show fs=fs.take j++fs.drop j by simp,Ze,HN.out]
      have hd:fs.drop j=f::fs.drop (j+1):=by
       have h0:=HF.out;rw [Vw hlt] at h0;obtain rfl:=VM h0;exact List.drop_eq_getElem_cons hlt
      rw [hd,List.find?_cons_of_pos (by simpa using he)];rfl
     unfold gD;rw [hfi])
    clear he;go_wp2_with fail;exact bodyPost_ret (v:=.agg #[.int .i64 f.at',.int .i64 f.kind,.int .i64 f.arg]) (by simp [results,Tryz.results82,go_sem]) rfl ⟨by rw [HE.out],by exact dC⟩
   ·have hb:(f.at' == t)=false:=by simpa using he
    have mI:Hid ((fs.take (j+1)).find? (fun f=>f.at' == t)=none):=aQ (by
     rw [Xr,HF.out,Ze,HN.out];simpa using he)
    clear he;go_wp2_with fail;go_roundw
    case rel=>exact ⟨j+1,by omega,by go_num,mI,by trivial⟩
    case measure=>simp [intOf];omega
  ·obtain rfl:j=fs.length:=by omega
   have HE:Hid (gD fs t=jV.zero):=aQ (by
    have h0:=HN.out;rw [Xd] at h0;unfold gD;rw [h0])
   go_wp2_with fail;exact bodyPost_ret (v:=.agg #[.int .i64 0,.int .i64 0,.int .i64 0]) (by simp [results,Tryz.results82,go_sem]) rfl ⟨by rw [HE.out];rfl,by exact dC⟩

theorem Q7:o8 Vs 67 165 (.agg #[.int .i64 0,.slice none 0 0]) 2 32:=⟨Tryz.underlying67,info_parts (by kernel_rfl),rfl,by decide⟩
theorem Qp {T:TypeId} {w:World} {F Z:BS} {a:Option Addr} {n c:Nat} {l:List (Nat × iw)} (h:Sq iG T w F Z (.slice a n c) l) {j:Nat} {x:Nat × iw} (hj:l[j]? = some x) :
  ∃b o va vc,a=some ⟨b,o,none⟩/\F b/\w.cell? ⟨b,o+j*2,none⟩=some (.int .i64 (x.1:Int))/\w.cell? ⟨b,o+j*2+1,none⟩=some (.slice va x.2.length vc)/\fE w Z (.slice va x.2.length vc) x.2:=by
 obtain ⟨b,o,cs,A,e,hb,⟨v,rfl,hv⟩,_,hc⟩:=h.at (by decide) hj;obtain ⟨va,vc,rfl⟩:=hv.slice;exact ⟨b,o,va,vc,e,hb,hc 0 _ rfl,hc 1 _ rfl,hv⟩
theorem Qo {T:TypeId} {w:World} {F Z:BS} {b o n c:Nat} {l:List (Nat × iw)} (h:Sq iG T w F Z (.slice (some ⟨b,o,none⟩) n c) l) {j:Nat} {x:Nat × iw} (hj:l[j]? = some x) {u:Value} (hc:w.cell? ⟨b,o+j*2+1,none⟩=some u):fE w Z u x.2:=by
 obtain ⟨b',o',va,vc,e,_,_,h1,h2⟩:=Qp h hj;obtain ⟨rfl,rfl⟩:b=b'/\o=o':=by simpa using e
 obtain rfl:=VM (hc.symm.trans h1);exact h2
def lh (c:az) (j:Nat):List (Nat × iw):=(c.aL.take j).filter fun x => !(x.1 == c.cC+1)
def rQ (c:az) (j:Nat):List iw:=((c.aL.take j).filter fun x=>x.1 == c.cC+1).map (·.2)
theorem iR (w:World) (o:Obj):(w.alloc o).heap.size=w.heap.size+1:=by simp
theorem P9 {w:World} (x:Nat) (va:Option Addr) (n vc g:Nat) (hg:g=w.heap.size):Rd (w.alloc (.cells #[.int .i64 (x:Int),.slice va n vc] 165)) 2 (.slice (some ⟨g,0,none⟩) 1 1) 1 [.int .i64 (x:Int),.slice va n vc]:=by
 subst hg;refine ⟨rfl,_,1,rfl,Vu _,by decide,(fun e=>by cases e),fun b hb j v hj=>?_⟩;obtain rfl:=VM hb;refine ⟨rfl,?_⟩;have h0:(w.alloc (.cells #[.int .i64 (x:Int),.slice va n vc] 165)).heap[w.heap.size]? = some (.cells #[.int .i64 (x:Int),.slice va n vc] 165):=heap_alloc_new w _;simp only [World.cell?,h0,V5]
 match j,hj with
 |0,hj=>simpa using hj
 |1,hj=>simpa using hj
theorem Es {c:az} {j:Nat} {x:Nat × iw} (hx:c.aL[j]? = some x):lh c (j+1)=lh c j++(if x.1=c.cC+1 then [] else [x])/\rQ c (j+1)=rQ c j++(if x.1=c.cC+1 then [x.2] else []):=by
 unfold lh rQ;rw [Xr,hx,Y_,Y_,List.map_append];by_cases h:x.1=c.cC+1
 ·simp [h]
 ·simp [h]
theorem Cy (c:az) (fa:Option Addr) (fn fc:Nat) (la:Option Addr) (lc:Nat) (hl:c.aL.length<=64) (ht:c.cC < 1000000000) (w:World) (F Z:BS) (hd:Dj F Z) (h:Sq iG 165 w F Z (.slice la c.aL.length lc) c.aL) :
  Calls Vs 39 #[kF c (.slice fa fn fc) (.slice la c.aL.length lc)] w fun e w'=>∃v1 v2,e=.returned (.tuple #[kF { c with cC:=c.cC+1 } (.slice fa fn fc) v1,v2]) /\
   lS w F Z [ζ iG 165 v1 (lh c c.aL.length),ζ ψ 40 v2 (rQ c c.aL.length)] w':=by
 have hh:=(dY.nT (T:=ζ iG 165 (.slice la c.aL.length lc) c.aL) h hd).new (.cells #[.int .i64 (c.cB:Int),.slice fa fn fc,.bool (!c.up),.int .i64 (c.cP:Int),.int .i64 ((c.cC:Int)+1),.slice la c.aL.length lc,.int .i64 (c.lost:Int)] 69);have Dp:=hh.new (.cells #[.int .i64 0,.slice none 0 0,.bool false,.int .i64 0,.int .i64 0,.slice none 0 0,.int .i64 0] 69);have hsz:(w.alloc (.cells #[.int .i64 (c.cB:Int),.slice fa fn fc,.bool (!c.up),.int .i64 (c.cP:Int),.int .i64 ((c.cC:Int)+1),.slice la c.aL.length lc,.int .i64 (c.lost:Int)] 69)).heap.size=w.heap.size+1:=iR _ _;rw [hsz] at Dp;have H2:=aQ Dp
 obtain ⟨_,_,_,_,lm1,lm2,_⟩:∃a b c' d:Nat,c.aL.length<=lc/\lc<=maxLen/\True:=by
  obtain ⟨a',c',e,h1,h2,_⟩:=h.le;obtain ⟨rfl,rfl⟩:la=a'/\lc=c':=by simpa using e
  exact ⟨0,0,0,0,h1,h2,trivial⟩
 unfold maxLen at lm2;clear hh Dp h hsz;unfold kF;go_enter Tryz.func39,Tryz.ntmps39;go_wp2_with fail;have H3:=aQ ((H2.out.add (T:=ζ iG 165 (.slice none 0 0) (lh c 0)) (VQ _ _) (Sq.nil _ _ _ _ _)).add (T:=ζ ψ 40 (.slice none 0 0) (rQ c 0)) (VQ _ _) (Sq.nil _ _ _ _ _))
 go_loopw [6,4,5] (fun i u4 u5 wr=>∃(j n4 n5:Nat) (a4:Option Addr) (c4:Nat) (a5:Option Addr) (c5:Nat),j<=c.aL.length/\i=.int .i64 (j:Int)/\u4=.slice a4 n4 c4/\u5=.slice a5 n5 c5/\n4<=j/\n5<=j/\Hid ((lh c j).length=n4/\(rQ c j).length=n5) /\
  Hid (dY F Z w [ζ iG 165 (.slice la c.aL.length lc) c.aL,dJ w.heap.size (.cells #[.int .i64 (c.cB:Int),.slice fa fn fc,.bool (!c.up),.int .i64 (c.cP:Int),.int .i64 ((c.cC:Int)+1),.slice la c.aL.length lc,.int .i64 (c.lost:Int)] 69 (0,0)),dJ (w.heap.size+1) (.cells #[.int .i64 0,.slice none 0 0,.bool false,.int .i64 0,.int .i64 0,.slice none 0 0,.int .i64 0] 69 (0,0)),ζ iG 165 (.slice a4 n4 c4) (lh c j),ζ ψ 40 (.slice a5 n5 c5) (rQ c j)] wr)) (fun i _ _ _=>c.aL.length - (intOf i).toNat)
 case atStart=>exact ⟨0,0,0,none,0,none,0,by omega,rfl,rfl,rfl,by omega,by omega,aQ ⟨rfl,rfl⟩,H3⟩
 case round=>
  clear H3 H2;obtain ⟨j,n4,n5,a4,c4,a5,c5,hj,rfl,rfl,rfl,nI,Ah,HL,HH⟩:=hrel;have hrow:=HH.out.blk 1 rfl;have hrow2:=HH.out.blk 2 rfl;have k0:=aJ (i:=0) hrow rfl;have q0:=aJ (i:=0) hrow2 rfl;have k1:=aJ (i:=1) hrow rfl;have q1:=aJ (i:=1) hrow2 rfl;have k2:=aJ (i:=2) hrow rfl;have q2:=aJ (i:=2) hrow2 rfl;have k3:=aJ (i:=3) hrow rfl;have q3:=aJ (i:=3) hrow2 rfl;have k4:=aJ (i:=4) hrow rfl;have q4:=aJ (i:=4) hrow2 rfl;have k5:=aJ (i:=5) hrow rfl;have q5:=aJ (i:=5) hrow2 rfl;have k6:=aJ (i:=6) hrow rfl;have q6:=aJ (i:=6) hrow2 rfl;have kf:=fun i=>aD hrow i
  have qf:=fun i=>aD hrow2 i
  clear hrow hrow2;by_cases hlt:j < c.aL.length
  ·obtain ⟨x,hx⟩:∃x,c.aL[j]? = some x:=⟨c.aL[j],Vw hlt⟩
   obtain ⟨G2,Y2,hs⟩:=HH.out.get 0 rfl;obtain ⟨b,o,va,vc,rfl,_,d0,d1,hby⟩:=Qp (show Sq iG 165 wr G2 Y2 _ _ from hs) hx;have HX:=aQ hx;have HNX:=aQ (Es hx);have D1:=aQ d1;clear hs hby hx;by_cases AQ:x.1=c.cC+1
   ·have hdb:((x.1:Int) == (c.cC:Int)+1)=true:=by simp;omega
    obtain ⟨K,us,hsl,_,hback⟩:=HH.out.app 4 rfl;rw [HL.out.2] at hsl;have gK:=aQ (show Sl wr K 40 1 _ n5 us from hsl);have Ay:=aQ hback;have UB:=aQ AQ;clear hsl hback AQ;have hl4:=HL.out.1;have hl5:=HL.out.2
    have HS2:Hid (lh c (j+1)=lh c j/\rQ c (j+1)=rQ c j++[x.2]):=aQ (by
     have h0:=HNX.out;rw [if_pos UB.out,if_pos UB.out,Wp] at h0;exact h0)
    clear hl4 hl5;go_wp2_with fail;go_quiet (fail);go_wp2_with (at_builtin;refine cQ Qa rfl _ _ rfl K (.slice a5 n5 c5) n5 us (by rfl) (by (with_reducible (repeat (first|exact gK.out|refine Sl.alloc ?_ _|refine Sl.drewN ?_ _|refine Sl.drew ?_)))) _ 1 [.slice va x.2.length vc] rfl (iA _ _ _ _ (by first|rfl|simp)) (by intro u hu;simp at hu;subst hu;rfl) (by unfold maxLen;omega) (by omega) ?_;intro v2 w3 hsl2 hf2;obtain ⟨Nr,Nq,rfl⟩:=hsl2.shape;have H5:=aQ (Ay.out _ w3 _ [x.2] _ (by exact dC) (by rw [HL.out.2];exact hsl2) hf2 (fun Y ho=>⟨fun _=>False,Y,fun _ f=>f.elim,fun _ h=>.inl h,fun _ f=>f.elim,by obtain ⟨H,_,h2⟩:=ho 0 _ (by decide) rfl;exact fK.single (E:=ψ) ⟨_,rfl,(Qo h2 HX.out D1.out).below (by exact dC)⟩⟩));clear hsl2 hf2);go_roundw
    case rel=>exact ⟨j+1,n4,n5+1,a4,c4,_,_,by omega,by go_num,rfl,rfl,by omega,by omega,aQ (by rw [HS2.out.1,HS2.out.2,Vx];exact ⟨HL.out.1,by rw [HL.out.2];rfl⟩),aQ (by rw [HS2.out.1,HS2.out.2];exact H5.out)⟩
    case measure=>simp [intOf];omega
   ·have hdb:((x.1:Int) == (c.cC:Int)+1)=false:=by simp;omega
    obtain ⟨K,us,hsl,_,hback⟩:=HH.out.app 3 rfl;rw [HL.out.1] at hsl;have gK:=aQ (show Sl wr K 165 2 _ n4 us from hsl);have Ay:=aQ hback;have UB:=aQ AQ;clear hsl hback AQ
    have HS2:Hid (lh c (j+1)=lh c j++[x]/\rQ c (j+1)=rQ c j):=aQ (by
     have h0:=HNX.out;rw [if_neg UB.out,if_neg UB.out,Wp] at h0;exact h0)
    go_wp2_with fail;go_quiet (fail);go_wp2_with (at_builtin;refine cQ Q7 rfl _ _ rfl K (.slice a4 n4 c4) n4 us (by rfl) (by (with_reducible (repeat (first|exact gK.out|refine Sl.alloc ?_ _|refine Sl.drewN ?_ _|refine Sl.drew ?_)))) _ 1 [.int .i64 (x.1:Int),.slice va x.2.length vc] rfl (P9 _ _ _ _ _ (by first|rfl|simp)) (by intro u hu;simp at hu;rcases hu with rfl|rfl <;> rfl) (by unfold maxLen;omega) (by omega) ?_;intro v2 w3 hsl2 hf2;obtain ⟨Nr,Nq,rfl⟩:=hsl2.shape;have H5:=aQ (Ay.out _ w3 _ [x] _ (by exact dC) (by rw [HL.out.1];exact hsl2) hf2 (fun Y ho=>⟨fun _=>False,Y,fun _ f=>f.elim,fun _ h=>.inl h,fun _ f=>f.elim,by obtain ⟨H,_,h2⟩:=ho 0 _ (by decide) rfl;exact fK.single (E:=iG) ⟨_,rfl,(Qo h2 HX.out D1.out).below (by exact dC)⟩⟩));clear hsl2 hf2);go_roundw
    case rel=>exact ⟨j+1,n4+1,n5,_,_,a5,c5,by omega,by go_num,rfl,rfl,by omega,by omega,aQ (by rw [HS2.out.1,HS2.out.2,Vx];exact ⟨by rw [HL.out.1];rfl,HL.out.2⟩),aQ (by rw [HS2.out.1,HS2.out.2];exact H5.out)⟩
    case measure=>simp [intOf];omega
  ·obtain rfl:j=c.aL.length:=by omega
   go_wp2_with fail;refine bodyPost_ret (v:=.tuple #[kF { c with cC:=c.cC+1 } (.slice fa fn fc) (.slice a4 n4 c4),.slice a5 n5 c5]) (by simp [results,Tryz.results39,go_sem,kF,q0,q1,q2,q3,q4,q5,q6]) rfl ⟨_,_,rfl,?_⟩;have θ:=aQ (HH.out.blk 1 rfl);have h1:=HH.out.set 1 rfl (.cells #[.int .i64 (c.cB:Int),.slice fa fn fc,.bool (!c.up),.int .i64 (c.cP:Int),.int .i64 ((c.cC:Int)+1),.slice a4 n4 c4,.int .i64 (c.lost:Int)] 69 (0,0)) (w':=wr.setCell ⟨w.heap.size,5,none⟩ (.slice a4 n4 c4)) (by exact eZ) (by (refine aS (Ξ θ.out) ?_);simp);have ay:=aQ (h1.blk 2 rfl);refine (dY.pick (dY.set h1 2 rfl (.cells #[.int .i64 (c.cB:Int),.slice fa fn fc,.bool (!c.up),.int .i64 (c.cP:Int),.int .i64 ((c.cC:Int)+1),.slice a4 n4 c4,.int .i64 (c.lost:Int)] 69 (0,0)) ?_ ?_) [3,4] [_,_] (by simp) rfl).did
   ·exact eZ
   ·(refine aS (Ξ ay.out) ?_)
    simp

structure wO (c:az):Prop where
 FD:c.aL.Pairwise fun x y=>x.1<=y.1
 lo:∀x ∈ c.aL,c.cC < x.1
 hi:∀x ∈ c.aL,x.1<=c.cC+c.cB
theorem P6 {t:Nat}:∀ {l:List (Nat × iw)},l.Pairwise (fun x y=>x.1<=y.1)->(∀x ∈ l,t < x.1) ->
  l.takeWhile (fun x=>decide (x.1<=t+1))=l.filter (fun x=>x.1 == t+1)/\l.drop (l.takeWhile (fun x=>decide (x.1<=t+1))).length=l.filter (fun x => !(x.1 == t+1))
 |[],_,_=>by simp
 |a::l,ha,hl=>by
  rw [List.pairwise_cons] at ha;have h0:=hl a (by simp);by_cases h:a.1<=t+1
  ·have e:a.1=t+1:=by omega
   obtain ⟨i1,i2⟩:=P6 ha.2 fun x hx=>hl x (by simp [hx])
   rw [Y4,if_pos (by simpa using h),List.filter_cons_of_pos (by simpa using e),List.filter_cons_of_neg (by simp [e]),i1];refine ⟨rfl,?_⟩;rw [i1] at i2;rw [List.length_cons,List.drop_succ_cons,i2]
  ·have hn:∀x ∈ a::l,¬x.1=t+1:=fun x hx=>by
    rcases List.mem_cons.1 hx with rfl|hx
    ·omega
    ·have:=ha.1 x hx;omega
   rw [Y4,if_neg (by simpa using h)];refine ⟨?_,?_⟩
   ·rw [List.filter_eq_nil_iff.2 fun x hx=>by simpa using hn x hx]
   ·rw [List.filter_eq_self.2 fun x hx=>by simpa using hn x hx];rfl
theorem wO.FT {c:az} (h:wO c):rQ c c.aL.length=c.cR.1/\lh c c.aL.length=c.cR.2.aL:=by
 obtain ⟨h1,h2⟩:=P6 h.FD h.lo;unfold rQ lh az.cR az.bV;rw [Xd];exact ⟨by rw [<-h1],h2.symm⟩
theorem wO.cR {c:az} (h:wO c):wO c.cR.2:=by
 have hs:c.cR.2.aL=c.aL.filter (fun x => !(x.1 == c.cC+1)):=by
  rw [<-h.FT.2];unfold lh;rw [Xd]
 refine ⟨by rw [hs];exact h.FD.filter _,fun x hx=>?_,fun x hx=>?_⟩
 ·rw [hs,Zu] at hx
  have:=h.lo x hx.1;have:=hx.2;simp at this;show c.cC+1 < x.1;omega
 ·rw [hs,Zu] at hx
  have:=h.hi x hx.1;show x.1<=c.cC+1+c.cB;omega
theorem wO.cut {c:az}:wO c.cut:=⟨YI,fun _ hx=>(WE hx).elim,fun _ hx=>(WE hx).elim⟩
theorem wO.mend {c:az} (h:wO c):wO c.mend:=⟨h.FD,h.lo,h.hi⟩
theorem wO.new (d:Nat) (fs:List jV):wO (az.new d fs):=⟨YI,fun _ hx=>(WE hx).elim,fun _ hx=>(WE hx).elim⟩
theorem wO.send {c:az} (h:wO c) (h1:1<=c.cB) (d:iw):wO (c.send d).2:=by
 unfold az.send;split
 ·exact ⟨h.FD,h.lo,h.hi⟩
 ·split
  ·exact ⟨h.FD,h.lo,h.hi⟩
  ·refine ⟨List.pairwise_append.2 ⟨h.FD,?_,fun x hx y hy=>?_⟩,fun x hx=>?_,fun x hx=>?_⟩
   ·exact List.pairwise_replicate.2 (.inr (Vu _))
   ·obtain rfl:=XP hy;exact h.hi x hx
   ·rcases WY.1 hx with hx|hx
    ·exact h.lo x hx
    ·obtain rfl:=XP hx
     show c.cC < c.cC+c.cB;omega
   ·rcases WY.1 hx with hx|hx
    ·exact h.hi x hx
    ·obtain rfl:=XP hx
     exact Vu _

theorem zW (w:World) (Z:BS) (c:az) (fa:Option Addr) (fc:Nat) (la:Option Addr) (lc:Nat) (a:Option Addr) (n cap:Nat) (hf:dh dO w Z (.slice fa c.bZ.length fc) c.bZ) (hfl:c.bZ.length<=1000000) (hls:c.lost < 1000000000) (hse:c.cP < 1000000000)
  (hk:c.up=false\/c.fault.kind=1) :
  Calls Vs 42 #[kF c (.slice fa c.bZ.length fc) (.slice la c.aL.length lc),.slice a n cap] w fun e w'=>e=.returned (.tuple #[kF { c with cP:=c.cP+1,lost:=c.lost+1 } (.slice fa c.bZ.length fc) (.slice la c.aL.length lc),.int .i64 0])/\Below w.heap.size w w':=by
 have HF:=aQ hf;clear hf;obtain ⟨u,hu⟩:∃u,u=c.up:=⟨_,rfl⟩;obtain ⟨f,FC⟩:∃f,f=c.fault:=⟨_,rfl⟩;rw [<-hu,<-FC] at hk;have Uy:Hid (gD c.bZ (c.cP:Int)=f):=aQ FC.symm;have HU:=aQ hu;clear hu FC;have hh:=(dY.mO (fun _=>False) (fun _=>False) (fun _ f _=>f) w).new (.cells #[.int .i64 (c.cB:Int),.slice fa c.bZ.length fc,.bool (!u),.int .i64 (c.cP:Int),.int .i64 (c.cC:Int),.slice la c.aL.length lc,.int .i64 (c.lost:Int)] 69);have Dp:=hh.new (.cells #[.int .i64 0,.slice none 0 0,.bool false,.int .i64 0,.int .i64 0,.slice none 0 0,.int .i64 0] 69);rw [iR] at Dp;have H2:=aQ Dp;clear hh Dp;unfold kF;rw [<-HU.out];go_enter Tryz.func42,Tryz.ntmps42;go_wp2_with fail;refine (nD _ Z _ _ (HF.out.below (by exact dC)) hfl _).mono ?_;rintro e w1 ⟨rfl,hb⟩;rw [Uy.out];have H3:=aQ (H2.out.own hb);clear hb;have H4:=aQ (H3.out.new (.cells #[.int .i64 f.at',.int .i64 f.kind,.int .i64 f.arg] 144));have hrow:=H4.out.blk 0 rfl;have hrow2:=H4.out.blk 1 rfl;have hrow3:=H4.out.blk 2 rfl;have m1:=aJ (i:=1) hrow3 rfl;have hs1:w.heap.size+1 < w1.heap.size:=lt_of_block (H3.out.blk 1 rfl);have k0:=aJ (i:=0) hrow rfl;have q0:=aJ (i:=0) hrow2 rfl;have k1:=aJ (i:=1) hrow rfl;have q1:=aJ (i:=1) hrow2 rfl;have k2:=aJ (i:=2) hrow rfl;have q2:=aJ (i:=2) hrow2 rfl;have k3:=aJ (i:=3) hrow rfl;have q3:=aJ (i:=3) hrow2 rfl;have k4:=aJ (i:=4) hrow rfl;have q4:=aJ (i:=4) hrow2 rfl;have k5:=aJ (i:=5) hrow rfl;have q5:=aJ (i:=5) hrow2 rfl;have k6:=aJ (i:=6) hrow rfl;have q6:=aJ (i:=6) hrow2 rfl;have kf:=fun i=>aD hrow i
 have qf:=fun i=>aD hrow2 i
 have hs0:=lt_of_block hrow2;clear hrow hrow2 hrow3
 rcases u with _|_
 ·have e1:(f.kind == 1)=true\/(f.kind == 1)=false:=by cases (f.kind == 1) <;> simp
  go_wp2_with fail;have ξ:=aQ (H4.out.blk 0 rfl);have h1:=H4.out.set 0 rfl (.cells #[.int .i64 (c.cB:Int),.slice fa c.bZ.length fc,.bool true,.int .i64 ((c.cP:Int)+1),.int .i64 (c.cC:Int),.slice la c.aL.length lc,.int .i64 ((c.lost:Int)+1)] 69 (0,0)) (w':=((w1.alloc (.cells #[.int .i64 f.at',.int .i64 f.kind,.int .i64 f.arg] 144)).setCell ⟨w.heap.size,3,none⟩ (.int .i64 ((c.cP:Int)+1))).setCell ⟨w.heap.size,6,none⟩ (.int .i64 ((c.lost:Int)+1))) (by exact eZ) (by (refine aS (Ξ ξ.out) ?_);simp);have ay:=aQ (h1.blk 1 rfl);refine bodyPost_ret (v:=.tuple #[.agg #[.int .i64 (c.cB:Int),.slice fa c.bZ.length fc,.bool true,.int .i64 ((c.cP:Int)+1),.int .i64 (c.cC:Int),.slice la c.aL.length lc,.int .i64 ((c.lost:Int)+1)],.int .i64 0]) (by simp [results,Tryz.results42,go_sem,q0,q1,q2,q3,q4,q5,q6]) rfl ⟨by simp,dY.below (dY.set h1 1 rfl (.cells #[.int .i64 (c.cB:Int),.slice fa c.bZ.length fc,.bool true,.int .i64 ((c.cP:Int)+1),.int .i64 (c.cC:Int),.slice la c.aL.length lc,.int .i64 ((c.lost:Int)+1)] 69 (0,0)) ?_ ?_)⟩
  ·exact eZ
  ·(refine aS (Ξ ay.out) ?_)
   simp
 ·have e1:(f.kind == 1)=true:=by simpa using hk
  go_wp2_with fail;have ξ:=aQ (H4.out.blk 0 rfl);have h1:=H4.out.set 0 rfl (.cells #[.int .i64 (c.cB:Int),.slice fa c.bZ.length fc,.bool false,.int .i64 ((c.cP:Int)+1),.int .i64 (c.cC:Int),.slice la c.aL.length lc,.int .i64 ((c.lost:Int)+1)] 69 (0,0)) (w':=((w1.alloc (.cells #[.int .i64 f.at',.int .i64 f.kind,.int .i64 f.arg] 144)).setCell ⟨w.heap.size,3,none⟩ (.int .i64 ((c.cP:Int)+1))).setCell ⟨w.heap.size,6,none⟩ (.int .i64 ((c.lost:Int)+1))) (by exact eZ) (by (refine aS (Ξ ξ.out) ?_);simp);have ay:=aQ (h1.blk 1 rfl);refine bodyPost_ret (v:=.tuple #[.agg #[.int .i64 (c.cB:Int),.slice fa c.bZ.length fc,.bool false,.int .i64 ((c.cP:Int)+1),.int .i64 (c.cC:Int),.slice la c.aL.length lc,.int .i64 ((c.lost:Int)+1)],.int .i64 0]) (by simp [results,Tryz.results42,go_sem,q0,q1,q2,q3,q4,q5,q6]) rfl ⟨by simp,dY.below (dY.set h1 1 rfl (.cells #[.int .i64 (c.cB:Int),.slice fa c.bZ.length fc,.bool false,.int .i64 ((c.cP:Int)+1),.int .i64 (c.cC:Int),.slice la c.aL.length lc,.int .i64 ((c.lost:Int)+1)] 69 (0,0)) ?_ ?_)⟩
  ·exact eZ
  ·(refine aS (Ξ ay.out) ?_)
   simp

theorem zV (w:World) (Z:BS) (c:az) (fa:Option Addr) (fc:Nat) (la:Option Addr) (lc:Nat) (a:Option Addr) (n cap:Nat) (hf:dh dO w Z (.slice fa c.bZ.length fc) c.bZ) (hfl:c.bZ.length<=1000000) (hls:c.lost < 1000000000) (hse:c.cP < 1000000000)
  (hk:c.up=true/\c.fault.kind≠1) (Qh:c.aL.length<=64) (hfull:64 < c.aL.length+c.copies) :
  Calls Vs 42 #[kF c (.slice fa c.bZ.length fc) (.slice la c.aL.length lc),.slice a n cap] w fun e w'=>e=.returned (.tuple #[kF { c with cP:=c.cP+1,lost:=c.lost+1 } (.slice fa c.bZ.length fc) (.slice la c.aL.length lc),.int .i64 5])/\Below w.heap.size w w':=by
 have HF:=aQ hf;clear hf;obtain ⟨u,hu⟩:∃u,u=c.up:=⟨_,rfl⟩;obtain ⟨f,FC⟩:∃f,f=c.fault:=⟨_,rfl⟩;unfold az.copies at hfull;rw [<-hu,<-FC] at hk;rw [<-FC] at hfull;obtain ⟨rfl,hk1⟩:=hk;have Uy:Hid (gD c.bZ (c.cP:Int)=f):=aQ FC.symm;have HU:=aQ hu;clear hu FC;have hh:=(dY.mO (fun _=>False) (fun _=>False) (fun _ f _=>f) w).new (.cells #[.int .i64 (c.cB:Int),.slice fa c.bZ.length fc,.bool false,.int .i64 (c.cP:Int),.int .i64 (c.cC:Int),.slice la c.aL.length lc,.int .i64 (c.lost:Int)] 69);have Dp:=hh.new (.cells #[.int .i64 0,.slice none 0 0,.bool false,.int .i64 0,.int .i64 0,.slice none 0 0,.int .i64 0] 69);rw [iR] at Dp;have H2:=aQ Dp;clear hh Dp;unfold kF;rw [<-HU.out];simp only [ZE];go_enter Tryz.func42,Tryz.ntmps42;go_wp2_with fail;refine (nD _ Z _ _ (HF.out.below (by exact dC)) hfl _).mono ?_;rintro e w1 ⟨rfl,hb⟩;rw [Uy.out];have H3:=aQ (H2.out.own hb);clear hb;have H4:=aQ (H3.out.new (.cells #[.int .i64 f.at',.int .i64 f.kind,.int .i64 f.arg] 144));have hrow:=H4.out.blk 0 rfl;have hrow2:=H4.out.blk 1 rfl;have hrow3:=H4.out.blk 2 rfl;have m1:=aJ (i:=1) hrow3 rfl;have hs1:w.heap.size+1 < w1.heap.size:=lt_of_block (H3.out.blk 1 rfl);have k0:=aJ (i:=0) hrow rfl;have q0:=aJ (i:=0) hrow2 rfl;have k1:=aJ (i:=1) hrow rfl;have q1:=aJ (i:=1) hrow2 rfl;have k2:=aJ (i:=2) hrow rfl;have q2:=aJ (i:=2) hrow2 rfl;have k3:=aJ (i:=3) hrow rfl;have q3:=aJ (i:=3) hrow2 rfl;have k4:=aJ (i:=4) hrow rfl;have q4:=aJ (i:=4) hrow2 rfl;have k5:=aJ (i:=5) hrow rfl;have q5:=aJ (i:=5) hrow2 rfl;have k6:=aJ (i:=6) hrow rfl;have q6:=aJ (i:=6) hrow2 rfl;have kf:=fun i=>aD hrow i
 have qf:=fun i=>aD hrow2 i
 have hs0:=lt_of_block hrow2;clear hrow hrow2 hrow3;have e1:(f.kind == 1)=false:=by simpa using hk1
 obtain ⟨b,hb3,Sy⟩:∃b:Bool,(f.kind == 3)=b/\64 < c.aL.length+(if b=true then 2 else 1):=by
  by_cases h3:f.kind=3
  ·rw [if_pos h3] at hfull
   exact ⟨true,by simpa using h3,hfull⟩
  ·rw [if_neg h3] at hfull
   exact ⟨false,by simpa using h3,hfull⟩
 clear hfull hk1
 cases b
 all_goals
  simp only [if_true,Bool.false_eq_true,if_false] at Sy;go_wp2_with fail;have ξ:=aQ (H4.out.blk 0 rfl);have h1:=H4.out.set 0 rfl (.cells #[.int .i64 (c.cB:Int),.slice fa c.bZ.length fc,.bool false,.int .i64 ((c.cP:Int)+1),.int .i64 (c.cC:Int),.slice la c.aL.length lc,.int .i64 ((c.lost:Int)+1)] 69 (0,0)) (w':=((w1.alloc (.cells #[.int .i64 f.at',.int .i64 f.kind,.int .i64 f.arg] 144)).setCell ⟨w.heap.size,3,none⟩ (.int .i64 ((c.cP:Int)+1))).setCell ⟨w.heap.size,6,none⟩ (.int .i64 ((c.lost:Int)+1))) (by exact eZ) (by (refine aS (Ξ ξ.out) ?_);simp);have ay:=aQ (h1.blk 1 rfl);refine bodyPost_ret (v:=.tuple #[.agg #[.int .i64 (c.cB:Int),.slice fa c.bZ.length fc,.bool false,.int .i64 ((c.cP:Int)+1),.int .i64 (c.cC:Int),.slice la c.aL.length lc,.int .i64 ((c.lost:Int)+1)],.int .i64 5]) (by simp [results,Tryz.results42,go_sem,q0,q1,q2,q3,q4,q5,q6]) rfl ⟨by simp,dY.below (dY.set h1 1 rfl (.cells #[.int .i64 (c.cB:Int),.slice fa c.bZ.length fc,.bool false,.int .i64 ((c.cP:Int)+1),.int .i64 (c.cC:Int),.slice la c.aL.length lc,.int .i64 ((c.lost:Int)+1)] 69 (0,0)) ?_ ?_)⟩
  ·exact eZ
  ·(refine aS (Ξ ay.out) ?_)
   simp

theorem Q6:o8 Vs 40 5 (.int .u8 0) 1 1:=⟨Tryz.underlying40,info_parts (by kernel_rfl),rfl,by decide⟩
theorem CB (w:World) (v:Value) (d:iw) (h:By w v d) (hl:d.length<=1000) (arg:Int) (Ru:0<=arg) :
  Calls Vs 83 #[v,.int .i64 arg] w fun e w'=>∃a c,e=.returned (.slice a d.length c)/\Below w.heap.size w w'/\Ow 5 w' w.heap.size (.slice a d.length c) (lq d arg):=by
 obtain ⟨a,cap,rfl⟩:=h.slice;have H:=aQ h;clear h;by_cases hd0:0 < d.length
 ·go_enter Tryz.func83,Tryz.ntmps83
  go_wp2_with (at_builtin;refine gQ Q6 rfl _ _ rfl w.heap.size _ 0 [] rfl (XM _ _ 0 (Vu _) (VJ _) rfl) _ d.length (cu d) rfl (By.alloc H.out _) iM (by unfold maxLen;omega) (by omega) (by simp) ?_;intro v2 w2 hown2 hg2 _;have HB2:=aQ (((VQ w.heap.size w).alloc (Vu _) _).grown hg2 (by simp) (fun k e=>by cases e;exact Vu _));have hO2:=(show Ow 5 w2 w.heap.size v2 d by simpa [Ow] using hown2);obtain ⟨ya,yc,rfl⟩:=hO2.by.slice;have Di:=aQ hO2;clear hown2 hg2 hO2);obtain ⟨g,cap2,e,hg1,hg2⟩:=xX Di.out hd0;obtain ⟨rfl,rfl⟩:ya=some ⟨g,0,none⟩/\yc=cap2:=by simpa using e
  obtain ⟨B,hB,hBlt⟩:∃B:Nat,arg % (6*(d.length:Int))=(B:Int)/\B < 6*d.length:=⟨(arg % (6*(d.length:Int))).toNat,by have:=YR arg (b:=6*(d.length:Int)) (by omega);omega,by have:=Int.emod_lt_of_pos arg (b:=6*(d.length:Int)) (by omega);have:=YR arg (b:=6*(d.length:Int)) (by omega);omega⟩;obtain ⟨x,hx⟩:∃x,d[B / 6]? = some x:=⟨d[B / 6],Vw (by omega)⟩
  have cx:w2.cell? ⟨g,B / 6,none⟩=some (.int .u8 (U x)):=by
   have:=Zh Di.out (B / 6) (by omega);rw [this];unfold cu;rw [List.getElem?_map,hx];rfl
  have fx:=Zg Di.out (B / 6);have hsh:=Bi .i64 (B % 6) (by omega)
  have Tq:Hid (lq d arg=d.modify (B / 6) (fun x=>x ^^^ (1#8 <<< (B % 6)))):=aQ (by
   unfold lq;rw [if_neg (by intro h;rw [h] at hd0;simp at hd0),hB];rfl)
  have FH:=aQ (Ow.put Di.out (B / 6) (fun x=>x ^^^ (1#8 <<< (B % 6))) x hx);clear hx e;rw [hB];go_wp2_with fail
  go_region
  all_goals go_wp2_with fail
  all_goals go_ret
  all_goals
   rw [Qn x _ (by omega)];refine ⟨_,_,rfl,?_,?_⟩
   ·first|exact VK HB2.out hg1 _|exact Bw.drew (VK HB2.out hg1 _)
   ·rw [Tq.out];first|exact FH.out|exact FH.out.keep fun _ _ _=>rfl
 ·go_enter Tryz.func83,Tryz.ntmps83
  go_wp2_with (at_builtin;refine gQ Q6 rfl _ _ rfl w.heap.size _ 0 [] rfl (XM _ _ 0 (Vu _) (VJ _) rfl) _ d.length (cu d) rfl (By.alloc H.out _) iM (by unfold maxLen;omega) (by omega) (by simp) ?_;intro v2 w2 hown2 hg2 _;have HB2:=aQ (((VQ w.heap.size w).alloc (Vu _) _).grown hg2 (by simp) (fun k e=>by cases e;exact Vu _));have hO2:=(show Ow 5 w2 w.heap.size v2 d by simpa [Ow] using hown2);obtain ⟨ya,yc,rfl⟩:=hO2.by.slice;have Di:=aQ hO2;clear hown2 hg2 hO2);have Tq:Hid (lq d arg=d):=aQ (by unfold lq;rw [if_pos (List.eq_nil_of_length_eq_zero (by omega))]);go_ret;exact ⟨ya,yc,rfl,HB2.out,by rw [Tq.out];exact Di.out⟩

theorem vo {ts:List Th} {i:Nat} {T:Th} (hi:ts[i]? = some T):ts.set i T=ts:=by
 apply List.ext_getElem?;intro j;rw [List.getElem?_set];split
 ·rename_i hij
  subst hij;rw [hi,if_pos (aA hi)]
 ·rfl
theorem Ca {w:World} {Z:BS}:∀ {D:BS} (G:BS) {us:List Value} {xs:List (Nat × iw)},fK iG w D Z us xs->fK iG w G Z us xs
 |_,_,_,[],h=>h
 |_,G,_,_::_,⟨cs,rest,_,_,e,_,_,_,h1,h2⟩=>⟨cs,rest,fun _=>False,G,e,fun _ f=>f.elim,fun _ h=>h,fun _ f=>f.elim,h1,Ca G h2⟩
theorem dY.SE {F Z:BS} {W wr:World} {ts:List Th} {T:TypeId} {av:Value} {xs:List (Nat × iw)} (h:dY F Z W ts wr) (T2:TypeId) (i:Nat) (hi:ts[i]? = some (ζ iG T av xs)) :
  ∃us,Rd wr 2 av xs.length us/\(∀u ∈ us,u.oneCell'=true)/\∀(w2:World) (v2:Value),Below wr.heap.size wr w2->Sl w2 (fun k=>wr.heap.size<=k) T2 2 v2 xs.length us->dY F Z W (ts++[ζ iG T2 v2 xs]) w2:=by
 obtain ⟨G,Y,eD,hd,_,_,hb⟩:=h.use i hi;have aaF:Sq iG T wr G Y av xs:=eD;obtain ⟨K,D,us,k1,k2,k3,hsl,hel⟩:=aaF;refine ⟨us,hsl.rd,hel.one,fun w2 v2 hbel hs2=>?_⟩;have hfr:Fr G wr w2:=⟨hbel.os,hbel.tape,hbel.output,hbel.size,fun k hl _=>hbel.block k hl⟩;have h1:(ζ iG T av xs).on w2 (fun k=>G k/\k < wr.heap.size) (fun k=>Y k/\k < wr.heap.size):=Sq.keep eD hbel.size fun k _ hl=>hbel.block k hl
 have h2:(ζ iG T2 v2 xs).on w2 (fun k=>wr.heap.size<=k) (fun k=>Y k/\k < wr.heap.size):=
  ⟨fun k=>wr.heap.size<=k/\k < w2.heap.size,fun _=>False,us,fun k hk=>hk.elim (·.1) False.elim,fun _ _ f=>f,fun k hk=>hk.2,hs2.bound,Ca _ ((hel.keep hbel.size fun k _ hl=>hbel.block k hl).mono (fun _ h=>h) fun k h=>h)⟩
 have:=hb w2 (ζ iG T av xs) [ζ iG T2 v2 xs] ⟨hfr,fun k=>Y k/\k < wr.heap.size,fun k hk=>.inl hk.1,Star.cons (F:=fun k=>G k/\k < wr.heap.size) (G:=fun k=>wr.heap.size<=k) h1 (Star.one h2) (fun k a b=>by have:=a.2;omega) (fun k a=>⟨.inl a.1,fun y=>hd k a.1 y.1⟩) fun k a=>⟨.inr a,fun y=>by have:=y.2;omega⟩⟩;rw [vo hi] at this;exact this

theorem Hm (w:World) (T:TypeId):Sl (w.alloc (.cells #[] T)) (fun k=>w.heap.size<=k) T 2 (.slice (some ⟨w.heap.size,0,none⟩) 0 0) 0 []:=⟨by simp,.inr ⟨_,0,0,#[],rfl,Vu _,heap_alloc_new w _,Vu _,by decide,by simp,by simp⟩⟩
theorem Vl {w:World} (x y:Nat) (va:Option Addr) (n vc g:Nat) (hg:g=w.heap.size):Rd (w.alloc (.cells #[.int .i64 ((x:Int)+(y:Int)),.slice va n vc] 165)) 2 (.slice (some ⟨g,0,none⟩) 1 1) 1 [.int .i64 ((x:Int)+(y:Int)),.slice va n vc]:=P9 (x+y) va n vc g hg
def Jv (w:World) (F Z:BS) (r:az) (fv:Value) (e:Ending) (w':World):Prop:=∃(va:Option Addr) (vc:Nat),
 e=.returned (.tuple #[kF r fv (.slice va r.aL.length vc),.int .i64 0])/\lS w F Z [ζ iG 165 (.slice va r.aL.length vc) r.aL] w'
theorem Cz (w:World) (F Z:BS) (hd:Dj F Z) (c:az) (fa:Option Addr) (fc:Nat) (la:Option Addr) (lc:Nat) (a:Option Addr) (n cap:Nat) (d:iw) (hv:fE w Z (.slice a n cap) d) (hdl:d.length<=1000) (hlist:Sq iG 165 w F Z (.slice la c.aL.length lc) c.aL)
  (hf:dh dO w Z (.slice fa c.bZ.length fc) c.bZ) (hfl:c.bZ.length<=1000000) (hse:c.cP < 1000000000) (hti:c.cC < 1000000000) (hde:c.cB<=1000)
  (hk:c.up=true/\c.fault.kind≠1) (Ru:0<=c.fault.arg) (Qh:c.aL.length+c.copies<=64) :
  Calls Vs 42 #[kF c (.slice fa c.bZ.length fc) (.slice la c.aL.length lc),.slice a n cap] w (Jv w F Z (c.send d).2 (.slice fa c.bZ.length fc)):=by
 have HF:=aQ hf;have HV:=aQ hv
 have hsend:(c.send d).2={ c with cP:=c.cP+1,aL:=c.aL++Vr c.copies (c.cC+c.cB,c.what d) }:=by
  unfold az.send;rw [if_neg (by rintro (h|h);rw [hk.1] at h;cases h;exact hk.2 h),if_neg (by omega)]
 have HSE:=aQ hsend;clear hf hv hsend;obtain ⟨u,hu⟩:∃u,u=c.up:=⟨_,rfl⟩;obtain ⟨f,FC⟩:∃f,f=c.fault:=⟨_,rfl⟩;rw [<-hu,<-FC] at hk;rw [<-FC] at Ru;obtain ⟨rfl,hk1⟩:=hk;have Uy:Hid (gD c.bZ (c.cP:Int)=f):=aQ FC.symm;have HU:=aQ hu;have TB:=aQ FC;clear hu FC;have hh:=((dY.nT (T:=ζ iG 165 (.slice la c.aL.length lc) c.aL) hlist hd).r_ (T:=dD (.slice a n cap) d) (fE.mono HV.out fun k h=>⟨h,fun f=>hd k f h⟩)).new (.cells #[.int .i64 (c.cB:Int),.slice fa c.bZ.length fc,.bool false,.int .i64 (c.cP:Int),.int .i64 (c.cC:Int),.slice la c.aL.length lc,.int .i64 (c.lost:Int)] 69);have Dp:=hh.new (.cells #[.int .i64 0,.slice none 0 0,.bool false,.int .i64 0,.int .i64 0,.slice none 0 0,.int .i64 0] 69);rw [iR] at Dp;have H2:=aQ Dp;clear hh Dp;unfold kF;rw [<-HU.out];simp only [ZE];go_enter Tryz.func42,Tryz.ntmps42;go_wp2_with fail;refine (nD _ Z _ _ (HF.out.below (by exact dC)) hfl _).mono ?_;rintro e w1 ⟨rfl,hb⟩;rw [Uy.out];have H3:=aQ (H2.out.own hb);clear hb;have H4:=aQ (H3.out.new (.cells #[.int .i64 f.at',.int .i64 f.kind,.int .i64 f.arg] 144));have hrow:=H4.out.blk 2 rfl;have hrow2:=H4.out.blk 3 rfl;have hrow3:=H4.out.blk 4 rfl;have m1:=aJ (i:=1) hrow3 rfl;have m2:=aJ (i:=2) hrow3 rfl;have hs1:w.heap.size+1 < w1.heap.size:=lt_of_block (H3.out.blk 3 rfl);have k0:=aJ (i:=0) hrow rfl;have q0:=aJ (i:=0) hrow2 rfl;have k1:=aJ (i:=1) hrow rfl;have q1:=aJ (i:=1) hrow2 rfl;have k2:=aJ (i:=2) hrow rfl;have q2:=aJ (i:=2) hrow2 rfl;have k3:=aJ (i:=3) hrow rfl;have q3:=aJ (i:=3) hrow2 rfl;have k4:=aJ (i:=4) hrow rfl;have q4:=aJ (i:=4) hrow2 rfl;have k5:=aJ (i:=5) hrow rfl;have q5:=aJ (i:=5) hrow2 rfl;have k6:=aJ (i:=6) hrow rfl;have q6:=aJ (i:=6) hrow2 rfl;have kf:=fun i=>aD hrow i
 have qf:=fun i=>aD hrow2 i
 have hs0:=lt_of_block hrow2;clear hrow hrow2 hrow3;have e1:(f.kind == 1)=false:=by simpa using hk1
 have hkk:f.kind=2\/f.kind=3\/(f.kind≠2/\f.kind≠3):=by omega
 rcases hkk with h2|h3|⟨h2,h3⟩
 case' inl=>
  have s2:(f.kind == 2)=true:=by simpa using h2
  have s3:(f.kind == 3)=false:=by rw [h2];rfl
  have HC:Hid (c.copies=1):=aQ (by unfold az.copies;rw [<-TB.out,h2];rfl);have Tp:Hid (c.what d=lq d f.arg):=aQ (by unfold az.what;rw [<-TB.out,h2];rfl)
 case' inr.inl=>
  have s2:(f.kind == 2)=false:=by rw [h3];rfl
  have s3:(f.kind == 3)=true:=by simpa using h3
  have HC:Hid (c.copies=2):=aQ (by unfold az.copies;rw [<-TB.out,h3];rfl);have Tp:Hid (c.what d=d):=aQ (by unfold az.what;rw [<-TB.out,h3];rfl)
 case' inr.inr=>
  have s2:(f.kind == 2)=false:=by simpa using h2
  have s3:(f.kind == 3)=false:=by simpa using h3
  have HC:Hid (c.copies=1):=aQ (by unfold az.copies;rw [<-TB.out,if_neg h3]);have Tp:Hid (c.what d=d):=aQ (by unfold az.what;rw [<-TB.out,if_neg h2])
 all_goals
  first|clear h2|skip
  first|clear h3|skip
  rw [HC.out] at Qh;have hlen:c.aL.length<=64:=by omega
  go_upto_region 12 with (fail)
  have ξ:=aQ (H4.out.blk 2 rfl);have h5:=H4.out.set 2 rfl (.cells #[.int .i64 (c.cB:Int),.slice fa c.bZ.length fc,.bool false,.int .i64 ((c.cP:Int)+1),.int .i64 (c.cC:Int),.slice la c.aL.length lc,.int .i64 (c.lost:Int)] 69 (0,0)) (w':=(w1.alloc (.cells #[.int .i64 f.at',.int .i64 f.kind,.int .i64 f.arg] 144)).setCell ⟨w.heap.size,3,none⟩ (.int .i64 ((c.cP:Int)+1))) (by exact eZ) (by (refine aS (Ξ ξ.out) ?_);rfl);obtain ⟨w2,hw2⟩:∃w2,w2=(w1.alloc (.cells #[.int .i64 f.at',.int .i64 f.kind,.int .i64 f.arg] 144)).setCell ⟨w.heap.size,3,none⟩ (.int .i64 ((c.cP:Int)+1)):=⟨_,rfl⟩;rw [<-hw2] at h5 ⊢;have H5:=aQ h5;clear hw2 h5 ξ k0 k1 k2 k3 k4 k5 k6 q0 q1 q2 q3 q4 q5 q6 kf qf m1 m2 hs0 hs1 H4 H3 H2;have hrow:=H5.out.blk 2 rfl;have k0:=aJ (i:=0) hrow rfl;have k4:=aJ (i:=4) hrow rfl;have k5:=aJ (i:=5) hrow rfl;have hs2:=lt_of_block hrow;have hrow3:=H5.out.blk 4 rfl;have m1:=aJ (i:=1) hrow3 rfl;have m2:=aJ (i:=2) hrow3 rfl;have hs3:=lt_of_block hrow3;clear hrow hrow3;obtain ⟨G0,Y0,yO⟩:=H5.out.get 1 rfl;have nK:=aQ (show By w2 (.slice a n cap) d from (show fE w2 Y0 (.slice a n cap) d from yO).1);clear yO;have hn:n=d.length:=by obtain ⟨_,_,e⟩:=nK.out.slice;simpa using (congrArg (fun v=>match v with|Value.slice _ n _=>n|_=>0) e)
  have HN:=aQ hn;clear hn
  go_upto_region 15 with (first
   |(at_builtin;refine gQ Q6 rfl _ _ rfl w2.heap.size _ 0 [] rfl (XM _ _ 0 (Vu _) (VJ _) rfl) _ d.length (cu d) rfl (By.alloc nK.out _) iM (by unfold maxLen;omega) (by omega) (by simp) ?_;intro v3 w3 hown3 hg3 _;have HB3:=aQ (((VQ w2.heap.size w2).alloc (Vu _) _).grown hg3 (by simp) (fun k e=>by cases e;exact Vu _));have hO3:=(show Ow 5 w3 w2.heap.size v3 d by simpa [Ow] using hown3);obtain ⟨ya,yc,rfl⟩:=hO3.by.slice;have ND:=aQ hO3;have nG:=cell_later HB3.out m1;have Gw:=cell_later HB3.out m2;have k5':=cell_later HB3.out k5;clear hown3 hg3 hO3)
   |(go_at_call 83;refine (CB w3 (.slice a n cap) d (nK.out.below (HB3.out.mono (Vu _))) hdl f.arg Ru).mono ?_;rintro e w4 ⟨PK,PI,rfl,hb4,ho4⟩;have HB:=aQ (HB3.out.trans (hb4.mono HB3.out.size));have HO:=aQ (show Ow 5 w4 w2.heap.size (.slice PK (c.what d).length PI) (c.what d) by rw [Tp.out,rE];exact ho4.lower HB3.out.size);have HLW:=aQ (show (c.what d).length=d.length by rw [Tp.out,rE]);clear hb4 ho4))
 all_goals first
  |(have tok:=HB;clear tok;clear HB3 ND nG Gw k5')
  |(have HB:=HB3;have HO:=aQ (show Ow 5 w3 w2.heap.size (.slice ya (c.what d).length yc) (c.what d) by rw [Tp.out];exact ND.out);have HLW:=aQ (show (c.what d).length=d.length by rw [Tp.out]);clear HB3 ND nG Gw k5';obtain ⟨w4,rfl⟩:∃w4,w4=w3:=⟨_,rfl⟩;obtain ⟨PK,rfl⟩:∃PK,PK=ya:=⟨_,rfl⟩;obtain ⟨PI,rfl⟩:∃PI,PI=yc:=⟨_,rfl⟩)
 all_goals
  have abu:=HB.out.size;have hb4:w.heap.size < w4.heap.size:=by omega
  have k0':=cell_later HB.out k0;have JI:=cell_later HB.out k4;have k5':=cell_later HB.out k5;clear k0 k4 k5 m1 m2;obtain ⟨dd,hdd⟩:∃dd,dd=c.what d:=⟨_,rfl⟩;rw [<-hdd] at HO HLW;rw [<-HLW.out];have HDD:=aQ hdd;clear hdd;have H6:=aQ (H5.out.mM (T:=dD (.slice PK dd.length PI) dd) HB.out ⟨HO.out.by,fun _ b hb=>(Xv HO.out b hb).1⟩);obtain ⟨us,hr,hone,hcopy⟩:=H6.out.SE 165 0 rfl;have HR:=aQ hr;have uP:=aQ hone;have TD:=aQ hcopy;clear hr hone hcopy;go_upto_region 17 with (at_builtin;refine cQ Q7 rfl _ _ rfl (fun k=>w4.heap.size<=k) (.slice (some ⟨w4.heap.size,0,none⟩) 0 0) 0 [] (by rfl) (by exact Hm w4 _) _ c.aL.length us rfl (Rd.below HR.out (by exact dC)) uP.out (by unfold maxLen;omega) (by omega) ?_;intro v5 w5 hs5 TW;obtain ⟨v5a,v5c,rfl⟩:=hs5.shape;rw [V5] at hs5 ⊢;have rH:=aQ ((show Below w4.heap.size w4 _ by exact dC).trans (TW.below (by simp) fun _ h=>h));have H7:=aQ (TD.out w5 _ rH.out (hs5.mono (by rintro k (h|h);exact h;simp at h;omega)));clear hs5 TW)
  go_loopw [10,9] (fun i u9 wr=>∃(j nn:Nat) (a9:Option Addr) (c9:Nat),j<=c.copies/\i=.int .i64 (j:Int)/\u9=.slice a9 nn c9/\Hid (nn=c.aL.length+j)/\nn<=64/\Hid (dY F Z w [ζ iG 165 (.slice la c.aL.length lc) c.aL,dD (.slice a n cap) d,dJ w.heap.size (.cells #[.int .i64 (c.cB:Int),.slice fa c.bZ.length fc,.bool false,.int .i64 ((c.cP:Int)+1),.int .i64 (c.cC:Int),.slice la c.aL.length lc,.int .i64 (c.lost:Int)] 69 (0,0)),dJ (w.heap.size+1) (.cells #[.int .i64 0,.slice none 0 0,.bool false,.int .i64 0,.int .i64 0,.slice none 0 0,.int .i64 0] 69),dJ w1.heap.size (.cells #[.int .i64 f.at',.int .i64 f.kind,.int .i64 f.arg] 144),dD (.slice PK dd.length PI) dd,ζ iG 165 (.slice a9 nn c9) (c.aL++Vr j (c.cC+c.cB,dd))] wr)) (fun i _ _=>c.copies - (intOf i).toNat)
  case atStart=>exact ⟨0,c.aL.length,v5a,v5c,by omega,by go_num,rfl,aQ (by omega),by omega,aQ (by rw [List.replicate_zero,Wp];exact H7.out)⟩
  case round=>
   clear H7 H6 H5;obtain ⟨j,nn,a9,c9,hj,rfl,rfl,HNN,aby,HH⟩:=hrel;have hrow:=HH.out.blk 2 rfl;have k0:=aJ (i:=0) hrow rfl;have k1:=aJ (i:=1) hrow rfl;have k2:=aJ (i:=2) hrow rfl;have k3:=aJ (i:=3) hrow rfl;have k4:=aJ (i:=4) hrow rfl;have k5:=aJ (i:=5) hrow rfl;have k6:=aJ (i:=6) hrow rfl;have kf:=fun i=>aD hrow i
   have hrow2:=HH.out.blk 3 rfl;have q0:=aJ (i:=0) hrow2 rfl;have q1:=aJ (i:=1) hrow2 rfl;have q2:=aJ (i:=2) hrow2 rfl;have q3:=aJ (i:=3) hrow2 rfl;have q4:=aJ (i:=4) hrow2 rfl;have q5:=aJ (i:=5) hrow2 rfl;have q6:=aJ (i:=6) hrow2 rfl;have qf:=fun i=>aD hrow2 i
   have hs0:=lt_of_block hrow;have hs1:=lt_of_block hrow2;clear hrow hrow2;rw [HC.out] at hj;by_cases hlt:j < c.copies
   ·rw [HC.out] at hlt
    have hn63:nn+1<=64:=by have:=HNN.out;omega
    obtain ⟨K,us2,hsl,_,hback⟩:=HH.out.app 6 rfl;have hll:(c.aL++Vr j (c.cC+c.cB,dd)).length=nn:=by have:=HNN.out;simp;omega
    rw [hll] at hsl hback;have gK:=aQ (show Sl wr K 165 2 (.slice a9 nn c9) nn us2 from hsl);have Ay:=aQ hback;have xD:=aQ hll;clear hsl hback hll;go_wp2_with (at_builtin;refine cQ Q7 rfl _ _ rfl K (.slice a9 nn c9) nn us2 (by rfl) (by (with_reducible (repeat (first|exact gK.out|refine Sl.alloc ?_ _|refine Sl.drewN ?_ _|refine Sl.drew ?_)))) _ 1 [.int .i64 ((c.cC:Int)+(c.cB:Int)),.slice PK dd.length PI] rfl (Vl _ _ _ _ _ _ (by first|rfl|simp)) (by intro u hu;simp at hu;rcases hu with rfl|rfl <;> rfl) (by unfold maxLen;omega) (by omega) ?_;intro v6 w6 hsl2 hf2;obtain ⟨v6a,v6c,rfl⟩:=hsl2.shape;have H8:=aQ (Ay.out _ w6 _ [(c.cC+c.cB,dd)] _ (by exact dC) hsl2 hf2 (fun Y ho=>⟨fun _=>False,Y,fun _ f=>f.elim,fun _ h=>.inl h,fun _ f=>f.elim,by obtain ⟨H,_,h2⟩:=ho 5 _ (by decide) rfl;exact fK.single (E:=iG) ⟨_,rfl,(show fE wr Y (.slice PK dd.length PI) dd from h2).below (by exact dC)⟩⟩));clear hsl2 hf2);go_roundw
    case rel=>exact ⟨j+1,nn+1,v6a,v6c,by rw [HC.out];omega,by go_num,rfl,aQ (by have:=HNN.out;omega),hn63,aQ (by rw [List.replicate_succ',<-List.append_assoc];exact H8.out)⟩
    case measure=>simp [intOf,HC.out];omega
   ·rw [HC.out] at hlt
    go_wp2_with fail;have hj2:j=c.copies:=by rw [HC.out];omega
    have HFN:Hid ((c.send d).2={ c with cP:=c.cP+1,aL:=c.aL++Vr j (c.cC+c.cB,dd) }):=aQ (by rw [HSE.out,hj2,HDD.out]);have Ro:(c.aL++Vr j (c.cC+c.cB,dd)).length=nn:=by have:=HNN.out;simp;omega
    have HFL:=aQ Ro;have ξ:=aQ (HH.out.blk 2 rfl);have h8:=HH.out.set 2 rfl (.cells #[.int .i64 (c.cB:Int),.slice fa c.bZ.length fc,.bool false,.int .i64 ((c.cP:Int)+1),.int .i64 (c.cC:Int),.slice a9 nn c9,.int .i64 (c.lost:Int)] 69 (0,0)) (w':=wr.setCell ⟨w.heap.size,5,none⟩ (.slice a9 nn c9)) (by exact eZ) (by (refine aS (Ξ ξ.out) ?_);rfl);have ay:=aQ (h8.blk 3 rfl);refine bodyPost_ret (v:=.tuple #[.agg #[.int .i64 (c.cB:Int),.slice fa c.bZ.length fc,.bool false,.int .i64 ((c.cP:Int)+1),.int .i64 (c.cC:Int),.slice a9 nn c9,.int .i64 (c.lost:Int)],.int .i64 0]) (by simp [results,Tryz.results42,go_sem,q0,q1,q2,q3,q4,q5,q6]) rfl ⟨a9,c9,?_,?_⟩
    ·rw [HFN.out]
     simp only [kF];rw [HFL.out,<-HU.out];rfl
    ·rw [HFN.out]
     show lS w F Z [ζ iG _ (.slice a9 (c.aL++Vr j (c.cC+c.cB,dd)).length c9) (c.aL++Vr j (c.cC+c.cB,dd))] _;rw [HFL.out];refine (dY.pick (dY.set h8 3 rfl (.cells #[.int .i64 (c.cB:Int),.slice fa c.bZ.length fc,.bool false,.int .i64 ((c.cP:Int)+1),.int .i64 (c.cC:Int),.slice a9 nn c9,.int .i64 (c.lost:Int)] 69 (0,0)) ?_ ?_) [6] [_] (by simp) rfl).did
     ·exact eZ
     ·(refine aS (Ξ ay.out) ?_)
      simp

section
variable {F Z:BS} {W w:World} {ts:List Th}
def SN (F Z:BS) (W:World) (ts:List Th) (i:Nat) (c:az) (d:iw) (fv:Value) (e:Ending) (w':World):Prop:=∃(va:Option Addr) (vc:Nat),
 e=.returned (.tuple #[.agg #[.int .i64 ((c.send d).2.cB:Int),fv,.bool (!(c.send d).2.up),.int .i64 ((c.send d).2.cP:Int),.int .i64 ((c.send d).2.cC:Int),.slice va (c.send d).2.aL.length vc,.int .i64 ((c.send d).2.lost:Int)],.int .i64 ((c.send d).1:Int)]) /\
  dY F Z W (ts.set i (ζ iG 165 (.slice va (c.send d).2.aL.length vc) (c.send d).2.aL)) w'
theorem OT (h:dY F Z W ts w) (c:az) (hok:c.Ok) (i:Nat) {la:Option Addr} {lc:Nat} (hi:ts[i]? = some (ζ iG 165 (.slice la c.aL.length lc) c.aL)) (jf:Nat) {fa:Option Addr} {fc:Nat} (hjf:ts[jf]? = some (a_ dO (.slice fa c.bZ.length fc) c.bZ)) (hfi:jf≠i)
  (jo:Nat) {T:Th} (hjo:ts[jo]? = some T) (hoi:jo≠i) (a:Option Addr) (n cap:Nat) (d:iw) (hdl:d.length<=1000) (hread:∀H Y,T.on w H Y->fE w Y (.slice a n cap) d) (hfl:c.bZ.length<=1000000) (hls:c.lost < 1000000000) (hse:c.cP < 1000000000) (hti:c.cC < 1000000000) :
  Calls Vs 42 #[kF c (.slice fa c.bZ.length fc) (.slice la c.aL.length lc),.slice a n cap] w (SN F Z W ts i c d (.slice fa c.bZ.length fc)):=by
 obtain ⟨G,Y,eD,hd,_,hoth,hb⟩:=h.use i hi;obtain ⟨H1,_,_,hf⟩:=hoth jf _ hfi hjf;obtain ⟨H2,_,_,ho⟩:=hoth jo _ hoi hjo;have hv:=hread _ _ ho;have hf':dh dO w Y (.slice fa c.bZ.length fc) c.bZ:=hf;by_cases h1:c.up=false\/c.fault.kind=1
 ·refine (zW w Y c fa fc la lc a n cap hf' hfl hls hse h1).mono ?_
  rintro e w' ⟨rfl,hbl⟩;have hs:c.send d=(0,{ c with cP:=c.cP+1,lost:=c.lost+1 }):=by unfold az.send;rw [if_pos h1]
  refine ⟨la,lc,by rw [hs];rfl,?_⟩;rw [hs];have:=h.own hbl;rw [vo hi];exact this
 ·have hk:c.up=true/\c.fault.kind≠1:=⟨by cases hu:c.up with
   |true=>rfl
   |false=>exact absurd (.inl hu) h1,fun h=>h1 (.inr h)⟩
  by_cases h2:64 < c.aL.length+c.copies
  ·refine (zV w Y c fa fc la lc a n cap hf' hfl hls hse hk hok.Ai h2).mono ?_
   rintro e w' ⟨rfl,hbl⟩;have hs:c.send d=(5,{ c with cP:=c.cP+1,lost:=c.lost+1 }):=by unfold az.send;rw [if_neg h1,if_pos h2]
   refine ⟨la,lc,by rw [hs];rfl,?_⟩;rw [hs];have:=h.own hbl;rw [vo hi];exact this
  ·refine (Cz w G Y hd c fa fc la lc a n cap d hv hdl eD hf' hfl hse hti (by have:=hok.d2;omega) hk hok.fault.2.2 (by omega)).mono ?_
   rintro e w' ⟨va,vc,rfl,NZ⟩;have hs:(c.send d).1=0:=by unfold az.send;rw [if_neg h1,if_neg h2]
   refine ⟨va,vc,by rw [hs];rfl,?_⟩;have:=hb w' _ _ NZ;rwa [Wp] at this
def SL (F Z:BS) (W:World) (ts:List Th) (i:Nat) (c:az) (fv:Value) (e:Ending) (w':World):Prop:=∃(va:Option Addr) (vc:Nat) (v2:Value),
 e=.returned (.tuple #[.agg #[.int .i64 (c.cR.2.cB:Int),fv,.bool (!c.cR.2.up),.int .i64 (c.cR.2.cP:Int),.int .i64 (c.cR.2.cC:Int),.slice va c.cR.2.aL.length vc,.int .i64 (c.cR.2.lost:Int)],v2]) /\
  dY F Z W (ts.set i (ζ iG 165 (.slice va c.cR.2.aL.length vc) c.cR.2.aL)++[ζ ψ 40 v2 c.cR.1]) w'
theorem OQ (h:dY F Z W ts w) (c:az) (hok:c.Ok) (AQ:wO c) (i:Nat) {la:Option Addr} {lc:Nat} (hi:ts[i]? = some (ζ iG 165 (.slice la c.aL.length lc) c.aL)) (fa:Option Addr) (fn fc:Nat) (hti:c.cC < 1000000000) :
  Calls Vs 39 #[kF c (.slice fa fn fc) (.slice la c.aL.length lc)] w (SL F Z W ts i c (.slice fa fn fc)):=by
 obtain ⟨G,Y,eD,hd,_,_,hb⟩:=h.use i hi;refine (Cy c fa fn fc la lc hok.Ai hti w G Y hd eD).mono ?_;rintro e w' ⟨v1,v2,rfl,NZ⟩;obtain ⟨e1,e2⟩:=AQ.FT;rw [e1,e2] at NZ;have h1:=hb w' _ _ NZ;obtain ⟨G2,Y2,hs1⟩:=h1.get i (T:=ζ iG 165 v1 c.cR.2.aL) (by rw [List.getElem?_append_left (by rw [List.length_set];exact aA hi),List.getElem?_set_self (aA hi)]);obtain ⟨va,vc,rfl,_⟩:=(show Sq iG _ w' G2 Y2 v1 c.cR.2.aL from hs1).le;exact ⟨va,vc,v2,rfl,h1⟩
end

end Go.Proofs.YtjnbanjjoomecaaGreatDoor
