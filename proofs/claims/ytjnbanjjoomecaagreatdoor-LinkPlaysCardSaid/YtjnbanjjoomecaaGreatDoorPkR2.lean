/- Lemmas; no condition on the program. -/
import Derived.Test.YtjnbanjjoomecaaGreatDoorPkR1
import Derived.Test.YtjnbanjjoomecaaGreatDoorPkG2
import Derived.Test.YtjnbanjjoomecaaGreatDoorPkA1
import Derived.Test.YtjnbanjjoomecaaGreatDoorPkG1
import Derived.Test.YtjnbanjjoomecaaGreatDoorPkG3
namespace Go.Proofs.YtjnbanjjoomecaaGreatDoor
open Go.RowKit
open List renaming replicate→Vr, getElem?_eq_getElem→Vw, length_append→Vx, take_succ_cons→Vy, drop_succ_cons→Vz, mem_of_getElem?→VD, append_assoc→VE, getElem?_map→VG, drop_zero→VH, take_zero→VI, length_map→VL, range→VV, getElem?_range→VY, length_drop→V9, getD_eq_getElem?_getD→We, getD→Wo, mem_replicate→Wu, mem_cons_self→WG, length_replicate→WI, foldl_cons→WM, nil_append→WT, getElem?_replicate→WU, map_append→W9, length_singleton→Xl, mem_of_mem_take→XN, length→XT
open _root_.Go.Proofs.Tryz renaming prog→Vs
open World renaming cell?_of_block→Vt, block_lt_of_cell?→Vv, setCell→VR, drew→V3, drewN→XE, cell?→XF, alloc→X_
open Nat renaming le_refl→Vu, zero_le→VJ, zero_add→V5, mod_lt→Ya
open Act renaming put→VF
open _root_.Go.RowKit.Below renaming setCell→VK, refl→VQ, trans→Wi
open Option.some renaming inj→VM
open Region renaming wanted→VN, ready→Wt, Mode→Xc
open Value renaming int→VS
open IntWalk renaming i64_in→V6
open Option renaming map_some→V_
open Calls renaming quiet_of_same→Wq
open Int renaming toNat_natCast→Wv
open Oper renaming wp→WZ
open Decidable renaming byContradiction→Yi
open False renaming elim→YV
set_option maxRecDepth 100000
set_option maxHeartbeats 64000000
structure δ.Fit (p:δ):Prop where
 buf:∀c,(p.aY.getD c []).length<=p.aZ.getD c 0
 Fw:∀c,(p.π.getD c ⟨0,0,0⟩).aW=(p.π.getD c ⟨0,0,0⟩).cI+(p.aY.getD c []).length
 room:∀c,(p.π.getD c ⟨0,0,0⟩).room=p.aZ.getD c 0
 rG:∀c,p.base.getD c 0<=p.aZ.getD c 0
section
variable {F Z:BS} {W w:World} {ts:List Th} {p N:Nat} {a:δ}
theorem Mg (x:Pt) (pa:Option Addr) (pn pc:Nat) (hk:x.kind=2#8) (hs:a.cS.state=2) (hv:(a.cS.cM:Int)=x.value) (hno:¬(0<=x.cls/\x.cls < a.aZ.length)\/(0<=x.cls/\x.cls < a.aZ.length)/\x.number≠(a.rcv % 256:Nat)) (h:dY F Z W (gJ p a::ts) w) :
  Calls Vs 75 #[.pointer (some ⟨p,0,none⟩),dH x (.slice pa pn pc)] w fun e w'=>e=.returned (.tuple #[])/\dY F Z W (gJ p a::ts) w':=by
 obtain ⟨y,hst⟩:=h.rp;obtain ⟨rv,wv,bv,kv,cv,tv,gv,ev,av,sv,nv,hv',ch⟩:=y;have hn:=(hst.new (bW x (.slice pa pn pc)));have H1:=aQ (show dY F Z W (ω p a ⟨rv,wv,bv,kv,cv,tv,gv,ev,av,sv,nv,hv',ch⟩++(ts++[dJ w.heap.size (bW x (.slice pa pn pc))])) (w.alloc (bW x (.slice pa pn pc))) by rw [<-VE];exact hn);have hrow:=hn.blk 0 rfl;have c1:(w.alloc (bW x (.slice pa pn pc))).cell? ⟨p,1,none⟩=some rv:=aJ hrow rfl;have c7:(w.alloc (bW x (.slice pa pn pc))).cell? ⟨p,7,none⟩=some (.int .i64 (a.cS.cM:Int)):=aJ hrow rfl;have c9:(w.alloc (bW x (.slice pa pn pc))).cell? ⟨p,9,none⟩=some (.int .i64 (a.cS.state:Int)):=aJ hrow rfl;have c24:(w.alloc (bW x (.slice pa pn pc))).cell? ⟨p,24,none⟩=some (.int .i64 (a.rcv:Int)):=aJ hrow rfl;obtain ⟨_,_,hr⟩:=hn.get 1 rfl;obtain ⟨ra,rc,e1,_⟩:=dh.shape (show dh dK _ _ rv a.aZ from hr);subst e1;obtain ⟨k0,k1,k2,k3,_⟩:=dx (heap_alloc_new w (bW x (.slice pa pn pc)));have b1:((U x.kind:Int) == 1)=false:=by rw [hk];rfl
 have b2:((U x.kind:Int) == 2)=true:=by rw [hk];rfl
 have b5:((a.cS.state:Int) != 2)=false:=by rw [hs];rfl
 have b6:(x.value != (a.cS.cM:Int))=false:=by rw [hv];simp
 clear hst hn hrow h hs hv hr hk;go_enter Tryz.func75,Tryz.ntmps75;go_wp2_with fail;generalize w.alloc (bW x (.slice pa pn pc))=w1 at *;go_quiet (fail);generalize hw2:XE w1 _=w2;have hb2:Below w1.heap.size w1 w2:=by rw [<-hw2];exact bS w1 _
 have H2:=aQ (H1.out.own hb2);have k1:w2.cell? ⟨w.heap.size,1,none⟩=some (.int .i64 x.cls):=by rw [<-hw2];exact k1
 have k2:w2.cell? ⟨w.heap.size,2,none⟩=some (.int .i64 x.number):=by rw [<-hw2];exact k2
 have k0:w2.cell? ⟨w.heap.size,0,none⟩=some (.int .u8 (U x.kind)):=by rw [<-hw2];exact k0
 have c1:w2.cell? ⟨p,1,none⟩=some (.slice ra a.aZ.length rc):=by rw [<-hw2];exact c1
 have c24:w2.cell? ⟨p,24,none⟩=some (.int .i64 (a.rcv:Int)):=by rw [<-hw2];exact c24
 clear hw2 hb2 H1 c7 c9 k3 b5 b6;go_wp2_with fail
 rcases hno with hno|⟨hc,hno⟩
 ·have HQ:=aQ (fun n=>uC (p:=p) (w:=w2.drewN n) x.cls ra rc (n:=a.aZ.length) (by omega) c1)
  clear hno;go_quiet ((go_at_call 70;exact Wq ((HQ.out _).mono fun e w' h=>⟨show e=.returned (.bool false) from h.1,h.2.symm⟩)));go_wp2_with fail;go_end0;exact ⟨rfl,(H2.out.own (bS _ _)).dropLast.ax⟩
 ·obtain ⟨c,hcc⟩:∃c:Nat,x.cls=(c:Int):=⟨x.cls.toNat,by omega⟩
  rw [hcc] at k1;have HQ:=aQ (fun n=>jF (p:=p) (w:=w2.drewN n) c ra rc (n:=a.aZ.length) (by omega) c1);have HR:=aQ (fun n=>OC (p:=p) (w:=w2.drewN n) x.number a.rcv hno c24);clear hno hc;go_quiet (first|(go_at_call 70;exact Wq ((HQ.out _).mono fun e w' h=>⟨show e=.returned (.bool true) from h.1,h.2.symm⟩))|(go_at_call 118;exact Wq ((HR.out _).mono fun e w' h=>⟨show e=.returned (.bool false) from h.1,h.2.symm⟩)));go_wp2_with fail;go_end0;exact ⟨rfl,(H2.out.own (bS _ _)).dropLast.ax⟩
theorem OH (x:Pt) (pv:Value) (hk:x.kind=2#8) (hs:a.cS.state=2) (hv:(a.cS.cM:Int)=x.value) (hok:a.Ok N) (hN:N<=1000000000) (hfit:a.Fit) (h:dY F Z W (gJ p a::ts) w) (j:Nat) (hj:ts[j]? = some (dD pv x.pay)) (hpl:x.pay.length<=1000) :
  Calls Vs 75 #[.pointer (some ⟨p,0,none⟩),dH x pv] w fun e w'=>e=.returned (.tuple #[])/\dY F Z W (gJ p (a.cO x)::ts) w':=by
 obtain ⟨_,_,hby⟩:=h.get (j+1) (T:=dD pv x.pay) (by simpa using hj);obtain ⟨pa,pc,rfl⟩:=fE.slice hby;by_cases Re:(0<=x.cls/\x.cls < a.aZ.length)/\x.number=(a.rcv % 256:Nat)
 ·obtain ⟨hc,rT⟩:=Re
  obtain ⟨y,hst⟩:=h.rp;have hn:=(hst.new (bW x (.slice pa x.pay.length pc)));have H1:=aQ (show dY F Z W (gJ p a::(ts++[dJ w.heap.size (bW x (.slice pa x.pay.length pc))])) (w.alloc (bW x (.slice pa x.pay.length pc))) from (show dY F Z W (ω p a y++(ts++[dJ w.heap.size (bW x (.slice pa x.pay.length pc))])) (w.alloc (bW x (.slice pa x.pay.length pc))) by rw [<-VE];exact hn).ax);have hrow:=hn.blk 0 rfl;have c1:(w.alloc (bW x (.slice pa x.pay.length pc))).cell? ⟨p,1,none⟩=some y.rv:=aJ hrow rfl;have c7:(w.alloc (bW x (.slice pa x.pay.length pc))).cell? ⟨p,7,none⟩=some (.int .i64 (a.cS.cM:Int)):=aJ hrow rfl;have c9:(w.alloc (bW x (.slice pa x.pay.length pc))).cell? ⟨p,9,none⟩=some (.int .i64 (a.cS.state:Int)):=aJ hrow rfl;obtain ⟨_,_,hr⟩:=hn.get 1 rfl;obtain ⟨ra,rc,e1,_⟩:=dh.shape (show dh dK _ _ y.rv a.aZ from hr);rw [e1] at c1;obtain ⟨k0,k1,k2,k3,k4⟩:=dx (heap_alloc_new w (bW x (.slice pa x.pay.length pc)));have b1:((U x.kind:Int) == 1)=false:=by rw [hk];rfl
  have b2:((U x.kind:Int) == 2)=true:=by rw [hk];rfl
  have b5:((a.cS.state:Int) != 2)=false:=by rw [hs];rfl
  have b6:(x.value != (a.cS.cM:Int))=false:=by rw [hv];simp
  obtain ⟨c,hcc⟩:∃c:Nat,x.cls=(c:Int):=⟨x.cls.toNat,by omega⟩;have hcl:c < a.aZ.length:=by omega
  have Kt:=aQ (show a.has x.cls from hc);have JU:=aQ hcc;have QZ:=aQ rT;have bz:=aQ hok;have HJ:=aQ hj;have DU:=aQ hfit;have n4:=hok.n4;rw [hcc] at k1;clear hst hn hrow h hs hv hr hk hc hcc hok hj hby e1 hfit rT;go_enter Tryz.func75,Tryz.ntmps75;go_wp2_with fail;generalize w.alloc (bW x (.slice pa x.pay.length pc))=w1 at *;go_quiet (fail);generalize hw2:XE w1 _=w2;have hb2:Below w1.heap.size w1 w2:=by rw [<-hw2];exact bS w1 _
  have H2:=aQ (H1.out.own hb2);have k1:w2.cell? ⟨w.heap.size,1,none⟩=some (.int .i64 (c:Int)):=by rw [<-hw2];exact k1
  have k2:w2.cell? ⟨w.heap.size,2,none⟩=some (.int .i64 x.number):=by rw [<-hw2];exact k2
  have k0:w2.cell? ⟨w.heap.size,0,none⟩=some (.int .u8 (U x.kind)):=by rw [<-hw2];exact k0
  have c1:w2.cell? ⟨p,1,none⟩=some (.slice ra a.aZ.length rc):=by rw [<-hw2];exact c1
  clear hw2 hb2 H1 c7 c9 k3 b5 b6 k4;go_wp2_with fail;refine wp_region_held_drew (S:=fun w'=>(∃ra rc,w'.cell? ⟨p,1,none⟩=some (.slice ra a.aZ.length rc))/\w'.cell? ⟨w.heap.size,1,none⟩=some (.int .i64 (c:Int))/\w'.cell? ⟨w.heap.size,2,none⟩=some (.int .i64 x.number)) (by kernel_rfl) ⟨⟨ra,rc,c1⟩,k1,k2⟩ (fun hS0=>?_);refine Φ 0 10 hS0 ?_
  iterate 3 (refine aR (v:=?_) (by rfl) ?_ ?_;rotate_left 1;(focus ((intro w' hS';obtain ⟨l1,l2,l3⟩:=hS';go_simp);try with_reducible rfl));simp only [VF,ag,Ψ,ae])
  (refine gT (v:=?_) (f:=?_) (args:=?_) (by rfl) ?_ ?_ ?_;rotate_left 3;(focus (intro w';go_simp;first|(with_reducible rfl)|(refine ⟨?_,?_⟩ <;> with_reducible rfl)));(focus (intro w' hS';with_reducible exact (by obtain ⟨⟨ra',rc',l1⟩,_⟩:=hS';exact jF (p:=p) (w:=w') c ra' rc' hcl l1)));simp only [VF,ag,Ψ,ae])
  iterate 6 (refine aR (v:=?_) (by rfl) ?_ ?_;rotate_left 1;(focus ((intro w' hS';obtain ⟨l1,l2,l3⟩:=hS';go_simp);try with_reducible rfl));simp only [VF,ag,Ψ,ae])
  refine aT ?_;refine ah 10 (fun K hK=>?_)
  (refine ν (f:=?_) (args:=?_) (by rfl) ?_ ?_;rotate_left 2;(focus (go_simp;first|(with_reducible rfl)|(refine ⟨?_,?_⟩ <;> with_reducible rfl)));(refine (LY x.number QZ.out (by have:=bz.out.rcv;omega) H2.out.drew).mono ?_);rintro e w3 ⟨rfl,hh⟩)
  refine ⟨_,rfl,?_⟩;simp only [VF,ag,Ψ,ae];obtain ⟨y3,GL⟩:=hh.rp;obtain ⟨rv,wv,bv,kv,cv,tv,gv,ev,av,sv,nv,hv,ch⟩:=y3;have hrow:=GL.blk 0 rfl;obtain ⟨_,_,hr⟩:=GL.get 1 rfl;obtain ⟨yE,yD,e1,_⟩:=dh.shape (show dh dK _ _ rv a.aZ from hr);subst e1;have c1':w3.cell? ⟨p,1,none⟩=some (.slice yE a.aZ.length yD):=aJ hrow rfl;have hbx:=GL.mZ (us:=ω p { a with rcv:=a.rcv+1 } ⟨.slice yE a.aZ.length yD,wv,bv,kv,cv,tv,gv,ev,av,sv,nv,hv,ch⟩);obtain ⟨_,k1',k2',_,JI⟩:=dx hbx;rw [JU.out] at k1';refine hK.out _ _ ⟨⟨yE,yD,c1'⟩,k1',k2'⟩ ?_;clear hK K;refine ah 11 (fun K hK=>?_);go_simp;refine hK.out _ _ ⟨⟨yE,yD,c1'⟩,k1',k2'⟩ ?_;clear hK K;refine fZ ?_;have gl:=bz.out.gl;have hg:=bT (d:=(⟨0,0,0⟩:fV)) (show c < a.π.length by rw [gl];exact hcl);have hgb:=bz.out.π _ (VD hg);obtain ⟨_,_,rJ⟩:=GL.get 7 rfl;obtain ⟨b3,o3,k3,e3,m3,QJ⟩:=bR (show Sq xA 161 w3 _ _ gv a.π from rJ) (by rw [gl];omega);subst e3;have hg3:=qR (show Sq xA 161 w3 _ _ (.slice (some ⟨b3,o3,none⟩) a.π.length k3) a.π from rJ) hg;have uK:w3.cell? ⟨p,26,none⟩=some (.slice (some ⟨b3,o3,none⟩) a.π.length k3):=aJ hrow rfl;obtain ⟨g,hgg⟩:∃g,g=a.π.getD c ⟨0,0,0⟩:=⟨_,rfl⟩;have NH:=aQ hgg;rw [<-hgg] at hg3 hgb
  have hgr:g.cI<=g.aW/\g.aW<=g.room+g.cI:=by
   have h1:=DU.out.Fw c;have h2:=DU.out.buf c;have h3:=DU.out.room c;rw [<-hgg] at h1 h3;omega
  have AY:=aQ hg;have Df:=aQ (show dY F Z W (ω p { a with rcv:=a.rcv+1 } ⟨.slice yE a.aZ.length yD,wv,bv,kv,cv,tv,.slice (some ⟨b3,o3,none⟩) a.π.length k3,ev,av,sv,nv,hv,ch⟩++(ts++[dJ w.heap.size (bW x (.slice pa x.pay.length pc))])) w3 from GL);rw [gl] at uK m3;have hci:(c:Int) < (a.aZ.length:Int):=by omega
  clear hh GL hrow hr hbx rJ hg hgg k0 k1 k2 c1 hS0 H2 c1' k2';go_wp2_with fail;refine η 19 (S:=fun w'=>w'.cell? ⟨p,26,none⟩=some (.slice (some ⟨b3,o3,none⟩) a.aZ.length k3)/\w'.cell? ⟨w.heap.size,1,none⟩=some (.int .i64 (c:Int))/\w'.cell? ⟨b3,o3+c*3,none⟩=some (.int .i64 (g.room:Int))/\w'.cell? ⟨b3,o3+c*3+1,none⟩=some (.int .i64 (g.aW:Int))/\w'.cell? ⟨b3,o3+c*3+2,none⟩=some (.int .i64 (g.cI:Int))) (by kernel_rfl) ⟨uK,k1',hg3.1,hg3.2.1,hg3.2.2⟩ (fun hS0=>?_);refine kX 0 14 hS0 ?_
  iterate 14 (refine aR (v:=?_) (by rfl) ?_ ?_;rotate_left 1;(focus ((intro w' hS';obtain ⟨l1,l2,l3,l4,l5⟩:=hS';go_simp);try with_reducible rfl));simp only [VF,ag,Ψ,ae])
  refine aT ?_;refine bq 14 (fun K hK=>?_)
  (refine ν (f:=?_) (args:=?_) (by rfl) ?_ ?_;rotate_left 2;(focus (go_simp;first|(with_reducible rfl)|(refine ⟨?_,?_⟩ <;> with_reducible rfl)));(refine (Cu g hgr.1 hgr.2 (by omega) _).mono ?_);rintro e w4 ⟨he,hb4⟩)
  obtain ⟨z,hz⟩:∃z:Int,z=(if g.cO.1=true then 0 else 5):=⟨_,rfl⟩;rw [<-hz] at he;have HZ:=aQ hz;subst he;refine ⟨_,rfl,?_⟩;simp only [VF,ag,Ψ,ae];have hb5:Below w3.heap.size w3 w4:=Wi (by exact dC) hb4;have hs4:=Df.out.own hb5;have d26:w4.cell? ⟨p,26,none⟩=some (.slice (some ⟨b3,o3,none⟩) a.aZ.length k3):=(Vt (hb5.block _ (Vv _ _ uK))).trans uK;have d1:w4.cell? ⟨w.heap.size,1,none⟩=some (.int .i64 (c:Int)):=(Vt (hb5.block _ (Vv _ _ k1'))).trans k1';have e1:w4.cell? ⟨b3,o3+c*3,none⟩=some (.int .i64 (g.room:Int)):=(Vt (hb5.block _ (Vv _ _ hg3.1))).trans hg3.1;have e2:w4.cell? ⟨b3,o3+c*3+1,none⟩=some (.int .i64 (g.aW:Int)):=(Vt (hb5.block _ (Vv _ _ hg3.2.1))).trans hg3.2.1;have e3:w4.cell? ⟨b3,o3+c*3+2,none⟩=some (.int .i64 (g.cI:Int)):=(Vt (hb5.block _ (Vv _ _ hg3.2.2))).trans hg3.2.2
  have hgf:∀j,w4.frozen? ⟨b3,j,none⟩=false:=by
   obtain ⟨_,_,hb⟩:=hs4.get 7 rfl;exact (Sq.free (show Sq xA 161 w4 _ _ (.slice (some ⟨b3,o3,none⟩) a.π.length k3) a.π from hb)).2.2.2
  have nH:=aQ (hs4.UL 7 rfl AY.out g.cO.2);refine hK.out _ _ (fun _=>⟨d26,d1,e1,e2,e3⟩) ?_;clear hK K hb4 hb5 hs4 hS0 uK hg3 hz k1';refine dS 15 (by kernel_rfl) rfl (fun _=>⟨d26,d1,e1,e2,e3⟩) (fun _ _ _ _ _ h=>h) ?_;refine dI ?_;refine aT ?_;refine dS 16 (by kernel_rfl) rfl (fun _=>⟨d26,d1,e1,e2,e3⟩) (fun _ _ _ _ _ h=>h) ?_;refine dI ?_;refine aT ?_;refine dS 17 (by kernel_rfl) rfl (fun _=>⟨d26,d1,e1,e2,e3⟩) (fun _ _ _ _ _ h=>h) ?_;refine dI ?_;refine aT ?_;refine bq 18 (fun K hK=>?_);go_simp;refine hK.out _ _ (fun _=>⟨d26,d1,e1,e2,e3⟩) ?_;clear hK K;refine bq 19 (fun K hK=>?_);go_simp;refine hK.out _ _ (fun e=>absurd rfl e) ?_;clear hK K;refine jJ 20 (by kernel_rfl) rfl (by kernel_rfl) (fun K hK=>?_);go_simp;refine hK.out _ _ ?_;clear hK K;refine lG ?_;clear d26 d1 e1 e2 e3 hgf JI Df;generalize VR (VR (VR w4 _ _) _ _) _ _=w5 at nH ⊢;have qz:=aQ (show dY F Z W (ω p { a with rcv:=a.rcv+1,π:=a.π.set c g.cO.2 } ⟨.slice yE a.aZ.length yD,wv,bv,kv,cv,tv,.slice (some ⟨b3,o3,none⟩) a.π.length k3,ev,av,sv,nv,hv,ch⟩++(ts++[dJ w.heap.size (bW x (.slice pa x.pay.length pc))])) w5 from nH.out);clear nH
  cases Gx:g.cO.1 with
  |false=>
   obtain rfl:z=5:=by rw [HZ.out,Gx];rfl
   have HG:=aQ (show a.cO x={ a with rcv:=a.rcv+1,π:=a.π.set c g.cO.2,bL:=a.bL+1 } by
    have e:g.cO.2=g:=by
     revert Gx;unfold fV.cO;split
     ·intro _;rfl
     ·intro h;cases h
    unfold δ.cO;rw [if_neg (by rintro (h|h);exact h Kt.out;exact h QZ.out),JU.out];dsimp only [Wv];rw [<-NH.out,if_pos Gx,e,jy (NH.out ▸ AY.out)])
   have hrow:=qz.out.blk 0 rfl;have c33:w5.cell? ⟨p,33,none⟩=some (.int .i64 (a.bL:Int)):=aJ hrow rfl;have cf:=fun i=>aD hrow i
   have hov:=bz.out.C_;have θ:=aQ hrow;clear hrow Gx;go_wp2_with fail;refine bodyPost_ret (v:=.tuple #[]) (by simp [results,Tryz.results75,go_sem]) rfl ?_;refine ⟨rfl,?_⟩;rw [HG.out];refine dY.ax (x:=⟨.slice yE a.aZ.length yD,wv,bv,kv,cv,tv,.slice (some ⟨b3,o3,none⟩) a.π.length k3,ev,av,sv,nv,hv,ch⟩) ?_;refine dY.dropLast (T:=dJ w.heap.size (bW x (.slice pa x.pay.length pc))) ?_;refine qz.out.set 0 rfl (iX { a with rcv:=a.rcv+1,π:=a.π.set c g.cO.2,bL:=a.bL+1 } ⟨.slice yE a.aZ.length yD,wv,bv,kv,cv,tv,.slice (some ⟨b3,o3,none⟩) a.π.length k3,ev,av,sv,nv,hv,ch⟩) (by exact eZ) ?_;have hr:=θ.out
   (refine aS (Ξ hr) ?_)
   first|rfl|(simp;done)|(simp;omega)
  |true=>
   obtain rfl:z=0:=by rw [HZ.out,Gx];rfl
   have HRV:=aQ Gx;clear Gx;have hrow:=qz.out.blk 0 rfl;have bl:=bz.out.bl;obtain ⟨_,_,hb3⟩:=qz.out.get 3 rfl;obtain ⟨b1,o1,k1,e1,m1,nG⟩:=bR (show Sq (df ψ 40) 51 w5 _ _ bv a.aY from hb3) (by omega);subst e1;have hx:=bT (d:=[]) (show c < a.aY.length by omega);have hln:=bz.out.rO _ (VD hx);have hbf:=(Sq.free (show Sq (df ψ 40) 51 w5 _ _ (.slice (some ⟨b1,o1,none⟩) a.aY.length k1) a.aY from hb3)).2.2.2;have hbx:=qz.out.mZ (us:=ω p { a with rcv:=a.rcv+1,π:=a.π.set c g.cO.2 } ⟨.slice yE a.aZ.length yD,wv,.slice (some ⟨b1,o1,none⟩) a.aY.length k1,kv,cv,tv,.slice (some ⟨b3,o3,none⟩) a.π.length k3,ev,av,sv,nv,hv,ch⟩);obtain ⟨_,q1,_,_,q4⟩:=dx hbx;rw [JU.out] at q1;obtain ⟨_,_,hby⟩:=qz.out.get (13+j) (sK (us:=ω p { a with rcv:=a.rcv+1,π:=a.π.set c g.cO.2 } ⟨.slice yE a.aZ.length yD,wv,.slice (some ⟨b1,o1,none⟩) a.aY.length k1,kv,cv,tv,.slice (some ⟨b3,o3,none⟩) a.π.length k3,ev,av,sv,nv,hv,ch⟩) HJ.out);have nK:=aQ hby.1;have c13:w5.cell? ⟨p,13,none⟩=some (.slice (some ⟨b1,o1,none⟩) a.aY.length k1):=aJ hrow rfl;obtain ⟨xs,hxs⟩:∃xs,xs=a.aY.getD c []:=⟨_,rfl⟩;have uA:=aQ hxs;rw [<-hxs] at hx hln;obtain ⟨vc,je,tF⟩:=qz.out.out 3 rfl hx;have hout:dY F Z W ((ζ ψ 40 vc xs::(ω p { a with rcv:=a.rcv+1,π:=a.π.set c g.cO.2 } ⟨.slice yE a.aZ.length yD,wv,.slice (some ⟨b1,o1,none⟩) a.aY.length k1,kv,cv,tv,.slice (some ⟨b3,o3,none⟩) a.π.length k3,ev,av,sv,nv,hv,ch⟩).set 3 (ζ (jm (df ψ 40)) 51 (.slice (some ⟨b1,o1,none⟩) a.aY.length k1) ((a.aY.map some).set c none)))++(ts++[dJ w.heap.size (bW x (.slice pa x.pay.length pc))])) w5:=tF.front;obtain ⟨_,_,eD⟩:=hout.get 0 rfl;obtain ⟨va,k2,e3⟩:=Sq.shape (show Sq ψ 40 w5 _ _ vc xs from eD);subst e3;have hpb:p≠b1:=hout.apart 1 4 (by decide) rfl rfl (fun _ _ h=>h.2) fun _ _ h=>(Sq.free (show Sq _ _ _ _ _ (.slice (some ⟨b1,o1,none⟩) a.aY.length k1) _ from h)).2.1
   have hbb:w.heap.size≠b1:=hout.apart (14+ts.length) 4 (by omega) (mE (us:=ζ ψ 40 (.slice va xs.length k2) xs::(ω p { a with rcv:=a.rcv+1,π:=a.π.set c g.cO.2 } ⟨.slice yE a.aZ.length yD,wv,.slice (some ⟨b1,o1,none⟩) a.aY.length k1,kv,cv,tv,.slice (some ⟨b3,o3,none⟩) a.π.length k3,ev,av,sv,nv,hv,ch⟩).set 3 (ζ (jm (df ψ 40)) 51 (.slice (some ⟨b1,o1,none⟩) a.aY.length k1) ((a.aY.map some).set c none)))) rfl (fun _ _ h=>h.2) fun _ _ h=>(Sq.free (show Sq _ _ _ _ _ (.slice (some ⟨b1,o1,none⟩) a.aY.length k1) _ from h)).2.1
   have DT:=aQ hout;rw [bl] at c13 m1;clear hrow hb3 hx hbx hby hxs tF hout eD qz;go_wp2_with fail;refine η 21 (S:=fun w'=>w'.cell? ⟨p,13,none⟩=some (.slice (some ⟨b1,o1,none⟩) a.aZ.length k1)/\w'.cell? ⟨w.heap.size,1,none⟩=some (.int .i64 (c:Int))/\w'.cell? ⟨w.heap.size,4,none⟩=some (.slice pa x.pay.length pc)/\w'.cell? ⟨b1,o1+c,none⟩=some (.slice va xs.length k2)) (by kernel_rfl) ⟨c13,q1,q4,je⟩ (fun hS0=>?_);refine kX 0 14 hS0 ?_
   iterate 14 (refine aR (v:=?_) (by rfl) ?_ ?_;rotate_left 1;(focus ((intro w' hS';obtain ⟨l1,l2,l3,l4⟩:=hS';go_simp);try with_reducible rfl));simp only [VF,ag,Ψ,ae])
   refine aT ?_;refine kX 15 2 hS0 ?_
   iterate 2 (refine aR (v:=?_) (by rfl) ?_ ?_;rotate_left 1;(focus ((intro w' hS';obtain ⟨l1,l2,l3,l4⟩:=hS';go_simp);try with_reducible rfl));simp only [VF,ag,Ψ,ae])
   refine aT ?_;refine bq 14 (fun K hK=>?_);go_simp;refine hK.out _ _ (fun _=>⟨aI _ _ c13,aI _ _ q1,aI _ _ q4,aI _ _ je⟩) ?_;clear hK K;refine bq 17 (fun K hK=>?_);refine υ Ao rfl _ _ rfl (fun k=>w5.heap.size<=k) _ 0 [] rfl (by exact qK _ _ _ _ rfl rfl) _ x.pay.length (cu x.pay) rfl (by exact (nK.out.drewN 1).alloc _) iM (by unfold maxLen;omega) (by omega) ?_;intro v1 w6 hsl1 qB;rw [V5,WT] at hsl1;obtain ⟨jQ,jP,rfl⟩:=hsl1.shape;have hbw:Below w5.heap.size w5 ((w5.drew).alloc (.cells #[] 5)):=by exact dC
   have hb1':Below w5.heap.size w5 w6:=hbw.trans ((qB.below (B:=w5.heap.size) (by simp) fun k hk=>hk));have hbz:fE w6 (fun k=>w5.heap.size<=k) (.slice jQ x.pay.length jP) x.pay:=Sl.Jz (hsl1.mono (G:=fun k=>w5.heap.size<=k) (by rintro k (h|h);exact h;simp at h;omega)) (Vu _)
   have hS1:w6.cell? ⟨p,13,none⟩=some (.slice (some ⟨b1,o1,none⟩) a.aZ.length k1)/\w6.cell? ⟨w.heap.size,1,none⟩=some (.int .i64 (c:Int))/\w6.cell? ⟨w.heap.size,4,none⟩=some (.slice pa x.pay.length pc)/\w6.cell? ⟨b1,o1+c,none⟩=some (.slice va xs.length k2):=
    ⟨(Vt (hb1'.block _ (Vv _ _ c13))).trans c13,(Vt (hb1'.block _ (Vv _ _ q1))).trans q1,(Vt (hb1'.block _ (Vv _ _ q4))).trans q4,(Vt (hb1'.block _ (Vv _ _ je))).trans je⟩
   refine hK.out _ _ (fun _=>hS1) ?_;clear hK K;simp only [VF,ag,Ψ,ae];have hA:dY F Z W ((dD (.slice jQ x.pay.length jP) x.pay::ζ ψ 40 (.slice va xs.length k2) xs::(ω p { a with rcv:=a.rcv+1,π:=a.π.set c g.cO.2 } ⟨.slice yE a.aZ.length yD,wv,.slice (some ⟨b1,o1,none⟩) a.aY.length k1,kv,cv,tv,.slice (some ⟨b3,o3,none⟩) a.π.length k3,ev,av,sv,nv,hv,ch⟩).set 3 (ζ (jm (df ψ 40)) 51 (.slice (some ⟨b1,o1,none⟩) a.aY.length k1) ((a.aY.map some).set c none)))++(ts++[dJ w.heap.size (bW x (.slice pa x.pay.length pc))])) w6:=(DT.out.mM hb1' (T:=dD (.slice jQ x.pay.length jP) x.pay) hbz).front;obtain ⟨Kx,us,Yx,hsl,hKn,hoth,hback⟩:=hA.yT 1 rfl;have o5:¬Kx p:=hKn p 2 _ (by decide) rfl fun H Y h=>.inl h.2
   have hKb:¬Kx b1:=hKn b1 5 _ (by decide) rfl fun H Y h=>.inl (Sq.free (show Sq _ _ _ H Y (.slice (some ⟨b1,o1,none⟩) a.aY.length k1) _ from h)).2.1
   have hKx:¬Kx w.heap.size:=hKn _ (15+ts.length) (dJ w.heap.size (bW x (.slice pa x.pay.length pc))) (by omega) (mE (us:=dD (.slice jQ x.pay.length jP) x.pay::ζ ψ 40 (.slice va xs.length k2) xs::(ω p { a with rcv:=a.rcv+1,π:=a.π.set c g.cO.2 } ⟨.slice yE a.aZ.length yD,wv,.slice (some ⟨b1,o1,none⟩) a.aY.length k1,kv,cv,tv,.slice (some ⟨b3,o3,none⟩) a.π.length k3,ev,av,sv,nv,hv,ch⟩).set 3 (ζ (jm (df ψ 40)) 51 (.slice (some ⟨b1,o1,none⟩) a.aY.length k1) ((a.aY.map some).set c none)))) fun H Y h=>.inl h.2
   obtain ⟨_,_,U3⟩:=hoth 0 _ (by decide) rfl;have fP:=aQ hback;have gK:=aQ hsl;obtain ⟨s1,s2,s3,s4⟩:=hS1;have iq:=aK w6 (.cells #[.slice jQ x.pay.length jP] 40)
   have hS2:(w6.alloc (.cells #[.slice jQ x.pay.length jP] 40)).cell? ⟨p,13,none⟩=some (.slice (some ⟨b1,o1,none⟩) a.aZ.length k1)/\(w6.alloc (.cells #[.slice jQ x.pay.length jP] 40)).cell? ⟨w.heap.size,1,none⟩=some (.int .i64 (c:Int))/\(w6.alloc (.cells #[.slice jQ x.pay.length jP] 40)).cell? ⟨w.heap.size,4,none⟩=some (.slice pa x.pay.length pc)/\(w6.alloc (.cells #[.slice jQ x.pay.length jP] 40)).cell? ⟨b1,o1+c,none⟩=some (.slice va xs.length k2):=
    ⟨aI _ _ s1,aI _ _ s2,aI _ _ s3,aI _ _ s4⟩
   have iT:=aQ (fun (v2:Value) (w7:World) (hsl2:Sl w7 (fun k=>Kx k\/(w6.alloc (.cells #[.slice jQ x.pay.length jP] 40)).heap.size<=k) 40 1 v2 (xs.length+1) (us++[.slice jQ x.pay.length jP])) (hfr2:Fr Kx (w6.alloc (.cells #[.slice jQ x.pay.length jP] 40)) w7)=>
    show ∃g2 cz cap2,v2=.slice (some ⟨g2,cz,none⟩) (xs.length+1) cap2/\w7.cell? ⟨p,13,none⟩=some (.slice (some ⟨b1,o1,none⟩) a.aZ.length k1)/\w7.cell? ⟨w.heap.size,1,none⟩=some (.int .i64 (c:Int))/\w7.cell? ⟨w.heap.size,4,none⟩=some (.slice pa x.pay.length pc)/\w7.cell? ⟨b1,o1+c,none⟩=some (.slice va xs.length k2)/\(∀j,w7.frozen? ⟨b1,j,none⟩=false)/\Hid (dY F Z W (ω p { a with rcv:=a.rcv+1,π:=a.π.set c g.cO.2,aY:=a.aY.set c (xs++[x.pay]) } ⟨.slice yE a.aZ.length yD,wv,.slice (some ⟨b1,o1,none⟩) a.aY.length k1,kv,cv,tv,.slice (some ⟨b3,o3,none⟩) a.π.length k3,ev,av,sv,nv,hv,ch⟩++(ts++[dJ w.heap.size (bW x (.slice pa x.pay.length pc))])) (w7.setCell ⟨b1,o1+c,none⟩ (.slice (some ⟨g2,cz,none⟩) (xs.length+1) cap2))) from by
     obtain ⟨g2,cz,cap2,rfl,_⟩:=Sl.head hsl2 (by omega);obtain ⟨t1,t2,t3,t4⟩:=hS2;have hl:∀b,¬Kx b->b < (w6.alloc (.cells #[.slice jQ x.pay.length jP] 40)).heap.size->w7.heap[b]? = (w6.alloc (.cells #[.slice jQ x.pay.length jP] 40)).heap[b]?:=fun b hn hl=>hfr2.block b hl hn
     have h1:=hback _ w7 [.slice jQ x.pay.length jP] [x.pay] _ iq hsl2 hfr2 ⟨fun _=>False,Yx,fun _ f=>f.elim,fun _ y=>.inl y,fun _ f=>f.elim,fK.single (E:=ψ) ⟨_,rfl,fE.below U3 iq⟩⟩;have h2:dY F Z W (((ω p { a with rcv:=a.rcv+1,π:=a.π.set c g.cO.2 } ⟨.slice yE a.aZ.length yD,wv,.slice (some ⟨b1,o1,none⟩) a.aY.length k1,kv,cv,tv,.slice (some ⟨b3,o3,none⟩) a.π.length k3,ev,av,sv,nv,hv,ch⟩).set 3 (ζ (jm (df ψ 40)) 51 (.slice (some ⟨b1,o1,none⟩) a.aY.length k1) ((a.aY.map some).set c none))++(ts++[dJ w.heap.size (bW x (.slice pa x.pay.length pc))]))++[ζ ψ 40 (.slice (some ⟨g2,cz,none⟩) (xs.length+1) cap2) (xs++[x.pay])]) w7:=dY.wT (dY.tail h1);have h3:=dY.back (c:=c) (Gr:=a.aY.set c (xs++[x.pay])) h2 3 rfl (by rw [List.length_set,VL,bl];exact hcl) j_
     have DL:∀j,w7.frozen? ⟨b1,j,none⟩=false:=by
      obtain ⟨_,_,hh⟩:=h2.get 3 rfl;exact (Sq.free (show Sq (jm (df ψ 40)) 51 w7 _ _ (.slice (some ⟨b1,o1,none⟩) a.aY.length k1) ((a.aY.map some).set c none) from hh)).2.2.2
     exact ⟨g2,cz,cap2,rfl,(Vt (hl p o5 (Vv _ _ t1))).trans t1,(Vt (hl _ hKx (Vv _ _ t2))).trans t2,(Vt (hl _ hKx (Vv _ _ t3))).trans t3,(Vt (hl b1 hKb (Vv _ _ t4))).trans t4,DL,aQ h3⟩)
   clear hsl1 qB hbw hb1' hbz hA hKn hoth hback hsl U3 o5 hKb hKx iq fP DT c13 q1 q4 je hS0 hbf;refine bq 18 (fun K hK=>?_);go_simp;refine hK.out _ _ (fun _=>hS2) ?_;clear hK K;refine bq 19 (fun K hK=>?_);refine υ qA rfl _ _ rfl Kx (.slice va xs.length k2) xs.length us rfl (gK.out.alloc _) _ 1 [.slice jQ x.pay.length jP] rfl (iA _ _ _ _ rfl) (by intro u hu;simp at hu;subst hu;rfl) (by unfold maxLen;omega) (by omega) ?_;intro v2 w7 hsl2 hfr2;obtain ⟨g2,cz,cap2,rfl,t1,t2,t3,t4,tf,Tt⟩:=iT.out v2 w7 hsl2 hfr2;clear hsl2 hfr2 iT gK;refine hK.out _ _ (fun _=>⟨t1,t2,t3,t4⟩) ?_;clear hK K;simp only [VF,ag,Ψ,ae];refine bq 20 (fun K hK=>?_);go_simp;refine hK.out _ _ (fun _=>⟨t1,t2,t3,t4⟩) ?_;clear hK K;refine bq 21 (fun K hK=>?_);go_simp;refine hK.out _ _ (fun e=>absurd rfl e) ?_;clear hK K;refine lG ?_;clear t1 t2 t3 t4 tf s1 s2 s3 s4 hS2;generalize VR w7 _ _=w8 at Tt ⊢;have JK:dY F Z W (ω p { a with rcv:=a.rcv+1,π:=a.π.set c g.cO.2,aY:=a.aY.set c (xs++[x.pay]) } ⟨.slice yE a.aZ.length yD,wv,.slice (some ⟨b1,o1,none⟩) a.aY.length k1,kv,cv,tv,.slice (some ⟨b3,o3,none⟩) a.π.length k3,ev,av,sv,nv,hv,ch⟩++(ts++[dJ w.heap.size (bW x (.slice pa x.pay.length pc))])) w8:=Tt.out;clear Tt;have hrow:=JK.blk 0 rfl;have c31:w8.cell? ⟨p,31,none⟩=some nv:=aJ hrow rfl;have hbx:=JK.mZ (us:=ω p { a with rcv:=a.rcv+1,π:=a.π.set c g.cO.2,aY:=a.aY.set c (xs++[x.pay]) } ⟨.slice yE a.aZ.length yD,wv,.slice (some ⟨b1,o1,none⟩) a.aY.length k1,kv,cv,tv,.slice (some ⟨b3,o3,none⟩) a.π.length k3,ev,av,sv,nv,hv,ch⟩);obtain ⟨_,q1,_,_,_⟩:=dx hbx;rw [JU.out] at q1;have rl:=bz.out.rl;obtain ⟨_,_,hb⟩:=JK.get 11 rfl;obtain ⟨b4,o4,k4,e4,m4,m4'⟩:=bR (show Sq dK 3 w8 _ _ nv a.aW from hb) (by omega);subst e4;have hx4:=bT (d:=0) (show c < a.aW.length by omega);have ht4:=bz.out.ren _ (VD hx4);have hc4:=dP hb hx4;have JL:=(Sq.free hb).2.2.2;have HS9:=aQ (JK.drew.yM (xs:=a.aW) 11 rfl (c:=c) (y:=a.aW.getD c 0+1) (u:=(a.aW.getD c 0:Int)+1) (by omega) (by omega));obtain ⟨z,hz⟩:∃z,z=a.aW.getD c 0:=⟨_,rfl⟩;have HZ2:=aQ hz;rw [<-hz] at ht4 hc4;rw [rl] at c31 m4;have hw1:IntKind.i64.wrap ((z:Int)+1)=(z:Int)+1:=V6 _ (by omega);clear hrow hbx hb hx4 hz JK;go_wp2_with fail;refine wp_region_still_tail 10 (by kernel_rfl) (by kernel_rfl) ?_;simp only [Vy,VI,Vz,VH];change wpStill _ _ (V3 _) (fun a'=>wpList _ _ _ _ a' (V3 _)) _ _
   repeat still_step
   refine wpStill_nil ?_;go_wp2_with fail;go_end0;refine ⟨rfl,?_⟩
   have HG:=(show a.cO x={ a with rcv:=a.rcv+1,π:=a.π.set c g.cO.2,aY:=a.aY.set c (a.aY.getD c []++[x.pay]),aW:=a.aW.set c (a.aW.getD c 0+1) } by
    unfold δ.cO;rw [if_neg (by rintro (h|h);exact h Kt.out;exact h QZ.out),JU.out];dsimp only [Wv];rw [<-NH.out,if_neg (by rw [HRV.out];decide)])
   rw [HG,<-uA.out];have hz:=HZ2.out;subst hz;refine dY.ax (x:=⟨.slice yE a.aZ.length yD,wv,.slice (some ⟨b1,o1,none⟩) a.aY.length k1,kv,cv,tv,.slice (some ⟨b3,o3,none⟩) a.π.length k3,ev,av,sv,.slice (some ⟨b4,o4,none⟩) a.aW.length k4,hv,ch⟩) ?_;refine dY.dropLast (T:=dJ w.heap.size (bW x (.slice pa x.pay.length pc))) ?_;exact HS9.out
 ·have HG:=aQ (show a.cO x=a by
   unfold δ.cO
   rw [if_pos (show ¬a.has x.cls\/_ from by
    by_cases hc:0<=x.cls/\x.cls < a.aZ.length
    ·exact .inr fun e=>Re ⟨hc,e⟩
    ·exact .inl hc)])
  rw [HG.out];refine Mg x pa x.pay.length pc hk hs hv ?_ h;by_cases hc:0<=x.cls/\x.cls < a.aZ.length
  ·exact .inr ⟨hc,fun e=>Re ⟨hc,e⟩⟩
  ·exact .inl hc
end

section
variable {F Z:BS} {W w:World} {ts:List Th} {p N:Nat} {a:δ}
theorem Ip (x:Pt) (pv:Value) (hok:a.Ok N) (hN:N<=1000000000) (hfit:a.Fit) (h:dY F Z W (gJ p a::ts) w) (j:Nat) (hj:ts[j]? = some (dD pv x.pay)) (hpl:x.pay.length<=1000) :
  Calls Vs 75 #[.pointer (some ⟨p,0,none⟩),dH x pv] w fun e w'=>e=.returned (.tuple #[])/\dY F Z W (gJ p (a.cU x)::ts) w':=by
 have hby:∃pa pc,pv=.slice pa x.pay.length pc:=by
  obtain ⟨_,_,hby⟩:=h.get (j+1) (T:=dD pv x.pay) (by simpa using hj);exact fE.slice hby
 unfold δ.cU;by_cases h1:x.kind=1#8
 ·rw [if_pos h1]
  obtain ⟨pa,pc,rfl⟩:=hby;exact L9 x pa _ pc h1 hok hN hfit.buf h
 ·rw [if_neg h1]
  by_cases hup:a.cS.state=2/\(a.cS.cM:Int)=x.value
  ·have hz:=hok.cS.zero
   rw [if_neg (fun hn=>hn ⟨hup.1,(fun e=>by have:=hz.1 e;omega),hup.2⟩)];by_cases h2:x.kind=2#8
   ·rw [if_pos h2]
    exact OH x pv h2 hup.1 hup.2 hok hN hfit h j hj hpl
   ·rw [if_neg h2]
    obtain ⟨pa,pc,rfl⟩:=hby;by_cases h3:x.kind=3#8
    ·rw [if_pos h3]
     exact OP x pa _ pc h3 hup.1 hup.2 hok hN h
    ·rw [if_neg h3]
     by_cases h4:x.kind=4#8
     ·rw [if_pos h4]
      exact LZ x pa _ pc h4 hup.1 hup.2 hok h
     ·rw [if_neg h4]
      exact L8 x pa _ pc h1 h2 h3 h4 hup.1 hup.2 h
  ·rw [if_pos (fun hn=>hup ⟨hn.1,hn.2.2⟩)]
   obtain ⟨pa,pc,rfl⟩:=hby;exact LX x pa _ pc h1 hup h
theorem OD {T:TypeId} {qv:Value} {χ:List Bool} (h:dY F Z W (gJ p a::ts) w) (j:Nat) (hj:ts[j]? = some (ζ gV T qv χ)) (hok:a.dE.Ok χ.length) :
  Calls Vs 78 #[.pointer (some ⟨p,28,none⟩),qv] w fun e w'=>e=.returned (.int .i64 (iY (a.dE.pick χ).1))/\dY F Z W (gJ p { a with dE:=(a.dE.pick χ).2 }::ts) w':=by
 obtain ⟨G,Y,hon,hd,_,hoth,hback⟩:=h.use 0 rfl;obtain ⟨H,Ua,_,yN⟩:=hoth (j+1) _ (by omega) (by simpa using hj)
 suffices hs:Calls Vs 78 #[.pointer (some ⟨p,28,none⟩),qv] w fun e w'=>e=.returned (.int .i64 (iY (a.dE.pick χ).1))/\lS w G Y [gJ p { a with dE:=(a.dE.pick χ).2 }] w' by
  refine hs.mono fun e w' ⟨he,hh⟩=>⟨he,?_⟩
  have:=hback w' _ [] hh;rwa [List.append_nil] at this
 clear hback hoth h;obtain ⟨x,hh⟩:=dY.UI hon hd;obtain ⟨rv,wv,bv,kv,cv,tv,gv,ev,av,sv,nv,hv,Ud⟩:=x;obtain ⟨n1,n2,hal,hpt,hag⟩:=hok;have hn1:0 < χ.length:=n1
 have Rv:=fun k=>show a.dE.jc.getD k 0<=1073741824 from by
  rw [Wo]
  cases hk:a.dE.jc[k]? with
  |none=>simp
  |some x=>exact hag x (VD hk)
 have KC:=yN;obtain ⟨K,D,us,_,_,_,hsl,_⟩:=KC;obtain ⟨rb,ro,rc,rfl,_,hrc⟩:=hsl.head hn1;obtain ⟨_,hrH,hrl,_⟩:=Sq.free yN;have UY:rc<=9223372036854775807:=by obtain ⟨_,_,cap,e,_,h,_⟩:=hsl.rd;obtain ⟨_,rfl⟩:_/\rc=cap:=(by simpa using e);exact h
 have hrG:¬G rb:=fun g=>Ua rb g hrH
 have Uo:=aQ (fun k (hk:k < χ.length)=>show w.cell? ⟨rb,ro+k,none⟩=some (.bool (χ.getD k false)) from by
  have:=mG yN (Vw hk);simpa [Wo,hk] using this)
 obtain ⟨_,_,T9⟩:=hh.get 9 rfl;obtain ⟨ab,ao,ac,e9,U6,aaW⟩:=bR (show Sq dK 3 w _ _ av a.dE.jc from T9) (by omega);subst e9;clear hsl yN hj hd Ua hon T9;have NK:=aQ hal;rw [hal] at U6 hh;have HH:=aQ hh;have hrow:=hh.blk 0 rfl;have c28:w.cell? ⟨p,28,none⟩=some (.int .i64 (a.dE.ptr:Int)):=aJ hrow rfl;have c29:w.cell? ⟨p,29,none⟩=some (.slice (some ⟨ab,ao,none⟩) χ.length ac):=aJ hrow rfl;clear hh hrow hal hag;have hz0:((χ.length:Int) == 0)=false:=by rw [beq_eq_false_iff_ne];omega
 go_enter Tryz.func78,Tryz.ntmps78;go_wp2_with fail
 go_loop [7,6,8] (fun i c _=>∃k:Nat,k<=χ.length/\i=.int .i64 ((k:Int) - 1)/\c=.int .i64 (iY (eQ χ a.dE.ptr χ.length k (χ.length - k)))) (fun i _ _=>(intOf i+1).toNat)
 case atStart=>exact ⟨χ.length,Vu _,rfl,by rw [Nat.sub_self];rfl⟩
 case round=>
  obtain ⟨k,hk,rfl,rfl⟩:=hrel;by_cases hlt:0 < k
  ·obtain ⟨i,rfl⟩:∃i,k=i+1:=⟨k - 1,by omega⟩
   have hij:((i+1:Nat):Int) - 1=(i:Int):=by omega
   rw [hij];have hkk:=Uo.out ((a.dE.ptr+i) % χ.length) (Ya _ hn1);have Dn:(a.dE.ptr+i) % χ.length < χ.length:=Ya _ hn1;obtain ⟨m,hm⟩:∃m,(a.dE.ptr+i) % χ.length=m:=⟨_,rfl⟩;rw [hm] at hkk Dn;have hmz:((a.dE.ptr:Int)+(i:Int)) % (χ.length:Int)=(m:Int):=by rw [<-hm];push_cast;rfl
   have jX:=aQ (show eQ χ a.dE.ptr χ.length i (χ.length - i)=if χ.getD m false then some m else eQ χ a.dE.ptr χ.length (i+1) (χ.length - (i+1)) by
    rw [show χ.length - i=(χ.length - (i+1))+1 by omega]
    conv=>lhs;unfold eQ
    rw [hm])
   clear hm hij;generalize hq:eQ χ a.dE.ptr χ.length (i+1) (χ.length - (i+1))=q at *;clear hq
   cases hb:χ.getD m false with
   |true=>
    rw [hb] at hkk jX;clear hb;go_wp2_with fail
    go_round
    case rel=>exact ⟨i,by omega,by go_num,by rw [jX.out,if_pos rfl];show _=VS .i64 (m:Int);first|rfl|rw [hmz]⟩
    case measure=>first|(simp [intOf];done)|(simp [intOf];omega)
   |false=>
    rw [hb] at hkk jX;clear hb;go_wp2_with fail
    go_round
    case rel=>exact ⟨i,by omega,by go_num,by rw [jX.out];rfl⟩
    case measure=>first|(simp [intOf];done)|(simp [intOf];omega)
  ·obtain rfl:k=0:=by omega
   rw [show eQ χ a.dE.ptr χ.length 0 (χ.length - 0)=a.dE.choice χ from rfl];obtain ⟨ch,hch⟩:∃ch,ch=a.dE.choice χ:=⟨_,rfl⟩;have Aw:=aQ hch;have hcl:=fun c (e:ch=some c)=>(jN hn1 (show eQ χ a.dE.ptr χ.length 0 χ.length=some c from by rw [<-e,hch];rfl)).1
   rw [<-hch];have hz1:((0:Nat):Int) - 1 = -1:=rfl;rw [hz1];clear hch hz1 hk hlt;go_wp2_with fail;go_loopw [9] (fun i wr=>∃k:Nat,k<=χ.length/\i=.int .i64 (k:Int)/\Hid (dY G Y w ((ω p a ⟨rv,wv,bv,kv,cv,tv,gv,ev,.slice (some ⟨ab,ao,none⟩) χ.length ac,sv,nv,hv,Ud⟩).set 9 (ζ dK 3 (.slice (some ⟨ab,ao,none⟩) χ.length ac) (h_ a.dE χ ch k))) wr)) (fun i _=>χ.length - (intOf i).toNat)
   case atStart=>exact ⟨0,VJ _,rfl,aQ (by rw [ug ch NK.out];exact HH.out)⟩
   case round=>
    clear c28 c29;obtain ⟨k,hk,rfl,HK⟩:=hrel;by_cases hlt:k < χ.length
    ·have hrow:=HK.out.blk 0 rfl
     have c29:wr.cell? ⟨p,29,none⟩=some (.slice (some ⟨ab,ao,none⟩) χ.length ac):=aJ hrow rfl;have hkk:wr.cell? ⟨rb,ro+k,none⟩=some (.bool (χ.getD k false)):=(Vt (HK.out.fr.block rb hrl hrG)).trans (Uo.out k hlt);obtain ⟨_,_,eD⟩:=HK.out.get 9 rfl;have hfr:=(Sq.free eD).2.2.2;have hck:=dP eD (nA hlt (Vu k));have hge:=Rv k;obtain ⟨x,hx⟩:∃x,x=a.dE.jc.getD k 0:=⟨_,rfl⟩;rw [<-hx] at hck hge;have HX:=aQ hx
     have jX:=aQ (fun (y:Nat) (hy:y=if χ.getD k false=true/\some k≠ch then min (a.dE.jc.getD k 0+1) 1073741824 else 0)=>
      show dY G Y w ((ω p a ⟨rv,wv,bv,kv,cv,tv,gv,ev,.slice (some ⟨ab,ao,none⟩) χ.length ac,sv,nv,hv,Ud⟩).set 9 (ζ dK 3 (.slice (some ⟨ab,ao,none⟩) χ.length ac) (h_ a.dE χ ch (k+1)))) (wr.setCell ⟨ab,ao+k,none⟩ (.int .i64 (y:Int))) from by
       have:=HK.out.put jG 9 rfl (c:=k) (j:=0) (a:=x) (a':=y) (u:=.int .i64 (y:Int)) (by rw [HX.out];exact nA hlt (Vu k)) (by decide) rfl;rw [wG hy] at this;simpa [dK] using this)
     clear eD hrow hx;by_cases hpc:χ.getD k false=true/\some k≠ch
     ·have hb1:=hpc.1
      have hb2:((k:Int) == iY ch)=false:=by
       cases ch with
       |none=>rw [beq_eq_false_iff_ne];show (k:Int) ≠ -1;omega
       |some c=>
        have:k≠c:=fun e=>hpc.2 (by rw [e])
        rw [beq_eq_false_iff_ne];show (k:Int)≠(c:Int);omega
      rw [hb1] at hkk;obtain ⟨m,hm⟩:∃m,min (x+1) 1073741824=m:=⟨_,rfl⟩;have Ti:min ((x:Int)+1) 1073741824=(m:Int):=by rw [<-hm,<-BM];simp
      have HS:=aQ (jX.out m (by rw [if_pos hpc,<-HX.out,hm]));have xC:=hge;clear hb1 hpc jX hm;go_wp2_with fail;have hwr:IntKind.i64.wrap ((x:Int)+1)=(x:Int)+1:=V6 _ (by omega);refine wp_region_still_tail 15 (by kernel_rfl) (by kernel_rfl) ?_;simp only [Vy,VI,Vz,VH];change wpStill _ _ (V3 _) (fun a'=>wpList _ _ _ _ a' (V3 _)) _ _
      repeat still_step
      refine wpStill_nil ?_;go_wp2_with fail;go_roundw
      case rel=>exact ⟨k+1,by omega,by go_num,aQ HS.out.drew⟩
      case measure=>first|(simp [intOf];done)|(simp [intOf];omega)
     ·have HS:=aQ (jX.out 0 (by rw [if_neg hpc]))
      cases hb:χ.getD k false with
      |false=>
       rw [hb] at hkk;clear hb hpc jX;go_wp2_with fail;go_roundw
       case rel=>exact ⟨k+1,by omega,by go_num,HS⟩
       case measure=>first|(simp [intOf];done)|(simp [intOf];omega)
      |true=>
       have hb2:((k:Int) == iY ch)=true:=by
        have:some k=ch:=Yi fun e=>hpc ⟨hb,e⟩
        rw [<-this];simp [iY]
       rw [hb] at hkk;clear hb hpc jX;go_wp2_with fail;go_roundw
       case rel=>exact ⟨k+1,by omega,by go_num,HS⟩
       case measure=>first|(simp [intOf];done)|(simp [intOf];omega)
    ·obtain rfl:χ.length=k:=by omega
     have hrow:=HK.out.blk 0 rfl;have c28:wr.cell? ⟨p,28,none⟩=some (.int .i64 (a.dE.ptr:Int)):=aJ hrow rfl;have cf:=fun j=>aD hrow j
     have θ:=aQ hrow;clear hrow;have Dh:=aQ (show (a.dE.pick χ).1=ch by rw [Aw.out];rfl);have HAG:=aQ (show h_ a.dE χ ch χ.length=(a.dE.pick χ).2.jc by rw [Aw.out];exact wH a.dE χ);have Av:=aQ (show (a.dE.pick χ).2.jc.length=χ.length by simp [sZ.pick])
     have Vg:=aQ (fun (w':World) (q:Nat) (hq:(a.dE.pick χ).2.ptr=q) (h':dY G Y w ((ω p { a with dE:={ a.dE with ptr:=q } } ⟨rv,wv,bv,kv,cv,tv,gv,ev,.slice (some ⟨ab,ao,none⟩) χ.length ac,sv,nv,hv,Ud⟩).set 9 (ζ dK 3 (.slice (some ⟨ab,ao,none⟩) χ.length ac) (h_ a.dE χ ch χ.length))) w')=>
      show lS w G Y [gJ p { a with dE:=(a.dE.pick χ).2 }] w' from by
       refine dY.KU (x:=⟨rv,wv,bv,kv,cv,tv,gv,ev,.slice (some ⟨ab,ao,none⟩) χ.length ac,sv,nv,hv,Ud⟩) ?_;have e:(a.dE.pick χ).2=⟨q,h_ a.dE χ ch χ.length⟩:=by rw [<-hq,HAG.out]
       rw [e];exact h')
     cases ch with
     |none=>
      have QW:=aQ (show (a.dE.pick χ).2.ptr=a.dE.ptr by show (match a.dE.choice χ with|some c=>(c+1) % χ.length|none=>a.dE.ptr)=_;rw [<-Aw.out]);have hch:iY none = -1:=rfl;rw [hch];clear hch;go_wp2_with fail;go_ret;exact ⟨by rw [Dh.out];rfl,Vg.out _ _ QW.out HK.out⟩
     |some c=>
      have hc:=hcl c rfl;have QW:=aQ (show (a.dE.pick χ).2.ptr=(c+1) % χ.length by show (match a.dE.choice χ with|some c=>(c+1) % χ.length|none=>a.dE.ptr)=_;rw [<-Aw.out]);have hch:iY (some c)=(c:Int):=rfl;rw [hch];clear hch hcl;go_wp2_with fail;go_ret;refine ⟨by rw [Dh.out];rfl,Vg.out _ _ QW.out ?_⟩;have:=HK.out.set 0 rfl (iX { a with dE:={ a.dE with ptr:=(c+1) % χ.length } } ⟨rv,wv,bv,kv,cv,tv,gv,ev,.slice (some ⟨ab,ao,none⟩) χ.length ac,sv,nv,hv,Ud⟩) (w':=wr.setCell ⟨p,28,none⟩ (.int .i64 (((c:Int)+1) % (χ.length:Int)))) (by exact eZ) (by have hr:=θ.out;(refine aS (Ξ hr) ?_);first|(simp;done)|(push_cast;rfl));exact this
end

theorem iZ {α : Type} {l:List α} {i c:Nat} {v d : α}:(l.set i v).getD c d=if i=c/\i < l.length then v else l.getD c d:=by
 rw [We,We,List.getElem?_set];by_cases h:i=c
 ·subst h
  by_cases hl:i < l.length
  ·simp [hl]
  ·simp [hl]
 ·simp [h]
theorem mF {α : Type} {l:List α} {c:Nat} {d : α} (h:l.length<=c):l.getD c d=d:=by
 rw [We,List.getElem?_eq_none h];rfl
theorem getD_map {α β : Type} (f : α -> β) (d : α) (c:Nat) (l:List α):(l.map f).getD c (f d)=f (l.getD c d):=by
 rw [We,We,VG]
 cases l[c]? <;> rfl
theorem δ.Fit.begin {N:Nat} {p:δ} (hok:p.Ok N) (h:∀c,(p.aY.getD c []).length<=p.aZ.getD c 0) (cM:Nat):(p.begin cM).Fit:=by
 have hg:∀c,(p.begin cM).π.getD c ⟨0,0,0⟩=⟨p.aZ.getD c 0,(p.aY.getD c []).length,0⟩:=fun c=>by
  have e:(p.begin cM).π=(VV p.aZ.length).map fun c=>fV.held ⟨p.aZ.getD c 0,0,0⟩ (p.aY.getD c []).length:=rfl
  rw [e];by_cases hc:c < p.aZ.length
  ·rw [We,VG,VY hc,V_,ng,Nat.min_eq_left (h c)];rfl
  ·rw [mF (by simp;omega),mF (l:=p.aZ) (by omega),mF (l:=p.aY) (by rw [hok.bl];omega)];rfl
 refine ⟨h,fun c=>?_,fun c=>?_,fun c=>Nat.le_trans (Nat.le_of_eq (getD_map XT [] c p.aY)) (h c)⟩
 ·rw [hg];show (p.aY.getD c []).length=0+(p.aY.getD c []).length;omega
 ·rw [hg];rfl
theorem δ.Fit.gy {N:Nat} {p:δ} (hok:p.Ok N) (h:p.Fit) (x:Pt):(p.gy x).Fit:=by
 unfold δ.gy;dsimp only;split
 ·have hb:=δ.Fit.begin hok h.buf (p.cS.cO x.number x.value).cM
  exact ⟨hb.buf,hb.Fw,hb.room,hb.rG⟩
 ·exact ⟨h.buf,h.Fw,h.room,h.rG⟩
theorem δ.Fit.cO {N:Nat} {p:δ} (hok:p.Ok N) (h:p.Fit) (x:Pt):(p.cO x).Fit:=by
 unfold δ.cO;split
 ·exact h
 ·rename_i hn
  have hc:0<=x.cls/\x.cls < p.aZ.length:=Yi fun e=>hn (.inl e)
  obtain ⟨c,hcc⟩:∃c:Nat,x.cls=(c:Int):=⟨x.cls.toNat,by omega⟩;have hcl:c < p.aZ.length:=by omega
  rw [hcc];dsimp only [Wv];split
  ·exact ⟨h.buf,h.Fw,h.room,h.rG⟩
  ·rename_i hr
   have e:(p.π.getD c ⟨0,0,0⟩).cO.2={ p.π.getD c ⟨0,0,0⟩ with aW:=(p.π.getD c ⟨0,0,0⟩).aW+1 }/\(p.π.getD c ⟨0,0,0⟩).aW < (p.π.getD c ⟨0,0,0⟩).cE:=by
    revert hr;unfold fV.cO;split
    ·intro h;exact absurd rfl h
    ·rename_i h;intro _;exact ⟨rfl,by omega⟩
   have h1:=h.buf c;have h2:=h.Fw c;have h3:=h.room c;have h4:=e.2;unfold fV.cE at h4;refine ⟨fun k=>?_,fun k=>?_,fun k=>?_,h.rG⟩
   ·show ((p.aY.set c _).getD k []).length<=p.aZ.getD k 0
    rw [iZ];split
    ·rename_i hk
     obtain ⟨rfl,_⟩:=hk;rw [Vx,Xl];omega
    ·exact h.buf k
   ·show ((p.π.set c _).getD k ⟨0,0,0⟩).aW=((p.π.set c _).getD k ⟨0,0,0⟩).cI+((p.aY.set c _).getD k []).length
    rw [iZ,iZ];by_cases hk:c=k
    ·subst hk
     rw [if_pos ⟨rfl,by rw [hok.gl];exact hcl⟩,if_pos ⟨rfl,by rw [hok.bl];exact hcl⟩,e.1,Vx,Xl];dsimp only;omega
    ·rw [if_neg (fun h=>hk h.1),if_neg (fun h=>hk h.1)]
     exact h.Fw k
   ·show ((p.π.set c _).getD k ⟨0,0,0⟩).room=p.aZ.getD k 0
    rw [iZ];split
    ·rename_i hk
     obtain ⟨rfl,_⟩:=hk;rw [e.1];exact h3
    ·exact h.room k
theorem δ.Fit.cU {N:Nat} {p:δ} (hok:p.Ok N) (h:p.Fit) (x:Pt):(p.cU x).Fit:=by
 unfold δ.cU;split
 ·exact h.gy hok x
 ·split
  ·exact h
  ·split
   ·exact h.cO hok x
   ·split
    ·exact ⟨h.buf,h.Fw,h.room,h.rG⟩
    ·split
     ·unfold δ.raise;split
      ·exact ⟨h.buf,h.Fw,h.room,h.rG⟩
      ·exact h
     ·exact h
theorem δ.Fit.handles {p:δ}:∀(l:List Pt) {N:Nat},p.Ok N->(∀x ∈ l,x.pay.length<=1000)->p.Fit->(l.foldl δ.cU p).Fit
 |[],_,_,_,h=>h
 |x::l,_,hok,hl,h=>by
  rw [WM];exact δ.Fit.handles l (hok.cU x (hl x WG)) (fun y hy=>hl y (List.mem_cons_of_mem _ hy)) (h.cU hok x)
theorem δ.C8 (p:δ):p.choose.aY=p.aY/\p.choose.π=p.π/\p.choose.aZ=p.aZ/\p.choose.base=p.base:=by
 unfold δ.choose;split
 ·exact ⟨rfl,rfl,rfl,rfl⟩
 ·split <;> exact ⟨rfl,rfl,rfl,rfl⟩
theorem δ.Fit.cR {p:δ} {N:Nat} (hok:p.Ok N) (h:p.Fit) (l:List Pt) (hl:∀x ∈ l,x.pay.length<=1000):(p.cR l).2.Fit:=by
 have h1:=δ.Fit.handles l hok hl h;obtain ⟨a1,ha1⟩:∃a1,a1=l.foldl δ.cU p:=⟨_,rfl⟩;rw [<-ha1] at h1;unfold δ.cR;rw [<-ha1];dsimp only
 have h2:(δ.choose { a1 with cS:=a1.cS.cR }).Fit:=by
  obtain ⟨e1,e2,e3,e4⟩:=δ.C8 { a1 with cS:=a1.cS.cR };exact ⟨by rw [e1,e3];exact h1.buf,by rw [e1,e2];exact h1.Fw,by rw [e2,e3];exact h1.room,by rw [e3,e4];exact h1.rG⟩
 split
 ·exact ⟨h1.buf,h1.Fw,h1.room,h1.rG⟩
 ·split <;> exact ⟨h2.buf,h2.Fw,h2.room,h2.rG⟩
theorem δ.Fit.dQ {p:δ} (h:p.Fit) (c:Int) (d:dV):(p.dQ c d).2.Fit:=by
 unfold δ.dQ;split
 ·exact h
 ·split
  ·exact h
  ·exact ⟨h.buf,h.Fw,h.room,h.rG⟩
theorem δ.Fit.take {p:δ} {N:Nat} (hok:p.Ok N) (h:p.Fit) (c:Int):(p.take c).2.Fit:=by
 unfold δ.take;split
 ·exact h
 ·rename_i d hd
  unfold δ.jY at hd;split at hd
  ·rename_i hc
   obtain ⟨k,rfl⟩:∃k:Nat,c=(k:Int):=⟨c.toNat,by have:=hc.1;omega⟩;have hkl:k < p.aZ.length:=by have:=hc.2;omega
   dsimp only [Wv] at *
   have hln:0 < (p.aY.getD k []).length:=by
    cases hb:p.aY.getD k [] with
    |nil=>rw [hb] at hd;cases hd
    |cons _ _=>simp
   have h2:=h.Fw k;have e:(p.π.getD k ⟨0,0,0⟩).free={ p.π.getD k ⟨0,0,0⟩ with cI:=(p.π.getD k ⟨0,0,0⟩).cI+1 }:=by unfold fV.free;rw [if_neg (by omega)]
   refine ⟨fun j=>?_,fun j=>?_,fun j=>?_,h.rG⟩
   ·show ((p.aY.set k _).getD j []).length<=p.aZ.getD j 0
    rw [iZ];split
    ·rename_i hj
     obtain ⟨rfl,_⟩:=hj;have:=h.buf k;rw [V9];omega
    ·exact h.buf j
   ·show ((p.π.set k _).getD j ⟨0,0,0⟩).aW=((p.π.set k _).getD j ⟨0,0,0⟩).cI+((p.aY.set k _).getD j []).length
    rw [iZ,iZ];by_cases hj:k=j
    ·subst hj
     rw [if_pos ⟨rfl,by rw [hok.gl];exact hkl⟩,if_pos ⟨rfl,by rw [hok.bl];exact hkl⟩,e,V9];show (p.π.getD k ⟨0,0,0⟩).aW=(p.π.getD k ⟨0,0,0⟩).cI+1+_;omega
    ·rw [if_neg (fun h=>hj h.1),if_neg (fun h=>hj h.1)]
     exact h.Fw j
   ·show ((p.π.set k _).getD j ⟨0,0,0⟩).room=p.aZ.getD j 0
    rw [iZ];split
    ·rename_i hj
     obtain ⟨rfl,_⟩:=hj;rw [e];exact h.room k
    ·exact h.room j
  ·cases hd
theorem wh (inc:Nat) (aZ:List Nat) (wi ti de:Nat):(dG inc aZ wi ti de).Fit:=by
 have hb:∀c:Nat,((Vr aZ.length ([]:List dV)).getD c []).length=0:=fun c=>by
  rw [We,WU];split <;> rfl
 have hg:∀c,(dG inc aZ wi ti de).π.getD c ⟨0,0,0⟩=⟨aZ.getD c 0,0,0⟩:=fun c=>by
  have e:(dG inc aZ wi ti de).π=(VV aZ.length).map fun c=>fV.held ⟨aZ.getD c 0,0,0⟩ ((Vr aZ.length ([]:List dV)).getD c []).length:=rfl
  rw [e];by_cases hc:c < aZ.length
  ·rw [We,VG,VY hc,V_,hb];rfl
  ·rw [mF (by simp;omega),mF (l:=aZ) (by omega)]
 refine ⟨fun c=>?_,fun c=>?_,fun c=>?_,fun c=>?_⟩
 ·show ((Vr aZ.length ([]:List dV)).getD c []).length<=_
  rw [hb];exact VJ _
 ·rw [hg]
  show (0:Nat)=0+((Vr aZ.length ([]:List dV)).getD c []).length;rw [hb]
 ·rw [hg];rfl
 ·show ((Vr aZ.length ([]:List dV)).map XT).getD c 0<=_
  rw [show (0:Nat)=XT ([]:List dV) from rfl,getD_map,hb];exact VJ _

def Ju (F Z:BS) (W:World) (ts:List Th) (p:Nat) (r:List Pt × δ) (e:Ending) (w':World):Prop:=
 ∃(sa:Option Addr) (sc:Nat),e=.returned (.slice sa r.1.length sc)/\dY F Z W (ζ d_ 103 (.slice sa r.1.length sc) r.1::gJ p r.2::ts) w'
theorem δ.CZ {a:δ} {c:Nat} {d:dV} {dl:List dV} {s:bg} (h1:¬a.cA<=a.snd.cT.length) (h2:(a.dE.pick a.bK).1=some c) (h3:a.aX.getD c []=d::dl) (h4:a.snd.dQ d=(0,s)) :
  a.choose={ a with dE:=(a.dE.pick a.bK).2,aX:=a.aX.set c dl,bu:=a.bu.set c (a.bu.getD c ⟨0,0⟩).take,snd:=s,cT:=a.cT++[(c,d)] }:=by
 have e:a.choose=(match (a.dE.pick a.bK).1 with
  |none=>{ a with dE:=(a.dE.pick a.bK).2 }
  |some c=>{ a with
    dE:=(a.dE.pick a.bK).2
    aX:=a.aX.set c ((a.aX.getD c []).drop 1)
    bu:=a.bu.set c (a.bu.getD c ⟨0,0⟩).take
    snd:=(a.snd.dQ ((a.aX.getD c []).getD 0 [])).2
    cT:=a.cT++[(c,(a.aX.getD c []).getD 0 [])] }):=by
  unfold δ.choose;exact if_neg h1
 rw [e,h2];show ({ a with dE:=_,aX:=a.aX.set c ((a.aX.getD c []).drop 1),bu:=_,snd:=(a.snd.dQ ((a.aX.getD c []).getD 0 [])).2,cT:=a.cT++[(c,(a.aX.getD c []).getD 0 [])] }:δ)=_;rw [h3];show ({ a with dE:=_,aX:=a.aX.set c dl,bu:=_,snd:=(a.snd.dQ d).2,cT:=a.cT++[(c,d)] }:δ)=_;rw [h4]
theorem δ.Fb (p:δ):p.choose.inc=p.inc:=by
 unfold δ.choose;split
 ·rfl
 ·split <;> rfl
theorem Sq.aaC {α : Type} {E:El α} {f : α -> List Value} {T:TypeId} {w:World} {v:Value} {xs:List α} {B:Nat} (hp:Pure E f) (h:Sl w (fun k=>B<=k) T E.size v xs.length (xs.flatMap f)):Sq E T w (fun k=>B<=k) (fun _=>False) v xs:=
 ⟨fun k=>B<=k/\k < w.heap.size,fun _=>False,xs.flatMap f,fun _ hk=>hk.elim (·.1) YV,fun _ _ f=>f,fun _ hk=>hk.2,h.bound,hp.of _ _⟩
section
variable {F Z:BS} {W w:World} {ts:List Th} {p N:Nat} {a:δ}
theorem LU (bV:List Pt) (av0:Value) (hok:a.Ok N) (hfit:a.Fit) (hN:N+200*bV.length+1000<=1000000000) (harr:∀x ∈ bV,x.pay.length<=1000) (h:dY F Z W (gJ p a::ts) w) (j:Nat) (hj:ts[j]? = some (a_ d_ av0 bV)) :
  Calls Vs 41 #[.pointer (some ⟨p,0,none⟩),av0] w (Ju F Z W ts p (a.cR bV)):=by
 obtain ⟨_,_,hrd⟩:=h.get (j+1) (T:=a_ d_ av0 bV) (by simpa using hj);obtain ⟨aa,ac,rfl,m1,m2⟩:=dh.shape hrd;have HH:=aQ h;have bz:=aQ hok;have DU:=aQ hfit;have uQ:=aQ harr;have HJ:=aQ hj;clear hrd h hok harr hj hfit;go_enter Tryz.func41,Tryz.ntmps41;go_wp2_with fail;go_loopw [5] (fun i wr=>∃k:Nat,k<=bV.length/\i=.int .i64 (k:Int)/\Hid (dY F Z W (gJ p ((bV.take k).foldl δ.cU a)::ts) wr)) (fun i _=>bV.length - (intOf i).toNat)
 case atStart=>exact ⟨0,VJ _,rfl,HH⟩
 case round=>
  clear HH;obtain ⟨k,hk,rfl,HK⟩:=hrel;by_cases hlt:k < bV.length
  ·obtain ⟨x,hx⟩:∃x,bV[k]? = some x:=⟨_,Vw hlt⟩
   obtain ⟨_,_,hrd⟩:=HK.out.get (j+1) (T:=a_ d_ (.slice aa bV.length ac) bV) (by simpa using HJ.out);obtain ⟨b,off,pa,pc,e1,_,k0,k1,k2,k3,k4⟩:=tC hrd hx;subst e1
   have HW:=aQ (HK.out.weak (j+1) (A:=a_ d_ (.slice (some ⟨b,off,none⟩) bV.length ac) bV) (T:=dD (.slice pa x.pay.length pc) x.pay) (by simpa using HJ.out) fun G Y hon=>by
    obtain ⟨b',off',pa',pc',e',hby,_,_,_,_,JI⟩:=tC (show dh d_ wr Y _ _ from hon) hx;obtain ⟨rfl,rfl⟩:b=b'/\off=off':=by simpa using e'
    rw [k4] at JI;obtain ⟨rfl,rfl⟩:pa=pa'/\pc=pc':=by simpa using JI
    exact hby)
   have Kg:=bz.out.handles (bV.take k) fun y hy=>uQ.out y (XN hy)
   have Qi:=δ.Fit.handles (bV.take k) bz.out (fun y hy=>uQ.out y (XN hy)) DU.out;have hlk:(bV.take k).length<=bV.length:=by rw [List.length_take];omega
   have HQ:=aQ (Ip (ts:=ts++[dD (.slice pa x.pay.length pc) x.pay]) x (.slice pa x.pay.length pc) Kg (by omega) Qi (show dY F Z W (gJ p ((bV.take k).foldl δ.cU a)::(ts++[dD (.slice pa x.pay.length pc) x.pay])) wr from HW.out) ts.length (by simp) (uQ.out x (VD hx)));have HT:=aQ (show (bV.take (k+1)).foldl δ.cU a=((bV.take k).foldl δ.cU a).cU x by rw [List.take_add_one,hx,List.foldl_append];rfl);clear hrd hx Kg Qi hlk;go_wp2_with fail;refine HQ.out.mono ?_;rintro e w' ⟨rfl,hh⟩
   have H2:=aQ (show dY F Z W (gJ p ((bV.take (k+1)).foldl δ.cU a)::ts) w' by
    rw [HT.out];exact dY.dropLast (us:=[gJ p (((bV.take k).foldl δ.cU a).cU x)]) hh)
   clear hh HQ HW k0 k1 k2 k3 k4;go_wp2_with fail;go_roundw
   case rel=>exact ⟨k+1,by omega,by go_num,H2⟩
   case measure=>first|(simp [intOf];done)|(simp [intOf];omega)
  ·obtain rfl:bV.length=k:=by omega
   rw [List.take_length] at HK;have gz:=aQ (bz.out.handles bV uQ.out);obtain ⟨a1,ha1⟩:∃a1,a1=bV.foldl δ.cU a:=⟨_,rfl⟩;have KF:=δ.Fit.handles bV bz.out uQ.out DU.out;rw [<-ha1] at HK gz KF;have abm:=aQ KF;have HA1:=aQ ha1;obtain ⟨y,hst⟩:=HK.out.rp;obtain ⟨rv,wv,bv,kv,cv,tv,gv,ev,av,sv,nv,hv,ch⟩:=y;have hrow:=hst.blk 0 rfl;have c0:wr.cell? ⟨p,0,none⟩=some (.int .i64 (a1.inc:Int)):=aJ hrow rfl;have c5:wr.cell? ⟨p,5,none⟩=some (.int .i64 (a1.cS.mine:Int)):=aJ hrow rfl;have c6:wr.cell? ⟨p,6,none⟩=some (.int .i64 (a1.cS.dead:Int)):=aJ hrow rfl;have c7:wr.cell? ⟨p,7,none⟩=some (.int .i64 (a1.cS.cM:Int)):=aJ hrow rfl;have c8:wr.cell? ⟨p,8,none⟩=some (.int .i64 (a1.cS.seen:Int)):=aJ hrow rfl;have c9:wr.cell? ⟨p,9,none⟩=some (.int .i64 (a1.cS.state:Int)):=aJ hrow rfl;have c10:wr.cell? ⟨p,10,none⟩=some (.int .i64 (a1.cS.silent:Int)):=aJ hrow rfl;have c11:wr.cell? ⟨p,11,none⟩=some (.int .i64 ch):=aJ hrow rfl;have H1:=aQ hst;clear hst hrow ha1 KF HK bz uQ DU;go_wp2_with fail;refine (xn a1.cS gz.out.cS ch wr).mono ?_;rintro e w2 ⟨Dc,rfl,hb2⟩;clear c0 c5 c6 c7 c8 c9 c10 c11;have hst:=H1.out.own hb2;have hrow:=hst.blk 0 rfl;have c5:w2.cell? ⟨p,5,none⟩=some (.int .i64 (a1.cS.mine:Int)):=aJ hrow rfl;have c6:w2.cell? ⟨p,6,none⟩=some (.int .i64 (a1.cS.dead:Int)):=aJ hrow rfl;have c7:w2.cell? ⟨p,7,none⟩=some (.int .i64 (a1.cS.cM:Int)):=aJ hrow rfl;have c8:w2.cell? ⟨p,8,none⟩=some (.int .i64 (a1.cS.seen:Int)):=aJ hrow rfl;have c9:w2.cell? ⟨p,9,none⟩=some (.int .i64 (a1.cS.state:Int)):=aJ hrow rfl;have c10:w2.cell? ⟨p,10,none⟩=some (.int .i64 (a1.cS.silent:Int)):=aJ hrow rfl;have c11:w2.cell? ⟨p,11,none⟩=some (.int .i64 ch):=aJ hrow rfl;have cf:=fun i=>aD hrow i
   obtain ⟨s2,hs2⟩:∃s2,s2=a1.cS.cR:=⟨_,rfl⟩;have HS2:=aQ hs2;rw [<-hs2];clear hs2;go_upto_region 7 with fail
   have nH:=aQ (hst.set 0 rfl (iX { a1 with cS:=s2 } ⟨rv,wv,bv,kv,cv,tv,gv,ev,av,sv,nv,hv,Dc⟩) (w':=((((((w2.setCell ⟨p,5,none⟩ (.int .i64 s2.mine)).setCell ⟨p,6,none⟩ (.int .i64 s2.dead)).setCell ⟨p,7,none⟩ (.int .i64 s2.cM)).setCell ⟨p,8,none⟩ (.int .i64 s2.seen)).setCell ⟨p,9,none⟩ (.int .i64 s2.state)).setCell ⟨p,10,none⟩ (.int .i64 s2.silent)).setCell ⟨p,11,none⟩ (.int .i64 Dc)) (by exact eZ) (by (refine aS (Ξ hrow) ?_);rfl));clear hst hrow c5 c6 c7 c8 c9 c10 c11 cf hb2 H1;generalize VR (VR (VR (VR (VR (VR (VR w2 _ _) _ _) _ _) _ _) _ _) _ _) _ _=w3 at nH ⊢;have H3:=aQ (show dY F Z W (ω p { a1 with cS:=s2 } ⟨rv,wv,bv,kv,cv,tv,gv,ev,av,sv,nv,hv,Dc⟩++ts) w3 from nH.out);clear nH;have hrow:=H3.out.blk 0 rfl;have c7:w3.cell? ⟨p,7,none⟩=some (.int .i64 (s2.cM:Int)):=aJ hrow rfl;clear hrow;go_upto_region 8 with fail
   have h4:=H3.out.K7 (x:=a1.gU) (v:=.slice none 0 0) fun Y=>fE.nil _ Y
   rw [show a1.gU=⟨1#8,0,a1.inc,(s2.cM:Int),[]⟩ by rw [HS2.out]] at h4;change dY F Z W _ (w3.alloc (.cells #[.int .u8 1,.int .i64 0,.int .i64 (a1.inc:Int),.int .i64 (s2.cM:Int),.slice none 0 0] 103)) at h4;generalize w3.alloc (.cells #[.int .u8 1,.int .i64 0,.int .i64 (a1.inc:Int),.int .i64 (s2.cM:Int),.slice none 0 0] 103)=w4 at h4 ⊢;generalize w3.heap.size=lb at h4 ⊢;have HHL:=aQ (show a1.gU=⟨1#8,0,a1.inc,(s2.cM:Int),[]⟩ by rw [HS2.out]);rw [<-HHL.out] at h4;have H4:=aQ (show dY F Z W (ζ d_ 103 (.slice (some ⟨lb,0,none⟩) 1 1) [a1.gU]::(ω p { a1 with cS:=s2 } ⟨rv,wv,bv,kv,cv,tv,gv,ev,av,sv,nv,hv,Dc⟩++ts)) w4 from h4);have hrow:=h4.blk 1 rfl;have c9:w4.cell? ⟨p,9,none⟩=some (.int .i64 (s2.state:Int)):=aJ hrow rfl;have c24:w4.cell? ⟨p,24,none⟩=some (.int .i64 (a1.rcv:Int)):=aJ hrow rfl;have c1:w4.cell? ⟨p,1,none⟩=some rv:=aJ hrow rfl;obtain ⟨_,_,hr⟩:=h4.get 2 rfl;obtain ⟨ra,rc,e1,abw,UY⟩:=dh.shape (show dh dK _ _ rv a1.aZ from hr);subst e1;have hbl:a1.aZ.length<=4:=gz.out.n4;clear h4 hrow hr H3 c7;by_cases hup:s2.state=2
   ·have b1:((s2.state:Int) != 2)=false:=by rw [hup];rfl
    have Uk:=aQ hup;obtain ⟨rx,hrx⟩:∃rx:Nat,rx=a1.rcv % 256:=⟨_,rfl⟩;have HRX:=aQ hrx;have NT:(a1.rcv:Int) % 256=(rx:Int):=by omega
    clear hup hrx;go_upto_region 11 with (at_builtin;refine gu (xs:=[a1.gU]) (x:=⟨3#8,0,(rx:Int),a1.inc,[]⟩) (pa:=none) (pn:=0) (pc:=0) rfl _ _ rfl H4.out 0 rfl (fun Y _=>fE.nil _ Y) (aK w4 _) (by simp) rfl w4.heap.size rfl (heap_alloc_new w4 _) ?_;intro sa sc w5 h5;have H5:=aQ h5;clear h5)
    have HL2:=aQ (show [a1.gU]++[(⟨3#8,0,(rx:Int),a1.inc,[]⟩:Pt)]=a1.gU::a1.lT::(VV 0).map a1.j5 by rw [HRX.out];rfl);rw [HL2.out] at H5;have H6:=aQ (show dY F Z W (ζ d_ 103 (.slice sa (a1.gU::a1.lT::(VV 0).map a1.j5).length sc) (a1.gU::a1.lT::(VV 0).map a1.j5)::(ω p { a1 with cS:=s2 } ⟨.slice ra a1.aZ.length rc,wv,bv,kv,cv,tv,gv,ev,av,sv,nv,hv,Dc⟩++ts)) w5 from H5.out);have c1:w5.cell? ⟨p,1,none⟩=some (.slice ra a1.aZ.length rc):=aJ (H6.out.blk 1 rfl) rfl;clear H5 H4 c9 c24 HL2;go_wp2_with (at_make;refine jB (E:=gV) KS rfl (a0:=false) (fun _ _=>rfl) rfl _ _ rfl a1.aZ.length rfl rfl (by omega) (by unfold maxLen;omega) ?_;intro w6 hb6 hs6;obtain ⟨qb,QK⟩:∃qb,qb=w5.heap.size:=⟨_,rfl⟩;rw [<-QK] at hs6 ⊢;have H7:=aQ ((H6.out.add hb6 (T:=ζ gV 4 (.slice (some ⟨qb,0,none⟩) a1.aZ.length a1.aZ.length) (Vr a1.aZ.length false)) (by rw [QK] at hs6 ⊢;exact hs6)).front);clear hb6 hs6 QK c1);go_loopw [9,7] (fun i u7 wr=>∃(k:Nat) (l:List Pt) (sa:Option Addr) (sc:Nat),k<=a1.aZ.length/\i=.int .i64 (k:Int)/\u7=.slice sa l.length sc/\Hid (l=a1.gU::a1.lT::(VV k).map a1.j5)/\l.length<=6/\Hid (dY F Z W (ζ gV 4 (.slice (some ⟨qb,0,none⟩) a1.aZ.length a1.aZ.length) (upTo a1.aZ.length (kG a1) (fun _=>false) k)::ζ d_ 103 (.slice sa l.length sc) l::(ω p { a1 with cS:=s2 } ⟨.slice ra a1.aZ.length rc,wv,bv,kv,cv,tv,gv,ev,av,sv,nv,hv,Dc⟩++ts)) wr)) (fun i _ _=>a1.aZ.length - (intOf i).toNat)
    case atStart=>exact ⟨0,_,sa,sc,VJ _,rfl,rfl,aQ rfl,by simp,aQ (by rw [oJ,show (VV a1.aZ.length).map (fun _=>false)=Vr a1.aZ.length false by rw [List.map_const',List.length_range]];exact H7.out)⟩
    case round=>
     clear H7 H6;obtain ⟨k,l,ua,uc,hk,rfl,rfl,xD,hl6,HK⟩:=hrel;by_cases hlt:k < a1.aZ.length
     ·-- aav
      have hrow:=HK.out.blk 2 rfl;have uK:wr.cell? ⟨p,26,none⟩=some gv:=aJ hrow rfl;have PS:wr.cell? ⟨p,27,none⟩=some ev:=aJ hrow rfl;obtain ⟨_,_,hgv⟩:=HK.out.get 9 rfl;have hg:=bT (d:=(⟨0,0,0⟩:fV)) (show k < a1.π.length by rw [gz.out.gl];exact hlt);have hgb:=gz.out.π _ (VD hg);obtain ⟨gb,go',gc,e3,_,_⟩:=bR (show Sq xA 161 wr _ _ gv a1.π from hgv) (by rw [gz.out.gl];omega);subst e3;have hg3:=qR (show Sq xA 161 wr _ _ (.slice (some ⟨gb,go',none⟩) a1.π.length gc) a1.π from hgv) hg;obtain ⟨_,_,hbs⟩:=HK.out.get 10 rfl;obtain ⟨eb,eo,ec,e4,_,_⟩:=bR (show Sq dK 3 wr _ _ ev a1.base from hbs) (by rw [gz.out.sl];omega);subst e4;have hz:=bT (d:=0) (show k < a1.base.length by rw [gz.out.sl];exact hlt);have hzb:=gz.out.rG _ (VD hz);have hzc:=dP (show Sq dK 3 wr _ _ (.slice (some ⟨eb,eo,none⟩) a1.base.length ec) a1.base from hbs) hz;obtain ⟨z,hzz⟩:∃z,z=a1.base.getD k 0:=⟨_,rfl⟩;obtain ⟨g,hgg⟩:∃g,g=a1.π.getD k ⟨0,0,0⟩:=⟨_,rfl⟩;rw [<-hzz] at hzb hzc;rw [<-hgg] at hgb hg3;have NH:=aQ hgg;have HZZ:=aQ hzz
      have HCR:=aQ (show (⟨4#8,(k:Int),(g.cE:Int) - (z:Int),a1.inc,[]⟩:Pt)=a1.j5 k by
       unfold δ.j5;rw [<-hgg,<-hzz])
      have hlb:g.cE<=2000000000:=by unfold fV.cE;omega
      rw [gz.out.gl] at uK;rw [gz.out.sl] at PS;have hki:(k:Int) < (a1.aZ.length:Int):=by omega
      clear hrow hgv hg hbs hz hzz hgg;go_wp2_with fail;refine wp_region_held_drew (S:=fun w'=>w'.cell? ⟨p,26,none⟩=some (.slice (some ⟨gb,go',none⟩) a1.aZ.length gc)/\w'.cell? ⟨p,27,none⟩=some (.slice (some ⟨eb,eo,none⟩) a1.aZ.length ec)/\(w'.cell? ⟨gb,go'+k*3,none⟩=some (.int .i64 (g.room:Int))/\w'.cell? ⟨gb,go'+k*3+1,none⟩=some (.int .i64 (g.aW:Int))/\w'.cell? ⟨gb,go'+k*3+2,none⟩=some (.int .i64 (g.cI:Int)))/\w'.cell? ⟨eb,eo+k,none⟩=some (.int .i64 (z:Int))) (by kernel_rfl) ⟨uK,PS,hg3,hzc⟩ (fun hS0=>?_);refine Φ 0 9 hS0 ?_
      iterate 9 (refine aR (v:=?_) (by rfl) ?_ ?_;rotate_left 1;(focus ((intro w' hS';obtain ⟨l1,l2,⟨l3,l4,l5⟩,l6⟩:=hS';go_simp);try with_reducible rfl));simp only [VF,ag,Ψ,ae])
      refine aT ?_;refine Φ 10 7 hS0 ?_
      iterate 7 (refine aR (v:=?_) (by rfl) ?_ ?_;rotate_left 1;(focus ((intro w' hS';obtain ⟨l1,l2,⟨l3,l4,l5⟩,l6⟩:=hS';go_simp);try with_reducible rfl));simp only [VF,ag,Ψ,ae])
      refine aT ?_;refine Φ 18 1 hS0 ?_;refine dI ?_;refine aT ?_;refine ah 9 (fun K hK=>?_)
      (refine ν (f:=?_) (args:=?_) (by rfl) ?_ ?_;rotate_left 2;(focus (go_simp;first|(with_reducible rfl)|(refine ⟨?_,?_⟩ <;> with_reducible rfl)));(refine (Ev g (by unfold fV.cE at hlb;exact hlb) _).mono ?_);rintro e w6 ⟨rfl,hb6⟩)
      refine ⟨_,rfl,?_⟩;simp only [VF,ag,Ψ,ae];have rJ:Below wr.heap.size wr w6:=Wi (by exact dC) hb6
      have PQ:w6.cell? ⟨p,26,none⟩=some (.slice (some ⟨gb,go',none⟩) a1.aZ.length gc)/\w6.cell? ⟨p,27,none⟩=some (.slice (some ⟨eb,eo,none⟩) a1.aZ.length ec)/\(w6.cell? ⟨gb,go'+k*3,none⟩=some (.int .i64 (g.room:Int))/\w6.cell? ⟨gb,go'+k*3+1,none⟩=some (.int .i64 (g.aW:Int))/\w6.cell? ⟨gb,go'+k*3+2,none⟩=some (.int .i64 (g.cI:Int)))/\w6.cell? ⟨eb,eo+k,none⟩=some (.int .i64 (z:Int)):=
       ⟨(Vt (rJ.block _ (Vv _ _ uK))).trans uK,(Vt (rJ.block _ (Vv _ _ PS))).trans PS,⟨(Vt (rJ.block _ (Vv _ _ hg3.1))).trans hg3.1,(Vt (rJ.block _ (Vv _ _ hg3.2.1))).trans hg3.2.1,(Vt (rJ.block _ (Vv _ _ hg3.2.2))).trans hg3.2.2⟩,(Vt (rJ.block _ (Vv _ _ hzc))).trans hzc⟩
      refine hK.out _ _ PQ ?_;clear hK K uK PS hg3 hzc hS0 hb6;have H8:=aQ (HK.out.own rJ);have abg:(g.cE:Int)<=2000000000:=by omega
      have abh:0<=(g.cE:Int):=by omega
      have hzi:(z:Int)<=1000000000:=by omega
      have hz0:0<=(z:Int):=by omega
      generalize (g.cE:Int)=lim at *;have abt:IntKind.i64.wrap (lim - (z:Int))=lim - (z:Int):=V6 _ (by omega);refine ah 17 (fun K hK=>?_);go_simp;refine hK.out _ _ PQ ?_;clear hK K;refine ah 19 (fun K hK=>?_);go_simp;refine hK.out _ _ PQ ?_;clear hK K;refine ah 20 (fun K hK=>?_);go_simp;obtain ⟨s1,s2',⟨s3,s4,s5⟩,s6⟩:=PQ;refine hK.out _ _ ⟨aI _ _ s1,aI _ _ s2',⟨aI _ _ s3,aI _ _ s4,aI _ _ s5⟩,aI _ _ s6⟩ ?_;clear hK K;refine ah 21 (fun K hK=>?_);refine Cq (xs:=l) (x:=⟨4#8,(k:Int),lim - (z:Int),a1.inc,[]⟩) (pa:=none) (pn:=0) (pc:=0) rfl _ _ rfl H8.out 1 rfl (fun Y _=>fE.nil _ Y) (aK w6 _) (by omega) rfl w6.heap.size rfl (heap_alloc_new w6 _) ?_;intro va vc w7 h7;have hrow:=h7.blk 2 rfl
      have hS7:w7.cell? ⟨p,26,none⟩=some (.slice (some ⟨gb,go',none⟩) a1.aZ.length gc)/\w7.cell? ⟨p,27,none⟩=some (.slice (some ⟨eb,eo,none⟩) a1.aZ.length ec)/\(w7.cell? ⟨gb,go'+k*3,none⟩=some (.int .i64 (g.room:Int))/\w7.cell? ⟨gb,go'+k*3+1,none⟩=some (.int .i64 (g.aW:Int))/\w7.cell? ⟨gb,go'+k*3+2,none⟩=some (.int .i64 (g.cI:Int)))/\w7.cell? ⟨eb,eo+k,none⟩=some (.int .i64 (z:Int)):=by
       have q26:w7.cell? ⟨p,26,none⟩=some (.slice (some ⟨gb,go',none⟩) a1.π.length gc):=aJ hrow rfl;have q27:w7.cell? ⟨p,27,none⟩=some (.slice (some ⟨eb,eo,none⟩) a1.base.length ec):=aJ hrow rfl;rw [gz.out.gl] at q26;rw [gz.out.sl] at q27;obtain ⟨_,_,hgv⟩:=h7.get 9 rfl;obtain ⟨_,_,hbs⟩:=h7.get 10 rfl;have e1:=qR (show Sq xA 161 w7 _ _ (.slice (some ⟨gb,go',none⟩) a1.π.length gc) a1.π from hgv) (bT (d:=(⟨0,0,0⟩:fV)) (show k < a1.π.length by rw [gz.out.gl];exact hlt));have e2:=dP (show Sq dK 3 w7 _ _ (.slice (some ⟨eb,eo,none⟩) a1.base.length ec) a1.base from hbs) (bT (d:=0) (show k < a1.base.length by rw [gz.out.sl];exact hlt));rw [<-NH.out] at e1;rw [<-HZZ.out] at e2;exact ⟨q26,q27,e1,e2⟩
      refine hK.out _ _ hS7 ?_;clear hK K hrow;simp only [VF,ag,Ψ,ae];refine ah 22 (fun K hK=>?_);go_simp;refine hK.out _ _ hS7 ?_;clear hK K hS7;refine fZ ?_
      have Nj:=aQ (show l++[(⟨4#8,(k:Int),lim - (z:Int),a1.inc,[]⟩:Pt)]=a1.gU::a1.lT::(VV (k+1)).map a1.j5 by
       rw [xD.out,HCR.out,List.range_succ,W9];rfl)
      rw [Nj.out] at h7;obtain ⟨l',hl'⟩:∃l',l'=a1.gU::a1.lT::(VV (k+1)).map a1.j5:=⟨_,rfl⟩;have hlen:l.length+1=l'.length:=by rw [hl',<-Nj.out];simp
      have NV:l'.length<=6:=by rw [hl'];simp;omega
      rw [<-hl'] at h7;have H8:=aQ (show dY F Z W (ζ gV 4 (.slice (some ⟨qb,0,none⟩) a1.aZ.length a1.aZ.length) (upTo a1.aZ.length (kG a1) (fun _=>false) k)::ζ d_ 103 (.slice va l'.length vc) l'::(ω p { a1 with cS:=s2 } ⟨.slice ra a1.aZ.length rc,wv,bv,kv,cv,tv,.slice (some ⟨gb,go',none⟩) a1.π.length gc,.slice (some ⟨eb,eo,none⟩) a1.base.length ec,av,sv,nv,hv,Dc⟩++ts)) w7 from h7);have Og:=aQ hl';rw [hlen];clear h7 hl' Nj hlen s1 s2' s3 s4 s5 s6;have hrow:=H8.out.blk 2 rfl;have c12:w7.cell? ⟨p,12,none⟩=some wv:=aJ hrow rfl;have xB:w7.cell? ⟨p,25,none⟩=some tv:=aJ hrow rfl;obtain ⟨_,_,hwt⟩:=H8.out.get 4 rfl;obtain ⟨wb,wo,wk,e5,_,_⟩:=bR (show Sq (df ψ 40) 51 w7 _ _ wv a1.aX from hwt) (by rw [gz.out.wl];omega);subst e5;have hx:=bT (d:=[]) (show k < a1.aX.length by rw [gz.out.wl];exact hlt);have hln:=gz.out.qy _ (VD hx);obtain ⟨xv,_,hxv,eD,_⟩:=iQ (show Sq (df ψ 40) 51 w7 _ _ (.slice (some ⟨wb,wo,none⟩) a1.aX.length wk) a1.aX from hwt) hx;obtain ⟨xa,xc,rfl⟩:=eD.shape;obtain ⟨_,_,htk⟩:=H8.out.get 8 rfl;obtain ⟨tb,tO,tc,e6,_,_⟩:=bR (show Sq Aj 176 w7 _ _ tv a1.bu from htk) (by rw [gz.out.tl];omega);subst e6;have htg:=bT (d:=(⟨0,0⟩:jC)) (show k < a1.bu.length by rw [gz.out.tl];exact hlt);obtain ⟨t1,t2⟩:=u_ (show Sq Aj 176 w7 _ _ (.slice (some ⟨tb,tO,none⟩) a1.bu.length tc) a1.bu from htk) htg;obtain ⟨_,_,hrq⟩:=H8.out.get 0 rfl;have hrf:=(Sq.free (show Sq gV 4 w7 _ _ (.slice (some ⟨qb,0,none⟩) a1.aZ.length a1.aZ.length) _ from hrq)).2.2.2;have aaH:=mG hrq (nW hlt);rw [V5] at aaH;obtain ⟨ln,Rm⟩:∃ln,ln=(a1.aX.getD k []).length:=⟨_,rfl⟩;have HLN:=aQ Rm;rw [<-Rm] at hxv hln;rw [gz.out.wl] at c12;rw [gz.out.tl] at xB
      have DR:=aQ (show dY F Z W (ζ gV 4 (.slice (some ⟨qb,0,none⟩) a1.aZ.length a1.aZ.length) (upTo a1.aZ.length (kG a1) (fun _=>false) (k+1))::ζ d_ 103 (.slice va l'.length vc) l'::(ω p { a1 with cS:=s2 } ⟨.slice ra a1.aZ.length rc,(.slice (some ⟨wb,wo,none⟩) a1.aX.length wk),bv,kv,cv,(.slice (some ⟨tb,tO,none⟩) a1.bu.length tc),.slice (some ⟨gb,go',none⟩) a1.π.length gc,.slice (some ⟨eb,eo,none⟩) a1.base.length ec,av,sv,nv,hv,Dc⟩++ts)) (w7.drew.setCell ⟨qb,k,none⟩ (.bool (kG a1 k))) from by
       have:=Bu H8.out.drew 0 rfl (c:=k) (y:=kG a1 k) (by rw [jK];exact hlt);rw [qN (f:=kG a1),V5] at this;exact this)
      clear hrow hwt hx eD htk htg hrq Rm H8 HK;obtain ⟨sn,hsn⟩:∃sn,sn=(a1.bu.getD k ⟨0,0⟩).cP:=⟨_,rfl⟩;obtain ⟨lm,hlm⟩:∃lm,lm=(a1.bu.getD k ⟨0,0⟩).cE:=⟨_,rfl⟩;rw [<-hsn] at t1;rw [<-hlm] at t2;have HAS:=aQ (show kG a1 k=(decide (0 < ln) && decide (sn < lm)) by unfold kG;rw [<-HLN.out,<-hsn,<-hlm]);clear hsn hlm;go_wp2_with fail;by_cases h0:ln=0
      ·have HB:=aQ (show kG a1 k=false by rw [HAS.out,h0];rfl)
       rw [HB.out] at DR;subst h0;refine η 31 (S:=fun w'=>w'.cell? ⟨p,12,none⟩=some (.slice (some ⟨wb,wo,none⟩) a1.aZ.length wk)/\w'.cell? ⟨p,25,none⟩=some (.slice (some ⟨tb,tO,none⟩) a1.aZ.length tc)/\w'.cell? ⟨wb,wo+k,none⟩=some (.slice xa 0 xc)/\w'.cell? ⟨tb,tO+k*2,none⟩=some (.int .i64 (sn:Int))/\w'.cell? ⟨tb,tO+k*2+1,none⟩=some (.int .i64 (lm:Int))) (by kernel_rfl) ⟨c12,xB,hxv,t1,t2⟩ (fun hS0=>?_);refine kX 0 31 hS0 ?_
       iterate 31 (first|(refine aR (v:=?_) (by rfl) ?_ ?_;rotate_left 1;(focus ((intro w' hS';obtain ⟨l1,l2,l3,l4,l5⟩:=hS';go_simp);try with_reducible rfl));simp only [VF,ag,Ψ,ae])|(refine vO (by rfl) ?_;simp only [VF,ag,Ψ,ae]))
       refine aT ?_;refine bq 31 (fun K hK=>?_);go_simp;refine hK.out _ _ (fun e=>absurd rfl e) ?_;clear hK K;refine lG ?_;go_wp2_with fail;go_roundw
       case rel=>exact ⟨k+1,l',va,vc,by omega,by go_num,rfl,Og,NV,DR⟩
       case measure=>first|(simp [intOf];done)|(simp [intOf];omega)
      ·have hlp:0 < (ln:Int):=by omega
       have hlq:0 < ln:=by omega
       have hlr:decide ((0:Int) < (ln:Int))=true:=decide_eq_true hlp;have HB:=aQ (show kG a1 k=decide (sn < lm) by rw [HAS.out,show decide (0 < ln)=true from decide_eq_true (by omega),Bool.true_and]);rw [HB.out] at DR;refine η 31 (S:=fun w'=>w'.cell? ⟨p,12,none⟩=some (.slice (some ⟨wb,wo,none⟩) a1.aZ.length wk)/\w'.cell? ⟨p,25,none⟩=some (.slice (some ⟨tb,tO,none⟩) a1.aZ.length tc)/\w'.cell? ⟨wb,wo+k,none⟩=some (.slice xa ln xc)/\w'.cell? ⟨tb,tO+k*2,none⟩=some (.int .i64 (sn:Int))/\w'.cell? ⟨tb,tO+k*2+1,none⟩=some (.int .i64 (lm:Int))) (by kernel_rfl) ⟨c12,xB,hxv,t1,t2⟩ (fun hS0=>?_);refine kX 0 31 hS0 ?_
       iterate 31 (first|(refine aR (v:=?_) (by rfl) ?_ ?_;rotate_left 1;(focus ((intro w' hS';obtain ⟨l1,l2,l3,l4,l5⟩:=hS';go_simp);try with_reducible rfl));simp only [VF,ag,Ψ,ae])|(refine vO (by rfl) ?_;simp only [VF,ag,Ψ,ae]))
       refine aT ?_;refine bq 31 (fun K hK=>?_);go_simp;refine hK.out _ _ (fun e=>absurd rfl e) ?_;clear hK K;refine lG ?_;go_wp2_with fail;go_roundw
       case rel=>exact ⟨k+1,l',va,vc,by omega,by go_num,rfl,Og,NV,DR⟩
       case measure=>first|(simp [intOf];done)|(simp [intOf];omega)
     ·obtain rfl:a1.aZ.length=k:=by omega
      have h5:=HK.out;rw [tK gz.out.wl] at h5;obtain ⟨M,hM⟩:∃M,M=N+200*bV.length:=⟨_,rfl⟩;have DF:δ.Ok M { a1 with cS:=s2 }:=by rw [hM,HS2.out];exact gz.out.nY
      obtain ⟨a2,ha2⟩:∃a2:δ,a2={ a1 with cS:=s2 }:=⟨_,rfl⟩;have HA2:=aQ ha2;rw [<-ha2] at DF;have jw:=aQ DF
      have h6:dY F Z W (gJ p a2::(ts++([ζ gV 4 (.slice (some ⟨qb,0,none⟩) a2.aZ.length a2.aZ.length) a2.bK]++[ζ d_ 103 (.slice ua l.length uc) l]))) wr:=by
       subst ha2;refine dY.ax (x:=⟨.slice ra a1.aZ.length rc,wv,bv,kv,cv,tv,gv,ev,av,sv,nv,hv,Dc⟩) ?_;rw [<-VE,<-VE];exact h5.wT.wT
      have Dl:=aQ (show l=a1.gU::a1.lT::(VV a1.base.length).map a1.j5 by rw [xD.out,gz.out.sl]);have hrl:a2.aZ.length=a1.aZ.length:=by rw [ha2]
      have KD:(a1.inc:Int)=(a2.inc:Int):=by rw [ha2]
      have HM:=aQ hM;have Uq:=aQ hrl;rw [<-hrl] at hk ⊢;rw [KD];have RG:=aQ KD;have Nz:=aQ (δ.oF HA1.out (show a1.cS.cR.state=2 by rw [<-HS2.out];exact Uk.out));have H6:=aQ h6;clear h5 DF h6 HK hM ha2 hrl KD b1 hbl hk hlt NT;obtain ⟨TR,hTR⟩:∃TR,TR=ζ gV 4 (.slice (some ⟨qb,0,none⟩) a2.aZ.length a2.aZ.length) a2.bK:=⟨_,rfl⟩;obtain ⟨TL,hTL⟩:∃TL,TL=ζ d_ 103 (.slice ua l.length uc) l:=⟨_,rfl⟩;have HTR:=aQ hTR;have HTL:=aQ hTL;rw [<-hTR,<-hTL] at H6;clear hTR hTL;obtain ⟨y2,hst⟩:=H6.out.rp;obtain ⟨rv,wv,bv,kv,cv,tv,gv,ev,av,sv,nv,hv,ch⟩:=y2;have hrow:=hst.blk 0 rfl;have c2:wr.cell? ⟨p,2,none⟩=some (.int .i64 (a2.cA:Int)):=aJ hrow rfl;obtain ⟨_,_,hb4⟩:=hst.get 4 rfl;obtain ⟨ka,kc,e4,q1,q1',_⟩:=(show Sq ψ 40 wr _ _ kv a2.snd.cT from hb4).le;subst e4;have c17:wr.cell? ⟨p,17,none⟩=some (.slice ka a2.snd.cT.length kc):=aJ hrow rfl;have n1:=jw.out.n1;have n4:=jw.out.n4;clear hst hrow hb4;go_upto_region 17 with fail
      by_cases hfull:a2.cA<=a2.snd.cT.length
      focus
        have HG:=aQ (show a2.choose=a2 by unfold δ.choose;rw [if_pos hfull]);have hfi:decide ((a2.snd.cT.length:Int) < (a2.cA:Int))=false:=by simp;omega
        have hfn:decide (a2.snd.cT.length < a2.cA)=false:=by simp;omega
        have hfm:¬(a2.snd.cT.length < a2.cA):=by omega
        clear hfull;go_wp2_with fail;go_quiet (fail);generalize hwc:XE wr _=wc;have HC:=aQ (show dY F Z W (gJ p a2.choose::(ts++([TR]++[TL]))) wc by rw [HG.out,<-hwc];exact H6.out.own (bS _ _));clear hwc HG H6 c2 c17;go_upto_region 24 with fail
      rotate_left
      focus
        have hfi:decide ((a2.snd.cT.length:Int) < (a2.cA:Int))=true:=by simp;omega
        have uU:=aQ hfull;have hfj:(a2.snd.cT.length:Int) < (a2.cA:Int):=by omega
        have hfk:a2.snd.cT.length < a2.cA:=by omega
        have hfn:decide (a2.snd.cT.length < a2.cA)=true:=decide_eq_true hfk;clear hfull;go_wp2_with fail;go_quiet (fail);generalize hw7:XE wr _=w7;have H7:=aQ (show dY F Z W (gJ p a2::(ts++([TR]++[TL]))) w7 by rw [<-hw7];exact H6.out.own (bS _ _));clear hw7 H6 c2 c17;go_wp2_with fail;have hrq:a2.bK.length=a2.aZ.length:=by unfold δ.bK;simp [jw.out.wl]
        refine (OD (T := 4) (χ:=a2.bK) (qv:=.slice (some ⟨qb,0,none⟩) a2.aZ.length a2.aZ.length) H7.out ts.length (by rw [HTR.out];simp) (by rw [hrq];exact jw.out.dE)).mono ?_;rintro e w8 ⟨rfl,hh⟩;have HH:=aQ hh;clear hh
        cases hpk:(a2.dE.pick a2.bK).1
        focus
         have HG:=aQ (show a2.choose={ a2 with dE:=(a2.dE.pick a2.bK).2 } by unfold δ.choose;rw [if_neg uU.out,hpk]);have hcn:iY none = -1:=rfl;rw [hcn];clear hcn hpk;have HC:=aQ (show dY F Z W (gJ p a2.choose::(ts++([TR]++[TL]))) w8 by rw [HG.out];exact HH.out);clear HH HG;generalize w8=wc at HC ⊢;go_upto_region 24 with fail
        rotate_left
        focus
         rename_i c;have hps:=δ.sG jw.out hpk;have hcn:iY (some c)=(c:Int):=rfl;have Dh:=aQ hpk;rw [hcn];clear hcn hpk;obtain ⟨hcl,hwc,htk⟩:=hps;obtain ⟨a3,ha3⟩:∃a3:δ,a3={ a2 with dE:=(a2.dE.pick a2.bK).2 }:=⟨_,rfl⟩;rw [<-ha3] at HH;have NL:=aQ ha3;clear ha3;have aa0:a3.bu.length=a3.aZ.length:=by rw [NL.out];exact jw.out.tl
         have aaZ:a3.aX.length=a3.aZ.length:=by rw [NL.out];exact jw.out.wl
         have aa1:a3.aZ.length<=4:=by rw [NL.out];exact n4
         have aaT:c < a3.aZ.length:=by rw [NL.out];exact hcl
         obtain ⟨y3,hst⟩:=HH.out.rp;obtain ⟨rv,wv,bv,kv,cv,tv,gv,ev,av,sv,nv,hv,ch⟩:=y3;have hg:=bT (d:=(⟨0,0⟩:jC)) (show c < a3.bu.length by omega);obtain ⟨_,_,hb6⟩:=hst.get 6 rfl;obtain ⟨tb,tO,tc,e6,m6,m6'⟩:=bR (show Sq Aj 176 w8 _ _ tv a3.bu from hb6) (by omega);subst e6;obtain ⟨t1,t2⟩:=u_ (show Sq Aj 176 w8 _ _ (.slice (some ⟨tb,tO,none⟩) a3.bu.length tc) a3.bu from hb6) hg;have xB:w8.cell? ⟨p,25,none⟩=some (.slice (some ⟨tb,tO,none⟩) a3.bu.length tc):=aJ (hst.blk 0 rfl) rfl;obtain ⟨g,hgg⟩:∃g,g=a3.bu.getD c ⟨0,0⟩:=⟨_,rfl⟩;have NH:=aQ hgg;have hgl:g.cE<=1099511627776:=by rw [hgg,NL.out];exact (jw.out.bu _ (VD (bT (d:=(⟨0,0⟩:jC)) (show c < a2.bu.length by rw [jw.out.tl];exact hcl)))).2
         rw [<-hgg] at t1 t2;have AY:=aQ hg;rw [aa0] at xB m6;have hci:(c:Int) < (a3.aZ.length:Int):=by omega
         have HST:=aQ hst;clear hst hb6 hg hgg HH;go_wp2_with fail;refine η 17 (S:=fun w'=>w'.cell? ⟨p,25,none⟩=some (.slice (some ⟨tb,tO,none⟩) a3.aZ.length tc)/\w'.cell? ⟨tb,tO+c*2,none⟩=some (.int .i64 (g.cP:Int))/\w'.cell? ⟨tb,tO+c*2+1,none⟩=some (.int .i64 (g.cE:Int))) (by kernel_rfl) ⟨xB,t1,t2⟩ (fun hS0=>?_);refine kX 0 12 hS0 ?_
         iterate 12 (refine aR (v:=?_) (by rfl) ?_ ?_;rotate_left 1;(focus ((intro w' hS';obtain ⟨l1,l2,l3⟩:=hS';go_simp);try with_reducible rfl));simp only [VF,ag,Ψ,ae])
         refine aT ?_;refine bq 12 (fun K hK=>?_)
         (refine ν (f:=?_) (args:=?_) (by rfl) ?_ ?_;rotate_left 2;(focus (go_simp;first|(with_reducible rfl)|(refine ⟨?_,?_⟩ <;> with_reducible rfl)));(refine (Ik g hgl _).mono ?_);rintro e w9 ⟨⟨r9,rfl⟩,T9⟩)
         refine ⟨_,rfl,?_⟩;simp only [VF,ag,Ψ,ae];have Km:Below w8.heap.size w8 w9:=Wi (by exact dC) T9;have hs9:=HST.out.own Km;have d25:w9.cell? ⟨p,25,none⟩=some (.slice (some ⟨tb,tO,none⟩) a3.aZ.length tc):=(Vt (Km.block _ (Vv _ _ xB))).trans xB;have e1:w9.cell? ⟨tb,tO+c*2,none⟩=some (.int .i64 (g.cP:Int)):=(Vt (Km.block _ (Vv _ _ t1))).trans t1;have e2:w9.cell? ⟨tb,tO+c*2+1,none⟩=some (.int .i64 (g.cE:Int)):=(Vt (Km.block _ (Vv _ _ t2))).trans t2
         have hgf:∀j,w9.frozen? ⟨tb,j,none⟩=false:=by
          obtain ⟨_,_,hb⟩:=hs9.get 6 rfl;exact (Sq.free (show Sq Aj 176 w9 _ _ (.slice (some ⟨tb,tO,none⟩) a3.bu.length tc) a3.bu from hb)).2.2.2
         have nH:=aQ (hs9.UK 6 rfl AY.out g.take);refine hK.out _ _ (fun _=>⟨d25,e1,e2⟩) ?_;clear hK K T9 Km hs9 hS0 xB t1 t2;refine dS 13 (by kernel_rfl) rfl (fun _=>⟨d25,e1,e2⟩) (fun _ _ _ _ _ h=>h) ?_;refine dI ?_;refine aT ?_;refine dS 14 (by kernel_rfl) rfl (fun _=>⟨d25,e1,e2⟩) (fun _ _ _ _ _ h=>h) ?_;refine dI ?_;refine aT ?_;refine dS 15 (by kernel_rfl) rfl (fun _=>⟨d25,e1,e2⟩) (fun _ _ _ _ _ h=>h) ?_;refine dI ?_;refine aT ?_;refine bq 16 (fun K hK=>?_);go_simp;refine hK.out _ _ (fun _=>⟨d25,e1,e2⟩) ?_;clear hK K;refine bq 17 (fun K hK=>?_);go_simp;refine hK.out _ _ (fun e=>absurd rfl e) ?_;clear hK K;refine lG ?_;clear d25 e1 e2 hgf HST;obtain ⟨a4,Nt⟩:∃a4:δ,a4={ a3 with bu:=a3.bu.set c g.take }:=⟨_,rfl⟩;have HA4:=aQ Nt;generalize VR (VR w9 _ _) _ _=PL at nH ⊢;have Kb:dY F Z W (ω p a4 ⟨rv,wv,bv,kv,cv,.slice (some ⟨tb,tO,none⟩) a3.bu.length tc,gv,ev,av,sv,nv,hv,ch⟩++(ts++([TR]++[TL]))) PL:=by subst Nt;exact nH.out
         clear nH;have U_:a4.aX.length=a4.aZ.length:=by rw [Nt];exact aaZ
         have abS:c < a4.aZ.length:=by rw [Nt];exact aaT
         have abW:a4.aZ.length<=4:=by rw [Nt];exact aa1
         have hx:=bT (d:=[]) (show c < a4.aX.length by omega);have hwe:a4.aX=a2.aX:=by rw [Nt,NL.out]
         have hse:a4.snd=a2.snd:=by rw [Nt,NL.out]
         have hke:a4.cT=a2.cT:=by rw [Nt,NL.out]
         obtain ⟨d,dl,hdl⟩:∃d dl,a4.aX.getD c []=d::dl:=by
          cases hq:a4.aX.getD c [] with
          |nil=>rw [hwe] at hq;rw [hq] at hwc;exact absurd hwc (by simp)
          |cons d dl=>exact ⟨d,dl,rfl⟩
         have GN:d.length<=64:=jw.out.xz _ (VD (bT (d:=[]) (show c < a2.aX.length by rw [jw.out.wl];exact hcl))) d (by rw [<-hwe,hdl];exact WG);have hln:=jw.out.qy _ (VD (bT (d:=[]) (show c < a2.aX.length by rw [jw.out.wl];exact hcl)));rw [<-hwe,hdl] at hln;rw [hdl] at hx;obtain ⟨_,_,hb2⟩:=Kb.get 2 rfl;obtain ⟨wb,wo,wk,e5,m5,m5'⟩:=bR (show Sq (df ψ 40) 51 PL _ _ wv a4.aX from hb2) (by omega);subst e5;obtain ⟨xb,xo,xk,dv,hxv,mx,mx',hdv,UW⟩:=Kb.RA 2 rfl hx (k:=0) rfl;have hby:By PL dv d:=by obtain ⟨_,_,hb⟩:=UW.front.get 0 rfl;exact hb.1
         have c12:PL.cell? ⟨p,12,none⟩=some (.slice (some ⟨wb,wo,none⟩) a4.aX.length wk):=aJ (Kb.blk 0 rfl) rfl;have Ve:=aQ Kb.ax;rw [show (d::dl).length=dl.length+1 from rfl] at hxv mx hln;rw [U_] at c12 m5;rw [Nat.add_zero] at hdv;have abT:(c:Int) < (a4.aZ.length:Int):=by omega
         have hBY:=aQ hby;have h0l:(0:Int) < (dl.length:Int)+1:=by omega
         have hHX:=aQ hx;have aa7:=aQ hdl;clear Kb UW hb2 hby Nt hx;go_wp2_with fail;refine wp_region_still_tail 12 (by kernel_rfl) (by kernel_rfl) ?_;simp only [Vy,VI,Vz,VH];change wpStill _ _ (V3 _) (fun a'=>wpList _ _ _ _ a' (V3 _)) _ _
         repeat still_step
         refine wpStill_nil ?_;go_wp2_with fail;have hr1:a4.snd.cT.length < a4.snd.cA:=by rw [hse,jw.out.win];exact hfk
         have hr2:a4.snd.cA<=128:=by rw [hse];exact jw.out.snd.w2
         have hr3:a4.snd.aG+a4.snd.cT.length < 1000000000000:=by rw [hse];have:=jw.out.tot;unfold bg.total at this;have:=HM.out;omega
         refine (Il (p:=p) (a:=a4) dv d (hBY.out.drewN 1) GN hr1 hr2 hr3 Ve.out.drew).mono ?_;rintro e Am ⟨rfl,hh⟩;obtain ⟨a5,ha5⟩:∃a5:δ,a5={ a4 with snd:={ a4.snd with cT:=a4.snd.cT++[d] } }:=⟨_,rfl⟩;rw [<-ha5] at hh;have HA5:=aQ ha5;obtain ⟨y5,hst⟩:=hh.rp;obtain ⟨rv,wv,bv,kv,cv,tv,gv,ev,av,sv,nv,hv,ch⟩:=y5;obtain ⟨_,_,hb5⟩:=hst.get 5 rfl;have U4:=show Sq dK 3 Am _ _ cv (a5.cT.map (·.1)) from hb5;obtain ⟨ca,cc,e5,q5,q5',_⟩:=U4.le;subst e5;obtain ⟨K5,D5,us,_,_,_,AL,Rp⟩:=hb5;obtain rfl:us=(a5.cT.map (·.1)).flatMap (fun (n:Nat)=>[VS .i64 (n:Int)]):=jG.els Rp;have c23:Am.cell? ⟨p,23,none⟩=some (.slice ca (a5.cT.map (·.1)).length cc):=aJ (hst.blk 0 rfl) rfl;obtain ⟨cn,hcn⟩:∃cn,cn=(a5.cT.map (·.1)).length:=⟨_,rfl⟩;have JC:=aQ hcn;have abR:cn<=128:=by rw [hcn,VL,ha5];show a4.cT.length<=128;rw [hke];have:=jw.out.xH;have:=jw.out.snd.cT;have:=jw.out.snd.w2;omega
         have Dq:=aQ (show Rd Am 1 (.slice ca cn cc) cn _ by rw [hcn];exact AL.rd);have uP:=aQ Rp.one;have HST:=aQ hst;rw [<-hcn] at c23 q5;unfold maxLen at q5';have aaJ:=Vv Am _ c23;generalize Tf:(a5.cT.map (·.1)).flatMap (fun (n:Nat)=>[VS .i64 (n:Int)])=us at Dq uP;have HUS:=aQ Tf;clear hst hh U4 AL Rp hcn Tf Ve hBY hxv c12 hdv ha5
         go_wp2_with (first
          |(at_builtin;refine cQ kI rfl _ _ rfl (fun k=>Am.heap.size<=k) (.slice (some ⟨Am.heap.size,0,none⟩) 0 0) 0 [] rfl (by exact qK _ _ _ _ rfl rfl) (.slice ca cn cc) cn us rfl (Dq.out.keep fun k _ hl=>(aK Am _).block k hl) uP.out (by unfold maxLen;omega) (by omega) ?_;intro v1 w12 hsl1 qB;rw [V5,WT] at hsl1;obtain ⟨jQ,jP,rfl⟩:=hsl1.shape;have Kv:=aQ (show Below Am.heap.size Am w12 from (aK Am _).trans (qB.below (B:=Am.heap.size) (by simp) fun k hk=>hk));have Oe:=aQ (hsl1.mono (G:=fun k=>Am.heap.size<=k) (by rintro k (h|h);exact h;simp at h;omega));clear hsl1 qB)
          |(at_builtin;refine cQ kI rfl _ _ rfl (fun k=>Am.heap.size<=k) (.slice jQ cn jP) cn us rfl (Oe.out.alloc _) _ 1 [.int .i64 (c:Int)] rfl (iA _ _ _ _ rfl) (by intro u hu;simp at hu;subst hu;rfl) (by unfold maxLen;omega) (by omega) ?_;intro v2 TJ hsl2 hfr2;obtain ⟨Nr,Nq,rfl⟩:=hsl2.shape;have Ku:=aQ (show Below Am.heap.size Am TJ from (Kv.out.trans ((aK w12 _).mono Kv.out.size)).trans (hfr2.below (B:=Am.heap.size) (by have:=Kv.out.size;simp;omega) fun k hk=>hk));have Od:=aQ (hsl2.mono (G:=fun k=>Am.heap.size<=k) (by rintro k (h|h);exact h;have:=Kv.out.size;simp at h;omega));clear hsl2 hfr2;have e23:TJ.cell? ⟨p,23,none⟩=some (.slice ca cn cc):=(Vt (Ku.out.block p aaJ)).trans c23;have cf:∀i,TJ.frozen? ⟨p,i,none⟩=false:=fun i=>aD ((HST.out.own Ku.out).blk 0 rfl) i))
         generalize UO:VR TJ _ _=TI;obtain ⟨a6,ha6⟩:∃a6:δ,a6={ a5 with cT:=a5.cT++[(c,d)] }:=⟨_,rfl⟩
         have NS:dY F Z W (ω p a6 ⟨rv,wv,bv,kv,.slice Nr (cn+1) Nq,tv,gv,ev,av,sv,nv,hv,ch⟩++(ts++([TR]++[TL]))) TI:=by
          have h1:=(HST.out.own Ku.out).blk 0 rfl;have e9:(a5.cT++[(c,d)]).map (·.1)=a5.cT.map (·.1)++[c]:=by rw [W9];rfl
          have h2:=(HST.out.add Ku.out (T:=ζ dK 3 (.slice Nr (cn+1) Nq) ((a5.cT++[(c,d)]).map (fun f:Nat × dV=>f.1))) (Sq.aaC jG (by
           show Sl TJ _ _ 1 _ _ _;rw [e9,Vx,<-JC.out,List.flatMap_append,HUS.out];exact Od.out))).front
          have h3:=dY.τ (us:=ζ dK 3 (.slice Nr (cn+1) Nq) ((a5.cT++[(c,d)]).map (fun f:Nat × dV=>f.1))::ω p a5 ⟨rv,wv,bv,kv,.slice ca (a5.cT.map (·.1)).length cc,tv,gv,ev,av,sv,nv,hv,ch⟩) (vs:=(ω p a5 ⟨rv,wv,bv,kv,.slice ca (a5.cT.map (·.1)).length cc,tv,gv,ev,av,sv,nv,hv,ch⟩).set 5 (ζ dK 3 (.slice Nr (cn+1) Nq) ((a5.cT++[(c,d)]).map (fun f:Nat × dV=>f.1)))) h2 [1,2,3,4,5,0,7,8,9,10,11,12,13] (by decide) rfl;subst ha6;rw [<-UO];exact h3.set 0 rfl (iX { a5 with cT:=a5.cT++[(c,d)] } ⟨rv,wv,bv,kv,.slice Nr (cn+1) Nq,tv,gv,ev,av,sv,nv,hv,ch⟩) (by exact eZ) (by (refine aS (Ξ h1) ?_);rfl)
         have HA6:=aQ ha6;clear UO HST Ku Od Oe Kv Dq uP e23 cf c23 ha6;have h6w:a6.aX=a4.aX:=by rw [HA6.out,HA5.out]
         have h6r:a6.aZ=a4.aZ:=by rw [HA6.out,HA5.out]
         obtain ⟨_,_,hb2⟩:=NS.get 2 rfl;obtain ⟨wb,wo,wk,e5,m5,m5'⟩:=bR (show Sq (df ψ 40) 51 TI _ _ wv a6.aX from hb2) (by rw [h6w];omega);subst e5;have hbf:=(Sq.free (show Sq (df ψ 40) 51 TI _ _ (.slice (some ⟨wb,wo,none⟩) a6.aX.length wk) a6.aX from hb2)).2.2.2;obtain ⟨vc,je,⟨_,_,eD⟩,jT⟩:=NS.inner 2 rfl (show a6.aX[c]? = some (d::dl) by rw [h6w];exact hHX.out);obtain ⟨b2,o2,k2,rfl,m2,Gw⟩:=bR eD (by simp);have c12:TI.cell? ⟨p,12,none⟩=some (.slice (some ⟨wb,wo,none⟩) a6.aX.length wk):=aJ (NS.blk 0 rfl) rfl;rw [h6w,U_] at c12 m5
         have HS2:=aQ (jT (.slice (if k2=1 then some ⟨b2,o2,none⟩ else some ⟨b2,o2+1,none⟩) dl.length (k2 - 1)) dl fun G Y h=>by
          obtain ⟨g,off,e,_,_,h'⟩:=h.drop (k:=1) (by decide) (by simp);obtain ⟨rfl,rfl⟩:b2=g/\o2=off:=by simpa using e
          simpa [ψ] using h')
         rw [show (d::dl).length=dl.length+1 from rfl] at je m2;have QO:(1:Int)<=(dl.length:Int)+1:=by omega
         obtain ⟨na,hna⟩:∃na,(if k2=1 then some (⟨b2,o2,none⟩:Addr) else some ⟨b2,o2+1,none⟩)=na:=⟨_,rfl⟩;have hsl1:dl.length+1 - 1=dl.length:=rfl;have hm2:((dl.length:Int)+1)<=(k2:Int):=by omega
         rw [hna] at HS2;clear m2 hsl1 hb2 eD jT NS;go_wp2_with fail;refine wp_region_still_tail 14 (by kernel_rfl) (by kernel_rfl) ?_;simp only [Vy,VI,Vz,VH];change wpStill _ _ (V3 _) (fun a'=>wpList _ _ _ _ a' (V3 _)) _ _
         repeat still_step
         refine wpStill_nil ?_;go_upto_region 24 with fail
         generalize hwc:V3 (VR TI _ _)=wc
         have HC:=aQ (show dY F Z W (gJ p a2.choose::(ts++([TR]++[TL]))) wc by
          have hof:=oq (s:=a2.snd) (d:=d) GN (by rw [jw.out.win];exact hfk);have hdd:a2.aX.getD c []=d::dl:=by rw [<-hwe];exact aa7.out
          have e:a2.choose={ a6 with aX:=a6.aX.set c dl }:=by
           rw [δ.CZ uU.out Dh.out hdd hof,HA6.out,HA5.out,HA4.out,NH.out,NL.out]
          rw [e,<-hwc];exact (show dY F Z W (ω p { a6 with aX:=a6.aX.set c dl } ⟨rv,.slice (some ⟨wb,wo,none⟩) a6.aX.length wk,bv,kv,.slice Nr (cn+1) Nq,tv,gv,ev,av,sv,nv,hv,ch⟩++(ts++([TR]++[TL]))) _ from HS2.out).drew.ax)
         clear hwc HS2 je c12 QO hm2 hna hbf
      all_goals
       have Kh:=jw.out.choose;obtain ⟨a7,ha7⟩:∃a7,a7=a2.choose:=⟨_,rfl⟩;have Qg:a7.inc=a2.inc:=by rw [ha7];exact δ.Fb a2
       have hTT:=Nz.out;rw [<-Dl.out,show ({ a1 with cS:=a1.cS.cR }:δ)=a2 by rw [HA2.out,HS2.out],<-ha7] at hTT;have Um:=aQ hTT;rw [<-ha7] at HC Kh;have Vf:=aQ Kh;have aar:=aQ Qg;have ht7:a7.snd.aG+a7.snd.cT.length < 1000000000000:=by have:=Kh.tot;unfold bg.total at this;have:=HM.out;omega
       have JP:=aQ (OB (p:=p) (a:=a7) Kh.snd ht7 HC.out);clear Kh ha7 Qg hTT ht7 HC Nz;go_wp2_with fail
       cases ht:a7.snd.cR with
       |mk o s'=>
       rw [ht] at JP Um;have PX:=aQ ht;clear ht
       cases o with
       |none=>
        refine JP.out.mono ?_;rintro e w5 ⟨v,rfl,hh⟩;have H5:=aQ hh;clear hh JP;go_wp2_with fail;go_ret;refine ⟨ua,uc,by rw [Um.out];rfl,?_⟩;rw [Um.out];have h6:=dY.tail (dY.front (ts:=gJ p { a7 with snd:=s' }::(ts++([TR]++[TL]))) H5.out);rw [<-VE] at h6;have h7:=dY.front (ts:=gJ p { a7 with snd:=s' }::(ts++[TR])) h6;rw [HTL.out] at h7;exact dY.dropLast (us:=[ζ d_ 103 (.slice ua l.length uc) l,gJ p { a7 with snd:=s' }]) h7
       |some nd=>
        obtain ⟨n,d⟩:=nd;have hts:=sD Vf.out.snd PX.out;have hkk:=Vf.out.xH;refine JP.out.mono ?_;rintro e w5 ⟨v,rfl,hh⟩;have h6:=dY.front (ts:=gJ p { a7 with snd:=s' }::(ts++([TR]++[TL]))) hh;obtain ⟨_,_,hby⟩:=h6.get 0 rfl;obtain ⟨va,vc,rfl⟩:=fE.slice hby;obtain ⟨y7,hst⟩:=hh.rp;have hrow:=hst.blk 0 rfl;have c19:w5.cell? ⟨p,19,none⟩=some (.int .i64 (s'.aG:Int)):=aJ hrow rfl;obtain ⟨ki,hki⟩:∃ki:Nat,ki=(n+256 - s'.aG % 256) % 256:=⟨_,rfl⟩;have hkl:ki < a7.cT.length:=by rw [hki,hkk];exact hts.2
        obtain ⟨_,_,hb5⟩:=hst.get 5 rfl;obtain ⟨cb,co,cc,e5,_,_⟩:=bR (show Sq dK 3 w5 _ _ y7.cv (a7.cT.map (·.1)) from hb5) (by rw [VL];omega);have c23:w5.cell? ⟨p,23,none⟩=some y7.cv:=aJ hrow rfl;rw [e5] at hb5;rw [e5] at c23;rw [VL] at c23;obtain ⟨cl,hcl⟩:∃cl,cl=δ.lC { a7 with snd:=s' } n:=⟨_,rfl⟩
        have hgc:(a7.cT.map (·.1))[ki]? = some cl:=by
         rw [VG,bT (d:=(0,[])) hkl,hcl,hki];rfl
        have hcc:=dP (show Sq dK 3 w5 _ _ (.slice (some ⟨cb,co,none⟩) (a7.cT.map (·.1)).length cc) (a7.cT.map (·.1)) from hb5) hgc;have hkz:((n:Int) - (s'.aG:Int) % 256+256) % 256=(ki:Int):=by rw [hki];omega
        have h8:dY F Z W (TL::dD (.slice va d.length vc) d::gJ p { a7 with snd:=s' }::(ts++[TR])) w5:=by
         have h7:=h6;rw [<-VE] at h7;exact dY.front (ts:=dD (.slice va d.length vc) d::gJ p { a7 with snd:=s' }::(ts++[TR])) h7
        rw [HTL.out] at h8;have H8:=aQ h8;have TE:=aQ hcl;have abf:(n:Int) < 256:=by have:=hts.1;omega
        have abH:(ki:Int) < (a7.cT.length:Int):=by omega
        have hak:(s'.aG:Int) % 256 < 256:=by omega
        have abU:0<=(s'.aG:Int) % 256:=by omega
        clear hh h6 h8 hst hrow hb5 hby hgc hki hkk hts JP hcl e5;dsimp only [Option.elim,Option.isSome];rw [show (a2.inc:Int)=(a7.inc:Int) by rw [aar.out]];go_wp2_with (at_builtin;refine gu (xs:=l) (x:=⟨2#8,(cl:Int),(n:Int),a7.inc,d⟩) (pa:=va) (pn:=d.length) (pc:=vc) rfl _ _ rfl H8.out 0 rfl (fun Y hO=>by obtain ⟨_,_,hb⟩:=hO 1 _ (by decide) rfl;exact hb) (aK w5 _) (by omega) rfl w5.heap.size rfl (heap_alloc_new w5 _) ?_;intro xa xc w7 h7;have H7:=aQ h7;clear h7);go_ret;refine ⟨xa,xc,by rw [Um.out];dsimp only;rw [Vx];rfl,?_⟩;rw [Um.out,<-TE.out];have h7:=dY.τ (us:=[ζ d_ 103 (.slice xa (l++[(⟨2#8,(cl:Int),(n:Int),a7.inc,d⟩:Pt)]).length xc) (l++[(⟨2#8,(cl:Int),(n:Int),a7.inc,d⟩:Pt)]),dD (.slice va d.length vc) d,gJ p { a7 with snd:=s' }]) (vs:=[ζ d_ 103 (.slice xa (l++[(⟨2#8,(cl:Int),(n:Int),a7.inc,d⟩:Pt)]).length xc) (l++[(⟨2#8,(cl:Int),(n:Int),a7.inc,d⟩:Pt)]),gJ p { a7 with snd:=s' }]) (ts:=ts++[TR]) H7.out [0,2] (by decide) rfl;exact dY.dropLast (us:=[ζ d_ 103 (.slice xa (l++[(⟨2#8,(cl:Int),(n:Int),a7.inc,d⟩:Pt)]).length xc) (l++[(⟨2#8,(cl:Int),(n:Int),a7.inc,d⟩:Pt)]),gJ p { a7 with snd:=s' }]) h7
   ·have b1:((s2.state:Int) != 2)=true:=by rw [bne_iff_ne];omega
    have HG:=aQ (δ.cX HA1.out (by rw [<-HS2.out];exact hup));clear hup;go_wp2_with fail;go_ret;refine ⟨some ⟨lb,0,none⟩,1,by rw [HG.out];rfl,?_⟩;rw [HG.out,<-HS2.out];have h5:dY F Z W (ω p { a1 with cS:=s2 } ⟨.slice ra a1.aZ.length rc,wv,bv,kv,cv,tv,gv,ev,av,sv,nv,hv,Dc⟩++(ts++[ζ d_ 103 (.slice (some ⟨lb,0,none⟩) 1 1) [a1.gU]])) w4:=by rw [<-VE];exact dY.wT H4.out
    exact dY.front (ts:=gJ p { a1 with cS:=s2 }::ts) (dY.ax (ts:=ts++[ζ d_ 103 (.slice (some ⟨lb,0,none⟩) 1 1) [a1.gU]]) h5)
end

section
variable {P:Program} {Q:Exit->Act->World->Prop} {md:Xc} {S:World->Prop} {l:List Oper} {fuel:Nat} {listed:Array Bool} {a:Act} {w:World}
def uS (P:Program) (md:Xc) (l:List Oper) (Q:Exit->Act->World->Prop) (S:World->Prop) (fuel i:Nat) (listed:Array Bool) (a:Act) (w:World):Prop:=
 wpOp P l.toArray Q i (fun a' w'=>S w'/\wpAnyH P md l.toArray Q S fuel (listed.setIfInBounds i true) a' w') a w
theorem eF (i:Nat) (hr:Wt md l.toArray listed=[i]) (h:uS P md l Q S fuel i listed a w):wpAnyH P md l.toArray Q S (fuel+1) listed a w:=by
 refine wpAnyH_all hr (by simp) fun k hk=>?_
 obtain rfl:k=i:=by simpa using hk
 exact h
theorem jE (i j:Nat) (hr:Wt md l.toArray listed=[i,j]) (h:uS P md l Q S fuel i listed a w) (h':uS P md l Q S fuel j listed a w):wpAnyH P md l.toArray Q S (fuel+1) listed a w:=by
 refine wpAnyH_all hr (by simp) fun k hk=>?_
 have hk':k=i\/k=j:=by simpa using hk
 rcases hk' with rfl|rfl
 ·exact h
 ·exact h'
theorem Bc (i j m:Nat) (hr:Wt md l.toArray listed=[i,j,m]) (h:uS P md l Q S fuel i listed a w) (h':uS P md l Q S fuel j listed a w) (h'':uS P md l Q S fuel m listed a w):wpAnyH P md l.toArray Q S (fuel+1) listed a w:=by
 refine wpAnyH_all hr (by simp) fun k hk=>?_
 have hk':k=i\/k=j\/k=m:=by simpa using hk
 rcases hk' with rfl|rfl|rfl
 ·exact h
 ·exact h'
 ·exact h''
theorem dw (i:Nat) {o:Oper} {rest:List Oper} (ho:l.drop i=o::rest)
  (h:∀K:Act->World->Prop,Shut (∀a w,S w->wpAnyH P md l.toArray Q S fuel (listed.setIfInBounds i true) a w->K a w)->if VN o (yielded l.toArray a.tmps)=true then WZ P o a w K Q else K (a.put o.dst undef) w) :
  uS P md l Q S fuel i listed a w:=by
 have ho':l.toArray[i]? = some o:=by
  have:(l.drop i)[0]? = some o:=by rw [ho];rfl
  rw [List.getElem?_drop] at this;simpa using this
 exact wpOp_step ho' fun K hK=>h K fun a w hS hW=>hK a w ⟨hS,hW⟩
def wQ:Th:=Kw []
theorem dY.no {F Z:BS} {W:World} {ts:List Th} (h:dY F Z W ts w):dY F Z W (ts++[wQ]) w:=h.add (VQ _ _) (T:=wQ) (Star.nil _ _ _)
theorem jl {α : Type} {E:El α} {t e:TypeId} {z:Value} {bytes:Nat} (X:o8 P t e z 1 bytes) (hsz:E.size=1) (hzz:z.cells = #[z]) {a0 : α} (he:∀w Z,E.rd w (fun _=>False) Z [z] a0) {ops:Array Oper} {o:Oper} {K:Act->World->Prop} {E0:Prop}
  (hg:o.guard=none) (x:Operand) (hop:o.op=Op.makeSlice t x x) (n:Nat) (hl:a.eval x=.int .i64 (n:Int)) (b2:bytes*n<=281474976710656) (b3:n<=maxLen) {F Z:BS} {W:World} {ts:List Th} (h:dY F Z W ts w) (i:Nat) (hi:ts[i]? = some wQ)
  (hK:∀b w',Below w.heap.size w w'->dY F Z W (ts.set i (ζ E e (.slice (some ⟨b,0,none⟩) n n) (Vr n a0))) w'->K (a.put o.dst (.slice (some ⟨b,0,none⟩) n n)) w') :
  if VN o (yielded ops a.tmps)=true then WZ P o a w K Q else E0:=by
 obtain ⟨u,hu,hz,hsz2,hby⟩:=X.info;obtain ⟨w1,hrun,hown,hgr⟩:=run_make_full (P:=P) (w:=w) w.heap.size t e u z 1 X.under hu hz hsz2 .i64 .i64 n (by rw [hby];exact b2) b3 (Vu _);have hb1:Below w.heap.size w w1:=(VQ w.heap.size w).grown hgr (Vu _) (fun k e=>by cases e);rw [hzz,Nat.mul_one,toList_madeCells_one] at hown
 have hsl:Sl w1 (fun k=>k=w.heap.size) e 1 (.slice (some ⟨w.heap.size,0,none⟩) n n) n (Vr n z):=by
  obtain ⟨hl,⟨h,_⟩|⟨g,cap,cur,e,hb,hg,h10,h11,h12,Uc⟩⟩:=hown
  ·cases h
  ·obtain ⟨rfl,rfl⟩:w.heap.size=g/\n=cap:=by simpa using e
   exact ⟨hl,.inr ⟨_,0,_,cur,rfl,rfl,hg,h10,h11,by omega,by simpa using Uc⟩⟩
 have hkl:w.heap.size < w1.heap.size:=by
  obtain ⟨_,⟨h,_⟩|⟨g,off,cap,cur,e,rfl,hg,_⟩⟩:=hsl
  ·cases h
  ·exact lt_of_block hg
 refine nX (v:=.slice (some ⟨w.heap.size,0,none⟩) n n) (w':=w1) (by simp [VN,hg]) (by simp [execOp,hop,hl,hrun,Result.andThen]) ?_;refine hK _ _ hb1 (h.grow i hi fun G Y _ hd=>⟨fun k=>k=w.heap.size,fun _=>False,fun k hk=>.inr (by subst hk;exact Vu _),fun _ f=>f.elim,fun _ _ f=>f,?_,Fr.of_below (Fr.refl _ _) hb1⟩);refine ⟨fun k=>k=w.heap.size,fun _=>False,Vr n z,fun k hk=>hk.elim id YV,fun _ _ f=>f,fun k hk=>by subst hk;exact hkl,by rw [WI,hsz];exact hsl,?_⟩;have:=fK.zero (E:=E) (Z:=fun _=>False) (he w1 _) n;rwa [show (Vr n [z]).flatten=Vr n z by rw [List.flatten_replicate_singleton]] at this
end

abbrev J5 (inc:Int) (rv:Value) (wi ti de:Int):Value:=.agg #[.int .i64 inc,rv,.int .i64 wi,.int .i64 ti,.int .i64 de]
abbrev newRow (inc:Nat) (rv:Value) (wi ti de:Nat) (wv bv av sv nv hv:Value):Obj:=.cells #[.int .i64 (inc:Int),rv,.int .i64 (wi:Int),.int .i64 (ti:Int),.int .i64 (de:Int),
 .int .i64 (inc:Int),.int .i64 (de:Int),.int .i64 0,.int .i64 0,.int .i64 0,.int .i64 0,.int .i64 0,
 wv,bv,.int .i64 0,
 .int .i64 0,.int .i64 0,.slice none 0 0,.int .i64 0,.int .i64 0,.int .i64 0,.int .i64 0,.int .i64 0,
 .slice none 0 0,.int .i64 0,.slice none 0 0,.slice none 0 0,.slice none 0 0,.int .i64 0,av,sv,nv,hv,.int .i64 0] 61
abbrev za (inc:Nat) (aZ:List Nat) (wi ti de:Nat):δ:=
 ⟨inc,aZ,wi,ti,de,gP inc de,ji aZ.length,Vr aZ.length [],Vr aZ.length [],0,⟨0,0,[],0,0,0,0⟩,0,[],[],[],[],Vr aZ.length 0,Vr aZ.length 0,Vr aZ.length 0,0⟩
theorem OL (inc:Nat) (aZ:List Nat) (wi ti de:Nat) (rv wv bv av sv nv hv:Value):newRow inc rv wi ti de wv bv av sv nv hv=iX (za inc aZ wi ti de) ⟨rv,wv,bv,.slice none 0 0,.slice none 0 0,.slice none 0 0,.slice none 0 0,.slice none 0 0,av,sv,nv,hv,0⟩:=by
 simp [gP,ji]
section
variable {F Z:BS} {W w:World} {ts:List Th} {p N:Nat} {a:δ}
theorem dY.J8 {α : Type} {E:El α} {T:TypeId} (h:dY F Z W ts w):dY F Z W (ts++[ζ E T (.slice none 0 0) []]) w:=h.add (VQ _ _) (T:=ζ E T (.slice none 0 0) []) (Sq.nil _ _ _ _ _)
theorem DW {inc wi ti de:Nat} {aZ:List Nat} {rv:Value} (n1:1<=aZ.length) (n4:aZ.length<=4) (h:dY F Z W ts w) (j:Nat) (hj:ts[j]? = some (a_ dK rv aZ)) :
  Calls Vs 30 #[J5 inc rv wi ti de] w fun e w'=>∃p,e=.returned (.pointer (some ⟨p,0,none⟩))/\dY F Z W (gJ p (dG inc aZ wi ti de)::ts) w':=by
 obtain ⟨_,_,hrd⟩:=h.get j hj;obtain ⟨ra,rc,rfl,q1,q2⟩:=dh.shape (show dh dK w _ rv aZ from hrd);have h1:=(h.weak j hj (T:=a_ dK (.slice ra aZ.length rc) aZ) fun G Y hon=>hon).front;have h2:=h1.new (.cells #[.int .i64 (inc:Int),.slice ra aZ.length rc,.int .i64 (wi:Int),.int .i64 (ti:Int),.int .i64 (de:Int)] 36);have HR1:=aQ (heap_alloc_new w (.cells #[.int .i64 (inc:Int),.slice ra aZ.length rc,.int .i64 (wi:Int),.int .i64 (ti:Int),.int .i64 (de:Int)] 36));have H2:=aQ (h1.own (aK w (.cells #[.int .i64 (inc:Int),.slice ra aZ.length rc,.int .i64 (wi:Int),.int .i64 (ti:Int),.int .i64 (de:Int)] 36)));clear hrd h h1 h2;go_enter Tryz.func30,Tryz.ntmps30;have c0:(w.alloc (.cells #[.int .i64 (inc:Int),.slice ra aZ.length rc,.int .i64 (wi:Int),.int .i64 (ti:Int),.int .i64 (de:Int)] 36)).cell? ⟨w.heap.size,0,none⟩=some (.int .i64 (inc:Int)):=aJ HR1.out rfl;have c1:(w.alloc (.cells #[.int .i64 (inc:Int),.slice ra aZ.length rc,.int .i64 (wi:Int),.int .i64 (ti:Int),.int .i64 (de:Int)] 36)).cell? ⟨w.heap.size,1,none⟩=some (.slice ra aZ.length rc):=aJ HR1.out rfl;have c2:(w.alloc (.cells #[.int .i64 (inc:Int),.slice ra aZ.length rc,.int .i64 (wi:Int),.int .i64 (ti:Int),.int .i64 (de:Int)] 36)).cell? ⟨w.heap.size,2,none⟩=some (.int .i64 (wi:Int)):=aJ HR1.out rfl;have c3:(w.alloc (.cells #[.int .i64 (inc:Int),.slice ra aZ.length rc,.int .i64 (wi:Int),.int .i64 (ti:Int),.int .i64 (de:Int)] 36)).cell? ⟨w.heap.size,3,none⟩=some (.int .i64 (ti:Int)):=aJ HR1.out rfl;have c4:(w.alloc (.cells #[.int .i64 (inc:Int),.slice ra aZ.length rc,.int .i64 (wi:Int),.int .i64 (ti:Int),.int .i64 (de:Int)] 36)).cell? ⟨w.heap.size,4,none⟩=some (.int .i64 (de:Int)):=aJ HR1.out rfl;go_wp2_with fail;have hsz:(w.alloc (.cells #[.int .i64 (inc:Int),.slice ra aZ.length rc,.int .i64 (wi:Int),.int .i64 (ti:Int),.int .i64 (de:Int)] 36)).heap.size=w.heap.size+1:=World.size_alloc ..;have h3:=(((((((H2.out.no.front).no.front).no.front).no.front).no.front).no.front).new (newRow inc (.slice ra aZ.length rc) wi ti de (.slice none 0 0) (.slice none 0 0) (.slice none 0 0) (.slice none 0 0) (.slice none 0 0) (.slice none 0 0))).front;rw [hsz] at h3;change dY F Z W _ (X_ (w.alloc (.cells #[.int .i64 (inc:Int),.slice ra aZ.length rc,.int .i64 (wi:Int),.int .i64 (ti:Int),.int .i64 (de:Int)] 36)) (newRow inc (.slice ra aZ.length rc) wi ti de (.slice none 0 0) (.slice none 0 0) (.slice none 0 0) (.slice none 0 0) (.slice none 0 0) (.slice none 0 0))) at h3;generalize X_ (w.alloc (.cells #[.int .i64 (inc:Int),.slice ra aZ.length rc,.int .i64 (wi:Int),.int .i64 (ti:Int),.int .i64 (de:Int)] 36)) _=w1 at h3 ⊢;generalize w.heap.size+1=p at h3 ⊢;have H3:=aQ (show dY F Z W (dJ p (newRow inc (.slice ra aZ.length rc) wi ti de (.slice none 0 0) (.slice none 0 0) (.slice none 0 0) (.slice none 0 0) (.slice none 0 0) (.slice none 0 0))::wQ::wQ::wQ::wQ::wQ::wQ::a_ dK (.slice ra aZ.length rc) aZ::ts) w1 from h3);clear h3 hsz c0 c1 c2 c3 c4 H2 HR1
 go_cut [] from 16 to 25 (fun wc=>∃(vw vb:Option Addr),Hid (dY F Z W (dJ p (newRow inc (.slice ra aZ.length rc) wi ti de (.slice vw aZ.length aZ.length) (.slice vb aZ.length aZ.length) (.slice none 0 0) (.slice none 0 0) (.slice none 0 0) (.slice none 0 0))::ζ (df ψ 40) 51 (.slice vw aZ.length aZ.length) (Vr aZ.length [])::ζ (df ψ 40) 51 (.slice vb aZ.length aZ.length) (Vr aZ.length [])::wQ::wQ::wQ::wQ::a_ dK (.slice ra aZ.length rc) aZ::ts) wc))
 case first=>
  have HX:=H3;refine wp_region_held_drew (S:=fun _=>True) (by kernel_rfl) trivial (fun _=>?_);have HX:=aQ HX.out.drew;clear H3;refine Φ 0 3 trivial ?_
  iterate 3 refine dI ?_
  refine aT ?_;change wpAnyH _ _ _ _ _ (8+1) _ _ _
  (refine Φ 4 1 trivial ?_;refine dI ?_;refine aT ?_)
  repeat' (first
   |(refine aH 6 1 (by decide +kernel) trivial (fun _ _ _ _ _ h=>h) ?_;simp only [Vz,VH,Vy,VI];refine dI ?_;refine aT ?_)
   |(refine aH 7 1 (by decide +kernel) trivial (fun _ _ _ _ _ h=>h) ?_;simp only [Vz,VH,Vy,VI];refine dI ?_;refine aT ?_)
   |(refine aH 9 1 (by decide +kernel) trivial (fun _ _ _ _ _ h=>h) ?_;simp only [Vz,VH,Vy,VI];refine dI ?_;refine aT ?_)
   |(refine aH 10 1 (by decide +kernel) trivial (fun _ _ _ _ _ h=>h) ?_;simp only [Vz,VH,Vy,VI];refine dI ?_;refine aT ?_)
   |refine jE 3 5 (by decide +kernel) ?_ ?_
   |refine jE 5 8 (by decide +kernel) ?_ ?_
   |refine eF 3 (by decide +kernel) ?_
   |refine eF 5 (by decide +kernel) ?_
   |refine eF 8 (by decide +kernel) ?_
   |refine eF 11 (by decide +kernel) ?_
   |(refine dw 3 rfl (fun K hK=>?_);refine jl (E:=df ψ 40) o_ rfl rfl (a0:=([]:List dV)) (fun _ _=>⟨_,rfl,Sq.nil _ _ _ _ _⟩) rfl _ rfl aZ.length rfl (by omega) (by unfold maxLen;omega) HX.out 1 rfl ?_;intro bw wx hbx hx;have HX:=aQ hx;clear hbx hx;refine hK.out _ _ trivial ?_;clear hK K;simp only [VF,ag,Ψ,ae])
   |(refine dw 5 rfl (fun K hK=>?_);refine jl (E:=df ψ 40) o_ rfl rfl (a0:=([]:List dV)) (fun _ _=>⟨_,rfl,Sq.nil _ _ _ _ _⟩) rfl _ rfl aZ.length rfl (by omega) (by unfold maxLen;omega) HX.out 2 rfl ?_;intro bb wx hbx hx;have HX:=aQ hx;clear hbx hx;refine hK.out _ _ trivial ?_;clear hK K;simp only [VF,ag,Ψ,ae])
   |(refine dw 8 rfl (fun K hK=>?_);have hrow:=HX.out.blk 0 rfl;have cX:XF _ ⟨p,12,none⟩=some (.slice none 0 0):=aJ hrow rfl;have cf:=fun i=>aD hrow i;have hs:=fun w' hf hr=>HX.out.set 0 rfl (newRow inc (.slice ra aZ.length rc) wi ti de (.slice (some ⟨bw,0,none⟩) aZ.length aZ.length) (.slice none 0 0) (.slice none 0 0) (.slice none 0 0) (.slice none 0 0) (.slice none 0 0)) (w':=w') hf hr;go_simp;refine hK.out _ _ trivial ?_;clear hK K;generalize hwz:VR _ _ _=wz;have HX:=aQ (hs wz (by rw [<-hwz];exact eZ) (by rw [<-hwz];(refine aS (Ξ hrow) ?_);rfl));clear hwz hs hrow cX cf)
   |(refine dw 11 rfl (fun K hK=>?_);have hrow:=HX.out.blk 0 rfl;have cX:XF _ ⟨p,13,none⟩=some (.slice none 0 0):=aJ hrow rfl;have cf:=fun i=>aD hrow i;have hs:=fun w' hf hr=>HX.out.set 0 rfl (newRow inc (.slice ra aZ.length rc) wi ti de (.slice (some ⟨bw,0,none⟩) aZ.length aZ.length) (.slice (some ⟨bb,0,none⟩) aZ.length aZ.length) (.slice none 0 0) (.slice none 0 0) (.slice none 0 0) (.slice none 0 0)) (w':=w') hf hr;go_simp;refine hK.out _ _ trivial ?_;clear hK K;generalize hwz:VR _ _ _=wz;have HX:=aQ (hs wz (by rw [<-hwz];exact eZ) (by rw [<-hwz];(refine aS (Ξ hrow) ?_);rfl));clear hwz hs hrow cX cf))
  all_goals
   refine fZ ?_;go_wp2_with fail;go_meet;exact ⟨some ⟨bw,0,none⟩,some ⟨bb,0,none⟩,aQ HX.out⟩
 case rest=>
  clear H3;obtain ⟨vw,vb,HX⟩:=hcut;have HX:=aQ (show dY F Z W (dJ p (newRow inc (.slice ra aZ.length rc) wi ti de (.slice vw aZ.length aZ.length) (.slice vb aZ.length aZ.length) (.slice none 0 0) (.slice none 0 0) (.slice none 0 0) (.slice none 0 0))::ζ (df ψ 40) 51 (.slice vw aZ.length aZ.length) (Vr aZ.length [])::ζ (df ψ 40) 51 (.slice vb aZ.length aZ.length) (Vr aZ.length [])::wQ::wQ::wQ::wQ::a_ dK (.slice ra aZ.length rc) aZ::ts) wc from HX.out);go_wp2_with (at_make;refine jB (E:=dK) kI rfl (a0:=0) (fun _ _=>rfl) rfl _ _ rfl aZ.length rfl rfl (by omega) (by unfold maxLen;omega) ?_;intro w6 hb6 hs6;obtain ⟨ba,iq⟩:∃ba,ba=wc.heap.size:=⟨_,rfl⟩;have HY:=aQ (HX.out.grow (w':=w6) 3 rfl (T':=ζ dK 3 (.slice (some ⟨ba,0,none⟩) aZ.length aZ.length) (Vr aZ.length 0)) fun G Y _ hd=>⟨fun k=>wc.heap.size<=k,fun _=>False,fun k hk=>.inr hk,fun _ f=>f.elim,fun _ _ f=>f,by rw [iq];exact hs6,Fr.of_below (Fr.refl _ _) hb6⟩);rw [<-iq];clear hb6 hs6 iq;have hrow:=HY.out.blk 0 rfl;have c28:w6.cell? ⟨p,28,none⟩=some (.int .i64 0):=aJ hrow rfl;have c29:w6.cell? ⟨p,29,none⟩=some (.slice none 0 0):=aJ hrow rfl;have cf:=fun i=>aD hrow i);have hs:=HY.out.set 0 rfl (newRow inc (.slice ra aZ.length rc) wi ti de (.slice vw aZ.length aZ.length) (.slice vb aZ.length aZ.length) (.slice (some ⟨ba,0,none⟩) aZ.length aZ.length) (.slice none 0 0) (.slice none 0 0) (.slice none 0 0)) (w':=(w6.setCell ⟨p,28,none⟩ (.int .i64 0)).setCell ⟨p,29,none⟩ (.slice (some ⟨ba,0,none⟩) aZ.length aZ.length)) (by exact eZ) (by (refine aS (Ξ hrow) ?_);rfl);clear HX HY c28 c29 cf hrow;generalize VR (VR w6 _ _) _ _=w7 at hs ⊢;obtain ⟨va,hva⟩:∃va:Option Addr,va=some ⟨ba,0,none⟩:=⟨_,rfl⟩;have H4:=aQ (show dY F Z W (dJ p (newRow inc (.slice ra aZ.length rc) wi ti de (.slice vw aZ.length aZ.length) (.slice vb aZ.length aZ.length) (.slice va aZ.length aZ.length) (.slice none 0 0) (.slice none 0 0) (.slice none 0 0))::ζ (df ψ 40) 51 (.slice vw aZ.length aZ.length) (Vr aZ.length [])::ζ (df ψ 40) 51 (.slice vb aZ.length aZ.length) (Vr aZ.length [])::ζ dK 3 (.slice va aZ.length aZ.length) (Vr aZ.length 0)::wQ::wQ::wQ::a_ dK (.slice ra aZ.length rc) aZ::ts) w7 by rw [hva];exact hs);rw [<-hva];clear hs hva
  go_cut [] from 32 to 46 (fun wc=>∃(vs vn vh:Option Addr),Hid (dY F Z W (dJ p (newRow inc (.slice ra aZ.length rc) wi ti de (.slice vw aZ.length aZ.length) (.slice vb aZ.length aZ.length) (.slice va aZ.length aZ.length) (.slice vs aZ.length aZ.length) (.slice vn aZ.length aZ.length) (.slice vh aZ.length aZ.length))::ζ (df ψ 40) 51 (.slice vw aZ.length aZ.length) (Vr aZ.length [])::ζ (df ψ 40) 51 (.slice vb aZ.length aZ.length) (Vr aZ.length [])::ζ dK 3 (.slice va aZ.length aZ.length) (Vr aZ.length 0)::ζ dK 3 (.slice vs aZ.length aZ.length) (Vr aZ.length 0)::ζ dK 3 (.slice vn aZ.length aZ.length) (Vr aZ.length 0)::ζ dK 3 (.slice vh aZ.length aZ.length) (Vr aZ.length 0)::a_ dK (.slice ra aZ.length rc) aZ::ts) wc))
  case first=>
   have HX:=H4;refine wp_region_held_drew (S:=fun _=>True) (by kernel_rfl) trivial (fun _=>?_);have HX:=aQ HX.out.drew;clear H4;refine Φ 0 4 trivial ?_
   iterate 4 refine dI ?_
   refine aT ?_;change wpAnyH _ _ _ _ _ (13+1) _ _ _
   (refine aH 5 1 (by decide +kernel) trivial (fun _ _ _ _ _ h=>h) ?_;simp only [Vz,VH,Vy,VI];refine dI ?_;refine aT ?_)
   change wpAnyH _ _ _ _ _ (12+1) _ _ _
   (refine aH 7 1 (by decide +kernel) trivial (fun _ _ _ _ _ h=>h) ?_;simp only [Vz,VH,Vy,VI];refine dI ?_;refine aT ?_)
   repeat' (first
    |(refine aH 9 1 (by decide +kernel) trivial (fun _ _ _ _ _ h=>h) ?_;simp only [Vz,VH,Vy,VI];refine dI ?_;refine aT ?_)
    |(refine aH 10 1 (by decide +kernel) trivial (fun _ _ _ _ _ h=>h) ?_;simp only [Vz,VH,Vy,VI];refine dI ?_;refine aT ?_)
    |(refine aH 12 1 (by decide +kernel) trivial (fun _ _ _ _ _ h=>h) ?_;simp only [Vz,VH,Vy,VI];refine dI ?_;refine aT ?_)
    |(refine aH 13 1 (by decide +kernel) trivial (fun _ _ _ _ _ h=>h) ?_;simp only [Vz,VH,Vy,VI];refine dI ?_;refine aT ?_)
    |(refine aH 15 1 (by decide +kernel) trivial (fun _ _ _ _ _ h=>h) ?_;simp only [Vz,VH,Vy,VI];refine dI ?_;refine aT ?_)
    |(refine aH 16 1 (by decide +kernel) trivial (fun _ _ _ _ _ h=>h) ?_;simp only [Vz,VH,Vy,VI];refine dI ?_;refine aT ?_)
    |refine Bc 4 6 8 (by decide +kernel) ?_ ?_ ?_
    |refine Bc 6 8 11 (by decide +kernel) ?_ ?_ ?_
    |refine jE 4 6 (by decide +kernel) ?_ ?_
    |refine jE 4 8 (by decide +kernel) ?_ ?_
    |refine jE 6 8 (by decide +kernel) ?_ ?_
    |refine jE 6 11 (by decide +kernel) ?_ ?_
    |refine jE 8 11 (by decide +kernel) ?_ ?_
    |refine jE 8 14 (by decide +kernel) ?_ ?_
    |refine eF 4 (by decide +kernel) ?_
    |refine eF 6 (by decide +kernel) ?_
    |refine eF 8 (by decide +kernel) ?_
    |refine eF 11 (by decide +kernel) ?_
    |refine eF 14 (by decide +kernel) ?_
    |refine eF 17 (by decide +kernel) ?_
    |(refine dw 4 rfl (fun K hK=>?_);refine jl (E:=dK) kI rfl rfl (a0:=(0:Nat)) (fun _ _=>rfl) rfl _ rfl aZ.length rfl (by omega) (by unfold maxLen;omega) HX.out 4 rfl ?_;intro bs wx hbx hx;have HX:=aQ hx;clear hbx hx;refine hK.out _ _ trivial ?_;clear hK K;simp only [VF,ag,Ψ,ae])
    |(refine dw 6 rfl (fun K hK=>?_);refine jl (E:=dK) kI rfl rfl (a0:=(0:Nat)) (fun _ _=>rfl) rfl _ rfl aZ.length rfl (by omega) (by unfold maxLen;omega) HX.out 5 rfl ?_;intro bn wx hbx hx;have HX:=aQ hx;clear hbx hx;refine hK.out _ _ trivial ?_;clear hK K;simp only [VF,ag,Ψ,ae])
    |(refine dw 8 rfl (fun K hK=>?_);refine jl (E:=dK) kI rfl rfl (a0:=(0:Nat)) (fun _ _=>rfl) rfl _ rfl aZ.length rfl (by omega) (by unfold maxLen;omega) HX.out 6 rfl ?_;intro bh wx hbx hx;have HX:=aQ hx;clear hbx hx;refine hK.out _ _ trivial ?_;clear hK K;simp only [VF,ag,Ψ,ae])
    |(refine dw 11 rfl (fun K hK=>?_);have hrow:=HX.out.blk 0 rfl;have cX:XF _ ⟨p,30,none⟩=some (.slice none 0 0):=aJ hrow rfl;have cf:=fun i=>aD hrow i;have hs:=fun w' hf hr=>HX.out.set 0 rfl (newRow inc (.slice ra aZ.length rc) wi ti de (.slice vw aZ.length aZ.length) (.slice vb aZ.length aZ.length) (.slice va aZ.length aZ.length) (.slice (some ⟨bs,0,none⟩) aZ.length aZ.length) (.slice none 0 0) (.slice none 0 0)) (w':=w') hf hr;go_simp;refine hK.out _ _ trivial ?_;clear hK K;generalize hwz:VR _ _ _=wz;have HX:=aQ (hs wz (by rw [<-hwz];exact eZ) (by rw [<-hwz];(refine aS (Ξ hrow) ?_);rfl));clear hwz hs hrow cX cf)
    |(refine dw 14 rfl (fun K hK=>?_);have hrow:=HX.out.blk 0 rfl;have cX:XF _ ⟨p,31,none⟩=some (.slice none 0 0):=aJ hrow rfl;have cf:=fun i=>aD hrow i;have hs:=fun w' hf hr=>HX.out.set 0 rfl (newRow inc (.slice ra aZ.length rc) wi ti de (.slice vw aZ.length aZ.length) (.slice vb aZ.length aZ.length) (.slice va aZ.length aZ.length) (.slice (some ⟨bs,0,none⟩) aZ.length aZ.length) (.slice (some ⟨bn,0,none⟩) aZ.length aZ.length) (.slice none 0 0)) (w':=w') hf hr;go_simp;refine hK.out _ _ trivial ?_;clear hK K;generalize hwz:VR _ _ _=wz;have HX:=aQ (hs wz (by rw [<-hwz];exact eZ) (by rw [<-hwz];(refine aS (Ξ hrow) ?_);rfl));clear hwz hs hrow cX cf)
    |(refine dw 17 rfl (fun K hK=>?_);have hrow:=HX.out.blk 0 rfl;have cX:XF _ ⟨p,32,none⟩=some (.slice none 0 0):=aJ hrow rfl;have cf:=fun i=>aD hrow i;have hs:=fun w' hf hr=>HX.out.set 0 rfl (newRow inc (.slice ra aZ.length rc) wi ti de (.slice vw aZ.length aZ.length) (.slice vb aZ.length aZ.length) (.slice va aZ.length aZ.length) (.slice (some ⟨bs,0,none⟩) aZ.length aZ.length) (.slice (some ⟨bn,0,none⟩) aZ.length aZ.length) (.slice (some ⟨bh,0,none⟩) aZ.length aZ.length)) (w':=w') hf hr;go_simp;refine hK.out _ _ trivial ?_;clear hK K;generalize hwz:VR _ _ _=wz;have HX:=aQ (hs wz (by rw [<-hwz];exact eZ) (by rw [<-hwz];(refine aS (Ξ hrow) ?_);rfl));clear hwz hs hrow cX cf))
   all_goals
    refine fZ ?_;go_wp2_with fail;go_meet;exact ⟨some ⟨bs,0,none⟩,some ⟨bn,0,none⟩,some ⟨bh,0,none⟩,aQ HX.out⟩
  case rest=>
   clear H4;obtain ⟨vs,vn,vh,HX⟩:=hcut;have h5:=(((((HX.out.J8 (E:=ψ) (T := 40)).front.J8 (E:=dK) (T := 3)).front.J8 (E:=Aj) (T := 176)).front.J8 (E:=xA) (T := 161)).front.J8 (E:=dK) (T := 3)).front;have e:=OL inc aZ wi ti de (.slice ra aZ.length rc) (.slice vw aZ.length aZ.length) (.slice vb aZ.length aZ.length) (.slice va aZ.length aZ.length) (.slice vs aZ.length aZ.length) (.slice vn aZ.length aZ.length) (.slice vh aZ.length aZ.length);rw [e] at h5;have h6:=dY.τ (us:=[ζ dK 3 (.slice none 0 0) [],ζ xA 161 (.slice none 0 0) [],ζ Aj 176 (.slice none 0 0) [],ζ dK 3 (.slice none 0 0) [],ζ ψ 40 (.slice none 0 0) [],dJ p (iX (za inc aZ wi ti de) ⟨.slice ra aZ.length rc,.slice vw aZ.length aZ.length,.slice vb aZ.length aZ.length,.slice none 0 0,.slice none 0 0,.slice none 0 0,.slice none 0 0,.slice none 0 0,.slice va aZ.length aZ.length,.slice vs aZ.length aZ.length,.slice vn aZ.length aZ.length,.slice vh aZ.length aZ.length,0⟩),ζ (df ψ 40) 51 (.slice vw aZ.length aZ.length) (Vr aZ.length []),ζ (df ψ 40) 51 (.slice vb aZ.length aZ.length) (Vr aZ.length []),ζ dK 3 (.slice va aZ.length aZ.length) (Vr aZ.length 0),ζ dK 3 (.slice vs aZ.length aZ.length) (Vr aZ.length 0),ζ dK 3 (.slice vn aZ.length aZ.length) (Vr aZ.length 0),ζ dK 3 (.slice vh aZ.length aZ.length) (Vr aZ.length 0),a_ dK (.slice ra aZ.length rc) aZ]) (vs:=ω p (za inc aZ wi ti de) ⟨.slice ra aZ.length rc,.slice vw aZ.length aZ.length,.slice vb aZ.length aZ.length,.slice none 0 0,.slice none 0 0,.slice none 0 0,.slice none 0 0,.slice none 0 0,.slice va aZ.length aZ.length,.slice vs aZ.length aZ.length,.slice vn aZ.length aZ.length,.slice vh aZ.length aZ.length,0⟩) h5 [5,12,6,7,4,3,2,1,0,8,9,10,11] (by decide) rfl;have H6:=aQ (dY.ax h6);clear HX h5 e h6;go_wp2_with fail
   refine (Bt (a:=za inc aZ wi ti de) (N:=0) ⟨n1,n4,WI,WI,VJ _,fun l hl=>by rw [(Wu.1 hl).2];exact Vu _,fun l hl=>by rw [(Wu.1 hl).2];exact Vu _⟩ (by omega) rfl (fun f hf=>by cases hf) (fun c=>by
    show ((Vr aZ.length ([]:List dV)).getD c []).length<=_;rw [We,WU];split <;> exact VJ _) H6.out).mono ?_
   rintro e w8 ⟨rfl,hh⟩;have HH:=aQ hh;clear hh H6;go_wp2_with fail;go_ret;exact ⟨p,rfl,HH.out⟩
end

section
variable {F Z:BS} {W w:World} {ts:List Th} {p N:Nat} {a:δ}
theorem zO (c:Int) (hc:c<=(a.inc:Int)\/1099511627775 < c) (h:dY F Z W (gJ p a::ts) w) :
  Calls Vs 38 #[.pointer (some ⟨p,0,none⟩),.int .i64 c] w fun e w'=>e=.returned (.tuple #[.pointer (some ⟨p,0,none⟩),.int .i64 2])/\w=w':=by
 obtain ⟨x,hst⟩:=h.rp;have c0:w.cell? ⟨p,0,none⟩=some (.int .i64 (a.inc:Int)):=aJ (hst.blk 0 rfl) rfl;have hq:c<=(a.inc:Int)\/(¬c<=(a.inc:Int)/\1099511627775 < c):=by omega
 clear hst h hc
 rcases hq with h0|⟨h0,h1⟩
 ·go_enter Tryz.func38,Tryz.ntmps38
  go_wp2_with fail;go_ret2;exact ⟨rfl,rfl⟩
 ·have h2:(a.inc:Int) < c:=by omega
  have h3:decide (c<=(a.inc:Int))=false:=by simp;omega
  go_enter Tryz.func38,Tryz.ntmps38;go_wp2_with fail;go_ret2;exact ⟨rfl,rfl⟩
theorem zN (c:Nat) (h1:a.inc < c) (h2:c<=1099511627775) (n1:1<=a.aZ.length) (n4:a.aZ.length<=4) (h:dY F Z W (gJ p a::ts) w) :
  Calls Vs 38 #[.pointer (some ⟨p,0,none⟩),.int .i64 (c:Int)] w fun e w'=>∃q,e=.returned (.tuple #[.pointer (some ⟨q,0,none⟩),.int .i64 0])/\dY F Z W (gJ q (dG c a.aZ a.cA a.aN a.dead)::ts) w':=by
 obtain ⟨x,hst⟩:=h.rp;obtain ⟨rv,wv,bv,kv,cv,tv,gv,ev,av,sv,nv,hv,ch⟩:=x;have hrow:=hst.blk 0 rfl;have c0:w.cell? ⟨p,0,none⟩=some (.int .i64 (a.inc:Int)):=aJ hrow rfl;have c1:w.cell? ⟨p,1,none⟩=some rv:=aJ hrow rfl;have c2:w.cell? ⟨p,2,none⟩=some (.int .i64 (a.cA:Int)):=aJ hrow rfl;have c3:w.cell? ⟨p,3,none⟩=some (.int .i64 (a.aN:Int)):=aJ hrow rfl;have c4:w.cell? ⟨p,4,none⟩=some (.int .i64 (a.dead:Int)):=aJ hrow rfl;obtain ⟨_,_,hr⟩:=hst.get 1 rfl;obtain ⟨ra,rc,e1,_⟩:=dh.shape (show dh dK w _ rv a.aZ from hr);subst e1;have HST:=aQ hst;have hci:(a.inc:Int) < (c:Int):=by omega
 have hcn:decide ((c:Int)<=(a.inc:Int))=false:=by simp;omega
 have hcm:(c:Int)<=1099511627775:=by omega
 clear hst hrow hr h h1 h2;go_enter Tryz.func38,Tryz.ntmps38;go_wp2_with fail;have HW:=aQ (fun (w':World) (hb:Below w.heap.size w w')=>DW (inc:=c) (wi:=a.cA) (ti:=a.aN) (de:=a.dead) n1 n4 (HST.out.own hb) 1 rfl);refine (HW.out _ (by (repeat (first|(with_reducible exact VQ _ _)|(with_reducible refine Bw.alloc ?_ _)|(with_reducible refine Bw.drewN ?_ _)|(with_reducible refine Bw.drew ?_)|(with_reducible refine VK ?_ (by simp <;> omega) _))))).mono ?_;rintro e w' ⟨q,rfl,hh⟩;have HH:=aQ hh;clear hh HW HST;go_wp2_with fail;go_ret2;refine ⟨q,rfl,?_⟩;exact dY.τ (us:=gJ q (dG c a.aZ a.cA a.aN a.dead)::ω p a ⟨.slice ra a.aZ.length rc,wv,bv,kv,cv,tv,gv,ev,av,sv,nv,hv,ch⟩) (vs:=[gJ q (dG c a.aZ a.cA a.aN a.dead)]) HH.out [0] (by decide) rfl
end


section
open Go.RowKit Go.ChangeShapes Go.WideShapes Go.ChangeAt
theorem F7 {w:World} {Z:BS} {ra:Option Addr} {n rc:Nat} {l:List Int} (h:dh (oV .i64) w Z (.slice ra n rc) l):wU w ra l:=fun k x hk=>by
 obtain ⟨b,off,cs,e,_,h2,h3⟩:=h.at (by decide) hk;obtain rfl:cs=[.int .i64 x]:=h2;exact ⟨b,off,e,by simpa [oV] using h3 0 _ rfl⟩
theorem Gf {w:World} {Z:BS}:∀ {F:BS} {us:List Value} {aZ:List Nat},fK (oV .i64) w F Z us (aZ.map fun (x:Nat)=>(x:Int))->fK dK w F Z us aZ
 |_,_,[],h=>h
 |_,_,_::_,⟨cs,rest,A,B,e,h1,h2,h3,h4,h5⟩=>⟨cs,rest,A,B,e,h1,h2,h3,h4,Gf h5⟩
theorem uE {w:World} {Z:BS} {v:Value} {aZ:List Nat} (h:dh (oV .i64) w Z v (aZ.map fun (x:Nat)=>(x:Int))):dh dK w Z v aZ:=by
 obtain ⟨us,h1,h2,h3⟩:=h;rw [VL] at h1;exact ⟨us,h1,Gf h2,h3⟩
section
variable {F Z:BS} {W w:World} {ts:List Th} {p N:Nat} {a:δ}
theorem zQ (h:dY F Z W ts w) (i:Nat) (hi:ts[i]? = some (bP p a)) (hok:a.Ok N) (c:Int) (h1:1099511627775 < c) :
  Calls Vs 94 #[.pointer (some ⟨p,0,none⟩),.int .i64 c] w fun e w'=>e=.returned (.int .i64 2)/\dY F Z W ts w':=by
 obtain ⟨G,Y,x,hst⟩:=h.get i hi;obtain ⟨rv,sp,ap,wv,bv,fu,eO,fq,fw,ig,kv,fM,rev,fD⟩:=x;obtain ⟨c0,c1,c2,c3,c4,_⟩:=aB (hst.get (i:=0) rfl).1;have hr:=hst.get (i:=1) rfl;dsimp only at *;obtain ⟨rb,ro,rc,rfl,m1,nG⟩:=bR (show Sq dK 3 w _ _ rv a.aZ from hr) hok.n1;have HN:=aQ (kR (show Sq dK 3 w _ _ (.slice (some ⟨rb,ro,none⟩) a.aZ.length rc) a.aZ from hr));have AP:(a.inc:Int) < c:=by have:=hok.i2;omega
 have hdc:decide (c<=(a.inc:Int))=false:=by simp;omega
 have HNO:=aQ (fun (w':World) (hb:Below w.heap.size w w')=>OV (inc:=c) (wi:=a.cA) (ti:=a.aN) (de:=a.dead) (aZ:=a.aZ.map fun (x:Nat)=>(x:Int)) (ra:=some ⟨rb,ro,none⟩) (rc:=rc) w' (by rw [VL];have:=hok.n4;omega) (fun hc=>by have:=hc.i2;omega) fun k y hk=>by
  rw [VG] at hk
  cases hx:a.aZ[k]? with
  |none=>rw [hx] at hk;cases hk
  |some z=>
   rw [hx] at hk;obtain rfl:=VM hk;exact ⟨rb,ro,rfl,(Vt (hb.block rb (Vv w _ (HN.out k z hx)))).trans (HN.out k z hx)⟩)
 rw [VL] at HNO;have HH:=aQ h;clear hst hr hi hok h h1;go_enter Tryz.func94,Tryz.ntmps94;go_wp2_with fail;refine (HNO.out _ (by (repeat (first|(with_reducible exact VQ _ _)|(with_reducible refine Bw.alloc ?_ _)|(with_reducible refine Bw.drewN ?_ _)|(with_reducible refine Bw.drew ?_)|(with_reducible refine VK ?_ (by simp <;> omega) _))))).mono ?_;rintro e w' ⟨rfl,hb⟩;have HB:=aQ (show Below w.heap.size w w' from Wi (by (repeat (first|(with_reducible exact VQ _ _)|(with_reducible refine Bw.alloc ?_ _)|(with_reducible refine Bw.drewN ?_ _)|(with_reducible refine Bw.drew ?_)|(with_reducible refine VK ?_ (by simp <;> omega) _)))) (hb.mono (by simp)));clear hb HNO;go_wp2_with fail;go_ret;exact ⟨rfl,HH.out.own HB.out⟩
end
end

theorem tZ (p:δ):p.choose.cS=p.cS/\p.choose.inc=p.inc/\p.choose.aZ=p.aZ:=by
 unfold δ.choose;split
 ·exact ⟨rfl,rfl,rfl⟩
 ·split <;> exact ⟨rfl,rfl,rfl⟩
theorem Ac (p:δ) (y:Pt):(p.cU y).aZ=p.aZ/\(p.cU y).inc=p.inc:=by
 unfold δ.cU;split
 ·unfold δ.gy;dsimp only;split <;> exact ⟨rfl,rfl⟩
 ·split
  ·exact ⟨rfl,rfl⟩
  ·split
   ·unfold δ.cO;split
    ·exact ⟨rfl,rfl⟩
    ·dsimp only;split <;> exact ⟨rfl,rfl⟩
   ·split
    ·exact ⟨rfl,rfl⟩
    ·split
     ·unfold δ.raise;split <;> exact ⟨rfl,rfl⟩
     ·exact ⟨rfl,rfl⟩
theorem cH:∀(l:List Pt) (p:δ),(l.foldl δ.cU p).aZ=p.aZ/\(l.foldl δ.cU p).inc=p.inc
 |[],_=>⟨rfl,rfl⟩
 |y::l,p=>by
  rw [WM,(cH l _).1,(cH l _).2];exact Ac p y
theorem Eg (p:δ) (l:List Pt):(p.cR l).2.aZ=p.aZ/\(p.cR l).2.inc=p.inc/\(p.Min->(p.cR l).2.Min):=by
 obtain ⟨h1,h2⟩:=cH l p;have h3:=fun h:p.Min=>h.handles l
 obtain ⟨a,ha⟩:∃a,a=l.foldl δ.cU p:=⟨_,rfl⟩;by_cases hs:a.cS.cR.state=2
 ·rw [δ.oF ha hs]
  rw [<-ha] at h1 h2 h3;obtain ⟨c1,c2,c3⟩:=tZ { a with cS:=a.cS.cR }
  have c4:p.Min->(δ.choose { a with cS:=a.cS.cR }).cS.mine=(δ.choose { a with cS:=a.cS.cR }).inc:=fun h=>by
   rw [c1,c2];show a.cS.cR.mine=a.inc;rw [lL];exact h3 h
  split
  ·exact ⟨c3.trans h1,c2.trans h2,c4⟩
  ·exact ⟨c3.trans h1,c2.trans h2,c4⟩
 ·rw [δ.cX ha hs]
  rw [<-ha] at h1 h2 h3;refine ⟨h1,h2,fun h=>?_⟩;show a.cS.cR.mine=a.inc;rw [lL];exact h3 h

section
variable {F Z:BS} {W w:World} {ts:List Th} {p q N:Nat} {a b:δ} {A B:Th}
theorem dY.flip (h:dY F Z W (A::B::ts) w):dY F Z W (B::A::ts) w:=dY.τ (us:=[A,B]) (vs:=[B,A]) h [1,0] (by decide) rfl
theorem mX (h:dY F Z W (gJ p a::ts) w):∃ra rc,w.cell? ⟨p,1,none⟩=some (.slice ra a.aZ.length rc):=by
 obtain ⟨x,hst⟩:=h.rp;have c1:w.cell? ⟨p,1,none⟩=some x.rv:=aJ (hst.blk 0 rfl) rfl;obtain ⟨_,_,hq⟩:=hst.get 1 rfl;obtain ⟨u,kc,e,_⟩:=dh.shape (show dh dK _ _ x.rv a.aZ from hq);exact ⟨u,kc,by rw [c1,e]⟩
theorem Bo (h:dY F Z W (gJ p a::ts) w) (hok:a.Ok N) (hN:N<=1000000) (c:Int) (dv:Value) (d:dV) (j:Nat) (hj:ts[j]? = some (dD dv d)) :
  Calls Vs 35 #[.pointer (some ⟨p,0,none⟩),.int .i64 c,dv] w fun e w'=>e=.returned (.int .i64 ((a.dQ c d).1:Int))/\dY F Z W (gJ p (a.dQ c d).2::ts) w':=by
 obtain ⟨_,_,hby⟩:=h.get (j+1) (T:=dD dv d) (by simpa using hj);obtain ⟨da,dc,rfl⟩:=fE.slice hby;have hdl:=(By.cases hby.1).1;have n4:=hok.n4;obtain ⟨ra,rc,c1⟩:=mX h;by_cases hr:c < 0\/(a.aZ.length:Int)<=c\/64 < d.length
 ·refine (zP c da d.length dc ra rc n4 hdl hr c1).mono fun e w' ⟨h1,h2⟩=>?_
  subst h2
  have hf:a.dQ c d=(2,a):=if_pos (by
   rcases hr with hr|hr|hr
   ·exact .inl fun hh=>by have h:0<=c/\c < (a.aZ.length:Int):=hh;omega
   ·exact .inl fun hh=>by have h:0<=c/\c < (a.aZ.length:Int):=hh;omega
   ·exact .inr hr)
  rw [hf];exact ⟨h1,h⟩
 ·obtain ⟨m,rfl⟩:∃m:Nat,c=(m:Int):=⟨c.toNat,by omega⟩
  have hm:m < a.aZ.length:=by omega
  have hf:a.dQ (m:Int) d=if 64<=(a.aX.getD m []).length then (5,a) else (0,{ a with aX:=a.aX.set m (a.aX.getD m []++[d]) }):=
   if_neg fun hh=>hh.elim (fun g=>g (show 0<=(m:Int)/\(m:Int) < (a.aZ.length:Int) by omega)) (by omega)
  by_cases hq:64<=(a.aX.getD m []).length
  ·rw [if_pos hq] at hf
   rw [hf];obtain ⟨x,hst⟩:=h.rp;have c12:w.cell? ⟨p,12,none⟩=some x.wv:=aJ (hst.blk 0 rfl) rfl;obtain ⟨_,_,hs⟩:=hst.get 2 rfl;have hwl:=hok.wl;obtain ⟨b1,o1,k1,e1,_⟩:=bR (show Sq (df ψ 40) 51 w _ _ x.wv a.aX from hs) (by have:=hok.n1;omega);rw [e1] at hs;obtain ⟨v,A,hc,hsv,_⟩:=iQ (show Sq (df ψ 40) 51 w _ _ (.slice (some ⟨b1,o1,none⟩) a.aX.length k1) a.aX from hs) (bT (d:=[]) (show m < a.aX.length by omega));obtain ⟨va,k2,ev⟩:=Sq.shape hsv;rw [e1,hwl] at c12;rw [ev] at hc;have hln:=hok.qy _ (VD (bT (d:=[]) (show m < a.aX.length by omega)));refine (Ct (p:=p) (w:=w) m a.aZ.length d.length dc _ k2 da ra va hm n4 (by omega) b1 o1 k1 rc c1 c12 hq (by omega) hc).mono fun e w' ⟨h1,h2⟩=>?_
   subst h2;exact ⟨h1,h⟩
  ·rw [if_neg hq] at hf
   rw [hf];exact (Eu h j hok m hm _ d (Bq _ d) hj (by omega) (by omega)).mono fun e w' h1=>h1
theorem Ij (h:dY F Z W (gJ p a::ts) w) (hok:a.Ok N) (c:Int) (hc:a.jY c=none) :
  Calls Vs 36 #[.pointer (some ⟨p,0,none⟩),.int .i64 c] w fun e w'=>e=.returned (.tuple #[.slice none 0 0,.bool false])/\w=w':=by
 obtain ⟨ra,rc,c1⟩:=mX h;by_cases hr:c < 0\/(a.aZ.length:Int)<=c
 ·exact LW c ra rc hr c1
 ·obtain ⟨m,rfl⟩:∃m:Nat,c=(m:Int):=⟨c.toNat,by omega⟩
  have hm:m < a.aZ.length:=by omega
  have hnil:a.aY.getD m []=[]:=by
   unfold δ.jY at hc;have hh:a.has (m:Int):=show 0<=(m:Int)/\(m:Int) < (a.aZ.length:Int) by omega
   rw [if_pos hh,Wv] at hc
   cases hb:a.aY.getD m [] with
   |nil=>rfl
   |cons _ _=>rw [hb] at hc;cases hc
  obtain ⟨x,hst⟩:=h.rp;have c13:w.cell? ⟨p,13,none⟩=some x.bv:=aJ (hst.blk 0 rfl) rfl;obtain ⟨_,_,hs⟩:=hst.get 3 rfl;have hbl:=hok.bl;obtain ⟨b1,o1,k1,e1,_⟩:=bR (show Sq (df ψ 40) 51 w _ _ x.bv a.aY from hs) (by have:=hok.n1;omega);rw [e1] at hs;obtain ⟨v,A,hcc,hsv,_⟩:=iQ (show Sq (df ψ 40) 51 w _ _ (.slice (some ⟨b1,o1,none⟩) a.aY.length k1) a.aY from hs) (bT (d:=[]) (show m < a.aY.length by omega));rw [hnil] at hsv;obtain ⟨va,k2,ev⟩:=Sq.shape hsv;rw [e1,hbl] at c13;rw [ev] at hcc;exact Er (p:=p) (w:=w) m a.aZ.length k2 ra va hm hok.n4 b1 o1 k1 rc c1 c13 hcc
theorem xS (h:dY F Z W (gJ p a::ts) w) (hok:a.Ok N) {m:Nat} (hm:m < a.aZ.length) :
  ∃b1 o1 k1 b2 o2 k2 b3 o3 k3,w.cell? ⟨p,30,none⟩=some (.slice (some ⟨b1,o1,none⟩) a.aZ.length k1)/\w.cell? ⟨p,31,none⟩=some (.slice (some ⟨b2,o2,none⟩) a.aZ.length k2)/\w.cell? ⟨p,32,none⟩=some (.slice (some ⟨b3,o3,none⟩) a.aZ.length k3) /\
   w.cell? ⟨b1,o1+m,none⟩=some (.int .i64 ((a.aG.getD m 0:Nat):Int))/\w.cell? ⟨b2,o2+m,none⟩=some (.int .i64 ((a.aW.getD m 0:Nat):Int))/\w.cell? ⟨b3,o3+m,none⟩=some (.int .i64 ((a.cF.getD m 0:Nat):Int)):=by
 have al:=hok.al;have rl:=hok.rl;have kl:=hok.kl;obtain ⟨x,hst⟩:=h.rp;have c1:w.cell? ⟨p,30,none⟩=some x.sv:=aJ (hst.blk 0 rfl) rfl;have c2:w.cell? ⟨p,31,none⟩=some x.nv:=aJ (hst.blk 0 rfl) rfl;have c3:w.cell? ⟨p,32,none⟩=some x.hv:=aJ (hst.blk 0 rfl) rfl;obtain ⟨_,_,h1⟩:=hst.get 10 rfl;obtain ⟨_,_,h2⟩:=hst.get 11 rfl;obtain ⟨_,_,h3⟩:=hst.get 12 rfl;obtain ⟨b1,o1,k1,e1,_⟩:=bR (show Sq dK 3 w _ _ x.sv a.aG from h1) (by omega);obtain ⟨b2,o2,k2,e2,_⟩:=bR (show Sq dK 3 w _ _ x.nv a.aW from h2) (by omega);obtain ⟨b3,o3,k3,e3,_⟩:=bR (show Sq dK 3 w _ _ x.hv a.cF from h3) (by omega);rw [e1] at c1 h1;rw [e2] at c2 h2;rw [e3] at c3 h3;refine ⟨b1,o1,k1,b2,o2,k2,b3,o3,k3,by rw [c1,al],by rw [c2,rl],by rw [c3,kl],?_,?_,?_⟩
 ·exact kR (show Sq dK 3 w _ _ _ _ from h1) _ _ (bT (by omega))
 ·exact kR (show Sq dK 3 w _ _ _ _ from h2) _ _ (bT (by omega))
 ·exact kR (show Sq dK 3 w _ _ _ _ from h3) _ _ (bT (by omega))
end

end Go.Proofs.YtjnbanjjoomecaaGreatDoor
