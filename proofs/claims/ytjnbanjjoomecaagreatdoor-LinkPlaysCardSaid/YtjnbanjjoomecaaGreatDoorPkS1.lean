/- Lemmas; no condition on the program. -/
import Derived.Test.YtjnbanjjoomecaaGreatDoorPkH1
import Derived.Test.YtjnbanjjoomecaaGreatDoorPkP1
import Derived.Test.YtjnbanjjoomecaaGreatDoorPkR2
import Derived.Test.YtjnbanjjoomecaaGreatDoorPkQ1
import Derived.Test.YtjnbanjjoomecaaGreatDoorPkD1
import Derived.Test.YtjnbanjjoomecaaGreatDoorPkR1
import Derived.Test.YtjnbanjjoomecaaGreatDoorPkC1
import Derived.Test.YtjnbanjjoomecaaGreatDoorPkA1
import Derived.StillTailTactics
import Derived.Lib.Hide
import Derived.Test.YtjnbanjjoomecaaGreatDoorPkL1
import Derived.Test.YtjnbanjjoomecaaGreatDoorPkI1
namespace Go.Proofs.YtjnbanjjoomecaaGreatDoor
open Go.RowKit
open List renaming replicate→Vr, take_succ_cons→Vy, drop_succ_cons→Vz, drop_zero→VH, take_zero→VI, length_map→VL, range→VV, mem_singleton→Wj, getElem?_drop→Wl, mem_map→Wx, mem_cons→WN, getElem?_take→WR, take_length→Xd, takeWhile_prefix→XJ, mem_range→XO, length_eq_zero_iff→YO, all_eq_true→Zl
open _root_.Go.Proofs.Tryz renaming prog→Vs
open World renaming cell?_of_block→Vt, block_lt_of_cell?→Vv, setCell→VR, drew→V3, size_alloc→WW, alloc→X_
open Nat renaming le_refl→Vu, le_trans→VC, zero_le→VJ, lt_or_ge→WV, mul_one→Xi, reduceAdd→Xk, add_zero→Xp, reduceMul→Ye
open Act renaming put→VF
open _root_.Go.RowKit.Below renaming setCell→VK, refl→VQ
open Option.some renaming inj→VM
open Region renaming wanted→VN, ready→Wt, binds→WC, noSelect→WO, Mode→Xc, noSelect_spec→X4, free_spec→Yt
open IntWalk renaming i64_in→V6
open Int renaming toNat_natCast→Wv
open Bool renaming and_eq_true→Ww, or_eq_true→Zw
open Oper renaming wp→WZ, still→ZO
open _root_.Array renaming setIfInBounds_comm→XU, getElem?_eq_none→XZ
open Classical renaming byContradiction→ZV
set_option maxRecDepth 100000
set_option maxHeartbeats 64000000
structure FE where
 pp:Nat->Nat
 sa:Nat->Option Addr
 sk:Nat->Nat
 fa:Nat->Option Addr
 fk:Nat->Nat
 ga:Nat->Option Addr
 gk:Nat->Nat
 ov:Nat->Value
 tv:Nat->Value
 nv:Nat->Value
abbrev aj.sv (x:aj) (v:FE) (n:Nat):Value:=.slice (v.sa n) x.sc.data.length (v.sk n)
abbrev aj.fv (x:aj) (v:FE) (n:Nat):Value:=.slice (v.fa n) x.cD.bZ.length (v.fk n)
abbrev aj.gv (x:aj) (v:FE) (n:Nat):Value:=.slice (v.ga n) x.cD.aL.length (v.gk n)
def Lk.put (L:Lk) (n:Nat) (x:aj):Lk:=if n=0 then ⟨x,L.r⟩ else ⟨L.l,x⟩
def kV {α : Type} (f:Nat -> α) (n:Nat) (a : α):Nat -> α:=fun i=>if i=n then a else f i
abbrev gH (x y:aj) (v:FE):Obj:=.cells #[.pointer (some ⟨v.pp 0,0,none⟩),.pointer (some ⟨v.pp 1,0,none⟩),.bool x.sc.inside,x.sv v 0,.int .i64 (x.sc.bad:Int),.bool y.sc.inside,y.sv v 1,.int .i64 (y.sc.bad:Int),
 .int .i64 (x.cD.cB:Int),x.fv v 0,.bool (!x.cD.up),.int .i64 (x.cD.cP:Int),.int .i64 (x.cD.cC:Int),x.gv v 0,.int .i64 (x.cD.lost:Int),
 .int .i64 (y.cD.cB:Int),y.fv v 1,.bool (!y.cD.up),.int .i64 (y.cD.cP:Int),.int .i64 (y.cD.cC:Int),y.gv v 1,.int .i64 (y.cD.lost:Int),
 v.ov 0,v.ov 1,v.tv 0,v.tv 1,v.nv 0,v.nv 1] 74
abbrev fF (n:Nat) (x:aj) (v:FE):List Th:=[gJ (v.pp n) x.prt,dD (x.sv v n) x.sc.data,a_ dO (x.fv v n) x.cD.bZ,ζ iG 165 (x.gv v n) x.cD.aL,b_ (v.ov n) x.aV,b_ (v.tv n) x.cF,ζ dK 3 (v.nv n) x.aE]
abbrev FO (p:Nat) (L:Lk) (v:FE):List Th:=dJ p (gH L.l L.r v)::(fF 0 L.l v++fF 1 L.r v)
def jd (p:Nat) (L:Lk):Th:=Na (FO p L)
section
variable {F Z:BS} {W w:World} {ts:List Th} {p n:Nat} {L:Lk} {x y:aj} {v:FE}
theorem Θ (hn:n < 2):n=0\/n=1:=by omega
theorem dY.rl (h:dY F Z W (jd p L::ts) w) (hn:n < 2):∃v,dY F Z W (dJ p (gH L.l L.r v)::(fF n (L.nd n) v++(fF (1 - n) (L.nd (1 - n)) v++ts))) w:=by
 obtain ⟨v,h1⟩:=dY.opens h;refine ⟨v,?_⟩;obtain rfl|rfl:=Θ hn
 ·exact h1
 ·exact dY.τ (us:=[_,_,_,_,_,_,_,_,_,_,_,_,_,_,_]) (vs:=dJ p (gH L.l L.r v)::(fF 1 L.r v++fF 0 L.l v)) h1 [0,8,9,10,11,12,13,14,1,2,3,4,5,6,7] (by decide) rfl
theorem dY.fQ (hn:n < 2) (h:dY F Z W (dJ p (gH (L.put n x).l (L.put n x).r v)::(fF n x v++(fF (1 - n) (L.nd (1 - n)) v++ts))) w):dY F Z W (jd p (L.put n x)::ts) w:=by
 obtain rfl|rfl:=Θ hn
 ·exact dY.shut (f:=FO p ⟨x,L.r⟩) (i:=v) h
 ·exact dY.shut (f:=FO p ⟨L.l,x⟩) (i:=v) (dY.τ (us:=[_,_,_,_,_,_,_,_,_,_,_,_,_,_,_]) (vs:=dJ p (gH L.l x v)::(fF 0 L.l v++fF 1 x v)) h [0,8,9,10,11,12,13,14,1,2,3,4,5,6,7] (by decide) rfl)
theorem fT (h:w.heap[p]? = some (gH x y v)) (hn:n < 2):w.cell? ⟨p,n,none⟩=some (.pointer (some ⟨v.pp n,0,none⟩))/\w.cell? ⟨p,22+n,none⟩=some (v.ov n)/\w.cell? ⟨p,24+n,none⟩=some (v.tv n)/\w.cell? ⟨p,26+n,none⟩=some (v.nv n):=by
 obtain rfl|rfl:=Θ hn
 ·exact ⟨aJ h rfl,aJ h rfl,aJ h rfl,aJ h rfl⟩
 ·exact ⟨aJ h rfl,aJ h rfl,aJ h rfl,aJ h rfl⟩
end

section
variable {Z:BS} {W w:World} {ts:List Th} {p n N:Nat} {L:Lk}
theorem nU (hn:n < 2):L.put n (L.nd n)=L:=by
 obtain rfl|rfl:=Θ hn <;> rfl
theorem CL (hn:n < 2) (hi:(L.nd n).Inv N) (hN:N<=1000000) (c:Int) (dv:Value) (d:dV) (j:Nat) (hj:ts[j]? = some (dD dv d)) (k:Nat) (hk:(L.nd n).prt.dQ c d=(k,(L.nd n).prt)) (hk0:k=2\/k=5) (h:dY (fun _=>False) Z W (jd p L::ts) w) :
  Calls Vs 10 #[.pointer (some ⟨p,0,none⟩),.int .i64 1,.int .i64 (n:Int),.int .i64 c,dv] w fun e w'=>e=.returned (.int .i64 (k:Int))/\dY (fun _=>False) Z W (jd p L::ts) w':=by
 obtain ⟨v,h0⟩:=h.rl hn;have c0:=(fT (h0.blk 0 rfl) hn).1;have H1:=dY.τ (us:=[_,_]) (vs:=[_,_]) h0 [1,0] (by decide) rfl;have HO:=aQ (Bo H1 hi.ok hN c dv d (j+14) (by simpa using hj));rw [hk] at HO;clear H1 h h0 hk hi;obtain rfl|rfl:=Θ hn
 all_goals
  first|rw [show ((0:Nat):Int)=0 from rfl]|rw [show ((1:Nat):Int)=1 from rfl]
  rcases hk0 with rfl|rfl
  all_goals
   go_enter Tryz.func10,Tryz.ntmps10;go_wp2_with fail;refine HO.out.mono ?_;rintro e w1 ⟨rfl,h1⟩;have HH:=aQ h1;clear HO h1;go_wp2_with fail;go_ret;refine ⟨rfl,?_⟩;have h2:=dY.τ (us:=[_,_]) (vs:=[_,_]) HH.out [1,0] (by decide) rfl
   first|exact dY.fQ (n:=0) (L:=L) (x:=L.l) hn h2|exact dY.fQ (n:=1) (L:=L) (x:=L.r) hn h2
theorem z8 (hn:n < 2) (hi:(L.nd n).Inv N) (hN:N<=1000000) (m:Nat) (dv:Value) (d:dV) (hm:m < (L.nd n).prt.aZ.length) (GN:d.length<=64) (hw:((L.nd n).prt.aX.getD m []).length < 64) (j:Nat) (hj:ts[j]? = some (dD dv d)) (h:dY (fun _=>False) Z W (jd p L::ts) w) :
  Calls Vs 10 #[.pointer (some ⟨p,0,none⟩),.int .i64 1,.int .i64 (n:Int),.int .i64 (m:Int),dv] w fun e w'=>e=.returned (.int .i64 0)/\dY (fun _=>False) Z W (jd p (L.put n ((L.nd n).dQ (m:Int) d).2)::ts) w':=by
 obtain ⟨v,h0⟩:=h.rl hn;have c0:=(fT (h0.blk 0 rfl) hn).1;obtain ⟨x,hx⟩:∃x,x=L.nd n:=⟨_,rfl⟩;have HX:=aQ hx;rw [<-hx] at hi hm hw h0 ⊢;obtain ⟨q,hq⟩:∃q:δ,q={ x.prt with aX:=x.prt.aX.set m (x.prt.aX.getD m []++[d]) }:=⟨_,rfl⟩
 have hP:x.prt.dQ (m:Int) d=(0,q):=by
  unfold δ.dQ;rw [if_neg (fun hh=>hh.elim (fun f=>f ⟨by omega,by omega⟩) fun f=>by omega),Wv,if_neg (by omega),hq]
 have HT:=aQ (show (x.dQ (m:Int) d).2={ x with prt:=q,aV:=x.aV.set m (x.aV.getD m []++[d]),aE:=x.aE.set m (x.aE.getD m 0+1) } by
  unfold aj.dQ;rw [hP,if_pos rfl,Wv])
 have H1:=dY.τ (us:=[_,_]) (vs:=[_,_]) h0 [1,0] (by decide) rfl;have HO:=aQ (Bo H1 hi.ok hN (m:Int) dv d (j+14) (by simpa using hj));rw [hP] at HO
 have hsn:x.aE.getD m 0<=2*N+128:=by
  have e1:=hi.cons.off m hm;have e2:=bM (P:=fun y=>y<=N) hi.ok.Ak (d:=0) (VJ _) m;have e3:=bM (P:=fun l:List dV=>l.length<=N) hi.ok.qy (d:=[]) (VJ _) m;have e4:cnt x.prt.cT m<=x.prt.cT.length:=List.length_filter_le _ _;have e5:x.prt.cT.length=x.prt.snd.cT.length:=by rw [<-hi.ok.cT,VL]
  have e6:=hi.ok.snd.cT;have e7:=hi.ok.snd.w2;omega
 have hsl:=hi.sl;have hol:=hi.ol;have n4:=hi.ok.n4;have Dn:m < x.aV.length:=by omega
 have hms:m < x.aE.length:=by omega
 have hof:=bT (d:=[]) Dn;have hxl:=bM (P:=fun l:List dV=>l.length<=N) hi.ob (d:=[]) (VJ _) m;obtain ⟨xs,hxs⟩:∃xs,xs=x.aV.getD m []:=⟨_,rfl⟩;have uA:=aQ hxs;rw [<-hxs] at hof hxl;have HJ:=aQ hj;clear H1 h h0 hi hP hq hx hxs hj hw;obtain rfl|rfl:=Θ hn
 all_goals
  first|rw [show ((0:Nat):Int)=0 from rfl]|rw [show ((1:Nat):Int)=1 from rfl]
  go_enter Tryz.func10,Tryz.ntmps10;go_wp2_with fail;refine HO.out.mono ?_;rintro e w1 ⟨rfl,h1⟩;have h2:=dY.τ (us:=[_,_]) (vs:=[_,_]) h1 [1,0] (by decide) rfl;clear HO h1 c0;have hcc:=fT (h2.blk 0 rfl) hn;simp only [Xk,Xp] at hcc;obtain ⟨c0,c4,_,c6⟩:=hcc;obtain ⟨_,_,Ki⟩:=h2.get 5 rfl;obtain ⟨b1,o1,k1,e1,m1,nG⟩:=bR (show Sq (df ψ 40) 51 w1 _ _ _ x.aV from Ki) (by omega);have sW:=aQ e1;rw [e1] at c4 h2;go_wp2_with fail
  (obtain ⟨M_,k20,_,_,mK,_⟩:=h2.tu 5 rfl hof (j+15) (by omega) (by simpa using HJ.out);have H2:=aQ h2;clear Ki h2 e1 nG;(first|(refine η 22 (S:=fun w'=>w'.cell? ⟨p,22,none⟩=some (.slice (some ⟨b1,o1,none⟩) x.aV.length k1)/\w'.cell? ⟨b1,o1+m,none⟩=some (.slice M_ xs.length k20)) (by kernel_rfl) ⟨c4,mK⟩ (fun hS0=>?_))|(refine η 22 (S:=fun w'=>w'.cell? ⟨p,23,none⟩=some (.slice (some ⟨b1,o1,none⟩) x.aV.length k1)/\w'.cell? ⟨b1,o1+m,none⟩=some (.slice M_ xs.length k20)) (by kernel_rfl) ⟨c4,mK⟩ (fun hS0=>?_)));refine kX 0 16 hS0 ?_;(iterate 16 (refine aR (v:=?_) (by rfl) ?_ ?_;rotate_left 1;(focus ((intro w' hS';obtain ⟨q1,q2⟩:=hS';go_simp);try with_reducible rfl));simp only [VF,ag,Ψ,ae]));refine aT ?_;refine kX 17 1 hS0 ?_;refine dI ?_;refine aT ?_;have hpl:=Vv _ _ c4;have hbl:=Vv _ _ mK;refine bq 16 (fun K hK=>?_);refine oK rfl rfl fun g w2 hg hgl hb2=>?_;have hb2':Below w1.heap.size w1 w2:=(bS w1 1).trans hb2;refine hK.out _ _ (fun _=>⟨(Vt (hb2'.block p hpl)).trans c4,(Vt (hb2'.block b1 hbl)).trans mK⟩) ?_;clear hK K;simp only [VF,ag,Ψ,ae];refine bq 18 (fun K hK=>?_);obtain ⟨_,_,hby⟩:=H2.out.get (j+15) (T:=dD dv d) (by simpa using HJ.out);refine mo rfl _ _ rfl g rfl hg dv d rfl (fE.below hby hb2').1 (by omega) fun xa xc w3 uN p9=>?_;have hb3:Below w1.heap.size w1 w3:=hb2'.trans (p9.below hb2'.size fun k hk=>by have hk':k=g:=hk;have:w1.drew.heap.size=w1.heap.size:=rfl;omega);have hbz:fE w3 (fun k=>w1.heap.size<=k) (.slice xa d.length xc) d:=Sl.Jz (uN.mono (G:=fun k=>w1.heap.size<=k) (fun k hk=>by have:w1.drew.heap.size=w1.heap.size:=rfl;have:=hb2'.size;show w1.heap.size<=k;rcases hk with hk|hk <;> omega)) (Vu _);have fU:=And.intro ((Vt (hb3.block p hpl)).trans c4) ((Vt (hb3.block b1 hbl)).trans mK);refine hK.out _ _ (fun _=>fU) ?_;clear hK K;simp only [VF,ag,Ψ,ae];have HA:=(H2.out.mM hb3 (T:=dD (.slice xa d.length xc) d) hbz).front;obtain ⟨va,vc,K',us,je,hsl,hKn,hKb,hback⟩:=HA.tu 6 rfl hof 0 (by decide) rfl;have Dm:=fU.2;rw [je] at Dm;obtain ⟨rfl,rfl⟩:va=M_/\vc=k20:=(by simpa using Dm);have JR:=aQ (show ¬K' p from hKn p 1 _ (by decide) rfl fun _ _ h=>.inl h.2);have fP:=aQ hback;have gK:=aQ hsl;have p8:=fun o=>And.intro (aI w3 o fU.1) (aI w3 o fU.2);clear hby uN p9 hbz HA hKn hKb hback hsl Dm hg hgl hb2 hb2' hb3 je mK c4;refine bq 19 (fun K hK=>?_);go_simp;refine hK.out _ _ (fun _=>p8 _) ?_;clear hK K;refine bq 20 (fun K hK=>?_);refine υ qA rfl _ _ rfl K' (.slice va xs.length vc) xs.length us rfl (gK.out.alloc _) _ 1 [.slice xa d.length xc] rfl (iA _ _ _ _ rfl) (by intro u hu;simp at hu;subst hu;rfl) (by unfold maxLen;omega) (by omega) ?_;intro v2 w5 AL DJ;obtain ⟨g2,cz,cap2,rfl,k0,kf,JN⟩:=fP.out _ w5 v2 (aK w3 _) AL DJ;have kp:=(Vt (DJ.block p (Vv _ _ (p8 _).1) JR.out)).trans (p8 _).1;have H5:=aQ JN.tail;clear AL DJ fP gK JN p8 fU JR;refine hK.out _ _ (fun _=>⟨kp,k0⟩) ?_;clear hK K;simp only [VF,ag,Ψ,ae];refine bq 21 (fun K hK=>?_);go_simp;refine hK.out _ _ (fun _=>⟨kp,k0⟩) ?_;clear hK K;refine bq 22 (fun K hK=>?_);go_simp;refine hK.out _ _ (fun e=>absurd rfl e) ?_;clear hK K;refine lG ?_)
  obtain ⟨w6,yG⟩:∃w6,w6=w5.setCell ⟨b1,o1+m,none⟩ (.slice (some ⟨g2,cz,none⟩) (xs.length+1) cap2):=⟨_,rfl⟩;rw [<-yG] at H5 ⊢;clear yG k0 kf kp hS0;have hcc:=fT (H5.out.blk 0 rfl) hn;simp only [Xk,Xp] at hcc;obtain ⟨_,_,_,c7⟩:=hcc;obtain ⟨_,_,DC⟩:=H5.out.get 7 rfl;obtain ⟨b6,o6,k6,e6,m6,_⟩:=bR (show Sq dK 3 w6 _ _ _ x.aE from DC) (by omega);have h6:=H5.out;rw [e6] at h6 c7;obtain ⟨_,_,Rf⟩:=h6.get 7 rfl;have hf6:=(Sq.free (show Sq dK 3 w6 _ _ (.slice (some ⟨b6,o6,none⟩) x.aE.length k6) x.aE from Rf)).2.2.2;have hs:=bT (d:=0) hms;obtain ⟨b7,o7,e7,hc6⟩:=kM (show Sq dK 3 w6 _ _ (.slice (some ⟨b6,o6,none⟩) x.aE.length k6) x.aE from Rf) hs;obtain ⟨rfl,rfl⟩:b6=b7/\o6=o7:=by simpa using e7
  obtain ⟨sn,DD⟩:∃sn,sn=x.aE.getD m 0:=⟨_,rfl⟩;have FI:=aQ DD;rw [<-DD] at hc6 hsn;have HE6:=aQ e6;have H6:=aQ h6;clear h6 DC Rf hs DD e6 e7 hxl H5 H2;go_wp2_with fail;go_ret;refine ⟨rfl,?_⟩;have HF:=H6.out.yM 7 rfl (c:=m) (y:=sn+1) (u:=(sn:Int)+1) hms (by omega);rw [<-sW.out,<-HE6.out] at HF;rw [HT.out,<-uA.out,<-FI.out];obtain rfl:=HX.out
  first|exact dY.fQ (n:=0) (L:=L) hn HF|exact dY.fQ (n:=1) (L:=L) hn HF
theorem CK (hn:n < 2) (hi:(L.nd n).Inv N) (hN:N<=1000000) (m:Nat) (QR:Value) (d:dV) (hm:m < (L.nd n).prt.aZ.length) (l:List dV) (hl:(L.nd n).prt.aY.getD m []=d::l) (h:dY (fun _=>False) Z W (jd p L::ts) w) :
  Calls Vs 10 #[.pointer (some ⟨p,0,none⟩),.int .i64 2,.int .i64 (n:Int),.int .i64 (m:Int),QR] w fun e w'=>e=.returned (.int .i64 0)/\dY (fun _=>False) Z W (jd p (L.put n ((L.nd n).take (m:Int)).2)::ts) w':=by
 obtain ⟨v,h0⟩:=h.rl hn;have c0:=(fT (h0.blk 0 rfl) hn).1;obtain ⟨x,hx⟩:∃x,x=L.nd n:=⟨_,rfl⟩;have HX:=aQ hx;rw [<-hx] at hi hm hl h0 ⊢
 have HT:=aQ (show (x.take (m:Int)).2={ x with prt:=(x.prt.take (m:Int)).2,cF:=x.cF.set m (x.cF.getD m []++[d]) } by
  have:(x.prt.take (m:Int)).1=some d:=by
   unfold δ.take δ.jY;rw [if_pos ⟨by omega,by omega⟩,Wv,hl];rfl
  unfold aj.take
  rcases hq:x.prt.take (m:Int) with ⟨q,r⟩
  rw [hq] at this;dsimp only at this;subst this;rfl)
 have hdl:d.length<=1000:=by
  have:=bM (P:=fun l:List dV=>∀d ∈ l,d.length<=1000) hi.ok.yI (d:=[]) (fun _ h=>by cases h) m;rw [hl] at this;exact this d (List.mem_cons_self ..)
 have H1:=dY.τ (us:=[_,_]) (vs:=[_,_]) h0 [1,0] (by decide) rfl;have HO:=aQ (Ii H1 hi.ok (by omega) m hm d l hl);have htl:=hi.tl;have n4:=hi.ok.n4;have Dn:m < x.cF.length:=by omega
 have hof:=bT (d:=[]) Dn;have hxl:=bM (P:=fun l:List dV=>l.length<=N) hi.tb (d:=[]) (VJ _) m;obtain ⟨xs,hxs⟩:∃xs,xs=x.cF.getD m []:=⟨_,rfl⟩;have uA:=aQ hxs;rw [<-hxs] at hof hxl;clear H1 h h0 hi hx hxs hl;obtain rfl|rfl:=Θ hn
 all_goals
  first|rw [show ((0:Nat):Int)=0 from rfl]|rw [show ((1:Nat):Int)=1 from rfl]
  go_enter Tryz.func10,Tryz.ntmps10;go_wp2_with fail;refine HO.out.mono ?_;rintro e w1 ⟨dv,rfl,h1⟩;have h1':=dY.front (ts:=_::_) h1;have h2:=dY.τ (us:=[_,_,_]) (vs:=[_,_,_]) h1' [0,2,1] (by decide) rfl;clear HO h1 h1' c0;have hcc:=fT (h2.blk 1 rfl) hn;simp only [Xk,Xp] at hcc;obtain ⟨c0,_,c4,_⟩:=hcc;obtain ⟨_,_,Ki⟩:=h2.get 7 rfl;obtain ⟨b1,o1,k1,e1,m1,nG⟩:=bR (show Sq (df ψ 40) 51 w1 _ _ _ x.cF from Ki) (by omega);have sW:=aQ e1;rw [e1] at c4 h2;go_wp2_with fail
  (obtain ⟨M_,k20,_,_,mK,_⟩:=h2.tu 7 rfl hof (0) (by omega) (rfl);have H2:=aQ h2;clear Ki h2 e1 nG;(first|(refine η 22 (S:=fun w'=>w'.cell? ⟨p,24,none⟩=some (.slice (some ⟨b1,o1,none⟩) x.cF.length k1)/\w'.cell? ⟨b1,o1+m,none⟩=some (.slice M_ xs.length k20)) (by kernel_rfl) ⟨c4,mK⟩ (fun hS0=>?_))|(refine η 22 (S:=fun w'=>w'.cell? ⟨p,25,none⟩=some (.slice (some ⟨b1,o1,none⟩) x.cF.length k1)/\w'.cell? ⟨b1,o1+m,none⟩=some (.slice M_ xs.length k20)) (by kernel_rfl) ⟨c4,mK⟩ (fun hS0=>?_)));refine kX 0 16 hS0 ?_;(iterate 16 (refine aR (v:=?_) (by rfl) ?_ ?_;rotate_left 1;(focus ((intro w' hS';obtain ⟨q1,q2⟩:=hS';go_simp);try with_reducible rfl));simp only [VF,ag,Ψ,ae]));refine aT ?_;refine kX 17 1 hS0 ?_;refine dI ?_;refine aT ?_;have hpl:=Vv _ _ c4;have hbl:=Vv _ _ mK;refine bq 16 (fun K hK=>?_);refine oK rfl rfl fun g w2 hg hgl hb2=>?_;have hb2':Below w1.heap.size w1 w2:=(bS w1 1).trans hb2;refine hK.out _ _ (fun _=>⟨(Vt (hb2'.block p hpl)).trans c4,(Vt (hb2'.block b1 hbl)).trans mK⟩) ?_;clear hK K;simp only [VF,ag,Ψ,ae];refine bq 18 (fun K hK=>?_);obtain ⟨_,_,hby⟩:=H2.out.get (0) (T:=dD dv d) (rfl);refine mo rfl _ _ rfl g rfl hg dv d rfl (fE.below hby hb2').1 (by omega) fun xa xc w3 uN p9=>?_;have hb3:Below w1.heap.size w1 w3:=hb2'.trans (p9.below hb2'.size fun k hk=>by have hk':k=g:=hk;have:w1.drew.heap.size=w1.heap.size:=rfl;omega);have hbz:fE w3 (fun k=>w1.heap.size<=k) (.slice xa d.length xc) d:=Sl.Jz (uN.mono (G:=fun k=>w1.heap.size<=k) (fun k hk=>by have:w1.drew.heap.size=w1.heap.size:=rfl;have:=hb2'.size;show w1.heap.size<=k;rcases hk with hk|hk <;> omega)) (Vu _);have fU:=And.intro ((Vt (hb3.block p hpl)).trans c4) ((Vt (hb3.block b1 hbl)).trans mK);refine hK.out _ _ (fun _=>fU) ?_;clear hK K;simp only [VF,ag,Ψ,ae];have HA:=(H2.out.mM hb3 (T:=dD (.slice xa d.length xc) d) hbz).front;obtain ⟨va,vc,K',us,je,hsl,hKn,hKb,hback⟩:=HA.tu 8 rfl hof 0 (by decide) rfl;have Dm:=fU.2;rw [je] at Dm;obtain ⟨rfl,rfl⟩:va=M_/\vc=k20:=(by simpa using Dm);have JR:=aQ (show ¬K' p from hKn p 2 _ (by decide) rfl fun _ _ h=>.inl h.2);have fP:=aQ hback;have gK:=aQ hsl;have p8:=fun o=>And.intro (aI w3 o fU.1) (aI w3 o fU.2);clear hby uN p9 hbz HA hKn hKb hback hsl Dm hg hgl hb2 hb2' hb3 je mK c4;refine bq 19 (fun K hK=>?_);go_simp;refine hK.out _ _ (fun _=>p8 _) ?_;clear hK K;refine bq 20 (fun K hK=>?_);refine υ qA rfl _ _ rfl K' (.slice va xs.length vc) xs.length us rfl (gK.out.alloc _) _ 1 [.slice xa d.length xc] rfl (iA _ _ _ _ rfl) (by intro u hu;simp at hu;subst hu;rfl) (by unfold maxLen;omega) (by omega) ?_;intro v2 w5 AL DJ;obtain ⟨g2,cz,cap2,rfl,k0,kf,JN⟩:=fP.out _ w5 v2 (aK w3 _) AL DJ;have kp:=(Vt (DJ.block p (Vv _ _ (p8 _).1) JR.out)).trans (p8 _).1;have H5:=aQ JN.tail;clear AL DJ fP gK JN p8 fU JR;refine hK.out _ _ (fun _=>⟨kp,k0⟩) ?_;clear hK K;simp only [VF,ag,Ψ,ae];refine bq 21 (fun K hK=>?_);go_simp;refine hK.out _ _ (fun _=>⟨kp,k0⟩) ?_;clear hK K;refine bq 22 (fun K hK=>?_);go_simp;refine hK.out _ _ (fun e=>absurd rfl e) ?_;clear hK K;refine lG ?_)
  go_wp2_with fail;go_ret;refine ⟨rfl,?_⟩;have HF:=H5.out.tail;rw [<-sW.out] at HF;rw [HT.out,<-uA.out];obtain rfl:=HX.out
  first|exact dY.fQ (n:=0) (L:=L) hn HF|exact dY.fQ (n:=1) (L:=L) hn HF
theorem EB (hn:n < 2) (hi:(L.nd n).Inv N) (c:Int) (dv:Value) (hc:(L.nd n).prt.jY c=none) (h:dY (fun _=>False) Z W (jd p L::ts) w) :
  Calls Vs 10 #[.pointer (some ⟨p,0,none⟩),.int .i64 2,.int .i64 (n:Int),.int .i64 c,dv] w fun e w'=>e=.returned (.int .i64 7)/\dY (fun _=>False) Z W (jd p L::ts) w':=by
 obtain ⟨v,h0⟩:=h.rl hn;have c0:=(fT (h0.blk 0 rfl) hn).1;have H1:=dY.τ (us:=[_,_]) (vs:=[_,_]) h0 [1,0] (by decide) rfl;have HO:=aQ (Ij H1 hi.ok c hc);have HH:=aQ h;clear H1 h h0 hi hc;obtain rfl|rfl:=Θ hn
 all_goals
  first|rw [show ((0:Nat):Int)=0 from rfl]|rw [show ((1:Nat):Int)=1 from rfl]
  go_enter Tryz.func10,Tryz.ntmps10;go_wp2_with fail;refine HO.out.mono ?_;rintro e w1 ⟨rfl,rfl⟩;go_wp2_with fail;go_ret;exact ⟨rfl,HH.out⟩
end

section
variable {P:Program} {ops:Array Oper} {Q:Exit->Act->World->Prop} {md:Xc} {S:World->Prop} {last:Nat} {w:World}
theorem pF (hs:WO ops=true) (hQ:∀c a w t v,Q (.panic c) (a.put (some t) v) w->Q (.panic c) a w) :
  ∀(n lo fuel:Nat) (listed:Array Bool) (a:Act) (l:List Oper),(∀j,j < n->ops[lo+j]? = l[j]?)->l.length=n->dZ md ops lo n listed=true->(∀j,j < n->lo+j≠last)->(listed.getD last true=false->S w) ->
   dU P ops (fun _=>True) (fun a'=>wpAnyL P md ops Q S last fuel (marks lo n listed) a' w) l a->wpAnyL P md ops Q S last (fuel+n) listed a w
 |0,_,_,_,_,l,_,hl,_,_,_,h=>by
  obtain rfl:=YO.1 hl;exact h
 |n+1,_,_,_,_,[],_,hl,_,_,_,_=>by simp at hl
 |n+1,lo,fuel,listed,a,o::l,hj,hl,hok,hne,hS,⟨v,hy,h⟩=>by
  simp only [dZ,Ww] at hok;obtain ⟨⟨hf,hr⟩,hok⟩:=hok;have h0:ops[lo]? = some o:=by have:=hj 0 (by omega);simpa using this
  have hlo:lo≠last:=by have:=hne 0 (by omega);simpa using this
  refine lJ (S':=fun _=>True) h0 (X4 hs) (fun c a w=>by cases o.dst with|none=>exact id|some t=>exact hQ c a w t _) hlo (.inl fun _=>trivial) (fuel+n) listed a w (Yt h0 hf) (by simpa using hr) hy hS (.inl fun _=>trivial) ?_;exact pF hs hQ n (lo+1) fuel _ _ l (fun j hjn=>by have:=hj (j+1) (by omega);rw [show lo+1+j=lo+(j+1) by omega,this];rfl) (by simpa using hl) hok (fun j hjn=>by have:=hne (j+1) (by omega);rwa [show lo+(j+1)=lo+1+j by omega] at this) (fun hh=>hS (by rwa [getD_set_ne true hlo] at hh)) h
theorem Γ {l:List Oper} (lo n:Nat) {fuel:Nat} {listed:Array Bool} {a:Act} (hs:(WO l.toArray && dZ md l.toArray lo n listed && decide (lo+n<=l.length) && (decide (last < lo) || decide (lo+n<=last)))=true) (hS:listed.getD last true=false->S w) (hQ:∀c a w t v,Q (.panic c) (a.put (some t) v) w->Q (.panic c) a w)
  (h:dU P l.toArray (fun _=>True) (fun a'=>wpAnyL P md l.toArray Q S last fuel (marks lo n listed) a' w) ((l.drop lo).take n) a):wpAnyL P md l.toArray Q S last (fuel+n) listed a w:=by
 simp only [Ww,Zw,decide_eq_true_eq] at hs;obtain ⟨⟨⟨h1,h2⟩,h3⟩,h4⟩:=hs;refine pF h1 hQ n lo fuel listed a _ (fun j hj=>?_) ?_ h2 (fun j hj=>by omega) hS h
 ·rw [WR,if_pos hj,Wl];simp
 ·simp;omega
end
section
variable {Z:BS} {W w:World} {ts:List Th} {p n N:Nat} {L:Lk} {x y:aj} {v:FE}
theorem dY.rl2 {F:BS} (h:dY F Z W (jd p L::ts) w):∃v,dY F Z W (dJ p (gH L.l L.r v)::(fF 0 L.l v++(fF 1 L.r v++ts))) w:=h.rl (n:=0) (by decide)
theorem dY.vD {F:BS} (h:dY F Z W (dJ p (gH x y v)::(fF 0 x v++(fF 1 y v++ts))) w):dY F Z W (jd p ⟨x,y⟩::ts) w:=dY.shut (f:=FO p ⟨x,y⟩) (i:=v) h
theorem Iy (s c:Int) (dv:Value) (h:dY (fun _=>False) Z W (jd p L::ts) w) :
  Calls Vs 10 #[.pointer (some ⟨p,0,none⟩),.int .i64 4,.int .i64 s,.int .i64 c,dv] w fun e w'=>e=.returned (.int .i64 0)/\dY (fun _=>False) Z W (jd p ⟨{ L.l with cD:=L.l.cD.mend },{ L.r with cD:=L.r.cD.mend }⟩::ts) w':=by
 obtain ⟨v,h0⟩:=h.rl2;have H0:=aQ h0;have hrow:=h0.blk 0 rfl;have cf:=fun i=>aD hrow i
 have c0:w.cell? ⟨p,10,none⟩=some (.bool (!L.l.cD.up)):=aJ hrow rfl;have c1:w.cell? ⟨p,17,none⟩=some (.bool (!L.r.cD.up)):=aJ hrow rfl;clear h h0;go_enter Tryz.func10,Tryz.ntmps10;go_wp2_with fail;refine wp_region_held_drew (S:=fun _=>True) (by kernel_rfl) trivial (fun _=>?_);refine Φ 0 6 trivial ?_
 iterate 6 refine dI ?_
 refine aT ?_;refine Φ 7 2 trivial ?_
 iterate 2 refine dI ?_
 refine aT ?_;refine ah 6 (fun K hK=>?_);go_simp;refine hK.out _ _ trivial ?_;clear hK K;refine Φ 9 2 trivial ?_
 iterate 2 refine dI ?_
 refine aT ?_;refine ah 11 (fun K hK=>?_);go_simp;refine hK.out _ _ trivial ?_;clear hK K;refine fZ ?_;go_wp2_with fail;go_ret;refine ⟨rfl,dY.vD (v:=v) (H0.out.set 0 rfl _ (by exact eZ) (by (refine aS (Ξ hrow) ?_);rfl))⟩
theorem Mf (hF:L.Fit N) (hN:N<=1000000) (s c:Int) (dv:Value) (h:dY (fun _=>False) Z W (jd p L::ts) w) :
  Calls Vs 10 #[.pointer (some ⟨p,0,none⟩),.int .i64 3,.int .i64 s,.int .i64 c,dv] w fun e w'=>e=.returned (.int .i64 0)/\dY (fun _=>False) Z W (jd p ⟨{ L.l with cD:=L.l.cD.cut },{ L.r with cD:=L.r.cD.cut }⟩::ts) w':=by
 obtain ⟨v,h0⟩:=h.rl2;have hr0:=h0.drew.blk 0 rfl;have hpl:=lt_of_block hr0;have HC0:=aQ (fun (w':World)=>vY w' L.l.cD (v.fa 0) L.l.cD.bZ.length (v.fk 0) (v.ga 0) (v.gk 0) hF.l.wM.Ai (by have:=hF.l.lo;omega));have HC1:=aQ (fun (w':World)=>vY w' L.r.cD (v.fa 1) L.r.cD.bZ.length (v.fk 1) (v.ga 1) (v.gk 1) hF.r.wM.Ai (by have:=hF.r.lo;omega));have H0:=aQ h0.drew;clear h h0 hF;go_enter Tryz.func10,Tryz.ntmps10;go_wp2_with fail;refine η 17 (S:=fun w'=>w'.heap[p]? = some (gH L.l L.r v)) (by kernel_rfl) hr0 (fun hS0=>?_);change wpAnyL _ _ _ _ _ _ (16+6) _ _ _;refine Γ 0 6 (by kernel_rfl) (fun h=>hS0) (fun _ _ _ _ _ h=>h) ?_;simp only [VH,Vy,VI]
 iterate 6 refine dI ?_
 refine aT ?_;refine kX 6 1 hS0 ?_
 (refine aR (v:=?_) (by rfl) ?_ ?_;rotate_left 1;(focus ((intro w' hS';have q0:=aJ (i:=8) hS' rfl;have q1:=aJ (i:=9) hS' rfl;have q2:=aJ (i:=10) hS' rfl;have q3:=aJ (i:=11) hS' rfl;have q4:=aJ (i:=12) hS' rfl;have q5:=aJ (i:=13) hS' rfl;have q6:=aJ (i:=14) hS' rfl;go_simp);try with_reducible rfl));simp only [VF,ag,Ψ,ae])
 refine aT ?_;refine Γ 8 4 (by kernel_rfl) (fun h=>hS0) (fun _ _ _ _ _ h=>h) ?_;simp only [Vz,VH,Vy,VI]
 iterate 4 refine dI ?_
 refine aT ?_;refine kX 12 1 hS0 ?_
 (refine aR (v:=?_) (by rfl) ?_ ?_;rotate_left 1;(focus ((intro w' hS';have q0:=aJ (i:=15) hS' rfl;have q1:=aJ (i:=16) hS' rfl;have q2:=aJ (i:=17) hS' rfl;have q3:=aJ (i:=18) hS' rfl;have q4:=aJ (i:=19) hS' rfl;have q5:=aJ (i:=20) hS' rfl;have q6:=aJ (i:=21) hS' rfl;go_simp);try with_reducible rfl));simp only [VF,ag,Ψ,ae])
 refine aT ?_;refine Γ 14 2 (by kernel_rfl) (fun h=>hS0) (fun _ _ _ _ _ h=>h) ?_;simp only [Vz,VH,Vy,VI]
 iterate 2 refine dI ?_
 refine aT ?_;refine Γ 18 2 (by kernel_rfl) (fun h=>hS0) (fun _ _ _ _ _ h=>h) ?_;simp only [Vz,VH,Vy,VI]
 iterate 2 refine dI ?_
 refine aT ?_;refine bq 7 (fun K hK=>?_)
 (refine ν (f:=?_) (args:=?_) (by rfl) ?_ ?_;rotate_left 2;(focus (go_simp;first|(with_reducible rfl)|(refine ⟨?_,?_⟩ <;> with_reducible rfl)));(refine (HC0.out _).mono ?_);rintro e' w'' ⟨rfl,hb1⟩)
 have hS1:=(hb1.block p hpl).trans hS0;refine ⟨_,rfl,?_⟩;simp only [VF,ag,Ψ,ae,kF];refine hK.out _ _ (fun _=>hS1) ?_;clear hK K;have H1:=aQ (H0.out.own hb1);clear H0 HC0 hS0 hb1;have hpl:=lt_of_block hS1;refine bq 13 (fun K hK=>?_)
 (refine ν (f:=?_) (args:=?_) (by rfl) ?_ ?_;rotate_left 2;(focus (go_simp;first|(with_reducible rfl)|(refine ⟨?_,?_⟩ <;> with_reducible rfl)));(refine (HC1.out _).mono ?_);rintro e' w'' ⟨rfl,hb2⟩)
 have hS2:=(hb2.block p hpl).trans hS1;refine ⟨_,rfl,?_⟩;simp only [VF,ag,Ψ,ae,kF];refine hK.out _ _ (fun _=>hS2) ?_;clear hK K;have H2:=aQ (H1.out.own hb2);clear H1 HC1 hS1 hb2;have cf:=fun i=>aD hS2 i
 have q0:=aJ (i:=8) hS2 rfl;have q1:=aJ (i:=9) hS2 rfl;have q2:=aJ (i:=10) hS2 rfl;have q3:=aJ (i:=11) hS2 rfl;have q4:=aJ (i:=12) hS2 rfl;have q5:=aJ (i:=13) hS2 rfl;have q6:=aJ (i:=14) hS2 rfl;have r0:=aJ (i:=15) hS2 rfl;have r1:=aJ (i:=16) hS2 rfl;have r2:=aJ (i:=17) hS2 rfl;have r3:=aJ (i:=18) hS2 rfl;have r4:=aJ (i:=19) hS2 rfl;have r5:=aJ (i:=20) hS2 rfl;have r6:=aJ (i:=21) hS2 rfl
 (refine bq 16 (fun K hK=>?_);go_simp;refine hK.out _ _ (fun _=>hS2) ?_;clear hK K)
 (refine bq 17 (fun K hK=>?_);go_simp;refine hK.out _ _ (fun e=>absurd rfl e) ?_;clear hK K)
 refine Γ 20 1 (by kernel_rfl) (fun h=>absurd h (by decide)) (fun _ _ _ _ _ h=>h) ?_;simp only [Vz,VH,Vy,VI];refine dI ?_;refine aT ?_;refine jJ 21 (by kernel_rfl) rfl (by rfl) (fun K hK=>?_);go_simp;refine hK.out _ _ ?_;clear hK K q0 q1 q2 q3 q4 q5 q6 r0 r1 r2 r3 r4 r5 r6;refine lG ?_;go_wp2_with fail;go_ret
 have key:∀w',dY (fun _=>False) Z W (dJ p (gH { L.l with cD:=L.l.cD.cut } { L.r with cD:=L.r.cD.cut } { v with ga:=fun _=>none,gk:=fun _=>0 })::(fF 0 L.l v++(fF 1 L.r v++ts))) w'->dY (fun _=>False) Z W (jd p ⟨{ L.l with cD:=L.l.cD.cut },{ L.r with cD:=L.r.cD.cut }⟩::ts) w':=fun w' h3=>
  dY.vD (v:={ v with ga:=fun _=>none,gk:=fun _=>0 }) (dY.τ (us:=[_,_,_,_,_,_,_,_,_,_,_,_,_,_,_,_,_]) (vs:=[_,_,_,_,_,_,_,_,_,_,_,_,_,_,_]) (h3.jW (E:=iG) (T := 165)).jW [2,3,4,5,0,7,8,9,10,11,12,1,14,15,16] (by decide) rfl)
 exact ⟨rfl,key _ (H2.out.set 0 rfl _ (by exact eZ) (by (refine aS (Ξ hS2) ?_);simp only [ag,Ψ,ae];rfl))⟩
end

theorem uI {k:BitVec 8} {c n v:Int} {d:dV} (hk:k≠0) (h:0<=c/\c < 4/\0<=n/\n < 1099511627776/\0<=v/\v < 1099511627776/\d.length<=64):Good (⟨k,c,n,v,d⟩:Pt).pk:=
 ⟨hk,h.1,h.2.1,h.2.2.1,h.2.2.2.1,h.2.2.2.2.1,h.2.2.2.2.2.1,h.2.2.2.2.2.2⟩
theorem Em {N:Nat} {a:δ} (ok0:a.Ok N) (hf0:a.Fit) (l:List Pt) (hl:∀y ∈ l,y.pay.length<=1000) (hN:N+200*l.length<=1000000000):∀y ∈ (a.cR l).1,Good y.pk:=by
 obtain ⟨a1,ha⟩:∃a1,a1=l.foldl δ.cU a:=⟨_,rfl⟩;have ok:=ok0.handles l hl;have hf:=δ.Fit.handles l ok0 hl hf0;rw [<-ha] at ok hf;have i2:=ok.i2;have hs:=ok.cS.cR;have hs1:=hs.cM;have hs2:=hs.seen;have hh:Good a1.gU.pk:=uI (by decide) ⟨by omega,by omega,by omega,by omega,by omega,by omega,VJ _⟩;intro y hy;by_cases hu:a1.cS.cR.state=2
 ·rw [δ.oF ha hu] at hy
  have hhead:∀y ∈ a1.gU::a1.lT::(VV a1.base.length).map a1.j5,Good y.pk:=fun y hy=>by
   rcases WN.1 hy with rfl|hy
   ·exact hh
   ·rcases WN.1 hy with rfl|hy
    ·exact uI (by decide) ⟨by omega,by omega,by omega,by omega,by omega,by omega,VJ _⟩
    ·obtain ⟨c,hc,rfl⟩:=Wx.1 hy
     have hc':=XO.1 hc;have h4:=ok.n4;have h5:=ok.sl;have h6:=hf.rG c;have h7:=hf.room c;have hg:(a1.π.getD c ⟨0,0,0⟩).room<=64/\(a1.π.getD c ⟨0,0,0⟩).cI<=(a1.π.getD c ⟨0,0,0⟩).aW/\(a1.π.getD c ⟨0,0,0⟩).aW<=N+200*l.length:=bM (P:=fun g:fV=>g.room<=64/\g.cI<=g.aW/\g.aW<=N+200*l.length) ok.π ⟨by simp,by simp,by simp⟩ c;have h8:(a1.π.getD c ⟨0,0,0⟩).cE=(a1.π.getD c ⟨0,0,0⟩).room+(a1.π.getD c ⟨0,0,0⟩).cI:=rfl;exact uI (by decide) ⟨by omega,by omega,by rw [h8];omega,by rw [h8];omega,by omega,by omega,VJ _⟩
  have QI:=(show δ.Ok (N+200*l.length) { a1 with cS:=a1.cS.cR } from ok.nY).choose;have hi:(δ.choose { a1 with cS:=a1.cS.cR }).inc=a1.inc:=(tZ _).2.1;generalize δ.choose { a1 with cS:=a1.cS.cR }=q at QI hi hy;generalize a1.gU::a1.lT::(VV a1.base.length).map a1.j5=cP at hhead hy
  rcases hq:q.snd.cR with ⟨o,s⟩
  rw [hq] at hy
  cases o with
  |none=>exact hhead y hy
  |some nd=>
   obtain ⟨n,d⟩:=nd
   rcases List.mem_append.1 (show y ∈ cP++[_] from hy) with hy|hy
   ·exact hhead y hy
   ·rw [Wj.1 hy]
    have hn:=(sD QI.snd hq).1
    have hd:d.length<=64:=by
     rcases bg.Ei q.snd with ⟨e1,t,e2⟩|⟨i,hi',e1,e2⟩
     ·rw [hq] at e1;cases e1
     ·rw [hq] at e1
      injection e1 with e1
      have e3:d=q.snd.cT.getD i []:=congrArg Prod.snd e1;rw [e3];exact bM (P:=fun l:dV=>l.length<=64) QI.snd.small (by simp) _
    have hq4:=QI.n4
    have hcl:δ.lC { q with snd:=s } n < q.aZ.length:=by
     have:=QI.n1;exact bM (P:=fun f:Nat × dV=>f.1 < q.aZ.length) QI.yF (by show 0 < q.aZ.length;omega) _
    have i3:=QI.i2;exact uI (by decide) ⟨Int.natCast_nonneg _,show ((δ.lC { q with snd:=s } n:Nat):Int) < ((4:Nat):Int) from Int.ofNat_lt.2 (by omega),by omega,by omega,by omega,by omega,hd⟩
 ·rw [δ.cX ha hu] at hy
  rw [Wj.1 hy];exact hh
theorem aj.Inv.sends {x:aj} {N:Nat} (h:x.Inv N) (hN:N<=900000000):∀y ∈ x.cR.1,Good y.pk:=by
 obtain ⟨s',os,h1,hb,h2,hn,hg⟩:=h.found;have e:x.cR.1=(x.prt.cR (os.map Pk.pt)).1:=by unfold aj.cR;rw [h2]
 rw [e];exact Em h.ok h.fit _ hg (by rw [VL];omega)
def Lk.tk (L:Lk) (n:Nat):Lk:=⟨if 1<=n then L.l.cR.2 else L.l,if 2<=n then L.r.cR.2 else L.r⟩
def Lk.out (L:Lk) (n i:Nat):List Pt:=if i < n then (if i=0 then L.l else L.r).cR.1 else []
def Lk.given (L:Lk) (n k:Nat):Lk:=if n=0 then ⟨L.l.cR.2,L.r.cR.2.send (L.l.cR.1.take k)⟩ else if n=1 then ⟨L.l.cR.2.send (L.r.cR.1.take k),L.r.cR.2.send L.l.cR.1⟩ else L.cR
theorem Lk.ER (L:Lk) (n:Nat) (hn:n < 2):L.given n (L.out 2 n).length=L.given (n+1) 0:=by
 obtain rfl|rfl:n=0\/n=1:=by omega
 ·show (⟨_,L.r.cR.2.send (L.l.cR.1.take L.l.cR.1.length)⟩:Lk)=⟨L.l.cR.2.send (L.r.cR.1.take 0),_⟩
  rw [Xd];rfl
 ·show (⟨L.l.cR.2.send (L.r.cR.1.take L.r.cR.1.length),_⟩:Lk)=_
  rw [Xd];rfl
theorem aj.Hu (x:aj) (ys:List Pt) {k:Nat} {y:Pt} (hk:ys[k]? = some y) (hg:Good y.pk):x.send (ys.take (k+1))={ x.send (ys.take k) with cD:=((x.send (ys.take k)).cD.send (dM y.pk)).2 }:=by
 rw [List.take_add_one,hk];unfold aj.send;rw [List.foldl_append];show aj.gG _ y=_;unfold aj.gG;rw [if_pos (fB.2 hg)]

section
variable {P:Program} {ops:Array Oper} {Q:Exit->Act->World->Prop} {md:Xc} {S:World->Prop} {last:Nat}
def Cl (md:Xc) (ops:Array Oper) (listed:Array Bool):Prop:=∀(k:Nat) o,ops[k]? = some o->listed.getD k false=true->∀e ∈ o.after,WC md e=true->listed.getD e.on false=true
def clB (md:Xc) (ops:Array Oper) (listed:Array Bool):Bool:=(VV ops.size).all fun k => !listed.getD k false || ((ops[k]?).map (·.after.all fun e => !Region.binds md e || listed.getD e.on false)).getD true
theorem MU {listed:Array Bool} (h:clB md ops listed=true):Cl md ops listed:=fun k o ho hl e he hb=>by
 have hk:k < ops.size:=by
  rcases WV k ops.size with h'|h'
  ·exact h'
  ·rw [XZ h'] at ho;cases ho
 have:=Zl.1 h k (XO.2 hk);rw [ho,hl] at this;simp only [Bool.not_true,Bool.false_or,Option.map_some,Option.getD_some] at this;obtain ⟨j,hj,rfl⟩:=Array.getElem_of_mem he;have:=Array.all_eq_true.1 this j hj;rw [hb] at this;simpa using this
theorem Cl.add {listed:Array Bool} {j:Nat} (h:Cl md ops listed) (hj:j ∈ Wt md ops listed):Cl md ops (listed.setIfInBounds j true):=fun k o ho hl e he hb=>by
 refine getD_set_true ?_;by_cases hkj:j=k
 ·subst hkj
  obtain ⟨_,o',ho',hall⟩:=mem_ready.1 hj;rw [ho] at ho';obtain rfl:=VM ho';exact hall e he hb
 ·rw [getD_set_ne false hkj] at hl
  exact h k o ho hl e he hb
def leads (md:Xc) (ops:Array Oper) (i:Nat):Nat->Nat->Bool
 |0,_=>false
 |f+1,k=>match ops[k]? with
  |some o=>o.after.any fun e=>WC md e && (e.on == i || leads md ops i f e.on)
  |none=>false
theorem Cl.led {listed:Array Bool} (h:Cl md ops listed) {i:Nat}:∀(f k:Nat),leads md ops i f k=true->(∀o,ops[k]? = some o->∀e ∈ o.after,WC md e=true->listed.getD e.on false=true)->listed.getD i false=true
 |0,_,hl,_=>by cases hl
 |f+1,k,hl,hk=>by
  unfold leads at hl
  cases ho:ops[k]? with
  |none=>rw [ho] at hl;cases hl
  |some o=>
   rw [ho] at hl;obtain ⟨j,hj,he⟩:=Array.any_eq_true.1 hl;rw [Ww,Zw,beq_iff_eq] at he;have h1:=hk o ho _ (Array.getElem_mem hj) he.1
   rcases he.2 with h2|h2
   ·rw [h2] at h1;exact h1
   ·exact Cl.led h f _ h2 fun o' ho' e' he' hb'=>h _ o' ho' h1 e' he' hb'
theorem wY {i m:Nat} {oi:Oper} {v:Value} (hi:ops[i]? = some oi) (hsel:∀(j:Nat) (o:Oper) cs b,ops[j]? = some o->o.op≠.select cs b)
  (hQ:∀c a w,Q (.panic c) (a.put oi.dst v) w->Q (.panic c) a w) (hil:i≠last) (hla:leads md ops i m last=true) :
  ∀(fuel:Nat) (listed:Array Bool) (a:Act) (w:World),Cl md ops listed ->
   (∀j oj,ops[j]? = some oj->j≠i->listed.getD j true=false->(∀e ∈ oj.after,WC md e=true->e.on≠i)->oi.apart ops oj=true) ->
   i ∈ Wt md ops listed->gF P ops S oi v a->S w->listed.getD last true=false ->
   wpAnyL P md ops Q S last fuel (listed.setIfInBounds i true) (a.put oi.dst v) w->wpAnyL P md ops Q S last (fuel+1) listed a w:=by
 intro fuel
 induction fuel with
 |zero=>
  intro listed a w _ _ hr hy hS hls H;refine ⟨fun h=>(by rw [h] at hr;cases hr),fun j hj=>?_⟩;by_cases hji:j=i
  ·subst hji;exact hy.wpOp hi hS ⟨fun _=>hS,H⟩
  ·have:=ready_mono hj hji
   rw [H.1] at this
   cases this
 |succ fuel ih=>
  intro listed a w hcl hfree hr hy hS hls H;refine ⟨fun h=>(by rw [h] at hr;cases hr),fun j hj=>?_⟩;by_cases hji:j=i
  ·subst hji;exact hy.wpOp hi hS ⟨fun _=>hS,H⟩
  ·have h1:=H.2 j (ready_mono hj hji)
   obtain ⟨hjun,oj,hoj,hall⟩:=mem_ready.1 hj;have h0:=(mem_ready.1 hr).1
   have hno:listed.getD i false≠true:=fun h1=>by
    rcases WV i listed.size with h'|h'
    ·simp [h'] at h0 h1;rw [h0] at h1;cases h1
    ·simp [XZ h'] at h1
   have hnot:∀e ∈ oj.after,WC md e=true->e.on≠i:=fun e he hb heq=>hno (by rw [<-heq];exact hall e he hb)
   have hjl:j≠last:=fun e=>by
    subst e;exact hno (hcl.led m j hla fun o ho e he hb=>by rw [hoj] at ho;obtain rfl:=VM ho;exact hall e he hb)
   have NU:(listed.setIfInBounds j true).getD last true=false:=by rw [getD_set_ne true hjl];exact hls
   have h2:=su hoj (hfree j oj hoj hji hjun hnot) (fun cs b=>hsel i oi cs b hi) (fun cs b=>hsel j oj cs b hoj) hQ hy h1
   have hfree':∀k ok,ops[k]? = some ok->k≠i->(listed.setIfInBounds j true).getD k true=false ->
     (∀e ∈ ok.after,WC md e=true->e.on≠i)->oi.apart ops ok=true:=fun k ok hk hki hun hno=>by
    refine hfree k ok hk hki ?_ hno;by_cases hjk:j=k
    ·subst hjk;exact hjun
    ·rw [getD_set_ne true hjk] at hun;exact hun
   refine wpOp_mono (fun a' w' h3=>?_) h2;have hSj:S w':=h3.2.1 (by rw [XU _ _ (Ne.symm hji),getD_set_ne true hil];exact NU);refine ⟨fun _=>hSj,ih (listed.setIfInBounds j true) a' w' (hcl.add hj) hfree' (ready_mono hr (Ne.symm hji)) h3.1 hSj NU ?_⟩;rw [XU _ _ hji];exact h3.2.2
theorem oz (hs:WO ops=true) {w:World} (hS:S w) (hQ:∀c a w t v,Q (.panic c) (a.put (some t) v) w->Q (.panic c) a w) :
  ∀(n lo fuel:Nat) (listed:Array Bool) (a:Act) (l:List Oper),Cl md ops listed->(∀j,j < n->ops[lo+j]? = l[j]?)->l.length=n->dZ md ops lo n listed=true->listed.getD last true=false->(∀j,j < n->lo+j≠last/\leads md ops (lo+j) ops.size last=true) ->
   dU P ops S (fun a'=>wpAnyL P md ops Q S last fuel (marks lo n listed) a' w) l a->wpAnyL P md ops Q S last (fuel+n) listed a w
 |0,_,_,_,_,l,_,_,hl,_,_,_,h=>by
  obtain rfl:=YO.1 hl;exact h
 |n+1,_,_,_,_,[],_,_,hl,_,_,_,_=>by simp at hl
 |n+1,lo,fuel,listed,a,o::l,hcl,hj,hl,hok,hun,hla,⟨v,hy,h⟩=>by
  simp only [dZ,Ww] at hok;obtain ⟨⟨hf,hr⟩,hok⟩:=hok;have h0:ops[lo]? = some o:=by have:=hj 0 (by omega);simpa using this
  have hrd:lo ∈ Wt md ops listed:=by simpa using hr
  obtain ⟨l1,l2⟩:=hla 0 (by omega);refine wY h0 (X4 hs) (fun c a w=>by cases o.dst with|none=>exact id|some t=>exact hQ c a w t _) l1 l2 (fuel+n) listed a w hcl (Yt h0 hf) hrd hy hS hun ?_;exact oz hs hS hQ n (lo+1) fuel _ _ l (hcl.add hrd) (fun j hjn=>by have:=hj (j+1) (by omega);rw [show lo+1+j=lo+(j+1) by omega,this];rfl) (by simpa using hl) hok (by rw [getD_set_ne true (show lo≠last from l1)];exact hun) (fun j hjn=>by have:=hla (j+1) (by omega);rwa [show lo+(j+1)=lo+1+j by omega] at this) h
theorem wW {l:List Oper} (lo n:Nat) {fuel:Nat} {listed:Array Bool} {a:Act} {w:World} (hs:(WO l.toArray && dZ md l.toArray lo n listed && decide (lo+n<=l.length) && clB md l.toArray listed && !listed.getD last true && (VV n).all fun j=>decide (lo+j≠last) && leads md l.toArray (lo+j) l.toArray.size last)=true) (hS:S w) (hQ:∀c a w t v,Q (.panic c) (a.put (some t) v) w->Q (.panic c) a w)
  (h:dU P l.toArray S (fun a'=>wpAnyL P md l.toArray Q S last fuel (marks lo n listed) a' w) ((l.drop lo).take n) a):wpAnyL P md l.toArray Q S last (fuel+n) listed a w:=by
 simp only [Ww,decide_eq_true_eq] at hs;obtain ⟨⟨⟨⟨⟨h1,h2⟩,h3⟩,h4⟩,h5⟩,h6⟩:=hs;refine oz h1 hS hQ n lo fuel listed a _ (MU h4) (fun j hj=>?_) ?_ h2 (by simpa using h5) (fun j hj=>?_) h
 ·rw [WR,if_pos hj,Wl];simp
 ·simp;omega
 ·have:=Zl.1 h6 j (XO.2 hj)
  rw [Ww,decide_eq_true_eq] at this;exact this
theorem Du {l l':List Oper} (lo n:Nat) {fuel:Nat} {listed:Array Bool} {a:Act} {w:World} (hS:S w) (h:dU P l.toArray S (fun a'=>wpAnyL P md l.toArray Q S last fuel (marks lo n listed) a' w) l' a) (hs:(Region.noSelect l.toArray && dZ md l.toArray lo n listed && decide (lo+n<=l.length) && clB md l.toArray listed && !listed.getD last true && (List.range n).all fun j=>decide (lo+j≠last) && leads md l.toArray (lo+j) l.toArray.size last)=true:=by kernel_rfl) (hQ:∀c a w t v,Q (.panic c) (a.put (some t) v) w->Q (.panic c) a w:=by exact fun _ _ _ _ _ h=>h)
  (hl:(l.drop lo).take n=l':=by (simp only [List.drop_zero,List.drop_succ_cons,List.take_succ_cons,List.take_zero];exact rfl)):wpAnyL P md l.toArray Q S last (fuel+n) listed a w:=wW lo n hs hS hQ (hl ▸ h)
variable {l:List Oper} {fuel:Nat} {listed:Array Bool} {a:Act} {w:World}
def aap (P:Program) (md:Xc) (l:List Oper) (Q:Exit->Act->World->Prop) (S:World->Prop) (last fuel i:Nat) (listed:Array Bool) (a:Act) (w:World):Prop:=
 wpOp P l.toArray Q i (fun a' w'=>((listed.setIfInBounds i true).getD last true=false->S w')/\wpAnyL P md l.toArray Q S last fuel (listed.setIfInBounds i true) a' w') a w
theorem τ (i:Nat) {o:Oper} {rest:List Oper} (ho:l.drop i=o::rest)
  (h:∀K:Act->World->Prop,Shut (∀a w,(i≠last->S w)->wpAnyL P md l.toArray Q S last fuel (listed.setIfInBounds i true) a w->K a w)->if VN o (yielded l.toArray a.tmps)=true then WZ P o a w K Q else K (a.put o.dst undef) w) :
  aap P md l Q S last fuel i listed a w:=by
 have ho':l.toArray[i]? = some o:=by
  have:(l.drop i)[0]? = some o:=by rw [ho];rfl
  rw [Wl] at this;simpa using this
 exact wpOp_step ho' fun K hK=>h K fun a w hS hW=>hK a w ⟨fun h=>hS (qM h).1,hW⟩
end

section
variable {Z:BS} {W w:World} {ts:List Th} {p n N:Nat} {L:Lk} {x y:aj} {v:FE}
theorem dY.rlx {F:BS} (h:dY F Z W (jd p (L.put n x)::ts) w) (hn:n < 2):∃v,dY F Z W (dJ p (gH (L.put n x).l (L.put n x).r v)::(fF n x v++(fF (1 - n) (L.nd (1 - n)) v++ts))) w:=by
 obtain ⟨v,h⟩:=h.rl hn;refine ⟨v,?_⟩;obtain rfl|rfl:=Θ hn <;> exact h
theorem yZ (h:w.heap[p]? = some (gH (L.put n x).l (L.put n x).r v)) (hn:n < 2):w.cell? ⟨p,8+n*7,none⟩=some (.int .i64 (x.cD.cB:Int))/\w.cell? ⟨p,8+n*7+1,none⟩=some (x.fv v n)/\w.cell? ⟨p,8+n*7+2,none⟩=some (.bool (!x.cD.up))/\w.cell? ⟨p,8+n*7+3,none⟩=some (.int .i64 (x.cD.cP:Int))/\w.cell? ⟨p,8+n*7+4,none⟩=some (.int .i64 (x.cD.cC:Int))/\w.cell? ⟨p,8+n*7+5,none⟩=some (x.gv v n)/\w.cell? ⟨p,8+n*7+6,none⟩=some (.int .i64 (x.cD.lost:Int)):=by
 obtain rfl|rfl:=Θ hn <;> exact ⟨aJ h rfl,aJ h rfl,aJ h rfl,aJ h rfl,aJ h rfl,aJ h rfl,aJ h rfl⟩
theorem Kz (h:w.heap[p]? = some (gH (L.put n x).l (L.put n x).r v)) (hn:n < 2):w.cell? ⟨p,2+n*3,none⟩=some (.bool x.sc.inside)/\w.cell? ⟨p,2+n*3+1,none⟩=some (x.sv v n)/\w.cell? ⟨p,2+n*3+2,none⟩=some (.int .i64 (x.sc.bad:Int))/\w.cell? ⟨p,n,none⟩=some (.pointer (some ⟨v.pp n,0,none⟩)):=by
 obtain rfl|rfl:=Θ hn <;> exact ⟨aJ h rfl,aJ h rfl,aJ h rfl,aJ h rfl⟩
theorem RO (hn:n < 2):L.tk n=(L.tk n).put n (L.nd n)/\L.tk (n+1)=(L.tk n).put n (L.nd n).cR.2:=by
 obtain rfl|rfl:=Θ hn <;> exact ⟨rfl,rfl⟩
abbrev kL (b:Nat) (L:Lk) (n:Nat) (va:Nat->Option Addr) (vc:Nat->Nat):List Th:=[dJ b (gB (.slice (va 0) (L.out n 0).length (vc 0)) (.slice (va 1) (L.out n 1).length (vc 1))),a_ d_ (.slice (va 0) (L.out n 0).length (vc 0)) (L.out n 0),a_ d_ (.slice (va 1) (L.out n 1).length (vc 1)) (L.out n 1)]
abbrev Q9 (w:World) (p o:Nat) (c:az) (fv gv:Value):World:=((((((w.setCell ⟨p,o,none⟩ (.int .i64 (c.cB:Int))).setCell ⟨p,o+1,none⟩ fv).setCell ⟨p,o+2,none⟩ (.bool (!c.up))).setCell ⟨p,o+3,none⟩ (.int .i64 (c.cP:Int))).setCell ⟨p,o+4,none⟩ (.int .i64 (c.cC:Int))).setCell ⟨p,o+5,none⟩ gv).setCell ⟨p,o+6,none⟩ (.int .i64 (c.lost:Int))
theorem dY.Lj (hn:n < 2) {c:az} {a2:Option Addr} {c2:Nat} {T:Th} {us:List Th} (hc:c.bZ=x.cD.bZ) (h:dY (fun _=>False) Z W (T::dJ p (gH (L.put n x).l (L.put n x).r v)::gJ (v.pp n) x.prt::dD (x.sv v n) x.sc.data::a_ dO (x.fv v n) x.cD.bZ::ζ iG 165 (.slice a2 c.aL.length c2) c.aL::b_ (v.ov n) x.aV::b_ (v.tv n) x.cF::ζ dK 3 (v.nv n) x.aE::(fF (1 - n) (L.nd (1 - n)) v++us)) w) :
  dY (fun _=>False) Z W (jd p (L.put n { x with cD:=c })::T::us) (Q9 w p (8+n*7) c (x.fv v n) (.slice a2 c.aL.length c2)):=by
 have e:c={ c with bZ:=x.cD.bZ }:=by rw [<-hc]
 rw [show ({ x with cD:=c }:aj)={ x with cD:={ c with bZ:=x.cD.bZ } } from congrArg (fun c=>({ x with cD:=c }:aj)) e];have hrow:=h.blk 1 rfl;clear hc e;obtain rfl|rfl:=Θ hn
 ·have h1:=h.set 1 rfl (gH (L.put 0 { x with cD:={ c with bZ:=x.cD.bZ } }).l (L.put 0 { x with cD:={ c with bZ:=x.cD.bZ } }).r { v with ga:=kV v.ga 0 a2,gk:=kV v.gk 0 c2 }) (w':=Q9 w p (8+0*7) c (x.fv v 0) (.slice a2 c.aL.length c2)) (by exact eZ) (by (refine aS (Ξ hrow) ?_);simp only [Ye,Xk,ag,Ψ,ae];rfl)
  have h2:=dY.τ (us:=[_,_,_,_,_,_,_,_,_,_,_,_,_,_,_,_]) (vs:=[_,_,_,_,_,_,_,_,_,_,_,_,_,_,_,_]) h1 [1,2,3,4,5,6,7,8,9,10,11,12,13,14,15,0] (by decide) rfl;exact dY.fQ hn (v:={ v with ga:=kV v.ga 0 a2,gk:=kV v.gk 0 c2 }) h2
 ·have h1:=h.set 1 rfl (gH (L.put 1 { x with cD:={ c with bZ:=x.cD.bZ } }).l (L.put 1 { x with cD:={ c with bZ:=x.cD.bZ } }).r { v with ga:=kV v.ga 1 a2,gk:=kV v.gk 1 c2 }) (w':=Q9 w p (8+1*7) c (x.fv v 1) (.slice a2 c.aL.length c2)) (by exact eZ) (by (refine aS (Ξ hrow) ?_);simp only [Ye,Xk,ag,Ψ,ae];rfl)
  have h2:=dY.τ (us:=[_,_,_,_,_,_,_,_,_,_,_,_,_,_,_,_]) (vs:=[_,_,_,_,_,_,_,_,_,_,_,_,_,_,_,_]) h1 [1,2,3,4,5,6,7,8,9,10,11,12,13,14,15,0] (by decide) rfl;exact dY.fQ hn (v:={ v with ga:=kV v.ga 1 a2,gk:=kV v.gk 1 c2 }) h2
abbrev Q_ (w:World) (p o:Nat) (s:Sc) (dv:Value):World:=((w.setCell ⟨p,o,none⟩ (.bool s.inside)).setCell ⟨p,o+1,none⟩ dv).setCell ⟨p,o+2,none⟩ (.int .i64 (s.bad:Int))
theorem dY.Vm (hn:n < 2) {s:Sc} {a2:Option Addr} {c2:Nat} {us:List Th} (h:dY (fun _=>False) Z W (dD (.slice a2 s.data.length c2) s.data::dJ p (gH (L.put n x).l (L.put n x).r v)::(fF n x v++(fF (1 - n) (L.nd (1 - n)) v++us))) w) :
  dY (fun _=>False) Z W (jd p (L.put n { x with sc:=s })::us) (Q_ w p (2+n*3) s (.slice a2 s.data.length c2)):=by
 have hrow:=h.blk 1 rfl;obtain rfl|rfl:=Θ hn
 ·have h1:=h.set 1 rfl (gH (L.put 0 { x with sc:=s }).l (L.put 0 { x with sc:=s }).r { v with sa:=kV v.sa 0 a2,sk:=kV v.sk 0 c2 }) (w':=Q_ w p (2+0*3) s (.slice a2 s.data.length c2)) (by exact eZ) (by (refine aS (Ξ hrow) ?_);simp only [Ye,Xk,ag,Ψ,ae];rfl)
  have h2:=dY.τ (us:=[_,_,_,_,_,_,_,_,_]) (vs:=[_,_,_,_,_,_,_,_]) h1 [1,2,0,4,5,6,7,8] (by decide) rfl;exact dY.fQ hn (v:={ v with sa:=kV v.sa 0 a2,sk:=kV v.sk 0 c2 }) h2
 ·have h1:=h.set 1 rfl (gH (L.put 1 { x with sc:=s }).l (L.put 1 { x with sc:=s }).r { v with sa:=kV v.sa 1 a2,sk:=kV v.sk 1 c2 }) (w':=Q_ w p (2+1*3) s (.slice a2 s.data.length c2)) (by exact eZ) (by (refine aS (Ξ hrow) ?_);simp only [Ye,Xk,ag,Ψ,ae];rfl)
  have h2:=dY.τ (us:=[_,_,_,_,_,_,_,_,_]) (vs:=[_,_,_,_,_,_,_,_]) h1 [1,2,0,4,5,6,7,8] (by decide) rfl;exact dY.fQ hn (v:={ v with sa:=kV v.sa 1 a2,sk:=kV v.sk 1 c2 }) h2
theorem dY.two {F:BS} {A B:Th} (h:dY F Z W (ts++[A,B]) w):dY F Z W (A::B::ts) w:=
 dY.front (ts:=B::ts) (dY.front (ts:=ts++[A]) (by rw [List.append_assoc];exact h))
theorem kH.A9 {F:BS} {w':World} {s:Sc} {y:Byte} {e:Ending} (h:dY F Z W ts w) (hr:kH w s y e w'):∃(a:Option Addr) (c:Nat) (r:Pk) (f:Bool) (ra:Option Addr) (rc:Nat),e=.returned (.tuple #[.agg #[.bool (s.push y).1.inside,.slice a (s.push y).1.data.length c,.int .i64 ((s.push y).1.bad:Int)],.agg #[.int .u8 (U r.kind),.int .i64 r.cls,.int .i64 r.number,.int .i64 r.value,.slice ra r.pay.length rc],.bool f])/\(s.push y).2=(if f then some r else none)/\Below w.heap.size w w'/\dY F Z W (dD (.slice a (s.push y).1.data.length c) (s.push y).1.data::dD (.slice ra r.pay.length rc) r.pay::ts) w':=by
 have hb:Below w.heap.size w w':=by obtain ⟨_,_,_,_,_,_,_,_,_,_,_,h6⟩:=hr;exact h6
 obtain ⟨a,c,r,f,ra,rc,h1,h2,_,h4⟩:=hr.held h;exact ⟨a,c,r,f,ra,rc,h1,h2,hb,h4.two⟩
theorem dY.Fv {F:BS} (h:dY F Z W ts w) (i:Nat) {b:Nat} {u0 u1 u2:Value} {T:TypeId} (hi:ts[i]? = some (dJ b (.cells #[u0,u1,u2] T))) (x y z:Value):dY F Z W (ts.set i (dJ b (.cells #[x,y,z] T))) (((w.setCell ⟨b,0,none⟩ x).setCell ⟨b,1,none⟩ y).setCell ⟨b,2,none⟩ z):=
 h.set i hi _ (by exact eZ) (UF (h.blk i hi) _ _ _)
theorem dY.Gt {F:BS} (h:dY F Z W ts w) (i:Nat) {b:Nat} {u0 u1 u2 u3 u4:Value} {T:TypeId} (hi:ts[i]? = some (dJ b (.cells #[u0,u1,u2,u3,u4] T))) (x y z u v:Value):dY F Z W (ts.set i (dJ b (.cells #[x,y,z,u,v] T))) (((((w.setCell ⟨b,0,none⟩ x).setCell ⟨b,1,none⟩ y).setCell ⟨b,2,none⟩ z).setCell ⟨b,3,none⟩ u).setCell ⟨b,4,none⟩ v):=
 h.set i hi _ (by exact eZ) (mJ (h.blk i hi) _ _ _ _ _)
theorem Below.Fv {B b:Nat} {w w':World} (h:Below B w w') (hb:B<=b) (x y z:Value):Below B w (((w'.setCell ⟨b,0,none⟩ x).setCell ⟨b,1,none⟩ y).setCell ⟨b,2,none⟩ z):=VK (VK (VK h hb _) hb _) hb _
theorem Below.Gt {B b:Nat} {w w':World} (h:Below B w w') (hb:B<=b) (x y z u v:Value):Below B w (((((w'.setCell ⟨b,0,none⟩ x).setCell ⟨b,1,none⟩ y).setCell ⟨b,2,none⟩ z).setCell ⟨b,3,none⟩ u).setCell ⟨b,4,none⟩ v):=VK (VK (Below.Fv h hb x y z) hb _) hb _
theorem fo {P:Program} {ops:Array Oper} {Q:Exit->Act->World->Prop} {o:Oper} {a:Act} {K:Act->World->Prop} {E:Prop} {z:Obj} (hg:o.guard=none) (hrun:(execOp a.eval o).run P w=.ok (.value (.pointer (some ⟨w.heap.size,0,none⟩))) (w.alloc z)) {F:BS} (h:dY F Z W ts w) (i:Nat) (hi:ts[i]? = some wQ)
  (hK:∀b w',Below w.heap.size w w'->w.heap.size<=b->dY F Z W (ts.set i (dJ b z)) w'->K (a.put o.dst (.pointer (some ⟨b,0,none⟩))) w'):if VN o (yielded ops a.tmps)=true then WZ P o a w K Q else E:=
 nX (by simp [VN,hg]) hrun (hK _ _ (aK w z) (Vu _) (h.grow i hi fun G Y _ hd=>⟨fun k=>k=w.heap.size,fun _=>False,fun k hk=>.inr (by subst hk;exact Vu _),fun _ f=>f.elim,fun _ _ f=>f,⟨heap_alloc_new w z,rfl⟩,Fr.of_below (Fr.refl _ _) (aK w z)⟩))
theorem dY.Sg (hn:n < 2) {M:Lk} {b0:Nat} {va:Nat->Option Addr} {vc:Nat->Nat} {a2:Option Addr} {c2:Nat} {P:δ} (h:dY (fun _=>False) Z W (a_ d_ (.slice a2 (L.nd n).cR.1.length c2) (L.nd n).cR.1::gJ (v.pp n) P::dJ p (gH (M.put n x).l (M.put n x).r v)::((fF n x v).tail++(fF (1 - n) (M.nd (1 - n)) v++(kL b0 L n va vc++ts)))) w) :
  dY (fun _=>False) Z W (jd p (M.put n { x with prt:=P })::(kL b0 L (n+1) (kV va n a2) (kV vc n c2)++ts)) (w.setCell ⟨b0,n,none⟩ (.slice a2 (L.nd n).cR.1.length c2)):=by
 have hrow:=h.blk 16 rfl;obtain rfl|rfl:=Θ hn
 ·have h1:=h.set 16 rfl (gB (.slice (kV va 0 a2 0) (L.out (0+1) 0).length (kV vc 0 c2 0)) (.slice (kV va 0 a2 1) (L.out (0+1) 1).length (kV vc 0 c2 1))) (w':=w.setCell ⟨b0,0,none⟩ (.slice a2 (L.nd 0).cR.1.length c2)) (by exact eZ) (by (refine aS (Ξ hrow) ?_);rfl)
  have h2:=dY.τ (us:=[_,_,_,_,_,_,_,_,_,_,_,_,_,_,_,_,_,_,_]) (vs:=[_,_,_,_,_,_,_,_,_,_,_,_,_,_,_,_,_,_]) h1 [2,1,3,4,5,6,7,8,9,10,11,12,13,14,15,16,0,18] (by decide) rfl;exact dY.fQ hn (L:=M) (v:=v) h2
 ·have h1:=h.set 16 rfl (gB (.slice (kV va 1 a2 0) (L.out (1+1) 0).length (kV vc 1 c2 0)) (.slice (kV va 1 a2 1) (L.out (1+1) 1).length (kV vc 1 c2 1))) (w':=w.setCell ⟨b0,1,none⟩ (.slice a2 (L.nd 1).cR.1.length c2)) (by exact eZ) (by (refine aS (Ξ hrow) ?_);rfl)
  have h2:=dY.τ (us:=[_,_,_,_,_,_,_,_,_,_,_,_,_,_,_,_,_,_,_]) (vs:=[_,_,_,_,_,_,_,_,_,_,_,_,_,_,_,_,_,_]) h1 [2,1,3,4,5,6,7,8,9,10,11,12,13,14,15,16,17,0] (by decide) rfl;exact dY.fQ hn (L:=M) (v:=v) h2
theorem oO (hn:n < 2) (k:Nat):L.given n k=(L.given n 0).put (1 - n) ((L.nd (1 - n)).cR.2.send ((L.nd n).cR.1.take k))/\L.out 2 n=(L.nd n).cR.1:=by
 obtain rfl|rfl:=Θ hn <;> exact ⟨rfl,rfl⟩
theorem Sd (hn:n < 2) {b0:Nat} {va:Nat->Option Addr} {vc:Nat->Nat} {T0:Th} (h:dY (fun _=>False) Z W (T0::(kL b0 L 2 va vc++ts)) w) {k:Nat} {y:Pt} (hk:(L.out 2 n)[k]? = some y) :
  ∃b off pa pc,va n=some ⟨b,off,none⟩/\w.cell? ⟨b,off+k*5,none⟩=some (.int .u8 (U y.kind))/\w.cell? ⟨b,off+k*5+1,none⟩=some (.int .i64 y.cls)/\w.cell? ⟨b,off+k*5+2,none⟩=some (.int .i64 y.number)/\w.cell? ⟨b,off+k*5+3,none⟩=some (.int .i64 y.value)/\w.cell? ⟨b,off+k*5+4,none⟩=some (.slice pa y.pay.length pc) /\
   dY (fun _=>False) Z W (dD (.slice pa y.pay.length pc) y.pay::T0::(kL b0 L 2 va vc++ts)) w:=by
 obtain ⟨i,hi⟩:∃i,(T0::(kL b0 L 2 va vc++ts))[i]? = some (a_ d_ (.slice (va n) (L.out 2 n).length (vc n)) (L.out 2 n)):=by
  rcases Θ hn with e|e
  ·exact ⟨2,by rw [e];rfl⟩
  ·exact ⟨3,by rw [e];rfl⟩
 obtain ⟨_,_,hs⟩:=h.get i hi;obtain ⟨b,off,pa,pc,e1,_,k0,k1,k2,k3,k4⟩:=tC (show dh d_ w _ (.slice (va n) (L.out 2 n).length (vc n)) (L.out 2 n) from hs) hk;refine ⟨b,off,pa,pc,e1,k0,k1,k2,k3,k4,(h.weak (T:=dD (.slice pa y.pay.length pc) y.pay) i hi fun G Y hon=>?_).front⟩;obtain ⟨b',off',pa',pc',PR,yP,_,_,_,_,JI⟩:=tC (show dh d_ w Y (.slice (va n) (L.out 2 n).length (vc n)) (L.out 2 n) from hon) hk;rw [e1] at PR;obtain ⟨rfl,rfl⟩:b=b'/\off=off':=by simpa using PR
 rw [k4] at JI;obtain ⟨rfl,rfl⟩:pa=pa'/\pc=pc':=by simpa using JI
 exact yP
theorem LV (hF:L.Fit N) (hN:N<=1000000) (h:dY (fun _=>False) Z W (jd p L::ts) w) :
  Calls Vs 11 #[.pointer (some ⟨p,0,none⟩)] w fun e w'=>e=.returned (.tuple #[])/\dY (fun _=>False) Z W (jd p L.cR::ts) w':=by
 have H0:=aQ (dY.τ (us:=[_,_,_,_]) (vs:=[_,_,_,_]) ((((((h.new (gB (.slice none 0 0) (.slice none 0 0))).front).jW (E:=d_) (T := 103)).jW (E:=d_) (T := 103)).QQ 0 rfl qg).QQ 1 rfl qg) [3,2,0,1] (by decide) rfl);have HF:=aQ hF;clear h hF;go_enter Tryz.func11,Tryz.ntmps11;go_wp2_with fail;obtain ⟨b0,hb0⟩:∃b0,b0=w.heap.size:=⟨_,rfl⟩;rw [<-hb0] at H0 ⊢;clear hb0;go_loopw [3] (fun i wr=>∃n:Nat,n<=2/\i=.int .i64 (n:Int)/\∃va vc,Hid (dY (fun _=>False) Z W (jd p (L.tk n)::(kL b0 L n va vc++ts)) wr)) (fun i _=>2 - (intOf i).toNat)
 case atStart=>exact ⟨0,by decide,rfl,fun _=>none,fun _=>0,H0⟩
 case round=>
  clear H0;obtain ⟨n,hn,rfl,va,vc,HK⟩:=hrel;by_cases hlt:n < 2
  ·have iN:=aQ hlt
   have HI:=aQ (HF.out.nd n);obtain ⟨k1,k2⟩:=RO (L:=L) hlt;have K2:=aQ k2;rw [k1] at HK;clear k1 k2;obtain ⟨M,hM⟩:∃M,M=L.tk n:=⟨_,rfl⟩;have HM:=aQ hM;rw [<-hM] at HK K2;obtain ⟨x,hx⟩:∃x,x=L.nd n:=⟨_,rfl⟩;have HX:=aQ hx;rw [<-hx] at HK K2 HI;clear hM hx;obtain ⟨us,Tf⟩:∃us,us=kL b0 L n va vc++ts:=⟨_,rfl⟩;have HUS:=aQ Tf;rw [<-Tf] at HK;clear Tf;obtain ⟨v,h1⟩:=HK.out.rlx hlt;have H1:=aQ h1;obtain ⟨q0,q1,q2,q3,q4,q5,q6⟩:=yZ (h1.blk 0 rfl) hlt;clear h1 HK;go_wp2_with fail;refine (OQ H1.out x.cD HI.out.wM HI.out.due 4 rfl (v.fa n) x.cD.bZ.length (v.fk n) (by have:=HI.out.tk;omega)).mono ?_;rintro e w1 ⟨a2,c2,v2,rfl,h2⟩;obtain ⟨_,_,h3⟩:=h2.front.get 0 rfl;obtain ⟨aa,ac,rfl⟩:=Sq.shape (show Sq ψ 40 w1 _ _ v2 x.cD.cR.1 from h3);have H2:=aQ h2.front;clear h2 h3 q0 q1 q2 q3 q4 q5 q6 H1;go_wp2_with fail;have hbx:=heap_alloc_new w1 (.cells #[.int .i64 (x.cD.cR.2.cB:Int),.slice (v.fa n) x.cD.bZ.length (v.fk n),.bool (!x.cD.cR.2.up),.int .i64 (x.cD.cR.2.cP:Int),.int .i64 (x.cD.cR.2.cC:Int),.slice a2 x.cD.cR.2.aL.length c2,.int .i64 (x.cD.cR.2.lost:Int)] 69);have h3:=H2.out.own (aK w1 (.cells #[.int .i64 (x.cD.cR.2.cB:Int),.slice (v.fa n) x.cD.bZ.length (v.fk n),.bool (!x.cD.cR.2.up),.int .i64 (x.cD.cR.2.cP:Int),.int .i64 (x.cD.cR.2.cC:Int),.slice a2 x.cD.cR.2.aL.length c2,.int .i64 (x.cD.cR.2.lost:Int)] 69));generalize X_ w1 _=w2 at hbx h3 ⊢;generalize w1.heap.size=bx at hbx ⊢;have z0:=aJ (i:=0) hbx rfl;have z1:=aJ (i:=1) hbx rfl;have z2:=aJ (i:=2) hbx rfl;have z3:=aJ (i:=3) hbx rfl;have z4:=aJ (i:=4) hbx rfl;have z5:=aJ (i:=5) hbx rfl;have z6:=aJ (i:=6) hbx rfl;have hrow:=h3.blk 1 rfl;obtain ⟨q0,q1,q2,q3,q4,q5,q6⟩:=yZ hrow hlt;have cf:=fun i=>aD hrow i
   have H4:=aQ (dY.jW (E:=d_) (T := 103) (dY.Lj hlt (c:=x.cD.cR.2) rfl h3).drew);clear h3 hrow hbx H2;refine wp_region_still_tail 6 (by kernel_rfl) (by kernel_rfl) ?_;simp only [Vy,VI,Vz,VH]
   repeat still_step
   try refine wpStill_nil ?_
   obtain ⟨x1,hx1⟩:∃x1:aj,x1={ x with cD:=x.cD.cR.2 }:=⟨_,rfl⟩;have xC:=aQ hx1;rw [<-hx1] at H4;clear hx1;have aaX:x.cD.cR.1.length<=64:=VC (Nat.le_of_eq (VL _)) (VC (XJ _).length_le HI.out.wM.Ai)
   have NK:=aQ (show ∀s ∈ x.cD.cR.1,s.length<=170 from fun s hs=>by
    obtain ⟨y,hy,rfl⟩:=Wx.1 (show s ∈ x.cD.bV.map (·.2) from hs);obtain ⟨o,ho⟩:=HI.out.wS y ((XJ _).sublist.mem hy);exact ho.len)
   have Ul:=aQ (Bd NK.out aaX);have HUI:=aQ (fun k j=>show ((x.upto k j).1.inside=false->(x.upto k j).1.data=[])/\(x.upto k j).1.data.length<=162 from vz _ (fun _=>HI.out.emp) (by rw [HI.out.emp];exact VJ _));have hbd:=HI.out.bd;go_wp2_with fail;go_loopw [6,7] (fun u i wr=>∃k:Nat,k<=x.cD.cR.1.length/\i=.int .i64 (k:Int)/\∃(a:Option Addr) (c:Nat),u=.slice a (x.upto k 0).2.length c/\Hid (dY (fun _=>False) Z W (ζ d_ 103 (.slice a ((x.upto k 0).2.map Pk.pt).length c) ((x.upto k 0).2.map Pk.pt)::jd p (M.put n { x1 with sc:=(x.upto k 0).1 })::ζ ψ 40 (.slice aa x.cD.cR.1.length ac) x.cD.cR.1::us) wr)) (fun _ i _=>x.cD.cR.1.length - (intOf i).toNat)
   case atStart=>exact ⟨0,VJ _,rfl,none,0,rfl,by rw [show ({ x1 with sc:=(x.upto 0 0).1 }:aj)=x1 by rw [xC.out];rfl];exact H4⟩
   case round=>
    clear H4;obtain ⟨k,hk,rfl,a,c,rfl,HK⟩:=hrel;by_cases hkl:k < x.cD.cR.1.length
    ·obtain ⟨_,_,har⟩:=HK.out.get 2 rfl
     have hxk:=bT (d:=[]) hkl;obtain ⟨bb,off,ta,tc,rfl,hcell,hby⟩:=zh (show Sq ψ 40 wr _ _ (.slice aa x.cD.cR.1.length ac) x.cD.cR.1 from har) hxk;have H5:=aQ HK.out;have hhl:(x.cD.cR.1.getD k []).length<=170:=bM (P:=fun l:iw=>l.length<=170) NK.out (by decide) k;have HUF:=aQ (xN x k (x.cD.cR.1.getD k []).length hkl (Vu _));have HUN:=aQ (xM x k);have HXK:=aQ hxk;clear har hby hxk HK hcell;obtain ⟨tr,htr⟩:∃tr,tr=x.cD.cR.1.getD k []:=⟨_,rfl⟩;rw [<-htr] at HUF HUN hhl HXK;clear htr;go_wp2_with fail;go_loopw [6,8] (fun u i wr=>∃j:Nat,j<=tr.length/\i=.int .i64 (j:Int)/\∃(a:Option Addr) (c:Nat),u=.slice a (x.upto k j).2.length c/\Hid (dY (fun _=>False) Z W (ζ d_ 103 (.slice a ((x.upto k j).2.map Pk.pt).length c) ((x.upto k j).2.map Pk.pt)::jd p (M.put n { x1 with sc:=(x.upto k j).1 })::ζ ψ 40 (.slice (some ⟨bb,off,none⟩) x.cD.cR.1.length ac) x.cD.cR.1::us) wr)) (fun _ i _=>tr.length - (intOf i).toNat)
     case atStart=>exact ⟨0,VJ _,rfl,a,c,rfl,H5⟩
     case round=>
      clear H5;obtain ⟨j,hj,rfl,a,c,rfl,HK⟩:=hrel;obtain ⟨_,_,har⟩:=HK.out.get 2 rfl;obtain ⟨b2,o2,JE,vc2,e2,kc,hb2⟩:=zh (show Sq ψ 40 wr _ _ (.slice (some ⟨bb,off,none⟩) x.cD.cR.1.length ac) x.cD.cR.1 from har) HXK.out;obtain ⟨rfl,rfl⟩:bb=b2/\off=o2:=by simpa using e2
      clear har e2;by_cases hlj:j < tr.length
      ·have Jw:=Ul.out k j
       have JQ:=aQ (HUI.out k j);have HST:=aQ (HUN.out j hlj);obtain ⟨_,⟨h0,_⟩|⟨b3,o3,cp,e3,_,_,_,hc⟩⟩:=(show By wr (.slice JE tr.length vc2) tr from hb2.1).cases
       ·rw [h0] at hlj;simp at hlj
       ·obtain ⟨rfl,rfl⟩:JE=some ⟨b3,o3,none⟩/\vc2=cp:=by simpa using e3
        have hcj:=hc j hlj;clear hc e3 hb2;obtain ⟨y,hy⟩:∃y,y=tr.getD j 0:=⟨_,rfl⟩;rw [<-hy] at hcj HST;generalize hsc:x.upto k j=sl at *;obtain ⟨s,l⟩:=sl;have HSC:=aQ hsc;clear hsc hy;dsimp only at Jw JQ HST HK;dsimp only;obtain ⟨v',h6⟩:=(dY.τ (us:=[_,_,_]) (vs:=[_,_,_]) HK.out [1,0,2] (by decide) rfl).rlx iN.out;have H6:=aQ h6;clear h6 HK;go_wp2_with fail;have hrow:=H6.out.blk 0 rfl;obtain ⟨d0,d1,d2,dp⟩:=Kz hrow iN.out
        go_cut [9,10,11] from 40 to 77 (fun u9 u10 u11 wc=>∃(bs bp:Nat) (r:Pk) (f:Bool) (ra:Option Addr) (rc:Nat) (sa:Option Addr) (sk:Nat),u9=.pointer (some ⟨bs,0,none⟩)/\u10=.pointer (some ⟨bp,0,none⟩)/\u11=.bool f/\Hid ((s.push y).2=if f then some r else none)/\Hid (dY (fun _=>False) Z W (dJ bs (QG (s.push y).1.inside sa (s.push y).1.data.length sk (s.push y).1.bad)::dJ bp (.cells #[.int .u8 (U r.kind),.int .i64 r.cls,.int .i64 r.number,.int .i64 r.value,.slice ra r.pay.length rc] 103)::dD (.slice sa (s.push y).1.data.length sk) (s.push y).1.data::dD (.slice ra r.pay.length rc) r.pay::dJ p (gH (M.put n { x1 with sc:=s }).l (M.put n { x1 with sc:=s }).r v')::(fF n { x1 with sc:=s } v'++(fF (1 - n) (M.nd (1 - n)) v'++(ζ d_ 103 (.slice a (l.map Pk.pt).length c) (l.map Pk.pt)::ζ ψ 40 (.slice (some ⟨bb,off,none⟩) x.cD.cR.1.length ac) x.cD.cR.1::us)))) wc))
        case first=>
         have HX:=H6;refine wp_region_held_drew (S:=Below wr.drew.heap.size wr.drew) (by kernel_rfl) (VQ _ _) (fun hS0=>?_);have HX:=aQ HX.out.drew.no.front.no.front.no.front.no.front;clear H6;refine Φ 0 13 hS0 ?_
         iterate 13 (refine aR (v:=?_) (by rfl) ?_ ?_;rotate_left 1;(focus ((intro w' hS';have g0:=cell_later hS' d0;have g1:=cell_later hS' d1;have g2:=cell_later hS' d2;have g3:=cell_later hS' kc;have g4:=cell_later hS' hcj;go_simp);try with_reducible rfl));simp only [VF,ag,Ψ,ae])
         refine aT ?_;clear d0 d1 d2 dp kc hcj hrow;refine Bc 13 18 19 (by kernel_rfl) ?_ ?_ ?_
         ·(refine dw 13 rfl (fun K hK=>?_);obtain ⟨_,_,hdz⟩:=HX.out.get 6 rfl;(refine ν (f:=?_) (args:=?_) (by rfl) ?_ ?_;rotate_left 2;(focus (go_simp;first|(with_reducible rfl)|(refine ⟨?_,?_⟩ <;> with_reducible rfl)));(refine (n_ (s:=s) y JQ.out.1 JQ.out.2 hdz.1 (by omega)).mono ?_);intro e' w4 Ar);obtain ⟨sa,sk,r,f,ra,rc,rfl,hf,hbx,h7⟩:=Ar.A9 HX.out;have HX:=aQ (dY.τ (us:=[_,_,_,_,_,_]) (vs:=[_,_,_,_]) h7 [2,3,0,1] (by decide) rfl);have GJ:=aQ hf;have hS0:=hS0.trans (hbx.mono hS0.size);clear hdz Ar hbx hf h7;refine ⟨_,rfl,?_⟩;refine hK.out _ _ hS0 ?_;clear hK K;simp only [VF,ag,Ψ,ae])
          (refine Φ 14 4 hS0 ?_;(iterate 4 (refine dI ?_));refine aT ?_)
          refine jE 18 19 (by kernel_rfl) ?_ ?_
          ·(refine dw 18 rfl (fun K hK=>?_);refine fo (z:=Ap) rfl rfl HX.out 0 rfl ?_;intro bs wx hbx hle hx;have HX:=aQ hx;have HS:=aQ (VC hS0.size hle);have hS0:=hS0.trans (hbx.mono hS0.size);clear hbx hle hx;refine hK.out _ _ hS0 ?_;clear hK K;simp only [VF,ag,Ψ,ae])
           refine eF 19 (by kernel_rfl) ?_
           (refine dw 19 rfl (fun K hK=>?_);refine fo (z:=C9) rfl rfl HX.out 1 rfl ?_;intro bp wx hbx hle hx;have HX:=aQ hx;have HP:=aQ (VC hS0.size hle);have hS0:=hS0.trans (hbx.mono hS0.size);clear hbx hle hx;refine hK.out _ _ hS0 ?_;clear hK K;simp only [VF,ag,Ψ,ae])
           (refine eF 20 (by kernel_rfl) ?_;refine dw 20 rfl (fun K hK=>?_);have hrw:=HX.out.blk 0 rfl;obtain ⟨g0,g1,g2⟩:=Δ hrw;have cf:=fun i=>aD hrw i;have h8:=HX.out.Fv 0 rfl (.bool (s.push y).1.inside) (.slice sa (s.push y).1.data.length sk) (.int .i64 ((s.push y).1.bad:Int));have hS1:=Below.Fv hS0 HS.out (.bool (s.push y).1.inside) (.slice sa (s.push y).1.data.length sk) (.int .i64 ((s.push y).1.bad:Int));clear hrw HX;go_simp;refine hK.out _ _ hS1 ?_;have HX:=aQ h8;clear hK K g0 g1 g2 cf h8 hS0;refine eF 21 (by kernel_rfl) ?_;refine dw 21 rfl (fun K hK=>?_);have hrw:=HX.out.blk 1 rfl;obtain ⟨g0,g1,g2,g3,g4⟩:=aO hrw;have cf:=fun i=>aD hrw i;have h8:=HX.out.Gt 1 rfl (.int .u8 (U r.kind)) (.int .i64 r.cls) (.int .i64 r.number) (.int .i64 r.value) (.slice ra r.pay.length rc);have hS2:=Below.Gt hS1 HP.out (.int .u8 (U r.kind)) (.int .i64 r.cls) (.int .i64 r.number) (.int .i64 r.value) (.slice ra r.pay.length rc);clear hrw HX;go_simp;refine hK.out _ _ hS2 ?_;have HX:=aQ h8;clear hK K g0 g1 g2 g3 g4 cf h8 hS1;refine Φ 22 1 hS2 ?_;refine dI ?_;refine aT ?_;refine fZ ?_;go_wp2_with fail;go_meet;exact ⟨bs,bp,r,f,ra,rc,sa,sk,rfl,rfl,rfl,GJ,HX⟩)
          ·(refine dw 19 rfl (fun K hK=>?_);refine fo (z:=C9) rfl rfl HX.out 1 rfl ?_;intro bp wx hbx hle hx;have HX:=aQ hx;have HP:=aQ (VC hS0.size hle);have hS0:=hS0.trans (hbx.mono hS0.size);clear hbx hle hx;refine hK.out _ _ hS0 ?_;clear hK K;simp only [VF,ag,Ψ,ae])
           refine eF 18 (by kernel_rfl) ?_
           (refine dw 18 rfl (fun K hK=>?_);refine fo (z:=Ap) rfl rfl HX.out 0 rfl ?_;intro bs wx hbx hle hx;have HX:=aQ hx;have HS:=aQ (VC hS0.size hle);have hS0:=hS0.trans (hbx.mono hS0.size);clear hbx hle hx;refine hK.out _ _ hS0 ?_;clear hK K;simp only [VF,ag,Ψ,ae])
           (refine eF 20 (by kernel_rfl) ?_;refine dw 20 rfl (fun K hK=>?_);have hrw:=HX.out.blk 0 rfl;obtain ⟨g0,g1,g2⟩:=Δ hrw;have cf:=fun i=>aD hrw i;have h8:=HX.out.Fv 0 rfl (.bool (s.push y).1.inside) (.slice sa (s.push y).1.data.length sk) (.int .i64 ((s.push y).1.bad:Int));have hS1:=Below.Fv hS0 HS.out (.bool (s.push y).1.inside) (.slice sa (s.push y).1.data.length sk) (.int .i64 ((s.push y).1.bad:Int));clear hrw HX;go_simp;refine hK.out _ _ hS1 ?_;have HX:=aQ h8;clear hK K g0 g1 g2 cf h8 hS0;refine eF 21 (by kernel_rfl) ?_;refine dw 21 rfl (fun K hK=>?_);have hrw:=HX.out.blk 1 rfl;obtain ⟨g0,g1,g2,g3,g4⟩:=aO hrw;have cf:=fun i=>aD hrw i;have h8:=HX.out.Gt 1 rfl (.int .u8 (U r.kind)) (.int .i64 r.cls) (.int .i64 r.number) (.int .i64 r.value) (.slice ra r.pay.length rc);have hS2:=Below.Gt hS1 HP.out (.int .u8 (U r.kind)) (.int .i64 r.cls) (.int .i64 r.number) (.int .i64 r.value) (.slice ra r.pay.length rc);clear hrw HX;go_simp;refine hK.out _ _ hS2 ?_;have HX:=aQ h8;clear hK K g0 g1 g2 g3 g4 cf h8 hS1;refine Φ 22 1 hS2 ?_;refine dI ?_;refine aT ?_;refine fZ ?_;go_wp2_with fail;go_meet;exact ⟨bs,bp,r,f,ra,rc,sa,sk,rfl,rfl,rfl,GJ,HX⟩)
         ·(refine dw 18 rfl (fun K hK=>?_);refine fo (z:=Ap) rfl rfl HX.out 0 rfl ?_;intro bs wx hbx hle hx;have HX:=aQ hx;have HS:=aQ (VC hS0.size hle);have hS0:=hS0.trans (hbx.mono hS0.size);clear hbx hle hx;refine hK.out _ _ hS0 ?_;clear hK K;simp only [VF,ag,Ψ,ae])
          refine jE 13 19 (by kernel_rfl) ?_ ?_
          ·(refine dw 13 rfl (fun K hK=>?_);obtain ⟨_,_,hdz⟩:=HX.out.get 6 rfl;(refine ν (f:=?_) (args:=?_) (by rfl) ?_ ?_;rotate_left 2;(focus (go_simp;first|(with_reducible rfl)|(refine ⟨?_,?_⟩ <;> with_reducible rfl)));(refine (n_ (s:=s) y JQ.out.1 JQ.out.2 hdz.1 (by omega)).mono ?_);intro e' w4 Ar);obtain ⟨sa,sk,r,f,ra,rc,rfl,hf,hbx,h7⟩:=Ar.A9 HX.out;have HX:=aQ (dY.τ (us:=[_,_,_,_,_,_]) (vs:=[_,_,_,_]) h7 [2,3,0,1] (by decide) rfl);have GJ:=aQ hf;have hS0:=hS0.trans (hbx.mono hS0.size);clear hdz Ar hbx hf h7;refine ⟨_,rfl,?_⟩;refine hK.out _ _ hS0 ?_;clear hK K;simp only [VF,ag,Ψ,ae])
           (refine Φ 14 4 hS0 ?_;(iterate 4 (refine dI ?_));refine aT ?_)
           refine eF 19 (by kernel_rfl) ?_
           (refine dw 19 rfl (fun K hK=>?_);refine fo (z:=C9) rfl rfl HX.out 1 rfl ?_;intro bp wx hbx hle hx;have HX:=aQ hx;have HP:=aQ (VC hS0.size hle);have hS0:=hS0.trans (hbx.mono hS0.size);clear hbx hle hx;refine hK.out _ _ hS0 ?_;clear hK K;simp only [VF,ag,Ψ,ae])
           (refine eF 20 (by kernel_rfl) ?_;refine dw 20 rfl (fun K hK=>?_);have hrw:=HX.out.blk 0 rfl;obtain ⟨g0,g1,g2⟩:=Δ hrw;have cf:=fun i=>aD hrw i;have h8:=HX.out.Fv 0 rfl (.bool (s.push y).1.inside) (.slice sa (s.push y).1.data.length sk) (.int .i64 ((s.push y).1.bad:Int));have hS1:=Below.Fv hS0 HS.out (.bool (s.push y).1.inside) (.slice sa (s.push y).1.data.length sk) (.int .i64 ((s.push y).1.bad:Int));clear hrw HX;go_simp;refine hK.out _ _ hS1 ?_;have HX:=aQ h8;clear hK K g0 g1 g2 cf h8 hS0;refine eF 21 (by kernel_rfl) ?_;refine dw 21 rfl (fun K hK=>?_);have hrw:=HX.out.blk 1 rfl;obtain ⟨g0,g1,g2,g3,g4⟩:=aO hrw;have cf:=fun i=>aD hrw i;have h8:=HX.out.Gt 1 rfl (.int .u8 (U r.kind)) (.int .i64 r.cls) (.int .i64 r.number) (.int .i64 r.value) (.slice ra r.pay.length rc);have hS2:=Below.Gt hS1 HP.out (.int .u8 (U r.kind)) (.int .i64 r.cls) (.int .i64 r.number) (.int .i64 r.value) (.slice ra r.pay.length rc);clear hrw HX;go_simp;refine hK.out _ _ hS2 ?_;have HX:=aQ h8;clear hK K g0 g1 g2 g3 g4 cf h8 hS1;refine Φ 22 1 hS2 ?_;refine dI ?_;refine aT ?_;refine fZ ?_;go_wp2_with fail;go_meet;exact ⟨bs,bp,r,f,ra,rc,sa,sk,rfl,rfl,rfl,GJ,HX⟩)
          ·(refine dw 19 rfl (fun K hK=>?_);refine fo (z:=C9) rfl rfl HX.out 1 rfl ?_;intro bp wx hbx hle hx;have HX:=aQ hx;have HP:=aQ (VC hS0.size hle);have hS0:=hS0.trans (hbx.mono hS0.size);clear hbx hle hx;refine hK.out _ _ hS0 ?_;clear hK K;simp only [VF,ag,Ψ,ae])
           refine eF 13 (by kernel_rfl) ?_
           (refine dw 13 rfl (fun K hK=>?_);obtain ⟨_,_,hdz⟩:=HX.out.get 6 rfl;(refine ν (f:=?_) (args:=?_) (by rfl) ?_ ?_;rotate_left 2;(focus (go_simp;first|(with_reducible rfl)|(refine ⟨?_,?_⟩ <;> with_reducible rfl)));(refine (n_ (s:=s) y JQ.out.1 JQ.out.2 hdz.1 (by omega)).mono ?_);intro e' w4 Ar);obtain ⟨sa,sk,r,f,ra,rc,rfl,hf,hbx,h7⟩:=Ar.A9 HX.out;have HX:=aQ (dY.τ (us:=[_,_,_,_,_,_]) (vs:=[_,_,_,_]) h7 [2,3,0,1] (by decide) rfl);have GJ:=aQ hf;have hS0:=hS0.trans (hbx.mono hS0.size);clear hdz Ar hbx hf h7;refine ⟨_,rfl,?_⟩;refine hK.out _ _ hS0 ?_;clear hK K;simp only [VF,ag,Ψ,ae])
           (refine Φ 14 4 hS0 ?_;(iterate 4 (refine dI ?_));refine aT ?_)
           (refine eF 20 (by kernel_rfl) ?_;refine dw 20 rfl (fun K hK=>?_);have hrw:=HX.out.blk 0 rfl;obtain ⟨g0,g1,g2⟩:=Δ hrw;have cf:=fun i=>aD hrw i;have h8:=HX.out.Fv 0 rfl (.bool (s.push y).1.inside) (.slice sa (s.push y).1.data.length sk) (.int .i64 ((s.push y).1.bad:Int));have hS1:=Below.Fv hS0 HS.out (.bool (s.push y).1.inside) (.slice sa (s.push y).1.data.length sk) (.int .i64 ((s.push y).1.bad:Int));clear hrw HX;go_simp;refine hK.out _ _ hS1 ?_;have HX:=aQ h8;clear hK K g0 g1 g2 cf h8 hS0;refine eF 21 (by kernel_rfl) ?_;refine dw 21 rfl (fun K hK=>?_);have hrw:=HX.out.blk 1 rfl;obtain ⟨g0,g1,g2,g3,g4⟩:=aO hrw;have cf:=fun i=>aD hrw i;have h8:=HX.out.Gt 1 rfl (.int .u8 (U r.kind)) (.int .i64 r.cls) (.int .i64 r.number) (.int .i64 r.value) (.slice ra r.pay.length rc);have hS2:=Below.Gt hS1 HP.out (.int .u8 (U r.kind)) (.int .i64 r.cls) (.int .i64 r.number) (.int .i64 r.value) (.slice ra r.pay.length rc);clear hrw HX;go_simp;refine hK.out _ _ hS2 ?_;have HX:=aQ h8;clear hK K g0 g1 g2 g3 g4 cf h8 hS1;refine Φ 22 1 hS2 ?_;refine dI ?_;refine aT ?_;refine fZ ?_;go_wp2_with fail;go_meet;exact ⟨bs,bp,r,f,ra,rc,sa,sk,rfl,rfl,rfl,GJ,HX⟩)
         ·(refine dw 19 rfl (fun K hK=>?_);refine fo (z:=C9) rfl rfl HX.out 1 rfl ?_;intro bp wx hbx hle hx;have HX:=aQ hx;have HP:=aQ (VC hS0.size hle);have hS0:=hS0.trans (hbx.mono hS0.size);clear hbx hle hx;refine hK.out _ _ hS0 ?_;clear hK K;simp only [VF,ag,Ψ,ae])
          refine jE 13 18 (by kernel_rfl) ?_ ?_
          ·(refine dw 13 rfl (fun K hK=>?_);obtain ⟨_,_,hdz⟩:=HX.out.get 6 rfl;(refine ν (f:=?_) (args:=?_) (by rfl) ?_ ?_;rotate_left 2;(focus (go_simp;first|(with_reducible rfl)|(refine ⟨?_,?_⟩ <;> with_reducible rfl)));(refine (n_ (s:=s) y JQ.out.1 JQ.out.2 hdz.1 (by omega)).mono ?_);intro e' w4 Ar);obtain ⟨sa,sk,r,f,ra,rc,rfl,hf,hbx,h7⟩:=Ar.A9 HX.out;have HX:=aQ (dY.τ (us:=[_,_,_,_,_,_]) (vs:=[_,_,_,_]) h7 [2,3,0,1] (by decide) rfl);have GJ:=aQ hf;have hS0:=hS0.trans (hbx.mono hS0.size);clear hdz Ar hbx hf h7;refine ⟨_,rfl,?_⟩;refine hK.out _ _ hS0 ?_;clear hK K;simp only [VF,ag,Ψ,ae])
           (refine Φ 14 4 hS0 ?_;(iterate 4 (refine dI ?_));refine aT ?_)
           refine eF 18 (by kernel_rfl) ?_
           (refine dw 18 rfl (fun K hK=>?_);refine fo (z:=Ap) rfl rfl HX.out 0 rfl ?_;intro bs wx hbx hle hx;have HX:=aQ hx;have HS:=aQ (VC hS0.size hle);have hS0:=hS0.trans (hbx.mono hS0.size);clear hbx hle hx;refine hK.out _ _ hS0 ?_;clear hK K;simp only [VF,ag,Ψ,ae])
           (refine eF 20 (by kernel_rfl) ?_;refine dw 20 rfl (fun K hK=>?_);have hrw:=HX.out.blk 0 rfl;obtain ⟨g0,g1,g2⟩:=Δ hrw;have cf:=fun i=>aD hrw i;have h8:=HX.out.Fv 0 rfl (.bool (s.push y).1.inside) (.slice sa (s.push y).1.data.length sk) (.int .i64 ((s.push y).1.bad:Int));have hS1:=Below.Fv hS0 HS.out (.bool (s.push y).1.inside) (.slice sa (s.push y).1.data.length sk) (.int .i64 ((s.push y).1.bad:Int));clear hrw HX;go_simp;refine hK.out _ _ hS1 ?_;have HX:=aQ h8;clear hK K g0 g1 g2 cf h8 hS0;refine eF 21 (by kernel_rfl) ?_;refine dw 21 rfl (fun K hK=>?_);have hrw:=HX.out.blk 1 rfl;obtain ⟨g0,g1,g2,g3,g4⟩:=aO hrw;have cf:=fun i=>aD hrw i;have h8:=HX.out.Gt 1 rfl (.int .u8 (U r.kind)) (.int .i64 r.cls) (.int .i64 r.number) (.int .i64 r.value) (.slice ra r.pay.length rc);have hS2:=Below.Gt hS1 HP.out (.int .u8 (U r.kind)) (.int .i64 r.cls) (.int .i64 r.number) (.int .i64 r.value) (.slice ra r.pay.length rc);clear hrw HX;go_simp;refine hK.out _ _ hS2 ?_;have HX:=aQ h8;clear hK K g0 g1 g2 g3 g4 cf h8 hS1;refine Φ 22 1 hS2 ?_;refine dI ?_;refine aT ?_;refine fZ ?_;go_wp2_with fail;go_meet;exact ⟨bs,bp,r,f,ra,rc,sa,sk,rfl,rfl,rfl,GJ,HX⟩)
          ·(refine dw 18 rfl (fun K hK=>?_);refine fo (z:=Ap) rfl rfl HX.out 0 rfl ?_;intro bs wx hbx hle hx;have HX:=aQ hx;have HS:=aQ (VC hS0.size hle);have hS0:=hS0.trans (hbx.mono hS0.size);clear hbx hle hx;refine hK.out _ _ hS0 ?_;clear hK K;simp only [VF,ag,Ψ,ae])
           refine eF 13 (by kernel_rfl) ?_
           (refine dw 13 rfl (fun K hK=>?_);obtain ⟨_,_,hdz⟩:=HX.out.get 6 rfl;(refine ν (f:=?_) (args:=?_) (by rfl) ?_ ?_;rotate_left 2;(focus (go_simp;first|(with_reducible rfl)|(refine ⟨?_,?_⟩ <;> with_reducible rfl)));(refine (n_ (s:=s) y JQ.out.1 JQ.out.2 hdz.1 (by omega)).mono ?_);intro e' w4 Ar);obtain ⟨sa,sk,r,f,ra,rc,rfl,hf,hbx,h7⟩:=Ar.A9 HX.out;have HX:=aQ (dY.τ (us:=[_,_,_,_,_,_]) (vs:=[_,_,_,_]) h7 [2,3,0,1] (by decide) rfl);have GJ:=aQ hf;have hS0:=hS0.trans (hbx.mono hS0.size);clear hdz Ar hbx hf h7;refine ⟨_,rfl,?_⟩;refine hK.out _ _ hS0 ?_;clear hK K;simp only [VF,ag,Ψ,ae])
           (refine Φ 14 4 hS0 ?_;(iterate 4 (refine dI ?_));refine aT ?_)
           (refine eF 20 (by kernel_rfl) ?_;refine dw 20 rfl (fun K hK=>?_);have hrw:=HX.out.blk 0 rfl;obtain ⟨g0,g1,g2⟩:=Δ hrw;have cf:=fun i=>aD hrw i;have h8:=HX.out.Fv 0 rfl (.bool (s.push y).1.inside) (.slice sa (s.push y).1.data.length sk) (.int .i64 ((s.push y).1.bad:Int));have hS1:=Below.Fv hS0 HS.out (.bool (s.push y).1.inside) (.slice sa (s.push y).1.data.length sk) (.int .i64 ((s.push y).1.bad:Int));clear hrw HX;go_simp;refine hK.out _ _ hS1 ?_;have HX:=aQ h8;clear hK K g0 g1 g2 cf h8 hS0;refine eF 21 (by kernel_rfl) ?_;refine dw 21 rfl (fun K hK=>?_);have hrw:=HX.out.blk 1 rfl;obtain ⟨g0,g1,g2,g3,g4⟩:=aO hrw;have cf:=fun i=>aD hrw i;have h8:=HX.out.Gt 1 rfl (.int .u8 (U r.kind)) (.int .i64 r.cls) (.int .i64 r.number) (.int .i64 r.value) (.slice ra r.pay.length rc);have hS2:=Below.Gt hS1 HP.out (.int .u8 (U r.kind)) (.int .i64 r.cls) (.int .i64 r.number) (.int .i64 r.value) (.slice ra r.pay.length rc);clear hrw HX;go_simp;refine hK.out _ _ hS2 ?_;have HX:=aQ h8;clear hK K g0 g1 g2 g3 g4 cf h8 hS1;refine Φ 22 1 hS2 ?_;refine dI ?_;refine aT ?_;refine fZ ?_;go_wp2_with fail;go_meet;exact ⟨bs,bp,r,f,ra,rc,sa,sk,rfl,rfl,rfl,GJ,HX⟩)
        case rest=>
         clear d0 d1 d2 dp kc hcj hrow H6;obtain ⟨bs,bp,r,f,ra,rc,sa,sk,rfl,rfl,rfl,GJ,HX⟩:=hcut;obtain ⟨g0,g1,g2⟩:=Δ (HX.out.blk 0 rfl);have hrw:=HX.out.blk 4 rfl;obtain ⟨d0,d1,d2,_⟩:=Kz hrw iN.out;have cf:=fun i=>aD hrw i
         have h8:=dY.τ (us:=[_,_,_,_,_,_,_,_,_,_,_,_,_,_,_,_,_,_,_]) (vs:=[_,_,_,_,_,_,_,_,_,_,_,_,_,_,_,_,_,_]) HX.out [2,4,5,6,7,8,9,10,11,12,13,14,15,16,17,18,1,3] (by decide) rfl;have H8:=aQ (dY.Vm (us:=dJ bp (.cells #[.int .u8 (U r.kind),.int .i64 r.cls,.int .i64 r.number,.int .i64 r.value,.slice ra r.pay.length rc] 103)::dD (.slice ra r.pay.length rc) r.pay::ζ d_ 103 (.slice a (l.map Pk.pt).length c) (l.map Pk.pt)::ζ ψ 40 (.slice (some ⟨bb,off,none⟩) x.cD.cR.1.length ac) x.cD.cR.1::us) iN.out h8).drew;clear hrw h8 HX;go_wp2_with fail;refine wp_region_still_tail 6 (by kernel_rfl) (by kernel_rfl) ?_;simp only [Vy,VI,Vz,VH]
         repeat still_step
         try refine wpStill_nil ?_
         cases f with
         |false=>
          have xD:=aQ (show x.upto k (j+1)=((s.push y).1,l) by rw [HST.out,GJ.out];simp);go_wp2_with fail;go_roundw
          case rel=>exact ⟨j+1,by omega,by go_num,a,c,by rw [xD.out],by rw [xD.out];exact aQ (dY.τ (us:=[_,_,_,_,_]) (vs:=[_,_,_]) H8.out [3,0,4] (by decide) rfl)⟩
          case measure=>simp [intOf];omega
         |true=>
          have xD:=aQ (show x.upto k (j+1)=((s.push y).1,l++[r]) by rw [HST.out,GJ.out];simp);go_upto_region 16 with (fail)
          generalize hw9:V3 _=w9 at H8 ⊢;clear hw9 cf d0 d1 d2 g0 g1 g2;obtain ⟨d0,d1,d2,d3,d4⟩:=aO (H8.out.blk 1 rfl);go_wp2_with (at_builtin;refine gu (x:=r.pt) rfl _ _ rfl H8.out 3 rfl (fun Y hO=>by obtain ⟨H,_,hh⟩:=hO 2 _ (by decide) rfl;exact hh) (aK w9 _) (by rw [VL];omega) (by rw [VL];rfl) w9.heap.size rfl (heap_alloc_new w9 _) ?_;intro a' c' PL h10;have Nl:=aQ (dY.τ (us:=[_,_,_,_,_]) (vs:=[_,_,_]) h10 [3,0,4] (by decide) rfl);clear h10);go_roundw
          case rel=>exact ⟨j+1,by omega,by go_num,a',c',by rw [xD.out,List.length_append];rfl,by rw [xD.out];have:=Nl.out;exact aQ (by dsimp only;rw [List.map_append];exact this)⟩
          case measure=>simp [intOf];omega
      ·obtain rfl:j=tr.length:=by omega
       rw [HUF.out] at HK ⊢;go_wp2_with fail;go_roundw
       case rel=>exact ⟨k+1,by omega,by go_num,a,c,rfl,HK⟩
       case measure=>simp [intOf];omega
    ·have HU:=aQ (Be x k (by omega))
     rw [HU.out] at HK ⊢;have sV:=aQ (show x.cR=((x1.prt.cR ((x.sc.scan x.cD.cR.1.flatten).2.map Pk.pt)).1,{ x1 with prt:=(x1.prt.cR ((x.sc.scan x.cD.cR.1.flatten).2.map Pk.pt)).2,sc:=(x.sc.scan x.cD.cR.1.flatten).1 }) by rw [xC.out];rfl);obtain ⟨s',os,-,-,hf2,JL,TW⟩:=HI.out.found;rw [hf2] at HK sV ⊢;dsimp only at HK sV;dsimp only;have hpx:x1.prt=x.prt:=by rw [xC.out]
     have hlm:(os.map Pk.pt).length=os.length:=VL _;obtain ⟨l2,hl2⟩:∃l2,l2=os.map Pk.pt:=⟨_,rfl⟩;rw [<-hl2] at HK sV TW hlm;clear hf2 HU Ul NK HUI hl2;obtain ⟨v',h6⟩:=(dY.τ (us:=[_,_,_]) (vs:=[_,_]) (HK.out.QQ 0 rfl qg) [1,0] (by decide) rfl).rlx iN.out;have hrow:=h6.blk 0 rfl;obtain ⟨_,_,_,dp⟩:=Kz hrow iN.out;have h7:=h6.flip;rw [HUS.out] at h7;have H7:=aQ h7;clear h6 h7 hrow HK;go_wp2_with fail;refine (LU (a:=x1.prt) (N:=N) l2 _ (by rw [hpx];exact HI.out.ok) (by rw [hpx];exact HI.out.fit) (by omega) TW H7.out 14 (by rw [<-hlm];rfl)).mono ?_;rintro e w5 ⟨sa,sc,rfl,h8⟩;obtain ⟨o,P,hP⟩:∃o P,x1.prt.cR l2=(o,P):=⟨_,_,rfl⟩;rw [hP] at h8 sV ⊢;dsimp only at h8 sV;dsimp only;obtain rfl:o=(L.nd n).cR.1:=by rw [<-HX.out,sV.out]
     have h9:=dY.τ (us:=[_,_,_,_,_,_,_,_,_,_,_,_,_,_,_,_,_]) (vs:=[_,_,_,_,_,_,_,_,_,_,_,_,_,_,_,_]) (h8.QQ 0 rfl qg) [0,1,2,3,4,5,6,7,8,9,10,11,12,13,14,15] (by decide) rfl;have hb:=h9.blk 16 rfl;have cf:=fun i=>aD hb i
     have hcell:∃u,w5.cell? ⟨b0,n,none⟩=some u:=by
      obtain rfl|rfl:=Θ iN.out
      ·exact ⟨_,aJ hb rfl⟩
      ·exact ⟨_,aJ hb rfl⟩
     obtain ⟨u0,hcell⟩:=hcell;have Nl:=aQ (dY.Sg iN.out h9);clear h8 h9 hb H7 dp hP;go_wp2_with fail;go_roundw
     case rel=>exact ⟨n+1,by omega,by go_num,kV va n sa,kV vc n sc,aQ (by rw [K2.out,sV.out];exact Nl.out)⟩
     case measure=>simp [intOf];omega
  ·have hn2:n=2:=by omega
   rw [hn2] at HK;go_wp2_with fail;have H1:=aQ (show dY (fun _=>False) Z W (jd p (L.given 0 0)::(kL b0 L 2 va vc++ts)) wr from HK.out);clear HK hn2;go_loopw [12] (fun i wr=>∃n:Nat,n<=2/\i=.int .i64 (n:Int)/\Hid (dY (fun _=>False) Z W (jd p (L.given n 0)::(kL b0 L 2 va vc++ts)) wr)) (fun i _=>2 - (intOf i).toNat)
   case atStart=>exact ⟨0,by decide,rfl,H1⟩
   case round=>
    clear H1;obtain ⟨n,hn,rfl,HK⟩:=hrel;by_cases hlt:n < 2
    ·have iN:=aQ hlt
     have HGN:=aQ (L.ER n hlt);have hli:(n:Int) < 2:=by omega
     have HC:=aQ (fun (w':World) (h:w'.heap[b0]? = some (gB (.slice (va 0) (L.out 2 0).length (vc 0)) (.slice (va 1) (L.out 2 1).length (vc 1))))=>show w'.cell? ⟨b0,n,none⟩=some (.slice (va n) (L.out 2 n).length (vc n)) by
      obtain rfl|rfl:=Θ hlt
      ·exact aJ h rfl
      ·exact aJ h rfl)
     go_wp2_with fail;go_loopw [13] (fun i wr=>∃k:Nat,k<=(L.out 2 n).length/\i=.int .i64 (k:Int)/\Hid (dY (fun _=>False) Z W (jd p (L.given n k)::(kL b0 L 2 va vc++ts)) wr)) (fun i _=>(L.out 2 n).length - (intOf i).toNat)
     case atStart=>exact ⟨0,VJ _,rfl,HK⟩
     case round=>
      clear HK;obtain ⟨k,hk,rfl,HK⟩:=hrel;have hc:=HC.out wr (HK.out.blk 1 rfl);have hol:(L.out 2 n).length<=7:=by rw [(oO (L:=L) iN.out 0).2];exact (HF.out.nd n).cR.2
      by_cases hkl:k < (L.out 2 n).length
      ·obtain ⟨y,hy⟩:∃y,(L.out 2 n)[k]? = some y:=⟨_,List.getElem?_eq_getElem hkl⟩
       obtain ⟨b,off,pa,pc,e1,k0,k1,k2,k3,k4,h2⟩:=Sd iN.out HK.out hy;obtain ⟨m,hm⟩:∃m,m=1 - n:=⟨_,rfl⟩;have hm2:m < 2:=by omega
       have hmw:IntKind.i64.wrap (1 - (n:Int))=(m:Int):=by rw [V6 _ (by omega)];omega
       have HM2:=aQ hm2;have Ti:(m:Int) < 2:=by omega
       have hmj:(0:Int)<=(m:Int)/\(m:Int) < 2:=by omega
       obtain ⟨G,hG⟩:∃G,G=L.given n 0:=⟨_,rfl⟩;obtain ⟨z,hz⟩:∃z,z=(L.nd m).cR.2.send ((L.nd n).cR.1.take k):=⟨_,rfl⟩
       have Ug:=aQ (show z.Inv (N+12907) by
        rw [hz];refine ((HF.out.nd m).cR.1.send _).mono ?_;have:=(HF.out.nd n).cR.2;rw [List.length_take];omega)
       rw [(oO (L:=L) iN.out 0).2] at hy;have hgd:=(HF.out.nd n).sends (by omega) y (List.mem_of_getElem? hy);have Nk:=aQ hgd
       have HZ1:=aQ (show L.given n (k+1)=G.put m { z with cD:=(z.cD.send (dM y.pk)).2 } by
        rw [(oO (L:=L) iN.out (k+1)).1,aj.Hu _ _ hy hgd,<-hm,<-hG,<-hz])
       rw [(oO (L:=L) iN.out k).1,<-hm,<-hG,<-hz] at h2;clear hm hG hz hgd hy HK;obtain ⟨v,h3⟩:=h2.flip.rlx hm2;have hrow:=h3.drew.blk 0 rfl;obtain ⟨q0,q1,q2,q3,q4,q5,q6⟩:=yZ hrow hm2;have hcd:wr.drew.cell? ⟨b0,n,none⟩=_:=hc;have H3:=aQ h3.drew;clear h2 h3 hrow;rw [e1] at hc hcd;go_wp2_with fail;refine η 17 (S:=Below wr.drew.heap.size wr.drew) (by kernel_rfl) (VQ _ _) (fun hS0=>?_);change wpAnyL _ _ _ _ _ _ (9+16) _ _ _;refine Γ 0 3 (by kernel_rfl) (fun h=>hS0) (fun _ _ _ _ _ h=>h) ?_;simp only [VH,Vy,VI]
       iterate 3 refine dI ?_
       refine aT ?_;refine Du 3 13 hS0 ?_
       iterate 13 (refine aR (v:=?_) (by rfl) ?_ ?_;rotate_left 1;(focus ((intro w' hS';have g0:=cell_later hS' q0;have g1:=cell_later hS' q1;have g2:=cell_later hS' q2;have g3:=cell_later hS' q3;have g4:=cell_later hS' q4;have g5:=cell_later hS' q5;have g6:=cell_later hS' q6;have g7:=cell_later hS' hcd;have f0:=cell_later hS' k0;have f1:=cell_later hS' k1;have f2:=cell_later hS' k2;have f3:=cell_later hS' k3;have f4:=cell_later hS' k4;go_simp);try with_reducible rfl));simp only [VF,ag,Ψ,ae])
       refine aT ?_;refine Γ 21 2 (by kernel_rfl) (fun h=>hS0) (fun _ _ _ _ _ h=>h) ?_;simp only [Vz,VH,Vy,VI]
       iterate 2 refine dI ?_
       refine aT ?_;obtain ⟨_,_,hdz⟩:=H3.out.get 15 rfl;refine bq 16 (fun K hK=>?_)
       (refine ν (f:=?_) (args:=?_) (by rfl) ?_ ?_;rotate_left 2;(focus (go_simp;first|(with_reducible rfl)|(refine ⟨?_,?_⟩ <;> with_reducible rfl)));(refine (Hg y.pk pa pc _ hdz.1 Nk.out).mono ?_);rintro e' w'' ⟨v1,rfl,hn,hb⟩;refine ⟨_,rfl,?_⟩;simp only [VF,ag,Ψ,ae])
       refine hK.out _ _ (fun _=>hb) ?_;obtain ⟨sa,sk,rfl⟩:=hn.slice;have H4:=aQ (H3.out.mM hb (T:=dD (.slice sa (dM y.pk).length sk) (dM y.pk)) ⟨hn.by,fun _=>hn.own⟩).front;have hps:=Nk.out.pay;have hsl:(dM y.pk).length<=1000:=by rw [Co];omega
       have zf:=Ug.out.fb;have zl:=Ug.out.lo;have zs:=Ug.out.se;have zt:=Ug.out.tk;clear hK K hn hb hdz H3 hS0 q0 q1 q2 q3 q4 q5 q6 k0 k1 k2 k3 k4 hc hcd;have HO:=aQ (OT H4.out z.cD Ug.out.wM 5 rfl 4 rfl (by decide) 0 (T:=dD (.slice sa (dM y.pk).length sk) (dM y.pk)) rfl (by decide) sa (dM y.pk).length sk (dM y.pk) (by omega) (fun H Y h=>h) (by omega) (by omega) (by omega) (by omega));unfold kF at HO;refine bq 17 (fun K hK=>?_)
       (refine ν (f:=?_) (args:=?_) (by rfl) ?_ ?_;rotate_left 2;(focus (go_simp;first|(with_reducible rfl)|(refine ⟨?_,?_⟩ <;> with_reducible rfl)));(refine (HO.out).mono ?_);rintro e' w'' ⟨a3,c3,rfl,h5⟩;refine ⟨_,rfl,?_⟩;simp only [VF,ag,Ψ,ae])
       refine hK.out _ _ (fun e=>absurd rfl e) ?_;have hrow:=h5.blk 1 rfl;obtain ⟨q0,q1,q2,q3,q4,q5,q6⟩:=yZ hrow HM2.out;have cf:=fun i=>aD hrow i
       have H6:=aQ (dY.Lj (us:=dD (.slice pa y.pay.length pc) y.pay::(kL b0 L 2 va vc++ts)) HM2.out (c:=(z.cD.send (dM y.pk)).2) (kT _ _).2.2.1 h5);clear hK K H4 h5 hrow;refine Γ 18 1 (by kernel_rfl) (fun h=>absurd h (by decide)) (fun _ _ _ _ _ h=>h) ?_;simp only [Vz,VH,Vy,VI];refine dI ?_;refine aT ?_;refine Γ 19 2 (by kernel_rfl) (fun h=>absurd h (by decide)) (fun _ _ _ _ _ h=>h) ?_;simp only [Vz,VH,Vy,VI]
       iterate 2 refine dI ?_
       refine aT ?_;refine Γ 23 1 (by kernel_rfl) (fun h=>absurd h (by decide)) (fun _ _ _ _ _ h=>h) ?_;simp only [Vz,VH,Vy,VI];refine dI ?_;refine aT ?_;refine jJ 24 (by kernel_rfl) rfl (by rfl) (fun K hK=>?_);go_simp;refine hK.out _ _ ?_;clear hK K q0 q1 q2 q3 q4 q5 q6 cf;refine lG ?_;go_wp2_with fail;go_roundw
       case rel=>exact ⟨k+1,by omega,by go_num,by rw [HZ1.out];exact aQ (dY.τ (us:=[_,_,_]) (vs:=[_]) H6.out [0] (by decide) rfl)⟩
       case measure=>simp [intOf];omega
      ·obtain rfl:k=(L.out 2 n).length:=by omega
       go_wp2_with fail;go_roundw
       case rel=>exact ⟨n+1,by omega,by go_num,by rw [<-HGN.out];exact HK⟩
       case measure=>simp [intOf];omega
    ·obtain rfl:n=2:=by omega
     go_wp2_with fail;go_end0;exact ⟨rfl,dY.τ (us:=[_,_,_,_]) (vs:=[_]) HK.out [0] (by decide) rfl⟩
end

section
variable {Z:BS} {W w:World} {ts:List Th} {p n N:Nat} {L:Lk}
abbrev PO (c:wP) (aa:Option Addr) (ak:Nat):Obj:=.cells #[.int .i64 (c.inc:Int),.slice aa c.aZ.length ak,.int .i64 (c.w:Int),.int .i64 (c.t:Int),.int .i64 (c.d:Int)] 36
abbrev KA (p0 p1 d0 f0 d1 f1 o0 o1 t0 t1 s0 s1:Value):Obj:=.cells #[p0,p1,.bool false,.slice none 0 0,.int .i64 0,.bool false,.slice none 0 0,.int .i64 0,d0,f0,.bool false,.int .i64 0,.int .i64 0,.slice none 0 0,.int .i64 0,d1,f1,.bool false,.int .i64 0,.int .i64 0,.slice none 0 0,.int .i64 0,o0,o1,t0,t1,s0,s1] 74
abbrev jR:Value:=.slice none 0 0
theorem Br {w:World} {p:Nat} {a b c d e:Value} {T:TypeId} (h:w.heap[p]? = some (.cells #[a,b,c,d,e] T)):w.cell? ⟨p,0,none⟩=some a/\w.cell? ⟨p,1,none⟩=some b/\w.cell? ⟨p,2,none⟩=some c/\w.cell? ⟨p,3,none⟩=some d/\w.cell? ⟨p,4,none⟩=some e:=
 ⟨aJ h rfl,aJ h rfl,aJ h rfl,aJ h rfl,aJ h rfl⟩
section
variable {F:BS} {A B C D E G:Value} {ov tv nv:Nat->Value}
abbrev Gv (A B C D E G:Value) (ov tv nv:Nat->Value):Obj:=KA A B C D E G (ov 0) (ov 1) (tv 0) (tv 1) (nv 0) (nv 1)
theorem qP (h:w.heap[p]? = some (Gv A B C D E G ov tv nv)) (hn:n < 2):w.cell? ⟨p,22+n,none⟩=some (ov n)/\w.cell? ⟨p,24+n,none⟩=some (tv n)/\w.cell? ⟨p,26+n,none⟩=some (nv n)/\w.cell? ⟨p,n,none⟩=some (if n=0 then A else B):=by
 obtain rfl|rfl:=Θ hn <;> exact ⟨aJ h rfl,aJ h rfl,aJ h rfl,aJ h rfl⟩
theorem dY.nlO (hn:n < 2) (h:dY F Z W ts w) (i:Nat) (hi:ts[i]? = some (dJ p (Gv A B C D E G ov tv nv))) (u:Value):dY F Z W (ts.set i (dJ p (Gv A B C D E G (kV ov n u) tv nv))) (w.setCell ⟨p,22+n,none⟩ u):=by
 have hrow:=h.blk i hi;obtain rfl|rfl:=Θ hn <;> exact h.set i hi _ (by exact eZ) (by (refine aS (Ξ hrow) ?_);rfl)
theorem dY.nlT (hn:n < 2) (h:dY F Z W ts w) (i:Nat) (hi:ts[i]? = some (dJ p (Gv A B C D E G ov tv nv))) (u:Value):dY F Z W (ts.set i (dJ p (Gv A B C D E G ov (kV tv n u) nv))) (w.setCell ⟨p,24+n,none⟩ u):=by
 have hrow:=h.blk i hi;obtain rfl|rfl:=Θ hn <;> exact h.set i hi _ (by exact eZ) (by (refine aS (Ξ hrow) ?_);rfl)
theorem dY.nlN (hn:n < 2) (h:dY F Z W ts w) (i:Nat) (hi:ts[i]? = some (dJ p (Gv A B C D E G ov tv nv))) (u:Value):dY F Z W (ts.set i (dJ p (Gv A B C D E G ov tv (kV nv n u)))) (w.setCell ⟨p,26+n,none⟩ u):=by
 have hrow:=h.blk i hi;obtain rfl|rfl:=Θ hn <;> exact h.set i hi _ (by exact eZ) (by (refine aS (Ξ hrow) ?_);rfl)
end
def Te (a b:wP) (n i:Nat):Nat:=if i < n then (if i=0 then a else b).aZ.length else 0
abbrev wP.prt (a:wP):δ:=dG a.inc a.aZ a.w a.t a.d
abbrev A7 (a b:wP) (n qa qb:Nat) (ov tv nv:Nat->Value):List Th:=[gJ qa a.prt,gJ qb b.prt,b_ (ov 0) (Vr (Te a b n 0) []),b_ (ov 1) (Vr (Te a b n 1) []),b_ (tv 0) (Vr (Te a b n 0) []),b_ (tv 1) (Vr (Te a b n 1) []),ζ dK 3 (nv 0) (Vr (Te a b n 0) 0),ζ dK 3 (nv 1) (Vr (Te a b n 1) 0)]
theorem dY.OY {a b:wP} {cB:Nat} {there back:List jV} {ta ya:Option Addr} {tk yk j3 j4 qa qb:Nat} {ov tv nv:Nat->Value} (h3:ts[j3]? = some (a_ dO (.slice ta there.length tk) there)) (h4:ts[j4]? = some (a_ dO (.slice ya back.length yk) back))
  (h:dY (fun _=>False) Z W (dJ p (Gv (.pointer (some ⟨qa,0,none⟩)) (.pointer (some ⟨qb,0,none⟩)) (.int .i64 (cB:Int)) (.slice ya back.length yk) (.int .i64 (cB:Int)) (.slice ta there.length tk) ov tv nv)::(A7 a b 2 qa qb ov tv nv++ts)) w):dY (fun _=>False) Z W (jd p (qG a b cB there back)::ts) w:=by
 have e1:=(h.weak (T:=a_ dO (.slice ya back.length yk) back) (j4+9) (by simpa using h4) fun G Y hon=>hon).front;have e2:=(e1.weak (T:=a_ dO (.slice ta there.length tk) there) (j3+10) (by simpa using h3) fun G Y hon=>hon).front;have e3:=(e2.jW (E:=iG) (T := 165)).jW (E:=iG) (T := 165);have e4:=(e3.add (VQ _ _) (T:=dD (.slice none 0 0) []) (fE.nil _ _)).front;have e5:=(e4.add (VQ _ _) (T:=dD (.slice none 0 0) []) (fE.nil _ _)).front;have e6:=dY.τ (us:=[_,_,_,_,_,_,_,_,_,_,_,_,_,_,_]) (vs:=[_,_,_,_,_,_,_,_,_,_,_,_,_,_,_]) e5 [6,7,0,5,2,9,11,13,8,1,4,3,10,12,14] (by decide) rfl;exact dY.vD (x:=rY a.inc a.aZ a.w a.t a.d cB back) (y:=rY b.inc b.aZ b.w b.t b.d cB there) (v:=⟨fun i=>if i=0 then qa else qb,fun _=>none,fun _=>0,fun i=>if i=0 then ya else ta,fun i=>if i=0 then yk else tk,fun _=>none,fun _=>0,ov,tv,nv⟩) e6
theorem OE {a b:wP} (ha:a.Ok) (hb:b.Ok) (cB:Nat) (there back:List jV) (aa ba ta ya:Option Addr) (ak bk tk yk:Nat) (j1 j2 j3 j4:Nat) (h1:ts[j1]? = some (a_ dK (.slice aa a.aZ.length ak) a.aZ)) (h2:ts[j2]? = some (a_ dK (.slice ba b.aZ.length bk) b.aZ)) (h3:ts[j3]? = some (a_ dO (.slice ta there.length tk) there)) (h4:ts[j4]? = some (a_ dO (.slice ya back.length yk) back)) (h:dY (fun _=>False) Z W ts w) :
  Calls Vs 8 #[J5 a.inc (.slice aa a.aZ.length ak) a.w a.t a.d,J5 b.inc (.slice ba b.aZ.length bk) b.w b.t b.d,.int .i64 (cB:Int),.slice ta there.length tk,.slice ya back.length yk] w fun e w'=>∃p,e=.returned (.pointer (some ⟨p,0,none⟩))/\dY (fun _=>False) Z W (jd p (qG a b cB there back)::ts) w':=by
 have hn:=(((h.new (PO a aa ak)).front.new (PO b ba bk)).front.new (KA (.pointer none) (.pointer none) (.int .i64 0) jR (.int .i64 0) jR jR jR jR jR jR jR)).front;have H0:=aQ hn;have HA:=aQ ha;have HB:=aQ hb;have J1:=aQ h1;have J2:=aQ h2;have J3:=aQ h3;have J4:=aQ h4;clear h hn ha hb h1 h2 h3 h4;go_enter Tryz.func8,Tryz.ntmps8;go_wp2_with fail;rw [WW,WW] at H0;generalize X_ (X_ (X_ w _) _) _=w0 at H0 ⊢;generalize w.heap.size+1+1=p at H0 ⊢;generalize w.heap.size+1=cb at H0 ⊢;generalize w.heap.size=ca at H0 ⊢;have hS:w0.drew.heap[ca]? = some (PO a aa ak)/\w0.drew.heap[cb]? = some (PO b ba bk):=⟨H0.out.blk 2 rfl,H0.out.blk 1 rfl⟩;refine η 5 (S:=fun w'=>w'.heap[ca]? = some (PO a aa ak)/\w'.heap[cb]? = some (PO b ba bk)) (by kernel_rfl) hS (fun _=>?_);change wpAnyL _ _ _ _ _ _ (12+2) _ _ _;refine Γ 0 2 (by kernel_rfl) (fun h=>hS) (fun _ _ _ _ _ h=>h) ?_;simp only [VH,Vy,VI]
 iterate 2 refine dI ?_
 refine aT ?_;refine Du 2 1 hS ?_
 (refine aR (v:=?_) (by rfl) ?_ ?_;rotate_left 1;(focus ((intro w' hS';obtain ⟨g0,g1,g2,g3,g4⟩:=Br hS'.1;go_simp);try with_reducible rfl));simp only [VF,ag,Ψ,ae])
 refine aT ?_;refine Du 4 1 hS ?_
 (refine aR (v:=?_) (by rfl) ?_ ?_;rotate_left 1;(focus ((intro w' hS';obtain ⟨g0,g1,g2,g3,g4⟩:=Br hS'.2;go_simp);try with_reducible rfl));simp only [VF,ag,Ψ,ae])
 refine aT ?_;refine Γ 6 2 (by kernel_rfl) (fun h=>hS) (fun _ _ _ _ _ h=>h) ?_;simp only [Vz,VH,Vy,VI]
 iterate 2 refine dI ?_
 refine aT ?_;refine Γ 10 2 (by kernel_rfl) (fun h=>hS) (fun _ _ _ _ _ h=>h) ?_;simp only [Vz,VH,Vy,VI]
 iterate 2 refine dI ?_
 refine aT ?_;have HO:=aQ (DW (inc:=a.inc) (wi:=a.w) (ti:=a.t) (de:=a.d) HA.out.n1 HA.out.n4 H0.out.drew (j1+3) (by simpa using J1.out));refine bq 3 (fun K hK=>?_)
 (refine ν (f:=?_) (args:=?_) (by rfl) ?_ ?_;rotate_left 2;(focus (go_simp;first|(with_reducible rfl)|(refine ⟨?_,?_⟩ <;> with_reducible rfl)));(refine (HO.out).mono ?_);rintro e' w'' ⟨qa,rfl,h1⟩;refine ⟨_,rfl,?_⟩;simp only [VF,ag,Ψ,ae])
 have hS1:w''.heap[ca]? = some (PO a aa ak)/\w''.heap[cb]? = some (PO b ba bk):=⟨h1.blk 3 rfl,h1.blk 2 rfl⟩;refine hK.out _ _ (fun _=>hS1) ?_;have HP:=aQ (DW (inc:=b.inc) (wi:=b.w) (ti:=b.t) (de:=b.d) HB.out.n1 HB.out.n4 h1 (j2+4) (by simpa using J2.out));clear hK K HO h1 hS H0 hS1;refine bq 5 (fun K hK=>?_)
 (refine ν (f:=?_) (args:=?_) (by rfl) ?_ ?_;rotate_left 2;(focus (go_simp;first|(with_reducible rfl)|(refine ⟨?_,?_⟩ <;> with_reducible rfl)));(refine (HP.out).mono ?_);rintro e' w'' ⟨qb,rfl,h2⟩;refine ⟨_,rfl,?_⟩;simp only [VF,ag,Ψ,ae])
 refine hK.out _ _ (fun e=>absurd rfl e) ?_;have hrow:=h2.blk 2 rfl;have H2:=aQ h2;clear hK K HP h2;have cf:=fun i=>aD hrow i
 have r0:=aJ (i:=0) hrow rfl;have r1:=aJ (i:=1) hrow rfl;refine Γ 8 1 (by kernel_rfl) (fun h=>absurd h (by decide)) (fun _ _ _ _ _ h=>h) ?_;simp only [Vz,VH,Vy,VI];refine dI ?_;refine aT ?_
 (refine jJ 9 (by kernel_rfl) rfl (by rfl) (fun K hK=>?_);go_simp;refine hK.out _ _ ?_;clear hK K)
 refine Γ 12 1 (by kernel_rfl) (fun h=>absurd h (by decide)) (fun _ _ _ _ _ h=>h) ?_;simp only [Vz,VH,Vy,VI];refine dI ?_;refine aT ?_
 (refine jJ 13 (by kernel_rfl) rfl (by rfl) (fun K hK=>?_);go_simp;refine hK.out _ _ ?_;clear hK K)
 refine lG ?_;generalize hwz:VR _ _ _=wz;have H3:=aQ (H2.out.set 2 rfl (KA (.pointer (some ⟨qa,0,none⟩)) (.pointer (some ⟨qb,0,none⟩)) (.int .i64 0) jR (.int .i64 0) jR jR jR jR jR jR jR) (w':=wz) (by rw [<-hwz];exact eZ) (by rw [<-hwz];(refine aS (Ξ hrow) ?_);rfl));clear hwz hrow cf r0 r1 H2;have hrow:=H3.out.blk 2 rfl;have cf:=fun i=>aD hrow i
 have q8:=aJ (i:=8) hrow rfl;have q9:=aJ (i:=9) hrow rfl;have Fy:=aJ (i:=10) hrow rfl;have Fx:=aJ (i:=11) hrow rfl;have q12:=aJ (i:=12) hrow rfl;have q13:=aJ (i:=13) hrow rfl;have q14:=aJ (i:=14) hrow rfl;have q15:=aJ (i:=15) hrow rfl;have q16:=aJ (i:=16) hrow rfl;have TM:=aJ (i:=17) hrow rfl;have q18:=aJ (i:=18) hrow rfl;have q19:=aJ (i:=19) hrow rfl;have q20:=aJ (i:=20) hrow rfl;have q21:=aJ (i:=21) hrow rfl;go_wp2_with fail;generalize hw4:VR _ _ _=w4;have h4:=H3.out.set 2 rfl (Gv (.pointer (some ⟨qa,0,none⟩)) (.pointer (some ⟨qb,0,none⟩)) (.int .i64 (cB:Int)) (.slice ya back.length yk) (.int .i64 (cB:Int)) (.slice ta there.length tk) (fun _=>jR) (fun _=>jR) fun _=>jR) (w':=w4) (by rw [<-hw4];exact eZ) (by rw [<-hw4];(refine aS (Ξ hrow) ?_);simp only [ag,Ψ,ae]);have h5:=(((((h4.jW (E:=dK) (T := 3)).jW (E:=dK) (T := 3)).jW (E:=df ψ 40) (T := 51)).jW (E:=df ψ 40) (T := 51)).jW (E:=df ψ 40) (T := 51)).jW (E:=df ψ 40) (T := 51);have H5:=aQ (show dY (fun _=>False) Z W (dJ p (Gv (.pointer (some ⟨qa,0,none⟩)) (.pointer (some ⟨qb,0,none⟩)) (.int .i64 (cB:Int)) (.slice ya back.length yk) (.int .i64 (cB:Int)) (.slice ta there.length tk) (fun _=>jR) (fun _=>jR) fun _=>jR)::(A7 a b 0 qa qb (fun _=>jR) (fun _=>jR) (fun _=>jR)++ts)) w4 from dY.τ (us:=[_,_,_,_,_,_,_,_,_,_,_]) (vs:=[_,_,_,_,_,_,_,_,_]) h5 [8,7,6,0,1,2,3,4,5] (by decide) rfl);clear h4 h5 hw4 hrow cf H3 q8 q9 Fy Fx q12 q13 q14 q15 q16 TM q18 q19 q20 q21;go_loopw [12] (fun i wr=>∃n:Nat,n<=2/\i=.int .i64 (n:Int)/\∃ov tv nv,Hid (dY (fun _=>False) Z W (dJ p (Gv (.pointer (some ⟨qa,0,none⟩)) (.pointer (some ⟨qb,0,none⟩)) (.int .i64 (cB:Int)) (.slice ya back.length yk) (.int .i64 (cB:Int)) (.slice ta there.length tk) ov tv nv)::(A7 a b n qa qb ov tv nv++ts)) wr)) (fun i _=>2 - (intOf i).toNat)
 case atStart=>exact ⟨0,by decide,rfl,_,_,_,H5⟩
 case round=>
  clear H5;obtain ⟨n,hn,rfl,ov,tv,nv,HK⟩:=hrel;by_cases hlt:n < 2
  ·have iN:=aQ hlt
   have hli:(n:Int) < 2:=by omega
   obtain ⟨q,ra,rc,len,hq,c1,hle,hrl⟩:∃q ra rc len,(if n=0 then Value.pointer (some ⟨qa,0,none⟩) else .pointer (some ⟨qb,0,none⟩))=.pointer (some ⟨q,0,none⟩)/\wr.cell? ⟨q,1,none⟩=some (.slice ra len rc)/\len<=4/\len=(if n=0 then a else b).aZ.length:=by
    rcases Θ hlt with e|e
    ·obtain ⟨ra,rc,c1⟩:=mX (dY.τ (us:=[_,_]) (vs:=[_]) HK.out [1] (by decide) rfl)
     exact ⟨qa,ra,rc,_,by rw [e];rfl,c1,HA.out.n4,by rw [e];rfl⟩
    ·obtain ⟨ra,rc,c1⟩:=mX (dY.τ (us:=[_,_,_]) (vs:=[_]) HK.out [2] (by decide) rfl)
     exact ⟨qb,ra,rc,_,by rw [e];rfl,c1,HB.out.n4,by rw [e];rfl⟩
   have c0:=(qP (HK.out.blk 0 rfl) hlt).2.2.2;rw [hq] at c0;have Uq:=aQ hrl;clear hq hrl;go_wp2_with fail
   have KEY:=aQ (show ∀(b7 b9 b11:Nat) (wc:World),dY (fun _=>False) Z W (b_ (.slice (some ⟨b7,0,none⟩) len len) (Vr len [])::b_ (.slice (some ⟨b9,0,none⟩) len len) (Vr len [])::ζ dK 3 (.slice (some ⟨b11,0,none⟩) len len) (Vr len 0)::dJ p (Gv (.pointer (some ⟨qa,0,none⟩)) (.pointer (some ⟨qb,0,none⟩)) (.int .i64 (cB:Int)) (.slice ya back.length yk) (.int .i64 (cB:Int)) (.slice ta there.length tk) (kV ov n (.slice (some ⟨b7,0,none⟩) len len)) (kV tv n (.slice (some ⟨b9,0,none⟩) len len)) (kV nv n (.slice (some ⟨b11,0,none⟩) len len)))::(A7 a b n qa qb ov tv nv++ts)) wc->dY (fun _=>False) Z W (dJ p (Gv (.pointer (some ⟨qa,0,none⟩)) (.pointer (some ⟨qb,0,none⟩)) (.int .i64 (cB:Int)) (.slice ya back.length yk) (.int .i64 (cB:Int)) (.slice ta there.length tk) (kV ov n (.slice (some ⟨b7,0,none⟩) len len)) (kV tv n (.slice (some ⟨b9,0,none⟩) len len)) (kV nv n (.slice (some ⟨b11,0,none⟩) len len)))::(A7 a b (n+1) qa qb (kV ov n (.slice (some ⟨b7,0,none⟩) len len)) (kV tv n (.slice (some ⟨b9,0,none⟩) len len)) (kV nv n (.slice (some ⟨b11,0,none⟩) len len))++ts)) wc from fun b7 b9 b11 wc HX=>by
    have hl:=Uq.out
    rcases Θ iN.out with e|e
    ·subst e
     rw [hl] at HX ⊢;exact dY.τ (us:=[_,_,_,_,_,_,_,_,_,_,_,_]) (vs:=[_,_,_,_,_,_,_,_,_]) HX [3,4,5,0,7,1,9,2,11] (by decide) rfl
    ·subst e
     rw [hl] at HX ⊢;exact dY.τ (us:=[_,_,_,_,_,_,_,_,_,_,_,_]) (vs:=[_,_,_,_,_,_,_,_,_]) HX [3,4,5,6,0,8,1,10,2] (by decide) rfl)
   have HX:=HK;refine wp_region_held_drew (S:=fun _=>True) (by kernel_rfl) trivial (fun _=>?_);have HX:=aQ HX.out.drew.no.front.no.front.no.front;clear HK c0 c1;refine Φ 0 7 trivial ?_
   iterate 7 refine dI ?_
   refine aT ?_
   (refine Φ 8 1 trivial ?_;refine dI ?_;refine aT ?_)
   (refine Φ 10 1 trivial ?_;refine dI ?_;refine aT ?_)
   (refine Φ 12 2 trivial ?_;(iterate 2 (refine dI ?_));refine aT ?_)
   (refine Φ 16 2 trivial ?_;(iterate 2 (refine dI ?_));refine aT ?_)
   (refine Φ 20 2 trivial ?_;(iterate 2 (refine dI ?_));refine aT ?_)
   repeat' (first
    |(refine aH 14 1 (by decide +kernel) trivial (fun _ _ _ _ _ h=>h) ?_;simp only [Vz,VH,Vy,VI];refine dI ?_;refine aT ?_)
    |(refine aH 18 1 (by decide +kernel) trivial (fun _ _ _ _ _ h=>h) ?_;simp only [Vz,VH,Vy,VI];refine dI ?_;refine aT ?_)
    |(refine aH 22 1 (by decide +kernel) trivial (fun _ _ _ _ _ h=>h) ?_;simp only [Vz,VH,Vy,VI];refine dI ?_;refine aT ?_)
    |refine Bc 7 9 11 (by decide +kernel) ?_ ?_ ?_
    |refine Bc 9 11 15 (by decide +kernel) ?_ ?_ ?_
    |refine jE 7 9 (by decide +kernel) ?_ ?_
    |refine jE 7 11 (by decide +kernel) ?_ ?_
    |refine jE 9 11 (by decide +kernel) ?_ ?_
    |refine jE 9 15 (by decide +kernel) ?_ ?_
    |refine jE 11 15 (by decide +kernel) ?_ ?_
    |refine jE 11 19 (by decide +kernel) ?_ ?_
    |refine eF 7 (by decide +kernel) ?_
    |refine eF 9 (by decide +kernel) ?_
    |refine eF 11 (by decide +kernel) ?_
    |refine eF 15 (by decide +kernel) ?_
    |refine eF 19 (by decide +kernel) ?_
    |refine eF 23 (by decide +kernel) ?_
    |(refine dw 7 rfl (fun K hK=>?_);refine jl (E:=df ψ 40) o_ rfl rfl (a0:=([]:List dV)) (fun _ _=>⟨_,rfl,Sq.nil _ _ _ _ _⟩) rfl _ rfl len rfl (by omega) (by unfold maxLen;omega) HX.out 0 rfl ?_;intro b7 wx hbx hx;have HX:=aQ hx;clear hbx hx;refine hK.out _ _ trivial ?_;clear hK K;simp only [VF,ag,Ψ,ae])
    |(refine dw 9 rfl (fun K hK=>?_);refine jl (E:=df ψ 40) o_ rfl rfl (a0:=([]:List dV)) (fun _ _=>⟨_,rfl,Sq.nil _ _ _ _ _⟩) rfl _ rfl len rfl (by omega) (by unfold maxLen;omega) HX.out 1 rfl ?_;intro b9 wx hbx hx;have HX:=aQ hx;clear hbx hx;refine hK.out _ _ trivial ?_;clear hK K;simp only [VF,ag,Ψ,ae])
    |(refine dw 11 rfl (fun K hK=>?_);refine jl (E:=dK) kI rfl rfl (a0:=(0:Nat)) (fun _ _=>rfl) rfl _ rfl len rfl (by omega) (by unfold maxLen;omega) HX.out 2 rfl ?_;intro b11 wx hbx hx;have HX:=aQ hx;clear hbx hx;refine hK.out _ _ trivial ?_;clear hK K;simp only [VF,ag,Ψ,ae])
    |(refine dw 15 rfl (fun K hK=>?_);have hrow:=HX.out.blk 3 rfl;have cX:=(qP hrow iN.out).1;have cf:=fun i=>aD hrow i;have h8:=HX.out.nlO iN.out 3 rfl (.slice (some ⟨b7,0,none⟩) len len);clear hrow HX;go_simp;refine hK.out _ _ trivial ?_;have HX:=aQ h8;clear hK K cX cf h8)
    |(refine dw 19 rfl (fun K hK=>?_);have hrow:=HX.out.blk 3 rfl;have cX:=(qP hrow iN.out).2.1;have cf:=fun i=>aD hrow i;have h8:=HX.out.nlT iN.out 3 rfl (.slice (some ⟨b9,0,none⟩) len len);clear hrow HX;go_simp;refine hK.out _ _ trivial ?_;have HX:=aQ h8;clear hK K cX cf h8)
    |(refine dw 23 rfl (fun K hK=>?_);have hrow:=HX.out.blk 3 rfl;have cX:=(qP hrow iN.out).2.2.1;have cf:=fun i=>aD hrow i;have h8:=HX.out.nlN iN.out 3 rfl (.slice (some ⟨b11,0,none⟩) len len);clear hrow HX;go_simp;refine hK.out _ _ trivial ?_;have HX:=aQ h8;clear hK K cX cf h8))
   all_goals
    refine fZ ?_;go_wp2_with fail;go_roundw
    case rel=>exact ⟨n+1,by omega,by go_num,_,_,_,aQ (KEY.out b7 b9 b11 _ HX.out)⟩
    case measure=>simp [intOf];omega
  ·obtain rfl:n=2:=by omega
   go_wp2_with fail;go_ret;exact ⟨p,rfl,dY.OY J3.out J4.out HK.out⟩
end

section
variable {Z:BS} {W w:World} {ts:List Th} {p n N:Nat} {L:Lk} {x y:aj} {v:FE}
theorem xu (hn:n < 2) (hi:(L.nd n).Inv N) (c:Int) (dv:Value) (hr:1099511627775 < (((L.nd n).prt.inc:Nat):Int)+1) (h:dY (fun _=>False) Z W (jd p L::ts) w) :
  Calls Vs 10 #[.pointer (some ⟨p,0,none⟩),.int .i64 5,.int .i64 (n:Int),.int .i64 c,dv] w fun e w'=>e=.returned (.int .i64 2)/\dY (fun _=>False) Z W (jd p L::ts) w':=by
 obtain ⟨v,h0⟩:=h.rl hn;have c0:=(fT (h0.blk 0 rfl) hn).1;have HH:=aQ h;obtain ⟨x,hx⟩:∃x,x=L.nd n:=⟨_,rfl⟩;rw [<-hx] at hi h0 hr;obtain ⟨y,hst⟩:=h0.flip.rp;have c1:w.cell? ⟨v.pp n,0,none⟩=some (.int .i64 (x.prt.inc:Int)):=aJ (hst.blk 0 rfl) rfl;have hi2:=hi.ok.i2;have hw:IntKind.i64.wrap ((x.prt.inc:Int)+1)=(x.prt.inc:Int)+1:=V6 _ (by omega);have HO:=aQ (zO ((x.prt.inc:Int)+1) (.inr hr) h0.flip.drew);have hS0:w.drew.cell? ⟨p,n,none⟩=some (.pointer (some ⟨v.pp n,0,none⟩))/\w.drew.cell? ⟨v.pp n,0,none⟩=some (.int .i64 (x.prt.inc:Int)):=⟨c0,c1⟩;clear h hst hx h0 hi hr c0 c1;obtain rfl|rfl:=Θ hn
 all_goals
  first|rw [show ((0:Nat):Int)=0 from rfl]|rw [show ((1:Nat):Int)=1 from rfl]
  go_enter Tryz.func10,Tryz.ntmps10;go_wp2_with fail
  (first|(refine η 17 (S:=fun w'=>w'.cell? ⟨p,0,none⟩=some (.pointer (some ⟨v.pp 0,0,none⟩))/\w'.cell? ⟨v.pp 0,0,none⟩=some (.int .i64 (x.prt.inc:Int))) (by kernel_rfl) hS0 (fun _=>?_))|(refine η 17 (S:=fun w'=>w'.cell? ⟨p,1,none⟩=some (.pointer (some ⟨v.pp 1,0,none⟩))/\w'.cell? ⟨v.pp 1,0,none⟩=some (.int .i64 (x.prt.inc:Int))) (by kernel_rfl) hS0 (fun _=>?_)));refine Du 0 17 hS0 ?_;(iterate 17 (refine aR (v:=?_) (by rfl) ?_ ?_;rotate_left 1;(focus ((intro w' hS';obtain ⟨q1,q2⟩:=hS';go_simp);try with_reducible rfl));simp only [VF,ag,Ψ,ae]));refine aT ?_;refine bq 17 (fun K hK=>?_)
  (refine ν (f:=?_) (args:=?_) (by rfl) ?_ ?_;rotate_left 2;(focus (go_simp;first|(with_reducible rfl)|(refine ⟨?_,?_⟩ <;> with_reducible rfl)));(refine (HO.out).mono ?_);rintro e' w'' ⟨rfl,rfl⟩;refine ⟨_,rfl,?_⟩;simp only [VF,ag,Ψ,ae])
  refine hK.out _ _ (fun e=>absurd rfl e) ?_;clear hK K;refine Γ 18 5 (by kernel_rfl) (fun h=>absurd h (by decide)) (fun _ _ _ _ _ h=>h) ?_;simp only [Vz,VH,Vy,VI]
  iterate 5 refine dI ?_
  refine aT ?_;refine lG ?_;go_wp2_with fail;go_ret;exact ⟨rfl,HH.out.drew⟩
abbrev aj.fresh (x:aj) (P:δ):aj:={ x with prt:=P,sc:=Sc.new }
abbrev FE.fresh (v:FE) (n q:Nat):FE:={ v with pp:=kV v.pp n q,sa:=kV v.sa n none,sk:=kV v.sk n 0 }
theorem dY.fresh (_:n < 2) (h:dY (fun _=>False) Z W (dJ p (gH L.l L.r v)::ts) w) (P:δ) (q:Nat) {wz:World} (hf:Fr (fun k=>k=p) w wz) (hr:wz.heap[p]? = some (gH (L.put n ((L.nd n).fresh P)).l (L.put n ((L.nd n).fresh P)).r (v.fresh n q))):dY (fun _=>False) Z W (dJ p (gH (L.put n ((L.nd n).fresh P)).l (L.put n ((L.nd n).fresh P)).r (v.fresh n q))::ts) wz:=h.set 0 rfl _ hf hr
theorem dY.Ir (hn:n < 2) {P:δ} {q b len i:Nat} (h:dY (fun _=>False) Z W (ζ dK 3 (.slice (some ⟨b,0,none⟩) len len) (Vr len 0)::dJ p (gH (L.put n ((L.nd n).fresh P)).l (L.put n ((L.nd n).fresh P)).r (v.fresh n q))::gJ q P::((fF n (L.nd n) v).tail++(fF (1 - n) (L.nd (1 - n)) v++ts))) w) {wz:World} (hf:Fr (fun k=>k=p) w wz)
  (hr:wz.heap[p]? = some (gH (L.put n { (L.nd n).fresh P with inc:=i,aE:=Vr len 0 }).l (L.put n { (L.nd n).fresh P with inc:=i,aE:=Vr len 0 }).r { v.fresh n q with nv:=kV v.nv n (.slice (some ⟨b,0,none⟩) len len) })):dY (fun _=>False) Z W (jd p (L.put n { (L.nd n).fresh P with inc:=i,aE:=Vr len 0 })::ts) wz:=by
 have h1:=((h.set 1 rfl _ hf hr).add (VQ _ _) (T:=dD (.slice none 0 0) []) (fE.nil _ _)).front;obtain rfl|rfl:=Θ hn
 ·have h2:=dY.τ (us:=[_,_,_,_,_,_,_,_,_,_]) (vs:=[_,_,_,_,_,_,_,_]) h1 [2,3,0,5,6,7,8,1] (by decide) rfl
  exact dY.fQ hn (v:={ v.fresh 0 q with nv:=kV v.nv 0 (.slice (some ⟨b,0,none⟩) len len) }) h2
 ·have h2:=dY.τ (us:=[_,_,_,_,_,_,_,_,_,_]) (vs:=[_,_,_,_,_,_,_,_]) h1 [2,3,0,5,6,7,8,1] (by decide) rfl
  exact dY.fQ hn (v:={ v.fresh 1 q with nv:=kV v.nv 1 (.slice (some ⟨b,0,none⟩) len len) }) h2
theorem wJ (hn:n < 2) (hi:(L.nd n).Inv N) (c:Int) (dv:Value) (hr:(((L.nd n).prt.inc:Nat):Int)+1<=1099511627775) (h:dY (fun _=>False) Z W (jd p L::ts) w) :
  Calls Vs 10 #[.pointer (some ⟨p,0,none⟩),.int .i64 5,.int .i64 (n:Int),.int .i64 c,dv] w fun e w'=>e=.returned (.int .i64 0)/\dY (fun _=>False) Z W (jd p (L.put n (L.nd n).Ω.2)::ts) w':=by
 obtain ⟨v,h0⟩:=h.rl hn;have c0:=(fT (h0.blk 0 rfl) hn).1;have HL:=aQ (nU (L:=L) hn);obtain ⟨x,hx⟩:∃x,x=L.nd n:=⟨_,rfl⟩;have HX:=aQ hx;rw [<-hx] at hi h0 hr HL ⊢;obtain ⟨y,hst⟩:=h0.flip.rp;have c1:w.cell? ⟨v.pp n,0,none⟩=some (.int .i64 (x.prt.inc:Int)):=aJ (hst.blk 0 rfl) rfl;have hw:IntKind.i64.wrap ((x.prt.inc:Int)+1)=(x.prt.inc:Int)+1:=V6 _ (by omega);have n4:=hi.ok.n4;have HO:=aQ (zN (x.prt.inc+1) (by omega) (by omega) hi.ok.n1 n4 h0.flip.drew);rw [show ((x.prt.inc+1:Nat):Int)=(x.prt.inc:Int)+1 from rfl] at HO
 have HT:=aQ (show x.Ω.2={ x with prt:=dG (x.prt.inc+1) x.prt.aZ x.prt.cA x.prt.aN x.prt.dead,inc:=x.inc+1,sc:=Sc.new,aE:=Vr x.prt.aZ.length 0 } by
  have hic:=hi.inc;have hsl:=hi.sl
  have hp:x.prt.Ω ((x.inc:Int)+1)=(0,dG (x.prt.inc+1) x.prt.aZ x.prt.cA x.prt.aN x.prt.dead):=by
   unfold δ.Ω;rw [if_neg (by omega),show ((x.inc:Int)+1).toNat=x.prt.inc+1 by omega]
  unfold aj.Ω;rw [hp,if_pos rfl,hsl])
 have hS0:w.drew.cell? ⟨p,n,none⟩=some (.pointer (some ⟨v.pp n,0,none⟩))/\w.drew.cell? ⟨v.pp n,0,none⟩=some (.int .i64 (x.prt.inc:Int)):=⟨c0,c1⟩;clear h hst hx h0 hi hr c0 c1;obtain ⟨P,hP⟩:∃P,P=dG (x.prt.inc+1) x.prt.aZ x.prt.cA x.prt.aN x.prt.dead:=⟨_,rfl⟩;obtain ⟨len,hlen⟩:∃len,len=x.prt.aZ.length:=⟨_,rfl⟩;have hPr:P.aZ.length=len:=by rw [hP,hlen];rfl
 rw [<-hP,<-hlen] at HT;rw [<-hP] at HO;rw [<-hlen] at n4;clear hP hlen;obtain rfl|rfl:=Θ hn
 all_goals
  first|rw [show ((0:Nat):Int)=0 from rfl]|rw [show ((1:Nat):Int)=1 from rfl]
  go_enter Tryz.func10,Tryz.ntmps10;go_wp2_with fail
  (first|(refine η 17 (S:=fun w'=>w'.cell? ⟨p,0,none⟩=some (.pointer (some ⟨v.pp 0,0,none⟩))/\w'.cell? ⟨v.pp 0,0,none⟩=some (.int .i64 (x.prt.inc:Int))) (by kernel_rfl) hS0 (fun _=>?_))|(refine η 17 (S:=fun w'=>w'.cell? ⟨p,1,none⟩=some (.pointer (some ⟨v.pp 1,0,none⟩))/\w'.cell? ⟨v.pp 1,0,none⟩=some (.int .i64 (x.prt.inc:Int))) (by kernel_rfl) hS0 (fun _=>?_)));refine Du 0 17 hS0 ?_;(iterate 17 (refine aR (v:=?_) (by rfl) ?_ ?_;rotate_left 1;(focus ((intro w' hS';obtain ⟨q1,q2⟩:=hS';go_simp);try with_reducible rfl));simp only [VF,ag,Ψ,ae]));refine aT ?_;refine bq 17 (fun K hK=>?_)
  (refine ν (f:=?_) (args:=?_) (by rfl) ?_ ?_;rotate_left 2;(focus (go_simp;first|(with_reducible rfl)|(refine ⟨?_,?_⟩ <;> with_reducible rfl)));(refine (HO.out).mono ?_);rintro e' w'' ⟨q,rfl,h1⟩;refine ⟨_,rfl,?_⟩;simp only [VF,ag,Ψ,ae])
  refine hK.out _ _ (fun e=>absurd rfl e) ?_;clear hK K HO hS0;refine Γ 18 5 (by kernel_rfl) (fun h=>absurd h (by decide)) (fun _ _ _ _ _ h=>h) ?_;simp only [Vz,VH,Vy,VI]
  iterate 5 refine dI ?_
  refine aT ?_;refine lG ?_;have H1:=aQ h1.flip;clear h1;go_wp2_with fail;obtain rfl:=HX.out;refine wp_region_held_drew (S:=fun _=>True) (by kernel_rfl) trivial (fun _=>?_);have hrow:=H1.out.blk 0 rfl;have cf:=fun i=>aD hrow i
  have k0:=aJ (i:=0) hrow rfl;have k1:=aJ (i:=1) hrow rfl;have k2:=aJ (i:=2) hrow rfl;have k3:=aJ (i:=3) hrow rfl;have k4:=aJ (i:=4) hrow rfl;have k5:=aJ (i:=5) hrow rfl;have k6:=aJ (i:=6) hrow rfl;have k7:=aJ (i:=7) hrow rfl;refine Φ 0 9 trivial ?_
  iterate 9 refine dI ?_
  refine aT ?_;refine Φ 10 2 trivial ?_
  iterate 2 refine dI ?_
  refine aT ?_
  (refine ah 9 (fun K hK=>?_);go_simp;refine hK.out _ _ trivial ?_;clear hK K)
  (refine ah 12 (fun K hK=>?_);go_simp;refine hK.out _ _ trivial ?_;clear hK K)
  (refine ah 13 (fun K hK=>?_);go_simp;refine hK.out _ _ trivial ?_;clear hK K)
  generalize hwz:VR _ _ _=wz;have H2:=aQ ((H1.out.fresh hn P q (wz:=wz) (by rw [<-hwz];exact eZ) (by rw [<-hwz];(refine aS (Ξ hrow) ?_);rfl)).drew.drew.no.front);obtain ⟨ra,rc,c1⟩:=mX (dY.τ (us:=[_,_,_]) (vs:=[_]) H2.out [2] (by decide) rfl);rw [hPr] at c1;have uy:=Vv _ _ c1;clear hwz hrow cf k0 k1 k2 k3 k4 k5 k6 k7 H1;refine fZ ?_;go_wp2_with fail;refine η 12 (S:=fun w'=>w'.cell? ⟨q,1,none⟩=some (.slice ra len rc)) (by kernel_rfl) c1 (fun _=>?_);refine Du 0 8 c1 ?_
  iterate 8 (refine aR (v:=?_) (by rfl) ?_ ?_;rotate_left 1;(focus ((intro w' hS';have q1:=hS';go_simp);try with_reducible rfl));simp only [VF,ag,Ψ,ae])
  refine aT ?_;refine Γ 9 2 (by kernel_rfl) (fun h=>c1) (fun _ _ _ _ _ h=>h) ?_;simp only [Vz,VH,Vy,VI]
  iterate 2 refine dI ?_
  refine aT ?_;refine bq 8 (fun K hK=>?_);refine jl (E:=dK) kI rfl rfl (a0:=0) (fun _ _=>rfl) rfl _ rfl len rfl (by omega) (by unfold maxLen;omega) H2.out 0 rfl ?_;intro b wx hbx hx;have c2:=(Vt (hbx.block q uy)).trans c1;refine hK.out _ _ (fun _=>c2) ?_;have H3:=aQ hx;clear hK K hx hbx c1 uy H2;simp only [VF,ag,Ψ,ae];refine Γ 11 1 (by kernel_rfl) (fun h=>c2) (fun _ _ _ _ _ h=>h) ?_;simp only [Vz,VH,Vy,VI];refine dI ?_;refine aT ?_;have hrow:=H3.out.blk 1 rfl;have cf:=fun i=>aD hrow i
  have k0:=aJ (i:=26) hrow rfl;have k1:=aJ (i:=27) hrow rfl
  (refine bq 12 (fun K hK=>?_);go_simp;refine hK.out _ _ (fun e=>absurd rfl e) ?_;clear hK K)
  refine lG ?_;go_wp2_with fail;go_ret;rw [HT.out];exact ⟨rfl,dY.Ir hn H3.out (by exact eZ) (by (refine aS (Ξ hrow) ?_);rfl)⟩
end

section
variable {Z:BS} {W w:World} {ts:List Th} {p n N:Nat} {L:Lk}
theorem Me (k s c:Int) (dv:Value) (hk:k < 1\/5 < k) (h:dY (fun _=>False) Z W (jd p L::ts) w) :
  Calls Vs 10 #[.pointer (some ⟨p,0,none⟩),.int .i64 k,.int .i64 s,.int .i64 c,dv] w fun e w'=>e=.returned (.int .i64 16)/\dY (fun _=>False) Z W (jd p L::ts) w':=by
 have HH:=aQ h;have hq:k < 1\/(1<=k/\5 < k):=by omega
 clear h hk
 rcases hq with h1|⟨h1,h2⟩
 all_goals
  go_enter Tryz.func10,Tryz.ntmps10;go_wp2_with fail;go_ret;exact ⟨rfl,HH.out⟩
theorem Md (k s c:Int) (dv:Value) (hk:k=1\/k=2\/k=5) (hs:¬s=0/\¬s=1) (h:dY (fun _=>False) Z W (jd p L::ts) w) :
  Calls Vs 10 #[.pointer (some ⟨p,0,none⟩),.int .i64 k,.int .i64 s,.int .i64 c,dv] w fun e w'=>e=.returned (.int .i64 2)/\dY (fun _=>False) Z W (jd p L::ts) w':=by
 have HH:=aQ h;obtain ⟨h1,h2⟩:=hs;have e1:(s != 0)=true:=by simpa using h1
 have e2:(s != 1)=true:=by simpa using h2
 clear h h1 h2
 rcases hk with rfl|rfl|rfl
 all_goals
  go_enter Tryz.func10,Tryz.ntmps10;go_wp2_with fail;go_ret;exact ⟨rfl,HH.out⟩
theorem FZ (hn:n < 2) (hi:(L.nd n).Inv N) (hN:N<=1000000) (e:iW) (hk:e.kind=1\/e.kind=2\/e.kind=5) (dv:Value) (j:Nat) (hj:ts[j]? = some (dD dv e.data)) (h:dY (fun _=>False) Z W (jd p L::ts) w) :
  Calls Vs 10 #[.pointer (some ⟨p,0,none⟩),.int .i64 e.kind,.int .i64 (n:Int),.int .i64 e.cls,dv] w fun r w'=>r=.returned (.int .i64 (((L.nd n).act e).1:Int))/\dY (fun _=>False) Z W (jd p (L.put n ((L.nd n).act e).2)::ts) w':=by
 have hL:=nU (L:=L) hn
 rcases hk with hk|hk|hk
 ·rw [hk,show (L.nd n).act e=(L.nd n).dQ e.cls e.data from if_pos hk]
  by_cases h0:((L.nd n).prt.dQ e.cls e.data).1=0
  ·have hh:=h0
   unfold δ.dQ at hh;split at hh
   ·cases hh
   ·rename_i h1
    have hc:(L.nd n).prt.has e.cls:=ZV fun x=>h1 (.inl x)
    obtain ⟨m,hm⟩:∃m:Nat,e.cls=(m:Int):=⟨e.cls.toNat,by have:=hc.1;omega⟩;have Dn:m < (L.nd n).prt.aZ.length:=by have:=hc.2;omega
    split at hh
    ·cases hh
    ·rename_i h2
     rw [hm,Wv] at h2;have:=z8 hn hi hN m dv e.data Dn (by omega) (by omega) j hj h;rw [<-hm] at this;refine this.mono fun r w' ⟨h3,h4⟩=>⟨?_,h4⟩
     rw [h3];unfold aj.dQ;rw [if_pos h0];rfl
  ·have hp:((L.nd n).prt.dQ e.cls e.data).2=(L.nd n).prt/\(((L.nd n).prt.dQ e.cls e.data).1=2\/((L.nd n).prt.dQ e.cls e.data).1=5):=by
    unfold δ.dQ at h0 ⊢;split
    ·exact ⟨rfl,.inl rfl⟩
    ·split
     ·exact ⟨rfl,.inr rfl⟩
     ·rename_i h1 h2;rw [if_neg h1,if_neg h2] at h0;exact absurd rfl h0
   refine (CL hn hi hN e.cls dv e.data j hj _ (Prod.ext rfl hp.1) hp.2 h).mono fun r w' ⟨h3,h4⟩=>?_
   unfold aj.dQ;rw [if_neg h0];exact ⟨h3,by rw [hL];exact h4⟩
 ·rw [hk,show (L.nd n).act e=(L.nd n).take e.cls by unfold aj.act;rw [if_neg (by omega),if_pos hk]]
  cases hp:(L.nd n).prt.jY e.cls with
  |none=>
   refine (EB hn hi e.cls dv hp h).mono fun r w' ⟨h3,h4⟩=>?_
   have:(L.nd n).prt.take e.cls=(none,(L.nd n).prt):=by unfold δ.take;rw [hp]
   unfold aj.take;rw [this];exact ⟨h3,by rw [hL];exact h4⟩
  |some d=>
   have hp':=hp;unfold δ.jY at hp';split at hp'
   ·rename_i hc
    obtain ⟨m,hm⟩:∃m:Nat,e.cls=(m:Int):=⟨e.cls.toNat,by have:=hc.1;omega⟩;rw [hm,Wv] at hp'
    cases hb:(L.nd n).prt.aY.getD m [] with
    |nil=>rw [hb] at hp';cases hp'
    |cons d' l=>
     have:=CK hn hi hN m dv d' (by have:=hc.2;omega) l hb h;rw [<-hm] at this;refine this.mono fun r w' ⟨h3,h4⟩=>⟨?_,h4⟩
     rw [h3];have:((L.nd n).prt.take e.cls).1=some d:=by unfold δ.take;rw [hp]
     unfold aj.take
     rcases hq:(L.nd n).prt.take e.cls with ⟨o,q⟩
     rw [hq] at this;dsimp only at this;subst this;rfl
   ·cases hp'
 ·rw [hk,show (L.nd n).act e=(L.nd n).Ω by unfold aj.act;rw [if_neg (by omega),if_neg (by omega)]]
  have hic:=hi.inc;by_cases hr:1099511627775 < (((L.nd n).prt.inc:Nat):Int)+1
  ·have hf:(L.nd n).Ω=(2,L.nd n):=by
    have:(L.nd n).prt.Ω (((L.nd n).inc:Int)+1)=(2,(L.nd n).prt):=if_pos (.inr (by omega));unfold aj.Ω;rw [this,if_neg (by show ¬(2:Nat)=0;decide)]
   rw [hf,hL];exact xu hn hi e.cls dv hr h
  ·refine (wJ hn hi e.cls dv (by omega) h).mono fun r w' ⟨h3,h4⟩=>⟨?_,h4⟩
   have:((L.nd n).prt.Ω (((L.nd n).inc:Int)+1)).1=0:=by unfold δ.Ω;rw [if_neg (by omega)]
   rw [h3];unfold aj.Ω;rw [if_pos this];rfl
theorem Vn (hF:L.Fit N) (hN:N<=1000000) (e:iW) (dv:Value) (j:Nat) (hj:ts[j]? = some (dD dv e.data)) (h:dY (fun _=>False) Z W (jd p L::ts) w) :
  Calls Vs 10 #[.pointer (some ⟨p,0,none⟩),.int .i64 e.kind,.int .i64 e.cS,.int .i64 e.cls,dv] w fun r w'=>r=.returned (.int .i64 ((L.act e).1:Int))/\dY (fun _=>False) Z W (jd p (L.act e).2::ts) w':=by
 by_cases h3:e.kind=3
 ·rw [show L.act e=_ from if_pos h3,h3]
  exact Mf hF hN _ _ _ h
 by_cases h4:e.kind=4
 ·rw [show L.act e=_ from (if_neg h3).trans (if_pos h4),h4]
  exact Iy _ _ _ h
 by_cases hk:e.kind≠1/\e.kind≠2/\e.kind≠5
 ·rw [show L.act e=(16,L) from (if_neg h3).trans ((if_neg h4).trans (if_pos hk))]
  exact Me _ _ _ _ (by omega) h
 have hk':e.kind=1\/e.kind=2\/e.kind=5:=by omega
 by_cases s0:e.cS=0
 ·rw [show L.act e=((L.l.act e).1,⟨(L.l.act e).2,L.r⟩) from (if_neg h3).trans ((if_neg h4).trans ((if_neg hk).trans (if_pos s0))),s0]
  exact FZ (n:=0) (by decide) hF.l hN e hk' dv j hj h
 by_cases s1:e.cS=1
 ·rw [show L.act e=((L.r.act e).1,⟨L.l,(L.r.act e).2⟩) from (if_neg h3).trans ((if_neg h4).trans ((if_neg hk).trans ((if_neg s0).trans (if_pos s1)))),s1]
  exact FZ (n:=1) (by decide) hF.r hN e hk' dv j hj h
 ·rw [show L.act e=(2,L) from (if_neg h3).trans ((if_neg h4).trans ((if_neg hk).trans ((if_neg s0).trans (if_neg s1))))]
  exact Md _ _ _ _ hk' ⟨s0,s1⟩ h
end

structure JD (p:Prop):Prop where
 out:p
section
variable {P:Program} {ops:Array Oper} {w:World} {Q:Act->Prop} {a:Act} {o:Oper} {rest:List Oper}
theorem D8 (hw:VN o (yielded ops a.tmps)=false) (h:wpStill P ops w Q rest (a.put o.dst undef)):wpStill P ops w Q (o::rest) a:=
 wpStill_step fun K hK=>by rw [if_neg (by rw [hw];exact Bool.false_ne_true)];exact hK _ h
theorem Cj {v:Value} (hw:VN o (yielded ops a.tmps)=true) (hv:(execOp a.eval o).run P w=.ok (.value v) w) (h:wpStill P ops w Q rest (a.put o.dst v)):wpStill P ops w Q (o::rest) a:=
 wpStill_step fun K hK=>by
  rw [if_pos hw];unfold ZO;rw [hv,Oper.stillUpon_value];exact hK _ h
theorem K_ (h:JD (wpStill P ops w Q rest a)):wpStill P ops w Q rest a:=h.out
theorem La (h:Q a):JD (wpStill P ops w Q [] a):=JD.mk h
theorem FP (hw:VN o (yielded ops a.tmps)=false) (h:JD (wpStill P ops w Q rest (a.put o.dst undef))):JD (wpStill P ops w Q (o::rest) a):=JD.mk (D8 hw h.out)
theorem ze {S:World->Prop} (hS:S w) {v:Value} (hw:VN o (yielded ops a.tmps)=true) (hv:∀w',S w'->(execOp a.eval o).run P w'=.ok (.value v) w') (h:JD (wpStill P ops w Q rest (a.put o.dst v))):JD (wpStill P ops w Q (o::rest) a):=
 JD.mk (Cj hw (hv w hS) h.out)
end

theorem uH {P:Program} {ops:Array Oper} {w:World} {Q:Act->Prop} {a:Act} {o:Oper} {rest:List Oper} {f:FuncId} {args:Array Value} {v:Value} (hw:VN o (yielded ops a.tmps)=true) (he:(execOp a.eval o).run P w=.ok (.enter f args) w) (hc:Calls P f args w fun e w'=>e=.returned v/\w'=w) (h:JD (wpStill P ops w Q rest (a.put o.dst v))):JD (wpStill P ops w Q (o::rest) a):=
 JD.mk (wpStill_step fun K hK=>by
  rw [if_pos hw];unfold ZO;rw [he];exact ⟨rfl,v,hc,hK _ h.out⟩)

section
variable {Z:BS} {W w:World} {ts:List Th} {p n N:Nat} {L:Lk} {x y:aj} {v:FE}
theorem aj.Inv.less (h:x.Inv N) {c:Nat} (hc:c < x.prt.aZ.length):x.prt.aG.getD c 0<=x.aE.getD c 0:=by
 have:=h.cons.off c hc;omega
theorem OG {us:List Th} {o:Obj} (hi:x.Inv N) (h:dY (fun _=>False) Z W (dJ p o::(fF n x v++us)) w) (hs:w.cell? ⟨p,26+n,none⟩=some (v.nv n)) {m:Nat} (hm:m < x.prt.aZ.length):∃b1 o1 k1 b2 o2 k2 b3 o3 k3 va vk,
  w.cell? ⟨v.pp n,30,none⟩=some (.slice (some ⟨b1,o1,none⟩) x.prt.aZ.length k1)/\w.cell? ⟨b1,o1+m,none⟩=some (.int .i64 ((x.prt.aG.getD m 0:Nat):Int))/\w.cell? ⟨p,26+n,none⟩=some (.slice (some ⟨b2,o2,none⟩) x.prt.aZ.length k2)/\w.cell? ⟨b2,o2+m,none⟩=some (.int .i64 ((x.aE.getD m 0:Nat):Int)) /\
   w.cell? ⟨v.pp n,13,none⟩=some (.slice (some ⟨b3,o3,none⟩) x.prt.aZ.length k3)/\w.cell? ⟨b3,o3+m,none⟩=some (.slice va (x.prt.aY.getD m []).length vk):=by
 have h1:=h.flip;obtain ⟨b1,o1,k1,-,-,-,-,-,-,a1,-,-,a2,-,-⟩:=xS h1 hi.ok hm;obtain ⟨_,_,eD⟩:=h.get 7 rfl;have hsl:=hi.sl;have hbl:=hi.ok.bl;obtain ⟨b2,o2,k2,e2,-⟩:=bR (show Sq dK 3 w _ _ (v.nv n) x.aE from eD) (by omega);rw [e2] at eD hs;obtain ⟨b7,o7,e7,a4⟩:=kM (show Sq dK 3 w _ _ (.slice (some ⟨b2,o2,none⟩) x.aE.length k2) x.aE from eD) (bT (d:=0) (show m < x.aE.length by omega));obtain ⟨rfl,rfl⟩:b2=b7/\o2=o7:=by simpa using e7
 obtain ⟨y,hst⟩:=h1.rp;have c13:w.cell? ⟨v.pp n,13,none⟩=some y.bv:=aJ (hst.blk 0 rfl) rfl;obtain ⟨_,_,hb⟩:=hst.get 3 rfl;obtain ⟨b3,o3,k3,e3,-⟩:=bR (show Sq (df ψ 40) 51 w _ _ y.bv x.prt.aY from hb) (by omega);rw [e3] at hb c13;obtain ⟨u,A,hcc,hsv,-⟩:=iQ (show Sq (df ψ 40) 51 w _ _ (.slice (some ⟨b3,o3,none⟩) x.prt.aY.length k3) x.prt.aY from hb) (bT (d:=[]) (show m < x.prt.aY.length by omega));obtain ⟨va,vk,eu⟩:=Sq.shape hsv;rw [eu] at hcc;rw [hbl] at c13;rw [hsl] at hs;exact ⟨b1,o1,k1,b2,o2,k2,b3,o3,k3,va,vk,a1,a2,hs,a4,c13,hcc⟩
theorem Im (hF:L.Fit N) (_:N<=1000000) (h:dY (fun _=>False) Z W (jd p L::ts) w) :
  Calls Vs 17 #[.pointer (some ⟨p,0,none⟩)] w fun e w'=>∃b:Bool,(b=true↔L.Quiet)/\e=.returned (.bool b)/\dY (fun _=>False) Z W (jd p L::ts) w':=by
 have H0:=aQ h;have HF:=aQ hF;have HQ:=aQ (show L.Quiet↔∀j,j < 2->(L.nd j).Quiet from ⟨fun h j hj=>by obtain rfl|rfl:=Θ hj;exact h.1;exact h.2,fun h=>⟨h 0 (by decide),h 1 (by decide)⟩⟩);clear h hF;go_enter Tryz.func17,Tryz.ntmps17;go_wp2_with fail;go_loopw [3] (fun i wr=>∃n:Nat,n<=2/\i=.int .i64 (n:Int)/\Hid (∀j,j < n->(L.nd j).Quiet)/\Hid (dY (fun _=>False) Z W (jd p L::ts) wr)) (fun i _=>2 - (intOf i).toNat)
 case atStart=>exact ⟨0,by decide,rfl,aQ (fun j hj=>by omega),H0⟩
 case round=>
  clear H0;obtain ⟨n,hn,rfl,HA,HK⟩:=hrel;by_cases hlt:n < 2
  ·obtain ⟨v,h1⟩:=HK.out.rl hlt
   have iN:=aQ hlt;obtain ⟨x,hx⟩:∃x,x=L.nd n:=⟨_,rfl⟩;have HX:=aQ hx;have HI:=aQ (HF.out.nd n);rw [<-hx] at h1 HI;have H1:=aQ h1;have hrow:=h1.blk 0 rfl;obtain ⟨y,hst⟩:=h1.flip.rp;have e9:wr.cell? ⟨v.pp n,9,none⟩=some (.int .i64 (x.prt.cS.state:Int)):=aJ (hst.blk 0 rfl) rfl;have c0:wr.cell? ⟨p,n,none⟩=some (.pointer (some ⟨v.pp n,0,none⟩)):=(fT hrow hlt).1;clear hx h1 hst HK hrow;by_cases hu:x.prt.cS.state=2
   ·have HU:=aQ hu
    have hu':((x.prt.cS.state:Int) != 2)=false:=by simp;omega
    go_wp2_with fail;clear e9 c0 hu hu';have n4:=HI.out.ok.n4;go_loopw [5] (fun i wr=>∃k:Nat,k<=x.prt.aZ.length/\i=.int .i64 (k:Int)/\Hid (∀c,c < k->x.prt.aY.getD c []=[]/\x.aE.getD c 0<=x.prt.aG.getD c 0)/\Hid (dY (fun _=>False) Z W (dJ p (gH L.l L.r v)::(fF n x v++(fF (1 - n) (L.nd (1 - n)) v++ts))) wr)) (fun i _=>x.prt.aZ.length - (intOf i).toNat)
    case atStart=>exact ⟨0,VJ _,rfl,aQ (fun c hc=>by omega),H1⟩
    case round=>
     clear H1;obtain ⟨k,hk,rfl,HB,H⟩:=hrel;obtain ⟨ra,rc,d1⟩:=mX H.out.flip;by_cases hkl:k < x.prt.aZ.length
     ·obtain ⟨b1,o1,k1,b2,o2,k2,b3,o3,k3,va,vk,q⟩:=OG HI.out H.out (fT (H.out.blk 0 rfl) iN.out).2.2.2 hkl
      have hle:=HI.out.less hkl;have hcase:(x.prt.aG.getD k 0≠x.aE.getD k 0)\/(x.prt.aG.getD k 0=x.aE.getD k 0/\0 < (x.prt.aY.getD k []).length)\/(x.prt.aG.getD k 0=x.aE.getD k 0/\(x.prt.aY.getD k []).length=0):=by omega
      have HC:=aQ hcase;have HKL:=aQ hkl;obtain ⟨A,hA⟩:∃A,A=x.prt.aG.getD k 0:=⟨_,rfl⟩;obtain ⟨S,hS⟩:∃S,S=x.aE.getD k 0:=⟨_,rfl⟩;obtain ⟨B,hB⟩:∃B,B=(x.prt.aY.getD k []).length:=⟨_,rfl⟩;rw [<-hA,<-hS,<-hB] at q hcase;have fA:=aQ (fun (g:(L.nd n).Quiet)=>(show A=S/\B=0 by have:=g.2 k (by rw [<-HX.out];exact HKL.out);rw [<-HX.out] at this;have h2:=this.2;rw [hA,hS,hB,this.1];exact ⟨by omega,rfl⟩));have HB2:=aQ (fun (g:A=S/\B=0)=>(show x.prt.aY.getD k []=[]/\x.aE.getD k 0<=x.prt.aG.getD k 0 from ⟨List.eq_nil_of_length_eq_zero (by omega),by omega⟩));clear hA hS hB hle HC;obtain ⟨SS,hSS⟩:∃SS:World->Prop,SS=fun w'=>w'.cell? ⟨v.pp n,30,none⟩=some (.slice (some ⟨b1,o1,none⟩) x.prt.aZ.length k1)/\w'.cell? ⟨b1,o1+k,none⟩=some (.int .i64 (A:Int))/\w'.cell? ⟨p,26+n,none⟩=some (.slice (some ⟨b2,o2,none⟩) x.prt.aZ.length k2)/\w'.cell? ⟨b2,o2+k,none⟩=some (.int .i64 (S:Int))/\w'.cell? ⟨v.pp n,13,none⟩=some (.slice (some ⟨b3,o3,none⟩) x.prt.aZ.length k3)/\w'.cell? ⟨b3,o3+k,none⟩=some (.slice va B vk):=⟨_,rfl⟩
      have TA:=aQ (show ∀w',SS w'->w'.cell? ⟨v.pp n,30,none⟩=some (.slice (some ⟨b1,o1,none⟩) x.prt.aZ.length k1)/\w'.cell? ⟨b1,o1+k,none⟩=some (.int .i64 (A:Int))/\w'.cell? ⟨p,26+n,none⟩=some (.slice (some ⟨b2,o2,none⟩) x.prt.aZ.length k2)/\w'.cell? ⟨b2,o2+k,none⟩=some (.int .i64 (S:Int))/\w'.cell? ⟨v.pp n,13,none⟩=some (.slice (some ⟨b3,o3,none⟩) x.prt.aZ.length k3)/\w'.cell? ⟨b3,o3+k,none⟩=some (.slice va B vk) by rw [hSS];exact fun _ h=>h);have HS:=aQ (show SS wr.drew by rw [hSS];exact q);have c0:wr.cell? ⟨p,n,none⟩=some (.pointer (some ⟨v.pp n,0,none⟩)):=(fT (H.out.blk 0 rfl) iN.out).1;clear hSS q;go_wp2_with fail
      rcases hcase with h1|⟨h1,h2⟩|⟨h1,h2⟩
      case' inl=>have e1:((A:Int) != (S:Int))=true:=by simp;omega
      case' inr.inl=>have e1:((A:Int) != (S:Int))=false:=by simp;omega
      case' inr.inr=>have e1:((A:Int) != (S:Int))=false:=by simp;omega
      case' inr.inl=>have e2:((B:Int) > 0)=True:=eq_true (by omega)
      case' inr.inr=>have e2:((B:Int) > 0)=False:=eq_false (by omega)
      all_goals
       refine wp_region_still_tail 27 (by kernel_rfl) (by kernel_rfl) ?_;simp only [Vy,VI,Vz,VH];change wpStill _ _ (V3 _) (fun a'=>wpList _ _ _ _ a' (V3 _)) _ _;refine K_ ?_
       iterate 27 (first|(refine FP (by rfl) ?_;simp only [VF,ag,Ψ,ae])|(refine ze HS.out (v:=?_) (by rfl) ?_ ?_;rotate_left 1;(focus ((intro w' hS';obtain ⟨q1,q2,q3,q4,q5,q6⟩:=TA.out w' hS';go_simp);try with_reducible rfl));simp only [VF,ag,Ψ,ae]))
       refine La ?_
      case inr.inr=>
       go_wp2_with fail;go_roundw
       case rel=>exact ⟨k+1,by omega,by go_num,aQ (fun c hc=>by
        by_cases e:c=k
        ·subst e;exact HB2.out ⟨h1,h2⟩
        ·exact HB.out c (by omega)),aQ H.out.drew⟩
       case measure=>simp [intOf];omega
      all_goals
       go_wp2_with fail;go_ret;exact ⟨false,⟨fun e=>(by cases e),fun g=>absurd (fA.out ((HQ.out.1 g) n iN.out)) (by omega)⟩,rfl,by have:=H.out.drew;rw [HX.out] at this;have:=dY.fQ (L:=L) (x:=L.nd n) iN.out (v:=v) (by rw [nU iN.out];exact this);rwa [nU iN.out] at this⟩
     ·go_wp2_with fail
      go_roundw
      case rel=>exact ⟨n+1,by omega,by go_num,aQ (fun j hj=>by
       by_cases e:j=n
       ·subst e;rw [<-HX.out];exact ⟨HU.out,fun c hc=>HB.out c (by omega)⟩
       ·exact HA.out j (by omega)),aQ (by have:=H.out;rw [HX.out] at this;have:=dY.fQ (L:=L) (x:=L.nd n) iN.out (v:=v) (by rw [nU iN.out];exact this);rwa [nU iN.out] at this)⟩
      case measure=>simp [intOf];omega
   ·have HU:=aQ hu
    have hu':((x.prt.cS.state:Int) != 2)=true:=by simp;omega
    go_wp2_with fail;go_ret;exact ⟨false,⟨fun e=>(by cases e),fun q=>absurd ((HQ.out.1 q) n iN.out).1 (by rw [<-HX.out];exact HU.out)⟩,rfl,by have:=H1.out;rw [HX.out] at this;have:=dY.fQ (L:=L) (x:=L.nd n) iN.out (v:=v) (by rw [nU iN.out];exact this);rwa [nU iN.out] at this⟩
  ·obtain rfl:n=2:=by omega
   go_wp2_with fail;go_ret;exact ⟨true,⟨fun _=>HQ.out.2 HA.out,fun _=>rfl⟩,rfl,HK.out⟩
end

section
variable {F Z:BS} {W w:World} {ts:List Th} {p n N:Nat} {L:Lk}
theorem NM.below {v:Value} {xs:List iw} {w':World} (h:NM w v xs) (hb:Below w.heap.size w w'):NM w' v xs:=by
 obtain ⟨a,c,e,h1,h2,h3⟩:=h;refine ⟨a,c,e,h1,h2,fun k d hk=>?_⟩;obtain ⟨b,o,dv,e1,h4,h5⟩:=h3 k d hk;exact ⟨b,o,dv,e1,cell_later hb h4,h5.below hb⟩
theorem dY.bbs {v:Value} {l:List iw} (h:dY F Z W (JG v l::ts) w):NM w v l:=by
 obtain ⟨A,B,hq⟩:=h.get 0 rfl;have hs:Sq (df Nv 5) 40 w A B v l:=hq;obtain ⟨a,c,rfl,h1,h2,_⟩:=Sq.le hs;refine ⟨a,c,rfl,h1,h2,fun k d hk=>?_⟩;obtain ⟨b,off,cap,vc,e,_,hc,hb⟩:=Ll hs hk;obtain ⟨rfl,rfl⟩:a=some ⟨b,off,none⟩/\c=cap:=by simpa using e
 exact ⟨_,_,_,rfl,hc,hb⟩
theorem Gc {A B:BS} {T:TypeId} {v:Value} {iI:List (List iw)} (h:Sq (df ψ 40) T w A B v iI) {c:Nat} (hc:c < iI.length):∃b o k a j,v=.slice (some ⟨b,o,none⟩) iI.length k/\w.cell? ⟨b,o+c,none⟩=some (.slice a (iI.getD c []).length j)/\NM w (.slice a (iI.getD c []).length j) (iI.getD c []):=by
 obtain ⟨a,k,rfl,hk0,_,_⟩:=Sq.le h;obtain ⟨b,o,cs,A',rfl,_,⟨vc,rfl,hr⟩,_,hk⟩:=Sq.at h (by decide) (bT (d:=[]) hc);have h0:=hk 0 vc rfl;simp only [df,Xi,Xp] at h0;obtain ⟨ia,ic,rfl,hic,him,_⟩:=Sq.le hr;refine ⟨b,o,k,ia,ic,rfl,h0,ia,ic,rfl,hic,him,fun m d hkd=>?_⟩;obtain ⟨b',o',cs',A'',rfl,_,⟨dv,rfl,hby⟩,_,hk'⟩:=Sq.at hr (by decide) hkd;have h1:=hk' 0 dv rfl;simp only [ψ,Xi,Xp] at h1;exact ⟨b',o',dv,rfl,h1,hby.1⟩
theorem dY.zo (h:dY F Z W (jd p L::ts) w) (hF:L.Fit N) (hn:n < 2):∃pp ra rc,w.cell? ⟨p,n,none⟩=some (.pointer (some ⟨pp,0,none⟩))/\w.cell? ⟨pp,1,none⟩=some (.slice ra (L.nd n).prt.aZ.length rc)/\w.cell? ⟨pp,9,none⟩=some (.int .i64 ((L.nd n).prt.cS.state:Int))/\w.cell? ⟨pp,33,none⟩=some (.int .i64 ((L.nd n).prt.bL:Int)) /\
  ∀m,m < (L.nd n).prt.aZ.length->∃b1 o1 k1 b2 o2 k2 b3 o3 k3,w.cell? ⟨pp,30,none⟩=some (.slice (some ⟨b1,o1,none⟩) (L.nd n).prt.aZ.length k1)/\w.cell? ⟨pp,31,none⟩=some (.slice (some ⟨b2,o2,none⟩) (L.nd n).prt.aZ.length k2)/\w.cell? ⟨pp,32,none⟩=some (.slice (some ⟨b3,o3,none⟩) (L.nd n).prt.aZ.length k3) /\
   w.cell? ⟨b1,o1+m,none⟩=some (.int .i64 (((L.nd n).prt.aG.getD m 0:Nat):Int))/\w.cell? ⟨b2,o2+m,none⟩=some (.int .i64 (((L.nd n).prt.aW.getD m 0:Nat):Int))/\w.cell? ⟨b3,o3+m,none⟩=some (.int .i64 (((L.nd n).prt.cF.getD m 0:Nat):Int)):=by
 obtain ⟨v,h1⟩:=h.rl hn;obtain ⟨ra,rc,d1⟩:=mX h1.flip;obtain ⟨y,hst⟩:=h1.flip.rp;exact ⟨v.pp n,ra,rc,(fT (h1.blk 0 rfl) hn).1,d1,aJ (hst.blk 0 rfl) rfl,aJ (hst.blk 0 rfl) rfl,fun m hm=>xS h1.flip (hF.nd n).ok hm⟩
theorem zb (hn:n < 2):L.off (n:Int)=(L.nd n).aV/\L.bu (n:Int)=(L.nd n).cF:=by
 obtain rfl|rfl:=Θ hn
 ·exact ⟨rfl,rfl⟩
 ·exact ⟨rfl,rfl⟩
theorem yx (iI:List (List iw)) (c:Nat):fG iI (c:Int)=iI.getD c []:=by simp [fG]
theorem dY.R6 (h:dY F Z W (jd p L::ts) w) (hF:L.Fit N) (hn:n < 2) {c:Nat} (hc:c < (L.nd n).prt.aZ.length):∃b1 o1 k1 a1 j1 b2 o2 k2 a2 j2,
  w.cell? ⟨p,22+n,none⟩=some (.slice (some ⟨b1,o1,none⟩) (L.nd n).prt.aZ.length k1)/\w.cell? ⟨b1,o1+c,none⟩=some (.slice a1 (fG (L.off (n:Int)) (c:Int)).length j1)/\NM w (.slice a1 (fG (L.off (n:Int)) (c:Int)).length j1) (fG (L.off (n:Int)) (c:Int)) /\
  w.cell? ⟨p,24+n,none⟩=some (.slice (some ⟨b2,o2,none⟩) (L.nd n).prt.aZ.length k2)/\w.cell? ⟨b2,o2+c,none⟩=some (.slice a2 (fG (L.bu (n:Int)) (c:Int)).length j2)/\NM w (.slice a2 (fG (L.bu (n:Int)) (c:Int)).length j2) (fG (L.bu (n:Int)) (c:Int)):=by
 have ol:=(hF.nd n).ol;have tl:=(hF.nd n).tl;obtain ⟨v,h1⟩:=h.rl hn;obtain ⟨_,c1,c2,_⟩:=fT (h1.blk 0 rfl) hn;obtain ⟨_,_,q1⟩:=h1.get 5 rfl;obtain ⟨_,_,q2⟩:=h1.get 6 rfl;obtain ⟨b1,o1,k1,a1,j1,e1,f1,g1⟩:=Gc (show Sq (df ψ 40) 51 w _ _ (v.ov n) (L.nd n).aV from q1) (c:=c) (by omega);obtain ⟨b2,o2,k2,a2,j2,e2,f2,g2⟩:=Gc (show Sq (df ψ 40) 51 w _ _ (v.tv n) (L.nd n).cF from q2) (c:=c) (by omega);rw [e1,ol] at c1;rw [e2,tl] at c2;rw [(zb hn).1,(zb hn).2,yx,yx];exact ⟨b1,o1,k1,a1,j1,b2,o2,k2,a2,j2,c1,f1,g1,c2,f2,g2⟩
theorem KY (hF:L.Fit N) (hS:L.eG) (hN:N<=1000000000) (cl:Int) (hn:n < 2) (h:dY (fun _=>False) Z W (bI p L::ts) w) :
  (Calls Vs 19 #[.pointer (some ⟨p,0,none⟩),.int .i64 (n:Int),.int .i64 cl] w fun e w'=>∃a c,e=.returned (.slice a (fG (L.off (n:Int)) cl).length c)/\dY (fun _=>False) (fun _=>False) w [JG (.slice a (fG (L.off (n:Int)) cl).length c) (fG (L.off (n:Int)) cl)] w') /\
  Calls Vs 21 #[.pointer (some ⟨p,0,none⟩),.int .i64 (n:Int),.int .i64 cl] w fun e w'=>∃a c,e=.returned (.slice a (fG (L.bu (n:Int)) cl).length c)/\dY (fun _=>False) (fun _=>False) w [JG (.slice a (fG (L.bu (n:Int)) cl).length c) (fG (L.bu (n:Int)) cl)] w':=by
 have HE:=aQ (iP (n:Int));rw [decide_eq_true (show (n:Int)=0\/(n:Int)=1 by omega)] at HE;have i:=hF.nd n;obtain ⟨_,e4⟩:=zb (L:=L) hn;obtain ⟨e3,_⟩:=zb (L:=L) hn;have n4:=i.ok.n4;have ol:=i.ol;have tl:=i.tl
 have hs:(L.nd n).eG:=by
  obtain rfl|rfl:=Θ hn
  ·exact hS.1
  ·exact hS.2
 obtain ⟨cs,v,u,e1,e2,-,h0⟩:=h.link
 obtain ⟨ov,tv,c4,c5,q4,q5⟩:∃ov tv,w.cell? ⟨p,n*7+4,none⟩=some ov/\w.cell? ⟨p,n*7+5,none⟩=some tv/\FR w ov (L.nd n).aV cl/\FR w tv (L.nd n).cF cl:=by
  obtain rfl|rfl:=Θ hn
  ·obtain ⟨_,_,_,_,c4,c5,_⟩:=dL e1 (h0.blk 0 rfl)
   obtain ⟨_,_,q4⟩:=h0.get 4 rfl;obtain ⟨_,_,q5⟩:=h0.get 5 rfl;exact ⟨_,_,c4,c5,l_ (show Sq (df ψ 40) 51 w _ _ v.ov L.l.aV from q4) cl,l_ (show Sq (df ψ 40) 51 w _ _ v.tv L.l.cF from q5) cl⟩
  ·obtain ⟨_,_,_,_,c4,c5,_⟩:=dR e2 (h0.blk 0 rfl)
   obtain ⟨_,_,q4⟩:=h0.get 10 rfl;obtain ⟨_,_,q5⟩:=h0.get 11 rfl;exact ⟨_,_,c4,c5,l_ (show Sq (df ψ 40) 51 w _ _ u.ov L.r.aV from q4) cl,l_ (show Sq (df ψ 40) 51 w _ _ u.tv L.r.cF from q5) cl⟩
 have H1:=aQ (nz ov _ cl w (by omega) (fun l hl=>VC (i.ob l hl) hN) (fun l hl d hd=>VC (hs.1 l hl d hd) (by decide)) q4);have H2:=aQ (nz tv _ cl w (by omega) (fun l hl=>VC (i.tb l hl) hN) (fun l hl d hd=>VC (hs.2 l hl d hd) (by decide)) q5);rw [e3,e4];have hni:(n:Int) < 2:=by omega
 generalize (L.nd n).aV=X at *;generalize (L.nd n).cF=Y at *;clear h h0 e1 e2 e3 e4 hF hS hs q4 q5 i ol tl n4 hn;refine ⟨?_,?_⟩
 ·go_enter Tryz.func19,Tryz.ntmps19
  go_wp2_with (go_at_call 44;refine (HE.out _).mono ?_;rintro e' w1 ⟨rfl,rfl⟩);refine H1.out.mono ?_;rintro e' w2 ⟨a,c,rfl,h2⟩;have H3:=aQ h2;clear h2;go_wp2_with fail;go_ret;exact ⟨_,_,rfl,H3.out⟩
 ·go_enter Tryz.func21,Tryz.ntmps21
  go_wp2_with (go_at_call 44;refine (HE.out _).mono ?_;rintro e' w1 ⟨rfl,rfl⟩);refine H2.out.mono ?_;rintro e' w2 ⟨a,c,rfl,h2⟩;have H3:=aQ h2;clear h2;go_wp2_with fail;go_ret;exact ⟨_,_,rfl,H3.out⟩
end

end Go.Proofs.YtjnbanjjoomecaaGreatDoor
