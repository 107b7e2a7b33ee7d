/- The walk of LinkPlays. -/
import Derived.Test.YtjnbanjjoomecaaGreatDoorPkL1
import Derived.Test.YtjnbanjjoomecaaGreatDoorPkS1
namespace Go.Proofs.YtjnbanjjoomecaaGreatDoor
open Go.RowKit
open _root_.Go.Proofs.Tryz renaming prog→Vs
open List renaming getElem?_eq_getElem→Vw, length_take→VW, mem_of_mem_take→XN
open Act renaming put→VF
open Nat renaming zero_le→VJ
open Option.some renaming inj→VM
open World renaming drew→V3
set_option maxRecDepth 100000
set_option maxHeartbeats 64000000
theorem Gp:∀(es:List iW) (L:Lk) {j:Nat} {e:iW},es[j]? = some e->(L.acts es).1[j]? = some ((L.acts (es.take j)).2.act e).1
 |f::es,L,0,e,h=>by
  obtain rfl:=VM h;rfl
 |f::es,L,j+1,e,h=>Gp es (L.act f).2 (j:=j) h
theorem xe (W:World) (v0 v1:Value) (o0:KM W v0) (o1:Vb (gZ Dx) W v1) (ht:lH W) :
  Calls Vs 3 #[v0,v1] W fun e w'=>e=.returned (.bool true)/\Below W.heap.size W w':=by
 obtain ⟨s,aa,ak,ba,bk,ta,tk,ya,yk,rfl,r1,r2,r3,r4⟩:=o0;obtain ⟨el,hel⟩:=o1;have r5:=MN hel;obtain ⟨ea,ec,rfl,_,_⟩:=r5.shape;have H0:=aQ (((((((dY.mO (fun _=>False) (Old W) (fun _ f _=>f) W).r_ (T:=a_ (oV .i64) (.slice aa s.a.aZ.length ak) s.a.aZ) (dh.mono r1 fun _ h=>⟨h,id⟩)).r_ (T:=a_ (oV .i64) (.slice ba s.b.aZ.length bk) s.b.aZ) (dh.mono r2 fun _ h=>⟨h,id⟩)).r_ (T:=a_ dO (.slice ta s.there.length tk) s.there) (dh.mono r3 fun _ h=>⟨h,id⟩)).r_ (T:=a_ dO (.slice ya s.back.length yk) s.back) (dh.mono r4 fun _ h=>⟨h,id⟩)).r_ (T:=a_ (Gz eU) (.slice ea el.length ec) el) (dh.mono r5 fun _ h=>⟨h,id⟩)).new (Q8 s aa ak ba bk ta tk ya yk));obtain ⟨ts,hts⟩:∃ts,ts=[a_ (oV .i64) (.slice aa s.a.aZ.length ak) s.a.aZ,a_ (oV .i64) (.slice ba s.b.aZ.length bk) s.b.aZ,a_ dO (.slice ta s.there.length tk) s.there,a_ dO (.slice ya s.back.length yk) s.back,a_ (Gz eU) (.slice ea el.length ec) el,dJ W.heap.size (Q8 s aa ak ba bk ta tk ya yk)]:=⟨_,rfl⟩;have H1:=aQ (show dY (fun _=>False) (Old W) W ts _ by rw [hts];exact H0.out);have QS:=aQ (show xI ts 0 s aa ak ba bk ta tk ya yk by rw [hts];exact ⟨rfl,rfl,rfl,rfl⟩);have QE:=aQ (show ts[4]? = some (a_ (Gz eU) (.slice ea el.length ec) el) by rw [hts];rfl);have QB:=aQ (show ts[5]? = some (dJ W.heap.size (Q8 s aa ak ba bk ta tk ya yk)) by rw [hts];rfl);have HT:=aQ ht;clear H0 hts r1 r2 r3 r4 r5 hel ht;go_enter Tryz.func3,Tryz.ntmps3;go_wp2_with fail;refine (Ps _ (HT.out.below H1.out.below)).mono ?_;rintro e w1 ⟨rfl,hb⟩;have H2:=aQ (H1.out.own hb);obtain ⟨x0,x1,x2,x3,x4,x5,x6,x7,x8,x9,fJ,fI,fH⟩:=aC (H2.out.blk 5 QB.out);clear hb H1;go_wp2_with fail;by_cases hs:Small s
 ·refine (OA 0 QS.out hs H2.out).mono ?_
  rintro e w2 ⟨p,rfl,h3⟩;have H3:=aQ h3;clear h3 H2;go_wp2_with fail;obtain ⟨_,_,hev⟩:=H3.out.get 5 QE.out;refine (Sk el ea ec (show dh (Gz eU) w2 _ _ el from hev)).mono ?_;rintro e w3 ⟨rfl,hb⟩;have H4:=aQ (H3.out.own hb);clear hb hev H3
  cases hl:xG el with
  |true=>
   clear x0 x1 x2 x3 x4 x5 x6 x7 x8 x9 fJ fI fH;obtain ⟨x0,x1,x2,x3,x4,x5,x6,x7,x8,x9,fJ,fI,fH⟩:=aC (H4.out.blk 6 QB.out);go_wp2_with fail;have HQ:xI (bI p s.lk::ts) 1 s aa ak ba bk ta tk ya yk:=⟨QS.out.a,QS.out.b,QS.out.t,QS.out.y⟩;refine (HQ.small H4.out).mono ?_;rw [decide_eq_true hs];rintro e w5 ⟨rfl,hb⟩;have H5:=aQ (H4.out.own hb);clear hb;go_wp2_with fail;go_ret;exact ⟨rfl,H5.out.below⟩
  |false=>
   have HL:=aQ (O8 hl);have abz:=HL.out.n;have HF:=aQ hs.full;have HV:=aQ hs;clear x0 x1 x2 x3 x4 x5 x6 x7 x8 x9 fJ fI fH;obtain ⟨x0,x1,x2,x3,x4,x5,x6,x7,x8,x9,fJ,fI,fH⟩:=aC (H4.out.blk 6 QB.out)
   have HN:=aQ (show Calls Vs 8 #[J5 s.a.inc (.slice aa s.a.aZ.length ak) s.a.w s.a.t s.a.d,J5 s.b.inc (.slice ba s.b.aZ.length bk) s.b.w s.b.t s.b.d,.int .i64 s.cB,.slice ta s.there.length tk,.slice ya s.back.length yk] w3 fun e w'=>∃q,e=.returned (.pointer (some ⟨q,0,none⟩))/\dY (fun _=>False) (Old W) W (jd q s.lk::bI p s.lk::ts) w' by
    obtain ⟨hva,hvb,hd1,_⟩:=hs;obtain ⟨a1,a2,a3,a4,a5,a6⟩:=nR.V.nums hva;obtain ⟨b1,b2,b3,b4,b5,b6⟩:=nR.V.nums hvb;have k1:=H4.out.weak (T:=a_ dK (.slice aa s.a.aZ.length ak) s.a.cfg.aZ) 1 QS.out.a fun G Y hon=>uE (by rw [a6];exact hon)
    have k2:=k1.front.weak (T:=a_ dK (.slice ba s.b.aZ.length bk) s.b.cfg.aZ) 3 (by have:=QS.out.b;exact this) fun G Y hon=>uE (by rw [b6];exact hon)
    have:=OE (nR.V.ok hva) (nR.V.ok hvb) s.cB.toNat s.there s.back aa ba ta ya ak bk tk yk 1 0 5 6 (by rw [a5];rfl) (by rw [b5];rfl) QS.out.t QS.out.y k2.front;rw [a1,a2,a3,a4,a5,b1,b2,b3,b4,b5,show ((s.cB.toNat:Nat):Int)=s.cB by omega] at this;exact this.mono fun e w' ⟨q,e1,e2⟩=>⟨q,e1,dY.τ (us:=[_,_,_]) (vs:=[_]) e2 [0] (by decide) rfl⟩)
   clear hl hs;go_wp2_with fail;refine HN.out.mono ?_;rintro e w4 ⟨q,rfl,h5⟩;have H5:=aQ h5;clear h5 H4 HN x0 x1 x2 x3 x4 x5 x6 x7 x8 x9 fJ fI fH;go_wp2_with fail;go_loopw [49] (fun i wr=>∃k:Nat,k<=el.length/\i=.int .i64 (k:Int)/\Hid (dY (fun _=>False) (Old W) W (jd q (s.lk.runs (el.take k))::bI p (s.lk.runs (el.take k))::ts) wr)) (fun i _=>el.length - (intOf i).toNat)
   case atStart=>exact ⟨0,by omega,by go_num,H5⟩
   case round=>
    clear H5;obtain ⟨k,hk,rfl,HK⟩:=hrel;by_cases hlt:k < el.length
    ·obtain ⟨es,hes⟩:∃es,el[k]? = some es:=⟨el[k],Vw hlt⟩
     have hmem:=List.mem_of_getElem? hes;have HRS:=aQ (Lk.Hz s.lk hes);have he6:=HL.out.e es hmem;have HED:=aQ (HL.out.d es hmem);have hfit:=vB (el.take k) HF.out (by omega) fun x hx=>HL.out.e x (XN hx)
     have htl:(el.take k).length=k:=by rw [VW];omega
     rw [htl] at hfit;have TC:=aQ hfit;obtain ⟨L,hLE⟩:∃L,L=s.lk.runs (el.take k):=⟨_,rfl⟩;rw [<-hLE] at HK TC HRS;clear hfit htl hmem hLE;obtain ⟨_,_,hev⟩:=HK.out.get 6 QE.out;obtain ⟨b,off,xa,xc,rfl,k0,hrd⟩:=zz (show dh (Gz eU) wr _ (.slice ea el.length ec) el from hev) hes
     have H5:=aQ ((HK.out.weak (T:=a_ eU (.slice xa es.length xc) es) 6 QE.out fun G Y hon=>by
      obtain ⟨b',off',xa',xc',PR,k0',aaG⟩:=zz (show dh (Gz eU) wr Y (.slice (some ⟨b,off,none⟩) el.length ec) el from hon) hes;obtain ⟨rfl,rfl⟩:b=b'/\off=off':=by simpa using PR
      rw [k0] at k0';obtain ⟨rfl,rfl⟩:xa=xa'/\xc=xc':=by simpa using k0'
      exact aaG).front.τ (us:=[_,_,_]) (vs:=[_,_,_]) [2,0,1] (by decide) rfl)
     clear hev hrd HK hes;go_wp2_with fail;refine (qJ (ts:=a_ eU (.slice xa es.length xc) es::jd q L::ts) TC.out (by omega) es (by omega) (by omega) (fun e he=>Nat.le_trans (HED.out e he) (by decide)) _ 0 rfl HT.out H5.out).mono ?_;rintro e w4 ⟨a4,c4,rfl,h4⟩;have hal:(L.acts es).1.length=es.length:=qX es L;rw [hal] at h4 ⊢;have H6:=aQ (dY.τ (us:=[_,_,_,_]) (vs:=[_,_,_,_]) h4 [3,0,1,2] (by decide) rfl);clear h4 H5 k0;go_wp2_with fail;go_loopw [63] (fun i wr=>∃j:Nat,j<=es.length/\i=.int .i64 (j:Int)/\Hid (dY (fun _=>False) (Old W) W (jd q (L.acts (es.take j)).2::ζ dK 43 (.slice a4 es.length c4) (L.acts es).1::bI p (L.step es)::a_ eU (.slice xa es.length xc) es::ts) wr)) (fun i _=>es.length - (intOf i).toNat)
     case atStart=>exact ⟨0,VJ _,rfl,H6⟩
     case round=>
      clear H6;obtain ⟨j,hj,rfl,HK⟩:=hrel;by_cases hjl:j < es.length
      ·obtain ⟨e,he⟩:∃e,es[j]? = some e:=⟨_,Vw hjl⟩
       have HFJ:=aQ ((TC.out.acts (es.take j) (by omega)).mono (show _<=1000000 by rw [VW];omega));have HA1:=aQ (show (L.acts (es.take (j+1))).2=((L.acts (es.take j)).2.act e).2 by rw [List.take_add_one,he];exact congrArg Prod.snd (sQ _ _ _));have HAE:=aQ (show (L.acts es).1[j]? = some ((L.acts (es.take j)).2.act e).1 from Gp es L he);obtain ⟨_,_,hev⟩:=HK.out.get 3 rfl;obtain ⟨xb,xo,da,dc,rfl,hby,k0,k1,k2,k3⟩:=uW (show dh eU wr _ (.slice xa es.length xc) es from hev) he;obtain ⟨_,_,her⟩:=HK.out.get 1 rfl;obtain ⟨gb,go,eg,hg⟩:=kM (show Sq dK 43 wr _ _ (.slice a4 es.length c4) (L.acts es).1 from her) HAE.out
       have H7:=aQ ((HK.out.weak (T:=dD (.slice da e.data.length dc) e.data) 3 rfl fun G Y hon=>by
        obtain ⟨b',off',da',dc',PR,yP,_,_,_,Aq⟩:=uW (show dh eU wr Y (.slice (some ⟨xb,xo,none⟩) es.length xc) es from hon) he;obtain ⟨rfl,rfl⟩:xb=b'/\xo=off':=by simpa using PR
        rw [k3] at Aq;obtain ⟨rfl,rfl⟩:da=da'/\dc=dc':=by simpa using Aq
        exact yP).front.new (.cells #[.int .i64 e.kind,.int .i64 e.cS,.int .i64 e.cls,.slice da e.data.length dc] 42)).front
       subst eg;clear hev hby her HK he;go_wp2_with fail;generalize World.alloc wr _=wa at H7 ⊢;generalize wr.heap.size=bx at H7 ⊢;have hgl:gb < wr.heap.size\/True:=.inr trivial;obtain ⟨_,_,her⟩:=H7.out.get 3 rfl;obtain ⟨gb',go',eg,hg'⟩:=kM (show Sq dK 43 wa _ _ (.slice (some ⟨gb,go,none⟩) es.length c4) (L.acts es).1 from her) HAE.out;obtain ⟨rfl,rfl⟩:gb=gb'/\go=go':=by simpa using eg
       have HO:=aQ (Vn HFJ.out (by decide) e _ 1 rfl (dY.τ (us:=[_,_,_,_]) (vs:=[_,_,_,_]) H7.out.drew [2,0,1,3] (by decide) rfl));have hS:wa.drew.cell? ⟨gb,go+j,none⟩=some (.int .i64 (((L.acts (es.take j)).2.act e).1:Int))/\wa.drew.heap[bx]? = some (.cells #[.int .i64 e.kind,.int .i64 e.cS,.int .i64 e.cls,.slice da e.data.length dc] 42):=⟨hg',H7.out.blk 0 rfl⟩;clear hg hgl her eg hg' k0 k1 k2 k3 H7;refine η 14 (S:=fun w'=>w'.cell? ⟨gb,go+j,none⟩=some (.int .i64 (((L.acts (es.take j)).2.act e).1:Int))/\w'.heap[bx]? = some (.cells #[.int .i64 e.kind,.int .i64 e.cS,.int .i64 e.cls,.slice da e.data.length dc] 42)) (by kernel_rfl) hS (fun _=>?_);refine Du 0 13 hS ?_
       iterate 13 (refine aR (v:=?_) (by rfl) ?_ ?_;rotate_left 1;(focus ((intro w' hS';obtain ⟨g0,g1⟩:=hS';have f0:=aJ (i:=0) g1 rfl;have f1:=aJ (i:=1) g1 rfl;have f2:=aJ (i:=2) g1 rfl;have f3:=aJ (i:=3) g1 rfl;go_simp);try with_reducible rfl));simp only [VF,ag,Ψ,ae])
       refine aT ?_;refine bq 13 (fun K hK=>?_)
       (refine ν (f:=?_) (args:=?_) (by rfl) ?_ ?_;rotate_left 2;(focus (go_simp;first|(with_reducible rfl)|(refine ⟨?_,?_⟩ <;> with_reducible rfl)));(refine (HO.out).mono ?_);rintro e' w'' ⟨rfl,h8⟩;refine ⟨_,rfl,?_⟩;simp only [VF,ag,Ψ,ae])
       have hS2:w''.cell? ⟨gb,go+j,none⟩=some (.int .i64 (((L.acts (es.take j)).2.act e).1:Int))/\w''.heap[bx]? = some (.cells #[.int .i64 e.kind,.int .i64 e.cS,.int .i64 e.cls,.slice da e.data.length dc] 42):=by
        obtain ⟨_,_,her⟩:=h8.get 3 rfl;obtain ⟨gb',go',eg,hg'⟩:=kM (show Sq dK 43 w'' _ _ (.slice (some ⟨gb,go,none⟩) es.length c4) (L.acts es).1 from her) HAE.out;obtain ⟨rfl,rfl⟩:gb=gb'/\go=go':=by simpa using eg
        exact ⟨hg',h8.blk 1 rfl⟩
       refine hK.out _ _ (fun _=>hS2) ?_;have H8:=aQ (dY.τ (us:=[_,_,_,_]) (vs:=[_,_]) h8 [0,3] (by decide) rfl);clear hK K HO h8 hS hS2;refine bq 14 (fun K hK=>?_);go_simp;refine hK.out _ _ (fun e=>absurd rfl e) ?_;clear hK K;refine lG ?_;go_wp2_with fail;go_roundw
       case rel=>exact ⟨j+1,by omega,by go_num,by rw [HA1.out];exact H8⟩
       case measure=>simp [intOf];omega
      ·obtain rfl:j=es.length:=by omega
       rw [List.take_length] at HK;go_wp2_with fail;refine (LV ((TC.out.acts es (by omega)).mono (show _<=1000000 by omega)) (by decide) HK.out).mono ?_;rintro e w5 ⟨rfl,h5⟩;have Dt:=aQ ((TC.out.step (by omega) es).mono (show _<=1000000 by omega));obtain ⟨M,hM⟩:∃M,M=L.step es:=⟨_,rfl⟩;have H9:=aQ (show dY (fun _=>False) (Old W) W (jd q M::bI p M::ts) w5 by rw [hM];exact dY.τ (us:=[_,_,_,_]) (vs:=[_,_]) h5 [0,2] (by decide) rfl);have HM:=aQ (show s.lk.runs (el.take (k+1))=M by rw [HRS.out,hM]);rw [<-hM] at Dt;clear h5 HK hM TC HRS;go_wp2_with fail;go_loopw [86] (fun i wr=>∃n:Nat,n<=2/\i=.int .i64 (n:Int)/\Hid (dY (fun _=>False) (Old W) W (jd q M::bI p M::ts) wr)) (fun i _=>2 - (intOf i).toNat)
       case atStart=>exact ⟨0,by decide,rfl,H9⟩
       case round=>
        clear H9;obtain ⟨n,hn,rfl,HK⟩:=hrel;by_cases hlt2:n < 2
        ·have iN:=aQ hlt2
         have hni:(n:Int) < 2:=by omega
         obtain ⟨wd,hwd⟩:∃wd,wd=wr.drew:=⟨_,rfl⟩;have HD:=aQ (show dY (fun _=>False) (Old W) W (jd q M::bI p M::ts) wd by rw [hwd];exact HK.out.drew);obtain ⟨pp,hpo⟩:=F4 Dt.out (by decide) HD.out.flip hlt2;have Ni:=aQ (hpo.port.mono fun e w' h=>(⟨h.1,h.2.symm⟩:e=.returned (.pointer (some ⟨pp,0,none⟩))/\w'=wd));have GI:=aQ (hpo.over.mono fun e w' h=>(⟨h.1,h.2.symm⟩:e=.returned (.int .i64 ((M.nd n).prt.bL:Int))/\w'=wd));have HP3:=aQ (hpo.up.mono fun e w' h=>(⟨h.1,h.2.symm⟩:e=.returned (.bool (decide ((M.nd n).prt.cS.state=2)))/\w'=wd));obtain ⟨rp,ra,rc,c0,d1,e9,e33,-⟩:=HD.out.zo Dt.out hlt2;have n4:=(Dt.out.nd n).ok.n4;obtain ⟨St,hSt⟩:∃St,St=(M.nd n).prt.cS.state:=⟨_,rfl⟩;obtain ⟨O,hO⟩:∃O,O=(M.nd n).prt.bL:=⟨_,rfl⟩;obtain ⟨R,hR⟩:∃R,R=(M.nd n).prt.aZ.length:=⟨_,rfl⟩;rw [<-hSt] at HP3 e9;rw [<-hO] at GI e33;rw [<-hR] at d1 n4;have HR:=aQ hR;obtain ⟨b,hb1,hb2,hb3⟩:∃b,decide (St=2)=b/\((St:Int) == 2)=b/\decide ((St:Int)=2)=b:=⟨_,rfl,by by_cases h:St=2 <;> simp [h] <;> omega,by by_cases h:St=2 <;> simp [h] <;> omega⟩;rw [hb1] at HP3;obtain ⟨SS,hSS⟩:∃SS:World->Prop,SS=fun w'=>w'.cell? ⟨q,n,none⟩=some (.pointer (some ⟨rp,0,none⟩))/\w'.cell? ⟨rp,9,none⟩=some (.int .i64 (St:Int))/\w'.cell? ⟨rp,33,none⟩=some (.int .i64 (O:Int)):=⟨_,rfl⟩
         have TA:=aQ (show ∀w',SS w'->w'.cell? ⟨q,n,none⟩=some (.pointer (some ⟨rp,0,none⟩))/\w'.cell? ⟨rp,9,none⟩=some (.int .i64 (St:Int))/\w'.cell? ⟨rp,33,none⟩=some (.int .i64 (O:Int)) by rw [hSS];exact fun _ h=>h);have HSd:=aQ (show SS wd by rw [hSS];exact ⟨c0,e9,e33⟩);clear hSt hO hR hpo HK hSS hb1 e9 e33;go_wp2_with fail;refine wp_region_still_lit (by kernel_rfl) (by kernel_rfl) ?_;change wpStill _ _ (V3 wr) (fun a'=>Exit.then _ _ .normal a' (V3 wr)) _ _;rw [<-hwd];clear hwd;refine K_ ?_
         iterate 2 (first|(refine FP (by rfl) ?_;simp only [VF,ag,Ψ,ae])|(refine ze HSd.out (v:=?_) (by rfl) ?_ ?_;rotate_left 1;(focus ((intro w' hS';obtain ⟨f0,f1,f2⟩:=TA.out w' hS';go_simp);try with_reducible rfl));simp only [VF,ag,Ψ,ae]))
         refine uH (f := 12) (args := #[.pointer (some ⟨p,0,none⟩),.int .i64 (n:Int)]) (by rfl) (by go_simp) Ni.out ?_;simp only [VF,ag,Ψ,ae];refine uH (f := 13) (args := #[.pointer (some ⟨pp,0,none⟩)]) (by rfl) (by go_simp) GI.out ?_;simp only [VF,ag,Ψ,ae]
         iterate 13 (first|(refine FP (by rfl) ?_;simp only [VF,ag,Ψ,ae])|(refine ze HSd.out (v:=?_) (by rfl) ?_ ?_;rotate_left 1;(focus ((intro w' hS';obtain ⟨f0,f1,f2⟩:=TA.out w' hS';go_simp);try with_reducible rfl));simp only [VF,ag,Ψ,ae]))
         refine uH (f := 12) (args := #[.pointer (some ⟨p,0,none⟩),.int .i64 (n:Int)]) (by rfl) (by go_simp) Ni.out ?_;simp only [VF,ag,Ψ,ae];refine uH (f := 14) (args := #[.pointer (some ⟨pp,0,none⟩)]) (by rfl) (by go_simp) HP3.out ?_;simp only [VF,ag,Ψ,ae]
         iterate 13 (first|(refine FP (by rfl) ?_;simp only [VF,ag,Ψ,ae])|(refine ze HSd.out (v:=?_) (by rfl) ?_ ?_;rotate_left 1;(focus ((intro w' hS';obtain ⟨f0,f1,f2⟩:=TA.out w' hS';go_simp);try with_reducible rfl));simp only [VF,ag,Ψ,ae]))
         refine La ?_;clear TA HSd Ni GI HP3 hb2 hb3;go_wp2_with fail;go_loopw [132] (fun i wr=>∃c:Nat,c<=R/\i=.int .i64 (c:Int)/\Hid (dY (fun _=>False) (Old W) W (jd q M::bI p M::ts) wr)) (fun i _=>R - (intOf i).toNat)
         case atStart=>exact ⟨0,VJ _,rfl,HD⟩
         case round=>
          clear HD c0 d1;obtain ⟨c,hc,rfl,HK⟩:=hrel;by_cases hlc:c < R
          ·have HLC:=aQ (show c < (M.nd n).prt.aZ.length by rw [<-HR.out];exact hlc)
           obtain ⟨pp,hpo⟩:=F4 Dt.out (by decide) HK.out.flip iN.out;have Ni:=aQ hpo.port;have GI:=aQ (hpo.counts c HLC.out);clear hpo;go_wp2_with fail;refine Ni.out.mono ?_;rintro e w5 ⟨rfl,rfl⟩;go_wp2_with fail;refine GI.out.mono ?_;rintro e w6 ⟨rfl,h6⟩;have H6:=aQ h6.flip;obtain ⟨rp,ra,rc,c0,-,-,-,hq⟩:=h6.flip.zo Dt.out iN.out;obtain ⟨b1,o1,k1,b2,o2,k2,b3,o3,k3,q1,q2,q3,q4,q5,q6⟩:=hq c HLC.out;rw [<-HR.out] at q1 q2 q3;generalize (M.nd n).prt.aG.getD c 0=A at *;generalize (M.nd n).prt.aW.getD c 0=B at *;generalize (M.nd n).prt.cF.getD c 0=D at *;clear h6 HK Ni GI hq HLC;go_wp2_with fail;go_roundw
           case rel=>exact ⟨c+1,by omega,by go_num,H6⟩
           case measure=>simp [intOf];omega
          ·have aaP:¬(c:Int) < (R:Int):=by omega
           go_wp2_with fail;go_roundw
           case rel=>exact ⟨n+1,by have:=iN.out;omega,by go_num,HK⟩
           case measure=>simp [intOf];have:=iN.out;omega
        ·have hni:¬(n:Int) < 2:=by omega
         go_wp2_with fail;refine (OU Dt.out (by decide) HK.out.flip).mono ?_;rintro e w6 ⟨b1,hb1,rfl,h6⟩;have H6:=aQ h6.flip;have HB1:=aQ hb1;clear h6 HK hb1;go_wp2_with fail;refine (Im Dt.out (by decide) H6.out).mono ?_;rintro e w7 ⟨b2,hb2,rfl,h7⟩
         obtain rfl:b1=b2:=by
          have h1:=HB1.out
          cases b1 <;> cases b2 <;> simp_all
         have H7:=aQ h7;clear h7 H6 hb2 HB1
         cases b1
         all_goals
          go_wp2_with fail;go_roundw
          case rel=>exact ⟨k+1,by omega,by go_num,by rw [HM.out];exact H7⟩
          case measure=>simp [intOf];omega
    ·have hfit:=vB (el.take k) HF.out (by omega) fun x hx=>HL.out.e x (XN hx)
     have hlen:(el.take k).length<=60:=by rw [VW];omega
     have Dt:=aQ (hfit.mono (show _<=1000000 by omega));obtain ⟨M,hM⟩:∃M,M=s.lk.runs (el.take k):=⟨_,rfl⟩;have HSK:=aQ (vW (el.take k) s.Mw HF.out (by omega));rw [<-hM] at HK Dt HSK;clear hfit hlen hM;go_wp2_with fail;go_loopw [198] (fun i wr=>∃n:Nat,n<=2/\i=.int .i64 (n:Int)/\Hid (dY (fun _=>False) (Old W) W (jd q M::bI p M::ts) wr)) (fun i _=>2 - (intOf i).toNat)
     case atStart=>exact ⟨0,by decide,rfl,HK⟩
     case round=>
      clear HK;obtain ⟨n,hn,rfl,HK⟩:=hrel;by_cases hlt2:n < 2
      ·have iN:=aQ hlt2
       have hni:(n:Int) < 2:=by omega
       obtain ⟨rp,ra,rc,c0,d1,-⟩:=HK.out.zo Dt.out hlt2;have n4:=(Dt.out.nd n).ok.n4;obtain ⟨R,hR⟩:∃R,R=(M.nd n).prt.aZ.length:=⟨_,rfl⟩;rw [<-hR] at d1 n4;have HR:=aQ hR;clear hR;go_wp2_with fail;go_loopw [212] (fun i wr=>∃c:Nat,c<=R/\i=.int .i64 (c:Int)/\Hid (dY (fun _=>False) (Old W) W (jd q M::bI p M::ts) wr)) (fun i _=>R - (intOf i).toNat)
       case atStart=>exact ⟨0,VJ _,rfl,HK⟩
       case round=>
        clear HK c0 d1;obtain ⟨c,hc,rfl,HK⟩:=hrel;by_cases hlc:c < R
        ·obtain ⟨b1,o1,k1,a1,j1,b2,o2,k2,a2,j2,x1,x2,x3,x4,x5,x6⟩:=HK.out.R6 Dt.out iN.out (c:=c) (by rw [<-HR.out];exact hlc)
         rw [<-HR.out] at x1 x4;have HO:=aQ (KY Dt.out HSK.out (by decide) (c:Int) iN.out HK.out.drew.flip).1;have HT0:=aQ (show ∀w',Below wr.drew.heap.size wr.drew w'->_ from fun w' hb=>(KY Dt.out HSK.out (by decide) (c:Int) iN.out (HK.out.drew.own hb).flip).2);generalize fG (M.off (n:Int)) (c:Int)=lo at *;generalize fG (M.bu (n:Int)) (c:Int)=lt at *;have X3:=aQ x3;have X6:=aQ x6;clear x3 x6;go_wp2_with fail;refine wp_region_held_drew (S:=Below wr.heap.size wr) (by kernel_rfl) (by exact dC) (fun hS0=>?_);refine Φ 0 3 hS0 ?_
         iterate 3 refine dI ?_
         refine aT ?_;refine Φ 4 9 hS0 ?_
         iterate 9 (refine aR (v:=?_) (by rfl) ?_ ?_;rotate_left 1;(focus ((intro w' hS';have g0:=cell_later hS' x1;have g1:=cell_later hS' x2;go_simp);try with_reducible rfl));simp only [VF,ag,Ψ,ae])
         refine aT ?_;refine ah 3 (fun K hK=>?_)
         (refine ν (f:=?_) (args:=?_) (by rfl) ?_ ?_;rotate_left 2;(focus (go_simp;first|(with_reducible rfl)|(refine ⟨?_,?_⟩ <;> with_reducible rfl)));(refine (HO.out).mono ?_);rintro e' w8 ⟨a8,c8,rfl,h8⟩;refine ⟨_,rfl,?_⟩;simp only [VF,ag,Ψ,ae])
         have hS1:=hS0.trans (h8.below.mono hS0.size);have HE:=aQ (BZ _ _ lo h8.bbs (X3.out.below hS1));have HT:=aQ (HT0.out w8 h8.below);have H8:=aQ ((show dY (fun _=>False) (Old W) W (jd q M::bI p M::ts) wr from HK.out).drew.own h8.below);refine hK.out _ _ hS1 ?_;clear hK K h8 HT0 HO hS0;refine ah 13 (fun K hK=>?_)
         (refine ν (f:=?_) (args:=?_) (by rfl) ?_ ?_;rotate_left 2;(focus (go_simp;first|(with_reducible rfl)|(refine ⟨?_,?_⟩ <;> with_reducible rfl)));(refine (HE.out).mono ?_);rintro e' w9 ⟨rfl,rfl⟩;refine ⟨_,rfl,?_⟩;simp only [VF,ag,Ψ,ae])
         refine hK.out _ _ hS1 ?_;clear hK K HE;refine Φ 14 5 hS1 ?_
         iterate 5 refine dI ?_
         refine aT ?_;refine Φ 20 9 hS1 ?_
         iterate 9 (refine aR (v:=?_) (by rfl) ?_ ?_;rotate_left 1;(focus ((intro w' hS';have g0:=cell_later hS' x4;have g1:=cell_later hS' x5;go_simp);try with_reducible rfl));simp only [VF,ag,Ψ,ae])
         refine aT ?_;refine ah 19 (fun K hK=>?_)
         (refine ν (f:=?_) (args:=?_) (by rfl) ?_ ?_;rotate_left 2;(focus (go_simp;first|(with_reducible rfl)|(refine ⟨?_,?_⟩ <;> with_reducible rfl)));(refine (HT.out).mono ?_);rintro e' w9 ⟨a9,c9,rfl,h9⟩;refine ⟨_,rfl,?_⟩;simp only [VF,ag,Ψ,ae])
         have hS2:=hS1.trans (h9.below.mono hS1.size);have HE:=aQ (BZ _ _ lt h9.bbs (X6.out.below hS2));have H9:=aQ (H8.out.own h9.below);refine hK.out _ _ hS2 ?_;clear hK K h9 HT H8 hS1;refine ah 29 (fun K hK=>?_)
         (refine ν (f:=?_) (args:=?_) (by rfl) ?_ ?_;rotate_left 2;(focus (go_simp;first|(with_reducible rfl)|(refine ⟨?_,?_⟩ <;> with_reducible rfl)));(refine (HE.out).mono ?_);rintro e' PL ⟨rfl,rfl⟩;refine ⟨_,rfl,?_⟩;simp only [VF,ag,Ψ,ae])
         refine hK.out _ _ hS2 ?_;clear hK K HE;refine Φ 30 2 hS2 ?_
         iterate 2 refine dI ?_
         refine aT ?_;refine fZ ?_;clear hS2 x1 x2 x4 x5 X3 X6 HK;go_wp2_with fail;go_roundw
         case rel=>exact ⟨c+1,by omega,by go_num,H9⟩
         case measure=>simp [intOf];omega
        ·have aaP:¬(c:Int) < (R:Int):=by omega
         go_wp2_with fail;go_roundw
         case rel=>exact ⟨n+1,by have:=iN.out;omega,by go_num,HK⟩
         case measure=>simp [intOf];have:=iN.out;omega
      ·have hni:¬(n:Int) < 2:=by omega
       go_wp2_with fail;go_ret;exact ⟨rfl,HK.out.below⟩
 ·refine (R5 0 QS.out hs H2.out).mono ?_
  rintro e w2 ⟨rfl,hb⟩;have H3:=aQ (H2.out.own hb);clear hb H2 x0 x1 x2 x3 x4 x5 x6 x7 x8 x9 fJ fI fH;obtain ⟨x0,x1,x2,x3,x4,x5,x6,x7,x8,x9,fJ,fI,fH⟩:=aC (H3.out.blk 5 QB.out);go_wp2_with fail;refine (QS.out.small H3.out).mono ?_;rw [decide_eq_false hs];rintro e w3 ⟨rfl,hb⟩;have H4:=aQ (H3.out.own hb);clear hb;go_wp2_with fail;go_ret;exact ⟨rfl,H4.out.below⟩
end Go.Proofs.YtjnbanjjoomecaaGreatDoor
