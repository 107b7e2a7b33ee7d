/- Lemmas; no condition on the program. -/
import Derived.Test.YtjnbanjjoomecaaGreatDoorPkP1
import Derived.Test.YtjnbanjjoomecaaGreatDoorPkG3
import Derived.Test.YtjnbanjjoomecaaGreatDoorPkC1
import Derived.Test.YtjnbanjjoomecaaGreatDoorPkC2
import Derived.Test.YtjnbanjjoomecaaGreatDoorPkE1
import Derived.Test.YtjnbanjjoomecaaGreatDoorPkR2
namespace Go.Proofs.YtjnbanjjoomecaaGreatDoor
open Go.RowKit
open List renaming replicate→Vr, getElem?_eq_getElem→Vw, length_append→Vx, append_assoc→VE, getElem?_map→VG, take_zero→VI, length_map→VL, getElem?_append_left→VO, getElem?_append_right→VP, getElem?_eq_none→VT, range→VV, getElem?_range→VY, length_cons→VZ, length_set→Wd, mem_singleton→Wj, getElem?_set_self→Wm, take_of_length_le→Wn, append_nil→Wp, mem_map→Wx, mem_erase_of_ne→WB, not_mem_nil→WE, length_replicate→WI, foldl_cons→WM, mem_cons→WN, ext_getElem?→WQ, map_append→W9, length_take_le'→XD, takeWhile_prefix→XJ, mem_range→XO, map_map→XR, take_succ_eq_append_getElem→Yk, length_range→Ym, nodup_range→Yu, nodup_append→Zc, foldl_nil→ZA
open _root_.Go.Proofs.Tryz renaming prog→Vs
open World renaming cell?_of_block→Vt, block_lt_of_cell?→Vv, size_alloc→WW
open Nat renaming le_refl→Vu, le_trans→VC, zero_le→VJ, lt_of_lt_of_le→VX, lt_or_ge→WV, mul_one→Xi, reduceAdd→Xk, add_sub_cancel→YB, sub_self→YF
open Act renaming put→VF
open Option.some renaming inj→VM
open Region renaming wanted→VN
open _root_.Go.RowKit.Below renaming refl→VQ
open Value renaming int→VS
open Int renaming toNat_natCast→Wv
open Builtin renaming zeroCells→WJ, clear_→YC
open Oper renaming wp→WZ
open Callee renaming builtin→Xg, value→ZC
open _root_.Array renaming size_setIfInBounds→Xm
open Instr renaming index→XG
open IntKind renaming i64→XY
open Op renaming call→Yy, makeSlice→ZP
open List.Pairwise renaming map→YJ
open False renaming elim→YV
open Operand renaming func→Zp
open List.Nodup renaming not_mem_erase→ZT
open Classical renaming byContradiction→ZV
set_option maxRecDepth 100000
set_option maxHeartbeats 64000000

abbrev b_ (v:Value) (l:List (List dV)):Th:=ζ (df ψ 40) 51 v l
structure EV where
 pp:Nat
 sp:Nat
 cp:Nat
 ov:Value
 tv:Value
 nv:Value
abbrev lZ (x:aj) (v:EV):List Value:=[.pointer (some ⟨v.pp,0,none⟩),.pointer (some ⟨v.sp,0,none⟩),.pointer (some ⟨v.cp,0,none⟩),.int .i64 (x.inc:Int),v.ov,v.tv,v.nv]
abbrev bY (x:aj) (v:EV):List Th:=[bP v.pp x.prt,kW v.sp x.sc,dm v.cp x.cD,b_ v.ov x.aV,b_ v.tv x.cF,ζ dK 3 v.nv x.aE]
def gM (cs:Array Value) (o:Nat) (x:aj) (v:EV):Prop:=∀(j:Nat) (u:Value),(lZ x v)[j]? = some u->cs[o+j]? = some u
abbrev bG (cs:Array Value):Obj:=.cells cs 100
theorem dT {w:World} {p o:Nat} {cs:Array Value} {x:aj} {v:EV} (he:gM cs o x v) (h:w.heap[p]? = some (bG cs)) :
  w.cell? ⟨p,o,none⟩=some (.pointer (some ⟨v.pp,0,none⟩))/\w.cell? ⟨p,o+1,none⟩=some (.pointer (some ⟨v.sp,0,none⟩))/\w.cell? ⟨p,o+2,none⟩=some (.pointer (some ⟨v.cp,0,none⟩))/\w.cell? ⟨p,o+3,none⟩=some (.int .i64 (x.inc:Int)) /\
  w.cell? ⟨p,o+4,none⟩=some v.ov/\w.cell? ⟨p,o+5,none⟩=some v.tv/\w.cell? ⟨p,o+6,none⟩=some v.nv:=
 ⟨aJ h (he 0 _ rfl),aJ h (he 1 _ rfl),aJ h (he 2 _ rfl),aJ h (he 3 _ rfl),aJ h (he 4 _ rfl),aJ h (he 5 _ rfl),aJ h (he 6 _ rfl)⟩
theorem dY.QQ {F Z:BS} {W w:World} {ts:List Th} {α : Type} {E:El α} {T:TypeId} {v:Value} {xs:List α} (h:dY F Z W ts w) (i:Nat) (hi:ts[i]? = some (ζ E T v xs)) (hc:∀ {w A B cs a},E.rd w A B cs a->E.rd w (fun _=>False) (fun k=>A k\/B k) cs a) :
  dY F Z W (ts.set i (a_ E v xs)) w:=by
 obtain ⟨G,Y,hon,_,_,_,hback⟩:=h.use i hi;have:=hback w (a_ E v xs) [] ⟨Fr.refl _ _,fun k=>G k\/Y k,fun k hk=>hk.elim (fun g=>.inr (.inl g)) .inl,Star.one (F:=fun k=>(G k\/w.heap.size<=k)/\¬(G k\/Y k)) (T:=a_ E v xs) (dh.mono (Sq.rd (show Sq E T w G Y v xs from hon) hc) fun _ h=>h)⟩;rwa [Wp] at this
section
variable {Z:BS} {W w:World} {ts:List Th} {p o:Nat} {cs:Array Value} {x:aj} {v:EV}
def aj.upto (x:aj) (k j:Nat):Sc × List Pk:=x.sc.scan ((x.cD.cR.1.take k).flatten++(x.cD.cR.1.getD k []).take j)
theorem xM (x:aj) (k j:Nat) (h:j < (x.cD.cR.1.getD k []).length):x.upto k (j+1)=(((x.upto k j).1.push ((x.cD.cR.1.getD k []).getD j 0)).1,(x.upto k j).2++((x.upto k j).1.push ((x.cD.cR.1.getD k []).getD j 0)).2.toList):=by
 unfold aj.upto;rw [kD _ j 0 h,<-VE,Sc.lW];simp [Sc.scan]
theorem xN (x:aj) (k j:Nat) (hk:k < x.cD.cR.1.length) (h:(x.cD.cR.1.getD k []).length<=j):x.upto k j=x.upto (k+1) 0:=by
 unfold aj.upto;rw [Wn h,kD _ k [] hk,List.flatten_append,VI,Wp];simp
theorem Be (x:aj) (k:Nat) (h:x.cD.cR.1.length<=k):x.upto k 0=x.sc.scan x.cD.cR.1.flatten:=by
 unfold aj.upto;rw [Wn h,VI,Wp]
theorem BV:∀ {l:List iw},(∀s ∈ l,s.length<=170)->l.flatten.length<=170*l.length
 |[],_=>VJ _
 |s::l,h=>by
  have h1:=h s (List.mem_cons_self ..);have h2:=BV fun t ht=>h t (List.mem_cons_of_mem _ ht)
  rw [List.flatten_cons,Vx,VZ];omega
theorem Bd {x:aj} (h:∀s ∈ x.cD.cR.1,s.length<=170) (h64:x.cD.cR.1.length<=64) (k j:Nat):(x.upto k j).1.bad<=x.sc.bad+11050/\(x.upto k j).2.length<=11050:=by
 have h1:=BV (l:=x.cD.cR.1.take k) fun s hs=>h s (List.mem_of_mem_take hs)
 have h2:(x.cD.cR.1.take k).length<=64:=VC (XD _ _) h64;have h3:((x.cD.cR.1.getD k []).take j).length<=170:=VC (XD _ _) (bM (P:=fun l:iw=>l.length<=170) h (by simp) k);have h4:=Bl x.sc ((x.cD.cR.1.take k).flatten++(x.cD.cR.1.getD k []).take j);have h5:=pO x.sc ((x.cD.cR.1.take k).flatten++(x.cD.cR.1.getD k []).take j);rw [Vx] at h4 h5;unfold aj.upto;omega
abbrev mW (p:Nat) (cs:Array Value) (x:aj) (v:EV) (av fv:Value) (r:Sc × List Pk):List Th:=
 [ζ d_ 103 fv (r.2.map Pk.pt),ζ ψ 40 av x.cD.cR.1,dJ p (bG cs),bP v.pp x.prt,kW v.sp r.1,dm v.cp x.cD.cR.2,b_ v.ov x.aV,b_ v.tv x.cF,ζ dK 3 v.nv x.aE]
theorem CX {N:Nat} (ok:x.prt.Ok N) (hN:N<=900000000) (hm:x.prt.Min) (hl:∀s ∈ x.cD.cR.1,s.length<=170) (h64:x.cD.cR.1.length<=64) (hfl:x.cD.aL.length<=64) (htk:x.cD.cC < 1000000000) (hbd:x.sc.bad<=880000)
  (hf:(x.sc.scan x.cD.cR.1.flatten).2.length<=64) (hg:∀y ∈ (x.sc.scan x.cD.cR.1.flatten).2.map Pk.pt,y.pay.length<=1000) (ht:lH W) (he:gM cs o x v) (h:dY (fun _=>False) Z W (dJ p (bG cs)::(bY x v++ts)) w) :
  Calls Vs 32 #[.pointer (some ⟨p,o,none⟩)] w fun e w'=>∃(a:Option Addr) (c:Nat),e=.returned (.slice a x.cR.1.length c)/\dY (fun _=>False) Z W (ζ d_ 103 (.slice a x.cR.1.length c) x.cR.1::dJ p (bG cs)::(bY x.cR.2 v++ts)) w':=by
 obtain ⟨c0,c1,c2,_,_,_,_⟩:=dT he (h.blk 0 rfl);have HT:=aQ ht;have HE:=aQ he;have HH:=aQ h;have Ul:=aQ (Bd hl h64);have HL:=aQ hl;have HG:=aQ hg;have bz:=aQ ok;have HM:=aQ hm;clear ht he h hl hg ok hm;go_enter Tryz.func32,Tryz.ntmps32;go_wp2_with fail;refine (RQ HH.out 3 rfl (by omega) htk).mono ?_;rintro e w1 ⟨aa,ac,rfl,h1⟩;have H1:=aQ (show dY (fun _=>False) Z W (mW p cs x v (.slice aa x.cD.cR.1.length ac) (.slice none 0 0) (x.upto 0 0)++ts) w1 from (dY.jW (E:=d_) (T := 103) h1.front));clear h1 HH c0 c1 c2;go_wp2_with fail
 go_loopw [3,16] (fun u i wr=>∃k:Nat,k<=x.cD.cR.1.length/\i=.int .i64 (k:Int)/\∃(a:Option Addr) (c:Nat),u=.slice a ((x.upto k 0).2.map Pk.pt).length c /\
  Hid (dY (fun _=>False) Z W (mW p cs x v (.slice aa x.cD.cR.1.length ac) (.slice a ((x.upto k 0).2.map Pk.pt).length c) (x.upto k 0)++ts) wr)) (fun _ i _=>x.cD.cR.1.length - (intOf i).toNat)
 case atStart=>exact ⟨0,by omega,by go_num,none,0,rfl,H1⟩
 case round=>
  clear H1;obtain ⟨k,hk,rfl,a,c,rfl,HH⟩:=hrel;by_cases hlt:k < x.cD.cR.1.length
  ·obtain ⟨_,_,har⟩:=HH.out.get 1 rfl
   have hx:=bT (d:=[]) hlt;obtain ⟨bb,off,va,vc,rfl,hcell,hby⟩:=zh (show Sq ψ 40 wr _ _ (.slice aa x.cD.cR.1.length ac) x.cD.cR.1 from har) hx
   have H0:=aQ (HH.out.weak (T:=dD (.slice va (x.cD.cR.1.getD k []).length vc) (x.cD.cR.1.getD k [])) 1 rfl fun G Y hon=>by
    obtain ⟨b2,o2,JE,vc2,e2,hc2,hb2⟩:=zh (show Sq ψ 40 wr G Y (.slice (some ⟨bb,off,none⟩) x.cD.cR.1.length ac) x.cD.cR.1 from hon) hx;obtain ⟨rfl,rfl⟩:bb=b2/\off=o2:=by simpa using e2
    rw [hcell] at hc2;obtain ⟨rfl,rfl⟩:va=JE/\vc=vc2:=by simpa using hc2
    exact hb2).front
   have hhl:(x.cD.cR.1.getD k []).length<=170:=bM (P:=fun l:iw=>l.length<=170) HL.out (by decide) k;have HUF:=aQ (xN x k (x.cD.cR.1.getD k []).length hlt (Vu _));have HUN:=aQ (xM x k);clear har hby hx HH;generalize x.cD.cR.1.getD k []=tr at *;go_wp2_with fail
   go_loopw [3,22] (fun u i wr=>∃j:Nat,j<=tr.length/\i=.int .i64 (j:Int)/\∃(a:Option Addr) (c:Nat),u=.slice a ((x.upto k j).2.map Pk.pt).length c /\
    Hid (dY (fun _=>False) Z W (dD (.slice va tr.length vc) tr::(mW p cs x v (.slice (some ⟨bb,off,none⟩) x.cD.cR.1.length ac) (.slice a ((x.upto k j).2.map Pk.pt).length c) (x.upto k j)++ts)) wr)) (fun _ i _=>tr.length - (intOf i).toNat)
   case atStart=>exact ⟨0,by omega,by go_num,a,c,rfl,H0⟩
   case round=>
    clear H0 hcell;obtain ⟨j,hj,rfl,a,c,rfl,HH⟩:=hrel;have Jw:=Ul.out k j;by_cases hlj:j < tr.length
    ·obtain ⟨c0,c1,c2,_,_,_,_⟩:=dT HE.out (HH.out.blk 3 rfl)
     obtain ⟨_,_,hby⟩:=HH.out.get 0 rfl;obtain ⟨_,⟨h0,_⟩|⟨b3,o3,cp,e3,_,_,_,hc⟩⟩:=(show By wr (.slice va tr.length vc) tr from hby.1).cases
     ·rw [h0] at hlj;simp at hlj
     ·obtain ⟨rfl,rfl⟩:va=some ⟨b3,o3,none⟩/\vc=cp:=by simpa using e3
      have hcj:=hc j hlj;have HST:=aQ (HUN.out j hlj);clear hc e3 hby;generalize tr.getD j 0=y at *;generalize hsc:x.upto k j=sl at *;have HSC:=aQ hsc;clear hsc;obtain ⟨s,l⟩:=sl;dsimp only at Jw HH HST;dsimp only;go_wp2_with fail;refine (R_ HH.out 5 rfl y (HH.out.tabs HT.out) (show s.bad < 900000 by omega)).mono ?_;rintro e w4 ⟨r,f,ra,rc,rfl,hf,hr,h4⟩;have H4:=aQ h4.front;clear h4 hcj;go_upto_region 9 with (fail)
      obtain ⟨w5,wL⟩:∃w5,w5=w4.alloc (.cells #[.int .u8 (U r.kind),.int .i64 r.cls,.int .i64 r.number,.int .i64 r.value,.slice ra r.pay.length rc] 103):=⟨_,rfl⟩;have HP5:=aQ (show w5.heap[w4.heap.size]? = some (.cells #[.int .u8 (U r.kind),.int .i64 r.cls,.int .i64 r.number,.int .i64 r.value,.slice ra r.pay.length rc] 103) by rw [wL];exact heap_alloc_new w4 _);have H5:=aQ (show dY (fun _=>False) Z W (dD (.slice ra r.pay.length rc) r.pay::dD (.slice (some ⟨b3,o3,none⟩) tr.length vc) tr::(mW p cs x v (.slice (some ⟨bb,off,none⟩) x.cD.cR.1.length ac) (.slice a (l.map Pk.pt).length c) ((s.push y).1,l)++ts)) w5 by rw [wL];exact H4.out.own (aK w4 _));rw [<-wL];clear wL H4
      cases f with
      |false=>
       have xD:=aQ (show x.upto k (j+1)=((s.push y).1,l) by rw [HST.out,hf];simp);clear hf hr;go_wp2_with fail;go_roundw
       case rel=>exact ⟨j+1,by omega,by go_num,a,c,by rw [xD.out,VL],by rw [xD.out];exact aQ H5.out.tail⟩
       case measure=>simp [intOf];omega
      |true=>
       have xD:=aQ (show x.upto k (j+1)=((s.push y).1,l++[r]) by rw [HST.out,hf];simp);clear hf hr;obtain ⟨d0,d1,d2,d3,d4⟩:=aO HP5.out;go_wp2_with (at_builtin;refine gu (x:=r.pt) rfl _ _ rfl H5.out 2 rfl (fun Y hO=>by obtain ⟨H,_,hh⟩:=hO 0 _ (by decide) rfl;exact hh) (aK w5 _) (by rw [VL];omega) (by rw [VL];rfl) w5.heap.size rfl (heap_alloc_new w5 _) ?_;intro a' c' w6 h6;have H6:=aQ (show dY (fun _=>False) Z W (dD (.slice ra r.pay.length rc) r.pay::dD (.slice (some ⟨b3,o3,none⟩) tr.length vc) tr::(mW p cs x v (.slice (some ⟨bb,off,none⟩) x.cD.cR.1.length ac) (.slice a' ((l++[r]).map Pk.pt).length c') ((s.push y).1,l++[r])++ts)) w6 by dsimp only [mW];rw [W9];exact h6);clear h6);go_roundw
       case rel=>exact ⟨j+1,by omega,by go_num,a',c',by rw [xD.out,VL,Vx];rfl,by rw [xD.out];exact aQ H6.out.tail⟩
       case measure=>simp [intOf];omega
    ·obtain rfl:j=tr.length:=by omega
     rw [HUF.out] at HH ⊢;go_wp2_with fail;go_roundw
     case rel=>exact ⟨k+1,by omega,by go_num,a,c,rfl,aQ HH.out.tail⟩
     case measure=>simp [intOf];omega
  ·have HU:=aQ (Be x k (by omega))
   rw [HU.out] at HH ⊢;have sV:=aQ (show x.cR=((x.prt.cR ((x.sc.scan x.cD.cR.1.flatten).2.map Pk.pt)).1,{ x with prt:=(x.prt.cR ((x.sc.scan x.cD.cR.1.flatten).2.map Pk.pt)).2,sc:=(x.sc.scan x.cD.cR.1.flatten).1,cD:=x.cD.cR.2 }) from rfl);clear HU Ul HL;generalize x.sc.scan x.cD.cR.1.flatten=sl at *;obtain ⟨s,l⟩:=sl;dsimp only at HH sV hf HG;dsimp only;have hlm:(l.map Pk.pt).length=l.length:=VL _;generalize hl2:l.map Pk.pt=l2 at *;obtain ⟨c0,c1,c2,_,_,_,_⟩:=dT HE.out (HH.out.blk 2 rfl)
   have h1:dY (fun _=>False) Z W ([ζ d_ 103 (.slice a l2.length c) l2,ζ ψ 40 (.slice aa x.cD.cR.1.length ac) x.cD.cR.1,dJ p (bG cs),bP v.pp x.prt,kW v.sp s,dm v.cp x.cD.cR.2,b_ v.ov x.aV,b_ v.tv x.cF,ζ dK 3 v.nv x.aE]++ts) wr:=by
    have:=HH.out;dsimp only [mW] at this;rw [hl2] at this;exact this
   have H2:=aQ ((h1.QQ 0 rfl qg).τ (us:=[a_ d_ (.slice a l2.length c) l2,ζ ψ 40 (.slice aa x.cD.cR.1.length ac) x.cD.cR.1,dJ p (bG cs),bP v.pp x.prt,kW v.sp s,dm v.cp x.cD.cR.2,b_ v.ov x.aV,b_ v.tv x.cF,ζ dK 3 v.nv x.aE])
    (vs:=[bP v.pp x.prt,a_ d_ (.slice a l2.length c) l2,dJ p (bG cs),kW v.sp s,dm v.cp x.cD.cR.2,b_ v.ov x.aV,b_ v.tv x.cF,ζ dK 3 v.nv x.aE]) [3,0,2,4,5,6,7,8] (by decide) rfl)
   have hll:l2.length<=64:=by omega
   clear HH h1 hlm hl2;go_wp2_with fail;refine (RS l2 _ bz.out HM.out (by omega) HG.out H2.out 0 rfl).mono ?_;rintro e w5 ⟨sa,sc,rfl,h5⟩
   have H5:=aQ (h5.τ (us:=[ζ d_ 103 (.slice sa (x.prt.cR l2).1.length sc) (x.prt.cR l2).1,bP v.pp (x.prt.cR l2).2,a_ d_ (.slice a l2.length c) l2,dJ p (bG cs),kW v.sp s,dm v.cp x.cD.cR.2,b_ v.ov x.aV,b_ v.tv x.cF,ζ dK 3 v.nv x.aE])
    (vs:=[ζ d_ 103 (.slice sa (x.prt.cR l2).1.length sc) (x.prt.cR l2).1,dJ p (bG cs),bP v.pp (x.prt.cR l2).2,kW v.sp s,dm v.cp x.cD.cR.2,b_ v.ov x.aV,b_ v.tv x.cF,ζ dK 3 v.nv x.aE]) [0,3,1,4,5,6,7,8] (by decide) rfl)
   clear h5 H2;go_wp2_with fail;go_ret;rw [sV.out];exact ⟨sa,sc,rfl,H5.out⟩
end

theorem dY.tu {F Z:BS} {W w:World} {ts:List Th} (h:dY F Z W ts w) (i:Nat) {T2:TypeId} {b off n cap:Nat} {iI:List (List dV)} {xs:List dV} (hi:ts[i]? = some (ζ (df ψ 40) T2 (.slice (some ⟨b,off,none⟩) n cap) iI)) {c:Nat} (hc:iI[c]? = some xs) (j:Nat) (hji:j≠i) {dv:Value} {d:dV} (hj:ts[j]? = some (dD dv d)) :
  ∃va vc K us,w.cell? ⟨b,off+c,none⟩=some (.slice va xs.length vc)/\Sl w K 40 1 (.slice va xs.length vc) xs.length us/\(∀(p:Nat) (j:Nat) (T':Th),j≠i->ts[j]? = some T'->(∀H Y,T'.on w H Y->H p\/Y p)->¬K p)/\¬K b /\
   ∀(w1 w2:World) (v2:Value),Below w.heap.size w w1->Sl w2 (fun k=>K k\/w1.heap.size<=k) 40 1 v2 (xs.length+1) (us++[dv])->Fr K w1 w2 ->
    ∃g2 cz cap2,v2=.slice (some ⟨g2,cz,none⟩) (xs.length+1) cap2/\w2.cell? ⟨b,off+c,none⟩=some (.slice va xs.length vc)/\(∀j,w2.frozen? ⟨b,j,none⟩=false) /\
     dY F Z W (ts.set i (ζ (df ψ 40) T2 (.slice (some ⟨b,off,none⟩) n cap) (iI.set c (xs++[d])))) (w2.setCell ⟨b,off+c,none⟩ v2):=by
 have hil:=aA hi;obtain ⟨vc,je,hout⟩:=h.out i hi hc
 have hg:(ts.set i (ζ (jm (df ψ 40)) T2 (.slice (some ⟨b,off,none⟩) n cap) ((iI.map some).set c none))++[ζ ψ 40 vc xs])[ts.length]? = some (ζ ψ 40 vc xs):=by
  rw [VP (by simp),Wd,YF];rfl
 obtain ⟨_,_,eD⟩:=hout.get _ hg;obtain ⟨va,k2,rfl⟩:=Sq.shape (show Sq ψ 40 w _ _ vc xs from eD);obtain ⟨K,us,hsl,hKn,hback⟩:=hout.app _ hg;have hbl:b < w.heap.size:=Vv w _ je
 have hget:∀(j:Nat) (T':Th),j≠i->ts[j]? = some T'->(ts.set i (ζ (jm (df ψ 40)) T2 (.slice (some ⟨b,off,none⟩) n cap) ((iI.map some).set c none))++[ζ ψ 40 (.slice va xs.length k2) xs])[j]? = some T':=fun j T' hj hT=>by
  rw [VO (by rw [Wd];exact aA hT),List.getElem?_set_ne (fun e=>hj e.symm)];exact hT
 have hKb:¬K b:=hKn b i (ζ (jm (df ψ 40)) T2 (.slice (some ⟨b,off,none⟩) n cap) ((iI.map some).set c none)) (by omega) (by rw [VO (by rw [Wd];exact hil),Wm hil]) fun H Y h=>.inl (Sq.free (show Sq _ _ _ H Y _ _ from h)).2.1
 refine ⟨va,k2,K,us,je,hsl,fun p j T' hj hT hp=>hKn p j T' (by have:=aA hT;omega) (hget j T' hj hT) hp,hKb,fun w1 w2 v2 hb hsl2 hfr=>?_⟩;obtain ⟨g2,cz,cap2,rfl,_⟩:=Sl.head hsl2 (by omega)
 have hs4:=hback w1 w2 [dv] [d] _ hb hsl2 hfr fun Y hO=>by
  obtain ⟨H,_,hh⟩:=hO j _ (by have:=aA hj;omega) (hget j _ hji hj);exact ⟨fun _=>False,Y,fun _ f=>f.elim,fun _ y=>.inl y,fun _ f=>f.elim,fK.single (E:=ψ) ⟨_,rfl,fE.below hh hb⟩⟩
 rw [List.set_append_right _ _ (by simp),Wd,YF,Ψ] at hs4;have hs5:=dY.back (c:=c) (Gr:=iI.set c (xs++[d])) hs4 i (Wm hil) (by rw [Wd,VL];exact aA hc) j_;rw [List.set_set] at hs5;refine ⟨g2,cz,cap2,rfl,(Vt (hfr.block b (VX hbl hb.size) hKb)).trans ((Vt (hb.block b hbl)).trans je),?_,hs5⟩;obtain ⟨_,_,hh⟩:=hs4.get i (T:=ζ (jm (df ψ 40)) T2 (.slice (some ⟨b,off,none⟩) n cap) ((iI.map some).set c none)) (by rw [VO (by rw [Wd];exact hil),Wm hil]);exact (Sq.free (show Sq (jm (df ψ 40)) T2 w2 _ _ (.slice (some ⟨b,off,none⟩) n cap) ((iI.map some).set c none) from hh)).2.2.2
section
variable {Z:BS} {W w:World} {ts:List Th} {p o:Nat} {cs:Array Value} {x:aj} {v:EV}
theorem yo {N:Nat} (hi:x.Inv N) (hN:N<=900000000) (htl:x.cF.length=x.prt.aZ.length) (c:Int) (he:gM cs o x v) (h:dY (fun _=>False) Z W (dJ p (bG cs)::(bY x v++ts)) w) :
  Calls Vs 60 #[.pointer (some ⟨p,o,none⟩),.int .i64 c] w fun e w'=>e=.returned (.int .i64 ((x.take c).1:Int))/\dY (fun _=>False) Z W (dJ p (bG cs)::(bY (x.take c).2 v++ts)) w':=by
 obtain ⟨c0,_,_,_,_,c5,_⟩:=dT he (h.blk 0 rfl);have HH:=aQ h
 cases hp:x.prt.jY c with
 |none=>
  have HT:=aQ (show x.take c=(7,x) by
   have:x.prt.take c=(none,x.prt):=by unfold δ.take;rw [hp]
   unfold aj.take;rw [this])
  have HP:=aQ hp;have bz:=aQ hi.ok;clear h he hi hp;go_enter Tryz.func60,Tryz.ntmps60;go_wp2_with fail;refine (Oq HH.out 1 rfl bz.out c HP.out).mono ?_;rintro e w' ⟨rfl,rfl⟩;go_wp2_with fail;go_ret;rw [HT.out];exact ⟨rfl,HH.out⟩
 |some d=>
  have hh:x.prt.has c:=by
   unfold δ.jY at hp;split at hp
   ·assumption
   ·cases hp
  obtain ⟨m,rfl⟩:∃m:Nat,c=(m:Int):=⟨c.toNat,by have:=hh.1;omega⟩;have hm:m < x.prt.aZ.length:=by have:=hh.2;omega
  obtain ⟨l,hl⟩:∃l,x.prt.aY.getD m []=d::l:=by
   unfold δ.jY at hp;rw [if_pos hh,Wv] at hp
   cases hb:x.prt.aY.getD m [] with
   |nil=>rw [hb] at hp;cases hp
   |cons y l=>rw [hb] at hp;injection hp with hp;rw [hp];exact ⟨l,rfl⟩
  have HT:=aQ (show x.take (m:Int)=(0,{ x with prt:=(x.prt.take (m:Int)).2,cF:=x.cF.set m (x.cF.getD m []++[d]) }) by
   have:(x.prt.take (m:Int)).1=some d:=by unfold δ.take;rw [hp]
   unfold aj.take
   rcases hq:x.prt.take (m:Int) with ⟨q,r⟩
   rw [hq] at this;dsimp only at this;subst this;rfl)
  have bz:=aQ hi.ok;have HTB:=aQ hi.tb;have HE:=aQ he;have n1:=hi.ok.n1;have n4:=hi.ok.n4;obtain ⟨HML,xD⟩:Hid (m < x.prt.aZ.length)/\Hid (x.prt.aY.getD m []=d::l):=⟨aQ hm,aQ hl⟩;clear h he hi hp hh hl c5;go_enter Tryz.func60,Tryz.ntmps60;go_wp2_with fail;refine (Lv HH.out 1 rfl bz.out (by omega) m HML.out d l xD.out).mono ?_;rintro e w2 ⟨dv,rfl,h2'⟩;have hth:=dY.front (ts:=dJ p (bG cs)::(bY { x with prt:=(x.prt.take (m:Int)).2 } v++ts)) h2';have h2:dY (fun _=>False) Z W (dD dv d::dJ p (bG cs)::(bY { x with prt:=(x.prt.take (m:Int)).2 } v++ts)) w2:=hth;clear h2' hth HH c0;obtain ⟨c0,_,_,_,_,c5,_⟩:=dT HE.out (h2.blk 1 rfl);obtain ⟨_,_,htk⟩:=h2.get 6 rfl;obtain ⟨b1,o1,k1,e1,m1,nG⟩:=bR (show Sq (df ψ 40) 51 w2 _ _ v.tv x.cF from htk) (by omega);obtain ⟨_,_,hby⟩:=h2.get 0 rfl;obtain ⟨da,dc,e2⟩:=fE.slice (show fE w2 _ dv d from hby);subst e2;have hx:=bT (d:=[]) (show m < x.cF.length by omega);have hxl:=bM (P:=fun l:List dV=>l.length<=N) HTB.out (d:=[]) (VJ _) m;have h2s:dY (fun _=>False) Z W ([dD (.slice da d.length dc) d,dJ p (bG cs),bP v.pp (x.prt.take (m:Int)).2,kW v.sp x.sc,dm v.cp x.cD,b_ v.ov x.aV,b_ (.slice (some ⟨b1,o1,none⟩) x.cF.length k1) x.cF,ζ dK 3 v.nv x.aE]++ts) w2:=by rw [<-e1];exact h2
  obtain ⟨va,vc,K',us,je,hsl,hKn,hKb,hback⟩:=h2s.tu 6 rfl hx 0 (by decide) rfl;have o5:¬K' p:=hKn p 1 _ (by decide) rfl fun _ _ h=>.inl h.2
  have HB:=aQ (show ¬b1=p from fun e=>h2s.apart 1 6 (by decide) rfl rfl (fun _ _ h=>h.2) (fun _ _ h=>(Sq.free (show Sq _ _ _ _ _ _ _ from h)).2.1) e.symm);rw [e1] at c5;have hlt:m < x.cF.length:=by omega
  obtain ⟨xs,hxs⟩:∃xs,xs=x.cF.getD m []:=⟨_,rfl⟩;have uA:=aQ hxs;rw [<-hxs] at je hsl hback hxl;have gK:=aQ hsl;have fP:=aQ hback;have HXN:=aQ (show xs.length+1<=1000000000 by omega);have JR:=aQ o5;have sW:=aQ e1;clear hxs hback hsl hKn hxl hx nG htk hby h2s h2 o5 hKb e1 htl hm n1 n4 hN;go_wp2_with fail;refine wp_region_held_drew (S:=fun w'=>w'.cell? ⟨p,o+5,none⟩=some (.slice (some ⟨b1,o1,none⟩) x.cF.length k1)) (by kernel_rfl) c5 (fun hS0=>?_);refine Φ 0 11 hS0 ?_
  iterate 11 refine dI ?_
  refine aT ?_;refine Φ 12 1 hS0 ?_;refine dI ?_;refine aT ?_;have hvd:w2.drew.cell? ⟨b1,o1+m,none⟩=some (.slice va xs.length vc):=je;have uM:=aQ (show Below w2.heap.size w2 w2.drew from bS w2 1);have De:=aQ (show Sl w2.drew K' 40 1 (.slice va xs.length vc) xs.length us from gK.out.drew);clear gK;obtain ⟨wd,hwd⟩:∃wd,wd=w2.drew:=⟨_,rfl⟩;rw [<-hwd] at hvd uM De hS0 ⊢;clear hwd;have hal:(wd.alloc (.cells #[.slice da d.length dc] 40)).cell? ⟨p,o+5,none⟩=some (.slice (some ⟨b1,o1,none⟩) x.cF.length k1):=aI _ _ hS0;have aaV:(wd.alloc (.cells #[.slice da d.length dc] 40)).cell? ⟨b1,o1+m,none⟩=some (.slice va xs.length vc):=aI _ _ hvd;refine gm 11 13 (by kernel_rfl) rfl rfl (fun K hK=>?_) (fun K hK=>?_)
  focus
   go_simp;refine hK.out _ _ hS0 ?_;clear hK K;refine ah 13 (fun K hK=>?_);go_simp;refine hK.out _ _ hal ?_;clear hK K
  rotate_left
  focus
   go_simp;refine hK.out _ _ hal ?_;clear hK K;refine ah 11 (fun K hK=>?_);go_simp;refine hK.out _ _ hal ?_;clear hK K
  all_goals
   refine ah 14 (fun K hK=>?_);refine υ qA rfl _ _ rfl K' (.slice va xs.length vc) xs.length us rfl (De.out.alloc _) _ 1 [.slice da d.length dc] rfl (iA _ _ _ _ rfl) (by intro u hu;simp at hu;subst hu;rfl) (by unfold maxLen;have:=HXN.out;omega) (by have:=HXN.out;omega) ?_;intro v2 w3 uN p9;obtain ⟨g2,cz,cap2,rfl,k0,kf,JN⟩:=fP.out _ w3 v2 (uM.out.trans ((aK wd _).mono uM.out.size)) uN p9;have NG:=aQ JN;have hx3:w3.cell? ⟨p,o+5,none⟩=some (.slice (some ⟨b1,o1,none⟩) x.cF.length k1):=(Vt (p9.block p (Vv _ _ hal) JR.out)).trans hal;clear uN p9 fP De JN hal aaV hS0;refine hK.out _ _ hx3 ?_;clear hK K;simp only [VF,ag,Ψ,ae];refine ah 15 (fun K hK=>?_);go_simp;refine hK.out _ _ hx3 ?_;clear hK K;refine ah 16 (fun K hK=>?_);go_simp;refine hK.out _ _ (oI (fun e=>HB.out e.symm) hx3) ?_;clear hK K;refine fZ ?_;go_wp2_with fail;go_ret;rw [HT.out,<-uA.out];refine ⟨rfl,?_⟩;show dY _ Z W (dJ p (bG cs)::bP v.pp _::kW v.sp x.sc::dm v.cp x.cD::b_ v.ov x.aV::b_ v.tv _::ζ dK 3 v.nv x.aE::ts) _;rw [sW.out];exact NG.out.tail
theorem IG {F Z:BS} {W w:World} {ts:List Th} {p:Nat} {a:δ} {N:Nat} (h:dY F Z W ts w) (i:Nat) (hi:ts[i]? = some (bP p a)) (hok:a.Ok N):∃ra rc,w.cell? ⟨p,1,none⟩=some (.slice ra a.aZ.length rc):=by
 obtain ⟨G,Y,x,hst⟩:=h.get i hi;obtain ⟨rv,sp,ap,wv,bv,fu,eO,fq,fw,ig,kv,fM,rev,fD⟩:=x;have hrow:=(hst.get (i:=0) rfl).1;obtain ⟨_,c1,_⟩:=aB hrow;have hr:=hst.get (i:=1) rfl;obtain ⟨rb,ro,rc,e,_,_⟩:=bR (show Sq dK 3 w _ _ rv a.aZ from hr) hok.n1;dsimp only at c1;exact ⟨_,_,by rw [c1,e]⟩
theorem wB {N:Nat} (hi:x.Inv N) (hN:N<=900000000) (hol:x.aV.length=x.prt.aZ.length) (c:Int) (dv:Value) (d:dV) (hd:d.length<=9223372036854775807) (j:Nat) {T:Th} (hT:Reads T dv d) (hj:ts[j]? = some T) (he:gM cs o x v) (h:dY (fun _=>False) Z W (dJ p (bG cs)::(bY x v++ts)) w) :
  Calls Vs 59 #[.pointer (some ⟨p,o,none⟩),.int .i64 c,dv] w fun e w'=>e=.returned (.int .i64 ((x.dQ c d).1:Int))/\dY (fun _=>False) Z W (dJ p (bG cs)::(bY (x.dQ c d).2 v++ts)) w':=by
 obtain ⟨c0,_,_,_,_,_,_⟩:=dT he (h.blk 0 rfl);have HH:=aQ h
 have TV:(dJ p (bG cs)::(bY x v++ts))[j+7]? = some T:=by
  show (bY x v++ts)[j+6]? = _;rw [VP (by simp)];exact hj
 have HJ:=aQ TV;obtain ⟨_,_,JM⟩:=h.get _ TV;have hby:=hT _ _ _ JM;obtain ⟨da,dc,e2⟩:=By.slice hby;subst e2;have PX:=aQ hT;clear JM hT;have bz:=aQ hi.ok;obtain ⟨ra,rc,hr1⟩:=IG h 1 rfl hi.ok;have HR:=aQ hr1;have hsl:=hi.sl;have n1:=hi.ok.n1;have n4:=hi.ok.n4;by_cases h1:¬x.prt.has c\/64 < d.length
 ·have HT:=aQ (show x.dQ c d=(2,x) by unfold aj.dQ δ.dQ;rw [if_pos h1,if_neg (by show ¬(2:Nat)=0;omega)])
  have HC:=aQ (show c < 0\/(x.prt.aZ.length:Int)<=c\/64 < d.length by
   rcases h1 with h1|h1
   ·by_cases h0:c < 0
    ·exact .inl h0
    ·exact .inr (.inl (by have:¬c < x.prt.aZ.length:=fun q=>h1 ⟨by omega,q⟩;omega))
   ·exact .inr (.inr h1))
  clear h he hi h1 hby TV hr1 hj;go_enter Tryz.func59,Tryz.ntmps59;go_wp2_with fail;refine (z_ c da d.length dc ra rc n4 hd HC.out HR.out).mono ?_;rintro e w' ⟨rfl,rfl⟩;go_wp2_with fail;go_ret;rw [HT.out];exact ⟨rfl,HH.out⟩
 ·have hh:x.prt.has c:=ZV fun e=>h1 (.inl e)
  have GN:d.length<=64:=by omega
  obtain ⟨m,rfl⟩:∃m:Nat,c=(m:Int):=⟨c.toNat,by have:=hh.1;omega⟩;have hm:m < x.prt.aZ.length:=by have:=hh.2;omega
  by_cases h2:64<=(x.prt.aX.getD m []).length
  ·have HT:=aQ (show x.dQ (m:Int) d=(5,x) by unfold aj.dQ δ.dQ;rw [if_neg h1,Wv,if_pos h2,if_neg (by show ¬(5:Nat)=0;omega)])
   have H2:=aQ h2;clear h he hi h1 hby TV hr1 hj h2 hh;go_enter Tryz.func59,Tryz.ntmps59;go_wp2_with fail;refine (CR HH.out 1 rfl bz.out (by omega) m hm da d.length dc GN H2.out).mono ?_;rintro e w' ⟨rfl,rfl⟩;go_wp2_with fail;go_ret;rw [HT.out];exact ⟨rfl,HH.out⟩
  ·obtain ⟨q,hq⟩:∃q:δ,q={ x.prt with aX:=x.prt.aX.set m (x.prt.aX.getD m []++[d]) }:=⟨_,rfl⟩
   have HT:=aQ (show x.dQ (m:Int) d=(0,{ x with prt:=q,aV:=x.aV.set m (x.aV.getD m []++[d]),aE:=x.aE.set m (x.aE.getD m 0+1) }) by
    have:x.prt.dQ (m:Int) d=(0,q):=by unfold δ.dQ;rw [if_neg h1,Wv,if_neg h2,hq]
    unfold aj.dQ;rw [this,if_pos rfl,Wv])
   have HW:=aQ (show (x.prt.aX.getD m []).length < 64 by omega);have NC:=aQ hi.ob
   have hsn:x.aE.getD m 0<=2*N+128:=by
    have e1:=hi.cons.off m hm;have e2:=bM (P:=fun y=>y<=N) hi.ok.Ak (d:=0) (VJ _) m;have e3:=bM (P:=fun l:List dV=>l.length<=N) hi.ok.qy (d:=[]) (VJ _) m;have e4:cnt x.prt.cT m<=x.prt.cT.length:=List.length_filter_le _ _;have e5:x.prt.cT.length=x.prt.snd.cT.length:=by rw [<-hi.ok.cT,VL]
    have e6:=hi.ok.snd.cT;have e7:=hi.ok.snd.w2;omega
   have HE:=aQ he;have RH:=aQ hby;have Dn:m < x.aV.length:=by omega
   have hms:m < x.aE.length:=by omega
   clear h he hi h1 TV hr1 hj h2 hh hby;go_enter Tryz.func59,Tryz.ntmps59;go_wp2_with fail;refine (CQ HH.out 1 (j+7) rfl bz.out (by omega) m hm _ d PX.out HJ.out (by omega) GN HW.out).mono ?_;rintro e w2 ⟨rfl,h2⟩;have h2:dY (fun _=>False) Z W (dJ p (bG cs)::bP v.pp q::kW v.sp x.sc::dm v.cp x.cD::b_ v.ov x.aV::b_ v.tv x.cF::ζ dK 3 v.nv x.aE::ts) w2:=by rw [hq];exact h2
   have hj8:(dJ p (bG cs)::bP v.pp q::kW v.sp x.sc::dm v.cp x.cD::b_ v.ov x.aV::b_ v.tv x.cF::ζ dK 3 v.nv x.aE::ts)[j+7]? = some T:=HJ.out;obtain ⟨_,_,JM⟩:=h2.get _ hj8;have nK:=aQ (PX.out _ _ _ JM);clear HH RH c0 HR JM hj8 HJ bz HW PX;obtain ⟨c0,_,_,_,c4,_,c6⟩:=dT HE.out (h2.blk 0 rfl);obtain ⟨_,_,hof⟩:=h2.get 4 rfl;obtain ⟨b1,o1,k1,e1,m1,nG⟩:=bR (show Sq (df ψ 40) 51 w2 _ _ v.ov x.aV from hof) (by omega);have hx:=bT (d:=[]) Dn;have hxl:=bM (P:=fun l:List dV=>l.length<=N) NC.out (d:=[]) (VJ _) m;obtain ⟨xs,hxs⟩:∃xs,xs=x.aV.getD m []:=⟨_,rfl⟩;have uA:=aQ hxs;rw [<-hxs] at hx hxl;clear hxs;have sW:=aQ e1;rw [e1] at c4;have HT2:=aQ (show dY (fun _=>False) Z W (dJ p (bG cs)::bP v.pp q::kW v.sp x.sc::dm v.cp x.cD::b_ (.slice (some ⟨b1,o1,none⟩) x.aV.length k1) x.aV::b_ v.tv x.cF::ζ dK 3 v.nv x.aE::ts) w2 by rw [<-e1];exact h2);have HB:=aQ (show ¬b1=p from fun e=>HT2.out.apart 0 4 (by decide) rfl rfl (fun _ _ h=>h.2) (fun _ _ h=>(Sq.free (show Sq _ _ _ _ _ _ _ from h)).2.1) e.symm);clear h2 hof e1 nG NC hol hsl n1 n4 hm;go_wp2_with fail;refine wp_region_held_drew (S:=fun w'=>w'.cell? ⟨p,o+4,none⟩=some (.slice (some ⟨b1,o1,none⟩) x.aV.length k1)) (by kernel_rfl) c4 (fun hS0=>?_);refine Φ 0 11 hS0 ?_
   iterate 11 refine dI ?_
   refine aT ?_;refine Φ 12 1 hS0 ?_;refine dI ?_;refine aT ?_;have uM:=aQ (show Below w2.heap.size w2 w2.drew from bS w2 1);obtain ⟨M_,k20,K0,us0,mK,_,_,_,_⟩:=((HT2.out.mM (uM.out) (T:=dD (.slice none 0 0) []) (fE.nil _ _)).front).tu 5 rfl hx 0 (by decide) rfl;obtain ⟨wd,hwd⟩:∃wd,wd=w2.drew:=⟨_,rfl⟩;rw [<-hwd] at uM hS0 mK ⊢;clear hwd;refine gm 11 13 (by kernel_rfl) rfl rfl (fun K hK=>?_) (fun K hK=>?_)
   focus
    go_simp;refine hK.out _ _ hS0 ?_;clear hK K;refine ah 13 (fun K hK=>?_)
    (refine ν (f:=?_) (args:=?_) (by rfl) ?_ ?_;rotate_left 2;(focus (go_simp;first|(with_reducible rfl)|(refine ⟨?_,?_⟩ <;> with_reducible rfl)));(refine (cV _ d _ (nK.out.below uM.out) (by omega)).mono ?_);rintro e' w1 ⟨v1,rfl,ho,hb1⟩);refine ⟨_,rfl,?_⟩;simp only [VF,ag,Ψ,ae];have hb1':Below w2.heap.size w2 w1:=uM.out.trans (hb1.mono uM.out.size);obtain ⟨pW,pV,rfl⟩:=gX ho;have HA:=(HT2.out.mM hb1' (T:=dD (.slice pW d.length pV) d) (ho.lower uM.out.size).Jz).front;obtain ⟨va,vc,K',us,je,hsl,hKn,hKb,hback⟩:=HA.tu 5 rfl hx 0 (by decide) rfl;have Dm:=(Vt (hb1.block b1 (Vv _ _ mK))).trans mK;rw [je] at Dm;obtain ⟨rfl,rfl⟩:va=M_/\vc=k20:=(by simpa using Dm);have hw1:w1.cell? ⟨p,o+4,none⟩=some (.slice (some ⟨b1,o1,none⟩) x.aV.length k1):=(dT HE.out (HA.blk 1 rfl)).2.2.2.2.1.trans (by rw [sW.out]);have JR:=aQ (show ¬K' p from hKn p 1 _ (by decide) rfl fun _ _ h=>.inl h.2);have fP:=aQ hback;have gK:=aQ hsl;have hw2:(w1.alloc (.cells #[.slice pW d.length pV] 40)).cell? ⟨p,o+4,none⟩=some (.slice (some ⟨b1,o1,none⟩) x.aV.length k1):=aI _ _ hw1;have hw3:(w1.alloc (.cells #[.slice pW d.length pV] 40)).cell? ⟨b1,o1+m,none⟩=some (.slice va xs.length vc):=aI _ _ je;clear ho hb1 hb1' HA hKn hKb hback hsl Dm
    refine hK.out _ _ hw1 ?_;clear hK K;refine ah 14 (fun K hK=>?_);go_simp;refine hK.out _ _ hw2 ?_;clear hK K
   rotate_left
   focus
    (refine ν (f:=?_) (args:=?_) (by rfl) ?_ ?_;rotate_left 2;(focus (go_simp;first|(with_reducible rfl)|(refine ⟨?_,?_⟩ <;> with_reducible rfl)));(refine (cV _ d _ (nK.out.below uM.out) (by omega)).mono ?_);rintro e' w1 ⟨v1,rfl,ho,hb1⟩);refine ⟨_,rfl,?_⟩;simp only [VF,ag,Ψ,ae];have hb1':Below w2.heap.size w2 w1:=uM.out.trans (hb1.mono uM.out.size);obtain ⟨pW,pV,rfl⟩:=gX ho;have HA:=(HT2.out.mM hb1' (T:=dD (.slice pW d.length pV) d) (ho.lower uM.out.size).Jz).front;obtain ⟨va,vc,K',us,je,hsl,hKn,hKb,hback⟩:=HA.tu 5 rfl hx 0 (by decide) rfl;have Dm:=(Vt (hb1.block b1 (Vv _ _ mK))).trans mK;rw [je] at Dm;obtain ⟨rfl,rfl⟩:va=M_/\vc=k20:=(by simpa using Dm);have hw1:w1.cell? ⟨p,o+4,none⟩=some (.slice (some ⟨b1,o1,none⟩) x.aV.length k1):=(dT HE.out (HA.blk 1 rfl)).2.2.2.2.1.trans (by rw [sW.out]);have JR:=aQ (show ¬K' p from hKn p 1 _ (by decide) rfl fun _ _ h=>.inl h.2);have fP:=aQ hback;have gK:=aQ hsl;have hw2:(w1.alloc (.cells #[.slice pW d.length pV] 40)).cell? ⟨p,o+4,none⟩=some (.slice (some ⟨b1,o1,none⟩) x.aV.length k1):=aI _ _ hw1;have hw3:(w1.alloc (.cells #[.slice pW d.length pV] 40)).cell? ⟨b1,o1+m,none⟩=some (.slice va xs.length vc):=aI _ _ je;clear ho hb1 hb1' HA hKn hKb hback hsl Dm
    refine hK.out _ _ hw1 ?_;clear hK K;refine gm 11 14 (by kernel_rfl) rfl rfl (fun K hK=>?_) (fun K hK=>?_)
    focus
     go_simp;refine hK.out _ _ hw1 ?_;clear hK K;refine ah 14 (fun K hK=>?_);go_simp;refine hK.out _ _ hw2 ?_;clear hK K
    rotate_left
    focus
     go_simp;refine hK.out _ _ hw2 ?_;clear hK K;refine ah 11 (fun K hK=>?_);go_simp;refine hK.out _ _ hw2 ?_;clear hK K
   all_goals
    refine ah 15 (fun K hK=>?_);refine υ qA rfl _ _ rfl K' (.slice va xs.length vc) xs.length us rfl (gK.out.alloc _) _ 1 [.slice pW d.length pV] rfl (iA _ _ _ _ rfl) (by intro u hu;simp at hu;subst hu;rfl) (by unfold maxLen;omega) (by omega) ?_;intro v2 w3 uN p9;obtain ⟨g2,cz,cap2,rfl,k0,kf,JN⟩:=fP.out _ w3 v2 (aK w1 _) uN p9;have NG:=aQ JN;have hx3:w3.cell? ⟨p,o+4,none⟩=some (.slice (some ⟨b1,o1,none⟩) x.aV.length k1):=(Vt (p9.block p (Vv _ _ hw2) JR.out)).trans hw2;clear uN p9 fP gK JN hw1 hw2 hw3 je;refine hK.out _ _ hx3 ?_;clear hK K;simp only [VF,ag,Ψ,ae];refine ah 16 (fun K hK=>?_);go_simp;refine hK.out _ _ hx3 ?_;clear hK K;refine ah 17 (fun K hK=>?_);go_simp;refine hK.out _ _ (oI (fun e=>HB.out e.symm) hx3) ?_;clear hK K;refine fZ ?_;obtain ⟨w4,hw4⟩:∃w4,w4=w3.setCell ⟨b1,o1+m,none⟩ (.slice (some ⟨g2,cz,none⟩) (xs.length+1) cap2):=⟨_,rfl⟩;have h4:dY (fun _=>False) Z W (dJ p (bG cs)::bP v.pp q::kW v.sp x.sc::dm v.cp x.cD::b_ (.slice (some ⟨b1,o1,none⟩) x.aV.length k1) (x.aV.set m (xs++[d]))::b_ v.tv x.cF::ζ dK 3 v.nv x.aE::ts) w4:=by rw [hw4];exact NG.out.tail
    rw [<-hw4];obtain ⟨_,_,_,_,_,_,c7⟩:=dT HE.out (h4.blk 0 rfl);obtain ⟨_,_,DC⟩:=h4.get 6 rfl;obtain ⟨b6,o6,k6,e6,m6,_⟩:=bR (show Sq dK 3 w4 _ _ v.nv x.aE from DC) (by omega);have hf6:=(Sq.free (show Sq dK 3 w4 _ _ (.slice (some ⟨b6,o6,none⟩) x.aE.length k6) x.aE by rw [<-e6];exact DC)).2.2.2;have hs:=bT (d:=0) hms;obtain ⟨b7,o7,e7,hc6⟩:=kM (show Sq dK 3 w4 _ _ (.slice (some ⟨b6,o6,none⟩) x.aE.length k6) x.aE by rw [<-e6];exact DC) hs;obtain ⟨rfl,rfl⟩:b6=b7/\o6=o7:=by simpa using e7
    rw [e6] at c7;obtain ⟨sn,DD⟩:∃sn,sn=x.aE.getD m 0:=⟨_,rfl⟩;have FI:=aQ DD;rw [<-DD] at hc6 hsn;have HE6:=aQ e6;have H4:=aQ h4;clear h4 hw4 DC hs DD e6 e7 kf k0 hx3 NG hxl JR;go_wp2_with fail;go_ret;have HF:=(show dY (fun _=>False) Z W (dJ p (bG cs)::bP v.pp q::kW v.sp x.sc::dm v.cp x.cD::b_ (.slice (some ⟨b1,o1,none⟩) x.aV.length k1) (x.aV.set m (xs++[d]))::b_ v.tv x.cF::ζ dK 3 (.slice (some ⟨b6,o6,none⟩) x.aE.length k6) x.aE::ts) w4 by rw [<-HE6.out];exact H4.out).yM 6 rfl (c:=m) (y:=sn+1) (u:=(sn:Int)+1) hms (by omega);rw [HT.out,<-uA.out,<-FI.out];refine ⟨rfl,?_⟩;show dY _ Z W (dJ p (bG cs)::bP v.pp q::kW v.sp x.sc::dm v.cp x.cD::b_ v.ov _::b_ v.tv x.cF::ζ dK 3 v.nv _::ts) _;rw [sW.out,HE6.out];exact HF
end

theorem L6 {w:World} {p i:Nat} {cs:Array Value} {T:TypeId} {u:Value} (h:w.heap[p]? = some (.cells cs T (0,0))):(w.setCell ⟨p,i,none⟩ u).heap[p]? = some (.cells (cs.setIfInBounds i u) T (0,0)):=by (refine aS (Ξ h) ?_);rfl
theorem dY.UM {F Z:BS} {W w:World} {ts:List Th} (h:dY F Z W ts w) (i:Nat) {p k:Nat} {cs:Array Value} {T:TypeId} (hi:ts[i]? = some (dJ p (.cells cs T (0,0)))) (u:Value):dY F Z W (ts.set i (dJ p (.cells (cs.setIfInBounds k u) T (0,0)))) (w.setCell ⟨p,k,none⟩ u):=
 h.set i hi _ (by exact eZ) (L6 (h.blk i hi))
theorem GU (n:Nat):(WJ (VS .i64 0).cells n).toList=Vr n (.int .i64 0):=by
 refine List.eq_replicate_iff.2 ⟨by rw [mH];simp [Value.cells],fun u hu=>?_⟩;simp only [WJ,Array.mem_toList_iff,Array.mem_map] at hu;obtain ⟨j,_,rfl⟩:=hu;have h1:(VS XY 0).cells = #[.int .i64 0]:=rfl;rw [h1];have:j % (#[VS XY 0]:Array Value).size=0:=Nat.mod_one j;rw [this];rfl
theorem Ky:o8 Vs 22 3 (.int .i64 0) 1 8:=⟨Tryz.underlying22,info_parts (by kernel_rfl),rfl,by decide⟩
theorem sS {F Z:BS} {W w:World} {ts:List Th} {ops:Array Oper} {rest:List Oper} {o:Oper} {a:Act} {Q:Exit->Act->World->Prop}
  (hg:o.guard=none) (s:Operand) (hop:o.op=Yy { callee:=Xg Builtin.clear,args := #[s],argTypes := #[22] })
  (h:dY F Z W ts w) (i:Nat) {v:Value} {xs:List Nat} (hi:ts[i]? = some (ζ dK 3 v xs)) (hn:0 < xs.length) (hs:a.eval s=v)
  (hK:∀w',dY F Z W (ts.set i (ζ dK 3 v (Vr xs.length 0))) w'->wpList Vs ops Q rest (a.put o.dst (.tuple #[])) w') :
  wpList Vs ops Q (o::rest) a w:=by
 obtain ⟨G,Y,hon⟩:=h.get i hi;obtain ⟨K,D,us,uz,hdj,hKs,⟨hl,⟨_,h0⟩|⟨g,off,cap,cur,rfl,hKg,hrow,h1,h2,h3,h4⟩⟩,hel⟩:=(show Sq dK 3 w G Y v xs from hon)
 ·omega
 ·have hE:dK.size=1:=rfl
  rw [hE] at h3 hl h4;refine wpList_plain hg fun K' hK'=>?_
  have hone:∀u ∈ Vr xs.length (VS XY 0),u.oneCell'=true:=fun u hu=>by rw [List.eq_of_mem_replicate hu];rfl
  have hfit:off+xs.length<=cur.size:=by omega
  have hst:=run_storeCells_at Vs g off 3 (Vr xs.length (.int .i64 0)) 0 cur w hrow (by rw [WI];simpa using hfit) hone;simp only [Nat.add_zero] at hst;obtain ⟨m,hm⟩:∃m,xs.length=m+1:=⟨xs.length - 1,by omega⟩
  have hrun:(YC #[22] o.type #[.slice (some ⟨g,off,none⟩) xs.length cap]).run Vs w=.ok (.tuple #[]) (jr w g cur off (Vr xs.length (.int .i64 0))):=by
   rw [<-GU] at hst ⊢;rw [hm] at hst ⊢;simp [YC,run_underlying Ky.under,hst,jr,over]
  unfold WZ execOp;simp only [hop,resolve,invoke,builtin,Sem.run_bind,Sem.run_pure,Result.andThen_ok,List.map_toArray,List.map_cons,List.map_nil,hs,hrun];refine hK' _ _ (hK _ ?_);refine h.upd i hi fun G' Y' Ke hd'=>?_
  obtain ⟨K2,D2,us2,U9,abP,aaY,⟨hl2,⟨h0,_⟩|⟨g2,cz,cap2,aa2,e2,U7,hrow2,q1,q2,q3,q4⟩⟩,abO⟩:=(show Sq dK 3 w G' Y' (.slice (some ⟨g,off,none⟩) xs.length cap) xs from Ke)
  ·cases h0
  ·obtain ⟨⟨rfl,rfl⟩,rfl⟩:(g=g2/\off=cz)/\cap=cap2:=by simpa using e2
   rw [hrow] at hrow2;obtain rfl:cur=aa2:=by simpa using hrow2
   have hrl:(Vr xs.length (VS XY 0)).length=xs.length:=WI ..;have hcl:cur.toList.length=cur.size:=by simp
   refine ⟨?_,(uF cur off _).mono fun k hk=>by subst hk;exact U9 _ (.inl U7)⟩;refine ⟨K2,fun _=>False,Vr xs.length (.int .i64 0),fun k hk=>hk.elim (fun h=>U9 k (.inl h)) YV,fun _ _ f=>f,fun k hk=>VX (aaY k hk) (uF cur off _).size,?_,?_⟩
   ·rw [WI]
    refine ⟨by rw [hrl,hE];omega,.inr ⟨g,off,cap,_,rfl,U7,om hrow off _,q1,q2,?_,?_⟩⟩
    ·rw [List.size_toArray,jL (by rw [hrl,hcl];exact hfit),hcl,hE];exact h3
    ·have:=xY (cur:=cur.toList) (news:=Vr xs.length (VS XY 0)) (o:=off) (by rw [hrl,hcl];exact hfit)
     rw [hrl] at this;rw [hE,Xi];simpa using this
   ·have:∀(n:Nat) (w':World) (Z':BS),fK dK w' (fun _=>False) Z' (Vr n (.int .i64 0)) (Vr n 0):=fun n w' Z'=>by
     induction n with
     |zero=>exact rfl
     |succ n ih=>exact ⟨[.int .i64 0],Vr n (.int .i64 0),fun _=>False,fun _=>False,rfl,fun _ f=>f,fun _ f=>f,fun _ f=>f.elim,rfl,ih⟩
    exact this _ _ _
section
variable {Z:BS} {W w:World} {ts:List Th} {p o:Nat} {cs:Array Value} {x:aj} {v:EV}
theorem oH {cs:Array Value} {i k:Nat} {u:Value} (hi:i < cs.size):(cs.setIfInBounds i u)[k]? = if i=k then some u else cs[k]?:=by
 rw [Array.getElem?_setIfInBounds];by_cases e:i=k
 ·rw [if_pos e,if_pos e,if_pos hi]
 ·rw [if_neg e,if_neg e]
theorem zg {cs:Array Value} {k:Nat} {u:Value} (h:cs[k]? = some u):k < cs.size:=by
 rcases WV k cs.size with h'|h'
 ·exact h'
 ·rw [Array.getElem?_eq_none h'] at h;cases h
theorem gM.again (he:gM cs o x v) (x':aj) (sp':Nat):gM ((cs.setIfInBounds (o+3) (.int .i64 (x'.inc:Int))).setIfInBounds (o+1) (.pointer (some ⟨sp',0,none⟩))) o x' { v with sp:=sp' } /\
  (∀k,k < o\/o+7<=k->((cs.setIfInBounds (o+3) (.int .i64 (x'.inc:Int))).setIfInBounds (o+1) (.pointer (some ⟨sp',0,none⟩)))[k]? = cs[k]?):=by
 have h6:=zg (he 6 _ rfl)
 have hk:∀k,((cs.setIfInBounds (o+3) (.int .i64 (x'.inc:Int))).setIfInBounds (o+1) (.pointer (some ⟨sp',0,none⟩)))[k]? = if o+1=k then some (.pointer (some ⟨sp',0,none⟩)) else if o+3=k then some (.int .i64 (x'.inc:Int)) else cs[k]?:=fun k=>by
  rw [oH (by rw [Xm];omega),oH (by omega)]
 refine ⟨fun j u hj=>?_,fun k hko=>by rw [hk,if_neg (by omega),if_neg (by omega)]⟩;rw [hk]
 match j,hj with
 |0,hj=>rw [if_neg (by omega),if_neg (by omega)];exact he 0 _ hj
 |1,hj=>rw [if_pos rfl];exact hj
 |2,hj=>rw [if_neg (by omega),if_neg (by omega)];exact he 2 _ hj
 |3,hj=>rw [if_neg (by omega),if_pos rfl];exact hj
 |4,hj=>rw [if_neg (by omega),if_neg (by omega)];exact he 4 _ hj
 |5,hj=>rw [if_neg (by omega),if_neg (by omega)];exact he 5 _ hj
 |6,hj=>rw [if_neg (by omega),if_neg (by omega)];exact he 6 _ hj
 |j+7,hj=>simp [lZ] at hj
theorem rF {N:Nat} (hi:x.Inv N) (he:gM cs o x v) (h:dY (fun _=>False) Z W (dJ p (bG cs)::(bY x v++ts)) w) :
  Calls Vs 61 #[.pointer (some ⟨p,o,none⟩)] w fun e w'=>e=.returned (.int .i64 (x.Ω.1:Int))/\∃cs' v',gM cs' o x.Ω.2 v'/\(∀k,k < o\/o+7<=k->cs'[k]? = cs[k]?)/\cs'.size=cs.size/\dY (fun _=>False) Z W (dJ p (bG cs')::(bY x.Ω.2 v'++ts)) w':=by
 obtain ⟨c0,_,_,c3,_,_,_⟩:=dT he (h.blk 0 rfl);have HH:=aQ h;have HE:=aQ he;have bz:=aQ hi.ok;have AP:=hi.inc;have hi2:=hi.ok.i2;have hsl:=hi.sl;have n1:=hi.ok.n1;have HIN:=aQ AP;have hwr:IntKind.i64.wrap ((x.inc:Int)+1)=(x.inc:Int)+1:=IntWalk.i64_in _ (by omega)
 have HQ:=aQ (show Calls Vs 94 #[.pointer (some ⟨v.pp,0,none⟩),.int .i64 ((x.inc:Int)+1)] w.drew fun e w'=>((e=.returned (.int .i64 0)/\x.inc+1<=1099511627775/\dY (fun _=>False) Z W (dJ p (bG cs)::(bY { x with prt:=dG (x.inc+1) x.prt.aZ x.prt.cA x.prt.aN x.prt.dead } v++ts)) w')\/(e=.returned (.int .i64 2)/\1099511627775 < x.inc+1/\dY (fun _=>False) Z W (dJ p (bG cs)::(bY x v++ts)) w')) by
  have e1:(x.inc:Int)+1=((x.inc+1:Nat):Int):=by omega
  rw [e1];by_cases hc:x.inc+1<=1099511627775
  ·exact (Cv h.drew 1 rfl hi.ok (x.inc+1) (by omega) hc).mono fun e w' ⟨a,b⟩=>.inl ⟨a,hc,b⟩
  ·exact (zQ h.drew 1 rfl hi.ok _ (by omega)).mono fun e w' ⟨a,b⟩=>.inr ⟨a,by omega,b⟩)
 clear he hi h;go_enter Tryz.func61,Tryz.ntmps61;go_wp2_with fail;refine wp_region_held_drew (S:=fun w'=>w'.cell? ⟨p,o,none⟩=some (.pointer (some ⟨v.pp,0,none⟩))/\w'.cell? ⟨p,o+3,none⟩=some (.int .i64 (x.inc:Int))) (by kernel_rfl) ⟨c0,c3⟩ (fun hS0=>?_);refine Φ 0 9 hS0 ?_
 iterate 9 (refine aR (v:=?_) (by rfl) ?_ ?_;rotate_left 1;(focus ((intro w' hS';have h0:=hS'.1;have h1:=hS'.2;go_simp);try with_reducible rfl));simp only [VF,ag,Ψ,ae])
 refine aT ?_;refine ah 9 (fun K hK=>?_)
 (refine ν (f:=?_) (args:=?_) (by rfl) ?_ ?_;rotate_left 2;(focus (go_simp;first|(with_reducible rfl)|(refine ⟨?_,?_⟩ <;> with_reducible rfl))))
 refine HQ.out.mono ?_;rintro e w1 (⟨rfl,hc,h1⟩|⟨rfl,hc,h1⟩)
 focus
  refine ⟨_,rfl,?_⟩;simp only [VF,ag,Ψ,ae]
  have HT:=aQ (show x.Ω=(0,{ x with prt:=dG (x.inc+1) x.prt.aZ x.prt.cA x.prt.aN x.prt.dead,inc:=x.inc+1,sc:=Sc.new,aE:=Vr x.aE.length 0 }) by
   have e:((x.inc:Int)+1).toNat=x.inc+1:=by omega
   have hr:¬((x.inc:Int)+1<=x.prt.inc\/1099511627775 < (x.inc:Int)+1):=by rw [HIN.out];omega
   unfold aj.Ω δ.Ω;rw [if_neg hr,if_pos rfl,e])
  generalize dG (x.inc+1) x.prt.aZ x.prt.cA x.prt.aN x.prt.dead=q at *;obtain ⟨d0,_,_,d3,_,_,_⟩:=dT (x:={ x with prt:=q }) HE.out (h1.blk 0 rfl);have hfr:=fun i=>aD (h1.blk 0 rfl) i
  have H1:=aQ h1;clear HQ HH h1 hS0 AP hi2;refine hK.out _ _ ⟨d0,d3⟩ ?_;clear hK K;refine ah 10 (fun K hK=>?_);go_simp;refine hK.out _ _ ⟨d0,d3⟩ ?_;clear hK K;refine fZ ?_;go_wp2_with fail;have h2:=H1.out.UM 0 rfl (k:=o+3) (.int .i64 ((x.inc:Int)+1));refine (OZ h2).mono ?_;rintro e w3 ⟨sb,rfl,h3⟩;have H3:=aQ (show dY (fun _=>False) Z W (kW sb Sc.new::dJ p (bG (cs.setIfInBounds (o+3) (.int .i64 ((x.inc:Int)+1))))::(bY { x with prt:=q } v++ts)) w3 from h3.front);have p9:=fun i=>aD (H3.out.blk 1 rfl) i
  have g1:w3.cell? ⟨p,o+1,none⟩=some (.pointer (some ⟨v.sp,0,none⟩)):=aJ (H3.out.blk 1 rfl) (by
   have:=zg (HE.out 6 _ rfl);rw [oH (by omega),if_neg (by omega)];exact HE.out 1 _ rfl)
  have g6:w3.cell? ⟨p,o+6,none⟩=some v.nv:=aJ (H3.out.blk 1 rfl) (by
   have:=zg (HE.out 6 _ rfl);rw [oH (by omega),if_neg (by omega)];exact HE.out 6 _ rfl)
  clear h2 h3 hfr d0 d3 H1;go_upto_region 5 with (fail)
  have H4:=aQ (H3.out.UM 1 rfl (k:=o+1) (.pointer (some ⟨sb,0,none⟩)));obtain ⟨w4,hw4⟩:∃w4,w4=w3.setCell ⟨p,o+1,none⟩ (.pointer (some ⟨sb,0,none⟩)):=⟨_,rfl⟩
  have g6':w4.cell? ⟨p,o+6,none⟩=some v.nv:=by
   rw [hw4];refine aJ (H4.out.blk 1 rfl) ?_;have:=zg (HE.out 6 _ rfl);rw [oH (by rw [Xm];omega),if_neg (by omega),oH (by omega),if_neg (by omega)];exact HE.out 6 _ rfl
  rw [<-hw4] at H4 ⊢;clear hw4 g6 g1 p9 H3;have hsn:0 < x.aE.length:=by omega
  go_wp2_with (refine sS rfl _ rfl H4.out 7 rfl hsn (by rfl) ?_;intro w5 h5;have H5:=aQ h5;clear h5);go_ret;rw [HT.out];obtain ⟨r1,r2⟩:=HE.out.again { x with prt:=q,inc:=x.inc+1,sc:=Sc.new,aE:=Vr x.aE.length 0 } sb;refine ⟨rfl,_,_,r1,r2,by rw [Xm,Xm],?_⟩
  exact H5.out.τ (us:=[kW sb Sc.new,dJ p (bG ((cs.setIfInBounds (o+3) (.int .i64 ((x.inc:Int)+1))).setIfInBounds (o+1) (.pointer (some ⟨sb,0,none⟩)))),bP v.pp q,kW v.sp x.sc,dm v.cp x.cD,b_ v.ov x.aV,b_ v.tv x.cF,ζ dK 3 v.nv (Vr x.aE.length 0)])
   (vs:=[dJ p (bG ((cs.setIfInBounds (o+3) (.int .i64 ((x.inc:Int)+1))).setIfInBounds (o+1) (.pointer (some ⟨sb,0,none⟩)))),bP v.pp q,kW sb Sc.new,dm v.cp x.cD,b_ v.ov x.aV,b_ v.tv x.cF,ζ dK 3 v.nv (Vr x.aE.length 0)]) [1,2,0,4,5,6,7] (by decide) rfl
 focus
  refine ⟨_,rfl,?_⟩;simp only [VF,ag,Ψ,ae]
  have HT:=aQ (show x.Ω=(2,x) by
   have hr:((x.inc:Int)+1<=x.prt.inc\/1099511627775 < (x.inc:Int)+1):=.inr (by omega);unfold aj.Ω δ.Ω;rw [if_pos hr,if_neg (by show ¬(2:Nat)=0;omega)])
  obtain ⟨d0,_,_,d3,_,_,_⟩:=dT HE.out (h1.blk 0 rfl);have H1:=aQ h1;clear HQ HH h1 hS0 AP hi2;refine hK.out _ _ ⟨d0,d3⟩ ?_;clear hK K;refine ah 10 (fun K hK=>?_);go_simp;refine hK.out _ _ ⟨d0,d3⟩ ?_;clear hK K;refine fZ ?_;go_wp2_with fail;go_ret;rw [HT.out];exact ⟨rfl,cs,v,HE.out,fun _ _=>rfl,rfl,H1.out⟩
end

def LkV (L:Lk):Type:={ z:Array Value × EV × EV // gM z.1 0 L.l z.2.1/\gM z.1 7 L.r z.2.2/\z.1.size=14 }
abbrev Qf (p:Nat) (L:Lk) (z:LkV L):List Th:=dJ p (bG z.1.1)::(bY L.l z.1.2.1++bY L.r z.1.2.2)
def bI (p:Nat) (L:Lk):Th:=Na (Qf p L)
section
variable {Z:BS} {W w:World} {ts:List Th} {p N:Nat} {L:Lk}
theorem dY.link (h:dY (fun _=>False) Z W (bI p L::ts) w):∃cs v u,gM cs 0 L.l v/\gM cs 7 L.r u/\cs.size=14/\dY (fun _=>False) Z W (dJ p (bG cs)::(bY L.l v++(bY L.r u++ts))) w:=by
 obtain ⟨⟨⟨cs,v,u⟩,h1,h2,h3⟩,h4⟩:=dY.opens h;exact ⟨cs,v,u,h1,h2,h3,by rw [<-VE];exact h4⟩
theorem dY.bE {cs:Array Value} {v u:EV} (h1:gM cs 0 L.l v) (h2:gM cs 7 L.r u) (h3:cs.size=14) (h:dY (fun _=>False) Z W (dJ p (bG cs)::(bY L.l v++(bY L.r u++ts))) w):dY (fun _=>False) Z W (bI p L::ts) w:=
 dY.shut (f:=Qf p L) (i:=⟨(cs,v,u),h1,h2,h3⟩) (by rw [<-VE] at h;exact h)
theorem dY.sides {cs:Array Value} {x y:aj} {v u:EV} (h:dY (fun _=>False) Z W (dJ p (bG cs)::(bY x v++(bY y u++ts))) w):dY (fun _=>False) Z W (dJ p (bG cs)::(bY y u++(bY x v++ts))) w:=
 dY.τ (us:=[dJ p (bG cs),bP v.pp x.prt,kW v.sp x.sc,dm v.cp x.cD,b_ v.ov x.aV,b_ v.tv x.cF,ζ dK 3 v.nv x.aE,bP u.pp y.prt,kW u.sp y.sc,dm u.cp y.cD,b_ u.ov y.aV,b_ u.tv y.cF,ζ dK 3 u.nv y.aE])
  (vs:=[dJ p (bG cs),bP u.pp y.prt,kW u.sp y.sc,dm u.cp y.cD,b_ u.ov y.aV,b_ u.tv y.cF,ζ dK 3 u.nv y.aE,bP v.pp x.prt,kW v.sp x.sc,dm v.cp x.cD,b_ v.ov x.aV,b_ v.tv x.cF,ζ dK 3 v.nv x.aE]) h [0,7,8,9,10,11,12,1,2,3,4,5,6] (by decide) rfl
theorem gM.keep {cs cs':Array Value} {o:Nat} {x:aj} {v:EV} (h:gM cs o x v) (hk:∀k,o<=k->k < o+7->cs'[k]? = cs[k]?):gM cs' o x v:=fun j u hj=>by
 have hjl:j < 7:=by
  rcases WV j 7 with h'|h'
  ·exact h'
  ·rw [VT (by simpa [lZ] using h')] at hj;cases hj
 rw [hk (o+j) (by omega) (by omega)];exact h j u hj
theorem gM.other {cs:Array Value} {o:Nat} {x y:aj} {v:EV} (h:gM cs o x v) (e:y.inc=x.inc):gM cs o y v:=fun j u hj=>h j u (by rw [<-hj];simp only [lZ,e])
theorem dL {w:World} {p:Nat} {cs:Array Value} {x:aj} {v:EV} (he:gM cs 0 x v) (h:w.heap[p]? = some (bG cs)) :
  w.cell? ⟨p,0,none⟩=some (.pointer (some ⟨v.pp,0,none⟩))/\w.cell? ⟨p,1,none⟩=some (.pointer (some ⟨v.sp,0,none⟩))/\w.cell? ⟨p,2,none⟩=some (.pointer (some ⟨v.cp,0,none⟩))/\w.cell? ⟨p,3,none⟩=some (.int .i64 (x.inc:Int)) /\
  w.cell? ⟨p,4,none⟩=some v.ov/\w.cell? ⟨p,5,none⟩=some v.tv/\w.cell? ⟨p,6,none⟩=some v.nv:=dT he h
theorem dR {w:World} {p:Nat} {cs:Array Value} {x:aj} {v:EV} (he:gM cs 7 x v) (h:w.heap[p]? = some (bG cs)) :
  w.cell? ⟨p,7,none⟩=some (.pointer (some ⟨v.pp,0,none⟩))/\w.cell? ⟨p,8,none⟩=some (.pointer (some ⟨v.sp,0,none⟩))/\w.cell? ⟨p,9,none⟩=some (.pointer (some ⟨v.cp,0,none⟩))/\w.cell? ⟨p,10,none⟩=some (.int .i64 (x.inc:Int)) /\
  w.cell? ⟨p,11,none⟩=some v.ov/\w.cell? ⟨p,12,none⟩=some v.tv/\w.cell? ⟨p,13,none⟩=some v.nv:=dT he h
theorem iP (i:Int) (w:World):Calls Vs 44 #[.int .i64 i] w fun e w'=>e=.returned (.bool (decide (i=0\/i=1)))/\w=w':=by
 by_cases h0:i=0
 ·subst h0
  go_enter Tryz.func44,Tryz.ntmps44;go_wp2_with fail;go_ret;exact ⟨rfl,rfl⟩
 ·by_cases h1:i=1
  ·subst h1
   go_enter Tryz.func44,Tryz.ntmps44;go_wp2_with fail;go_ret;exact ⟨rfl,rfl⟩
  ·have hd:decide (i=0\/i=1)=false:=by simp [h0,h1]
   have b0:(i == 0)=false:=by simpa using h0
   have b1:(i == 1)=false:=by simpa using h1
   go_enter Tryz.func44,Tryz.ntmps44;go_wp2_with fail;go_ret;exact ⟨by rw [hd];rfl,rfl⟩
theorem yj (x:aj) (c:Int) (d:dV):(x.dQ c d).2.inc=x.inc:=by unfold aj.dQ;split <;> rfl
theorem BP (x:aj) (c:Int):(x.take c).2.inc=x.inc:=by unfold aj.take;split <;> rfl
abbrev dN (e:iW) (da:Option Addr) (dc:Nat):Value:=.agg #[.int .i64 e.kind,.int .i64 e.cS,.int .i64 e.cls,.slice da e.data.length dc]
theorem II (hF:L.Fit N) (hN:N<=900000000) (e:iW) (da:Option Addr) (dc:Nat) (hd:e.data.length<=9223372036854775807) (j:Nat) {T:Th} (hT:Reads T (.slice da e.data.length dc) e.data) (hj:ts[j]? = some T) (h:dY (fun _=>False) Z W (bI p L::ts) w) :
  Calls Vs 31 #[.pointer (some ⟨p,0,none⟩),dN e da dc] w fun e' w'=>e'=.returned (.int .i64 ((L.act e).1:Int))/\dY (fun _=>False) Z W (bI p (L.act e).2::ts) w':=by
 obtain ⟨cs,v,u,e1,e2,e3,h0⟩:=h.link;have hw:=aK w (.cells #[.int .i64 e.kind,.int .i64 e.cS,.int .i64 e.cls,.slice da e.data.length dc] 42);have H0:=aQ (h0.own hw)
 obtain ⟨x0,x1,x2,x3⟩:(w.alloc (.cells #[.int .i64 e.kind,.int .i64 e.cS,.int .i64 e.cls,.slice da e.data.length dc] 42)).cell? ⟨w.heap.size,0,none⟩=some (.int .i64 e.kind)/\(w.alloc (.cells #[.int .i64 e.kind,.int .i64 e.cS,.int .i64 e.cls,.slice da e.data.length dc] 42)).cell? ⟨w.heap.size,1,none⟩=some (.int .i64 e.cS)/\(w.alloc (.cells #[.int .i64 e.kind,.int .i64 e.cS,.int .i64 e.cls,.slice da e.data.length dc] 42)).cell? ⟨w.heap.size,2,none⟩=some (.int .i64 e.cls)/\(w.alloc (.cells #[.int .i64 e.kind,.int .i64 e.cS,.int .i64 e.cls,.slice da e.data.length dc] 42)).cell? ⟨w.heap.size,3,none⟩=some (.slice da e.data.length dc):=
  ⟨aJ (heap_alloc_new w _) rfl,aJ (heap_alloc_new w _) rfl,aJ (heap_alloc_new w _) rfl,aJ (heap_alloc_new w _) rfl⟩
 obtain ⟨c0,_,c2,_,_,_,_⟩:=dL e1 (H0.out.blk 0 rfl);obtain ⟨d0,_,d2,_,_,_,_⟩:=dR e2 (H0.out.blk 0 rfl);have sW:=aQ e1;have HE2:=aQ e2;have JB:=aQ e3;obtain ⟨ek,es,ec,ed⟩:=e;dsimp only at *;clear h h0 hw e1 e2 e3;by_cases h3:ek=3
 ·subst h3
  have HA:=aQ (show L.act ⟨3,es,ec,ed⟩=(0,⟨{ L.l with cD:=L.l.cD.cut },{ L.r with cD:=L.r.cD.cut }⟩) from rfl);have il:=hF.l;have ir:=hF.r;have l1:=il.lo;have l2:=il.wM.Ai;have l3:=ir.lo;have l4:=ir.wM.Ai;clear il ir hF;go_enter Tryz.func31,Tryz.ntmps31;go_wp2_with fail;refine (Qs H0.out 3 rfl (by omega) (by omega)).mono ?_;rintro e' w1 ⟨rfl,h1⟩;have H1:=aQ (show dY (fun _=>False) Z W (dJ p (bG cs)::(bY { L.l with cD:=L.l.cD.cut } v++(bY L.r u++ts))) w1 from h1);obtain ⟨_,_,d2,_⟩:=dR HE2.out (H1.out.blk 0 rfl);clear h1 x0 x1 x2 x3 c0 c2 d0;go_wp2_with fail;refine (Qs H1.out 9 rfl (by omega) (by omega)).mono ?_;rintro e' w2 ⟨rfl,h2⟩;have H2:=aQ (show dY (fun _=>False) Z W (dJ p (bG cs)::(bY { L.l with cD:=L.l.cD.cut } v++(bY { L.r with cD:=L.r.cD.cut } u++ts))) w2 from h2);clear h2;go_wp2_with fail;go_ret;rw [HA.out];exact ⟨rfl,dY.bE (sW.out.other rfl) (HE2.out.other rfl) JB.out H2.out⟩
 ·by_cases h4:ek=4
  ·subst h4
   have HA:=aQ (show L.act ⟨4,es,ec,ed⟩=(0,⟨{ L.l with cD:=L.l.cD.mend },{ L.r with cD:=L.r.cD.mend }⟩) from rfl);clear hF;go_enter Tryz.func31,Tryz.ntmps31;go_wp2_with fail;refine (K6 H0.out 3 rfl).mono ?_;rintro e' w1 ⟨rfl,h1⟩;have H1:=aQ (show dY (fun _=>False) Z W (dJ p (bG cs)::(bY { L.l with cD:=L.l.cD.mend } v++(bY L.r u++ts))) w1 from h1);obtain ⟨_,_,d2,_⟩:=dR HE2.out (H1.out.blk 0 rfl);clear h1 x0 x1 x2 x3 c0 c2 d0;go_wp2_with fail;refine (K6 H1.out 9 rfl).mono ?_;rintro e' w2 ⟨rfl,h2⟩;have H2:=aQ (show dY (fun _=>False) Z W (dJ p (bG cs)::(bY { L.l with cD:=L.l.cD.mend } v++(bY { L.r with cD:=L.r.cD.mend } u++ts))) w2 from h2);clear h2;go_wp2_with fail;go_ret;rw [HA.out];exact ⟨rfl,dY.bE (sW.out.other rfl) (HE2.out.other rfl) JB.out H2.out⟩
  ·have b3:(ek == 3)=false:=by simpa using h3
   have b4:(ek == 4)=false:=by simpa using h4
   by_cases hk:ek≠1/\ek≠2/\ek≠5
   ·have HA:=aQ (show L.act ⟨ek,es,ec,ed⟩=(16,L) by unfold Lk.act;rw [if_neg h3,if_neg h4,if_pos hk])
    have b1:(ek == 1)=false:=by simpa using hk.1
    have b2:(ek == 2)=false:=by simpa using hk.2.1
    have b5:(ek == 5)=false:=by simpa using hk.2.2
    clear hF h3 h4 hk;go_enter Tryz.func31,Tryz.ntmps31;go_wp2_with fail;go_ret;rw [HA.out];exact ⟨rfl,dY.bE sW.out HE2.out JB.out H0.out⟩
   ·have il:=hF.l
    have ir:=hF.r;by_cases hs:es≠0/\es≠1
    ·have HA:=aQ (show L.act ⟨ek,es,ec,ed⟩=(2,L) by unfold Lk.act;rw [if_neg h3,if_neg h4,if_neg hk,if_neg hs.1,if_neg hs.2])
     have HX:=aQ (show decide (es=0\/es=1)=false by simpa using hs);obtain rfl|rfl|rfl:ek=1\/ek=2\/ek=5:=by omega
     all_goals
      clear hF h3 h4 hk hs il ir b3 b4;go_enter Tryz.func31,Tryz.ntmps31;go_wp2_with (go_at_call 44;refine (iP _ _).mono ?_;rw [HX.out];rintro e' w1 ⟨rfl,rfl⟩);go_ret;rw [HA.out];exact ⟨rfl,dY.bE sW.out HE2.out JB.out H0.out⟩
    ·have hs':es=0\/es=1:=by omega
     have hk':ek=1\/ek=2\/ek=5:=by omega
     clear b3 b4 hk hs h3 h4
     rcases hs' with rfl|rfl
     ·rcases hk' with rfl|rfl|rfl
      ·have HA:=aQ (show L.act ⟨1,0,ec,ed⟩=((L.l.dQ ec ed).1,⟨(L.l.dQ ec ed).2,L.r⟩) from rfl)
       have HC:=aQ (wB (ts:=bY L.r u++ts) il hN il.ol ec _ ed hd (j+6) hT (by rw [VP (by simp)];simpa using hj) sW.out H0.out.drew);have HI:=aQ (show (L.l.dQ ec ed).2.inc=L.l.inc from yj _ _ _);generalize L.l.dQ ec ed=r at *;clear hj hT hF hN;go_enter Tryz.func31,Tryz.ntmps31;go_wp2_with (go_at_call 44;refine (iP _ _).mono ?_;rintro e' w1 ⟨rfl,rfl⟩);refine wp_region_held_drew (S:=fun w'=>w'.cell? ⟨w.heap.size,1,none⟩=some (.int .i64 0)) (by kernel_rfl) x1 (fun hS0=>?_);refine Φ 0 6 hS0 ?_
       iterate 6 refine dI ?_
       refine aT ?_;refine ah 6 (fun K hK=>?_);go_simp;refine hK.out _ _ hS0 ?_;clear hK K;refine fZ ?_;go_wp2_with fail;refine HC.out.mono ?_;rintro e' w2 ⟨rfl,h2⟩;have H2:=aQ h2;clear h2;go_wp2_with fail;go_ret;rw [HA.out];refine ⟨rfl,dY.bE (L:=⟨r.2,L.r⟩) (sW.out.other HI.out) HE2.out JB.out H2.out⟩
      ·have HA:=aQ (show L.act ⟨2,0,ec,ed⟩=((L.l.take ec).1,⟨(L.l.take ec).2,L.r⟩) from rfl)
       have HC:=aQ (yo (ts:=bY L.r u++ts) il hN il.tl ec sW.out H0.out.drew);have HI:=aQ (show (L.l.take ec).2.inc=L.l.inc from BP _ _);generalize L.l.take ec=r at *;clear hj hT hF hN;go_enter Tryz.func31,Tryz.ntmps31;go_wp2_with (go_at_call 44;refine (iP _ _).mono ?_;rintro e' w1 ⟨rfl,rfl⟩);refine wp_region_held_drew (S:=fun w'=>w'.cell? ⟨w.heap.size,1,none⟩=some (.int .i64 0)) (by kernel_rfl) x1 (fun hS0=>?_);refine Φ 0 6 hS0 ?_
       iterate 6 refine dI ?_
       refine aT ?_;refine ah 6 (fun K hK=>?_);go_simp;refine hK.out _ _ hS0 ?_;clear hK K;refine fZ ?_;go_wp2_with fail;refine HC.out.mono ?_;rintro e' w2 ⟨rfl,h2⟩;have H2:=aQ h2;clear h2;go_wp2_with fail;go_ret;rw [HA.out];refine ⟨rfl,dY.bE (L:=⟨r.2,L.r⟩) (sW.out.other HI.out) HE2.out JB.out H2.out⟩
      ·have HA:=aQ (show L.act ⟨5,0,ec,ed⟩=((L.l.Ω).1,⟨(L.l.Ω).2,L.r⟩) from rfl)
       have HC:=aQ (rF (ts:=bY L.r u++ts) il sW.out H0.out.drew);generalize L.l.Ω=r at *;clear hj hT hF hN;go_enter Tryz.func31,Tryz.ntmps31;go_wp2_with (go_at_call 44;refine (iP _ _).mono ?_;rintro e' w1 ⟨rfl,rfl⟩);refine wp_region_held_drew (S:=fun w'=>w'.cell? ⟨w.heap.size,1,none⟩=some (.int .i64 0)) (by kernel_rfl) x1 (fun hS0=>?_);refine Φ 0 6 hS0 ?_
       iterate 6 refine dI ?_
       refine aT ?_;refine ah 6 (fun K hK=>?_);go_simp;refine hK.out _ _ hS0 ?_;clear hK K;refine fZ ?_;go_wp2_with fail;refine HC.out.mono ?_;rintro e' w2 ⟨rfl,cs',v',q1,q2,q3,h2⟩;have H2:=aQ h2;clear h2;go_wp2_with fail;go_ret;rw [HA.out];refine ⟨rfl,dY.bE (L:=⟨r.2,L.r⟩) (cs:=cs') q1 (HE2.out.keep fun k h1 h2=>q2 k (by omega)) (q3.trans JB.out) H2.out⟩
     ·rcases hk' with rfl|rfl|rfl
      ·have HA:=aQ (show L.act ⟨1,1,ec,ed⟩=((L.r.dQ ec ed).1,⟨L.l,(L.r.dQ ec ed).2⟩) from rfl)
       have HC:=aQ (wB (ts:=bY L.l v++ts) ir hN ir.ol ec _ ed hd (j+6) hT (by rw [VP (by simp)];simpa using hj) HE2.out (dY.sides H0.out).drew);have HI:=aQ (show (L.r.dQ ec ed).2.inc=L.r.inc from yj _ _ _);generalize L.r.dQ ec ed=r at *;clear hj hT hF hN;go_enter Tryz.func31,Tryz.ntmps31;go_wp2_with (go_at_call 44;refine (iP _ _).mono ?_;rintro e' w1 ⟨rfl,rfl⟩);refine wp_region_held_drew (S:=fun w'=>w'.cell? ⟨w.heap.size,1,none⟩=some (.int .i64 1)) (by kernel_rfl) x1 (fun hS0=>?_);refine Φ 0 6 hS0 ?_
       iterate 6 refine dI ?_
       refine aT ?_;refine ah 6 (fun K hK=>?_);go_simp;refine hK.out _ _ hS0 ?_;clear hK K;refine fZ ?_;go_wp2_with fail;refine HC.out.mono ?_;rintro e' w2 ⟨rfl,h2⟩;have H2:=aQ h2;clear h2;go_wp2_with fail;go_ret;rw [HA.out];refine ⟨rfl,dY.bE (L:=⟨L.l,r.2⟩) sW.out (HE2.out.other HI.out) JB.out (dY.sides H2.out)⟩
      ·have HA:=aQ (show L.act ⟨2,1,ec,ed⟩=((L.r.take ec).1,⟨L.l,(L.r.take ec).2⟩) from rfl)
       have HC:=aQ (yo (ts:=bY L.l v++ts) ir hN ir.tl ec HE2.out (dY.sides H0.out).drew);have HI:=aQ (show (L.r.take ec).2.inc=L.r.inc from BP _ _);generalize L.r.take ec=r at *;clear hj hT hF hN;go_enter Tryz.func31,Tryz.ntmps31;go_wp2_with (go_at_call 44;refine (iP _ _).mono ?_;rintro e' w1 ⟨rfl,rfl⟩);refine wp_region_held_drew (S:=fun w'=>w'.cell? ⟨w.heap.size,1,none⟩=some (.int .i64 1)) (by kernel_rfl) x1 (fun hS0=>?_);refine Φ 0 6 hS0 ?_
       iterate 6 refine dI ?_
       refine aT ?_;refine ah 6 (fun K hK=>?_);go_simp;refine hK.out _ _ hS0 ?_;clear hK K;refine fZ ?_;go_wp2_with fail;refine HC.out.mono ?_;rintro e' w2 ⟨rfl,h2⟩;have H2:=aQ h2;clear h2;go_wp2_with fail;go_ret;rw [HA.out];refine ⟨rfl,dY.bE (L:=⟨L.l,r.2⟩) sW.out (HE2.out.other HI.out) JB.out (dY.sides H2.out)⟩
      ·have HA:=aQ (show L.act ⟨5,1,ec,ed⟩=((L.r.Ω).1,⟨L.l,(L.r.Ω).2⟩) from rfl)
       have HC:=aQ (rF (ts:=bY L.l v++ts) ir HE2.out (dY.sides H0.out).drew);generalize L.r.Ω=r at *;clear hj hT hF hN;go_enter Tryz.func31,Tryz.ntmps31;go_wp2_with (go_at_call 44;refine (iP _ _).mono ?_;rintro e' w1 ⟨rfl,rfl⟩);refine wp_region_held_drew (S:=fun w'=>w'.cell? ⟨w.heap.size,1,none⟩=some (.int .i64 1)) (by kernel_rfl) x1 (fun hS0=>?_);refine Φ 0 6 hS0 ?_
       iterate 6 refine dI ?_
       refine aT ?_;refine ah 6 (fun K hK=>?_);go_simp;refine hK.out _ _ hS0 ?_;clear hK K;refine fZ ?_;go_wp2_with fail;refine HC.out.mono ?_;rintro e' w2 ⟨rfl,cs',v',q1,q2,q3,h2⟩;have H2:=aQ h2;clear h2;go_wp2_with fail;go_ret;rw [HA.out];refine ⟨rfl,dY.bE (L:=⟨L.l,r.2⟩) (cs:=cs') (sW.out.keep fun k h1 h2=>q2 k (by omega)) q1 (q3.trans JB.out) (dY.sides H2.out)⟩
end

def eU:El iW where
 size:=4
 rd w _ Z cs e:=∃v,cs=[.int .i64 e.kind,.int .i64 e.cS,.int .i64 e.cls,v]/\fE w Z v e.data
 len h:=by obtain ⟨v,h,_⟩:=h;rw [h];rfl
 keep h _ hk:=by obtain ⟨v,e,h⟩:=h;exact ⟨v,e,h.stay fun k hz=>hk k (.inr hz)⟩
 mono h _ hZ:=by obtain ⟨v,e,h⟩:=h;exact ⟨v,e,h.mono hZ⟩
 one h u hu:=by
  obtain ⟨v,rfl,⟨_,a,c,rfl,_⟩,_⟩:=h;simp only [WN,WE,or_false] at hu
  rcases hu with rfl|rfl|rfl|rfl <;> rfl
theorem uW {w:World} {Z:BS} {a:Option Addr} {n c:Nat} {l:List iW} (h:dh eU w Z (.slice a n c) l) {i:Nat} {e:iW} (hi:l[i]? = some e) :
  ∃b off da dc,a=some ⟨b,off,none⟩/\fE w Z (.slice da e.data.length dc) e.data/\w.cell? ⟨b,off+i*4,none⟩=some (.int .i64 e.kind)/\w.cell? ⟨b,off+i*4+1,none⟩=some (.int .i64 e.cS)/\w.cell? ⟨b,off+i*4+2,none⟩=some (.int .i64 e.cls)/\w.cell? ⟨b,off+i*4+3,none⟩=some (.slice da e.data.length dc):=by
 obtain ⟨b,off,cs,e',_,⟨v,rfl,hv⟩,hc⟩:=h.at (by decide) hi;obtain ⟨da,dc,rfl⟩:=hv.slice;exact ⟨b,off,da,dc,e',hv,hc 0 _ rfl,hc 1 _ rfl,hc 2 _ rfl,hc 3 _ rfl⟩
theorem P_:o8 Vs 38 43 (.int .i64 0) 1 8:=⟨Tryz.underlying38,info_parts (by kernel_rfl),rfl,by decide⟩
theorem D9 {α : Type} {E:El α} {P:Program} {t e:TypeId} {z:Value} {bytes:Nat} (S:o8 P t e z E.size bytes)
  {w:World} {ops:Array Oper} {rest:List Oper} {o:Oper} {a:Act} {Q:Exit->Act->World->Prop}
  (hg:o.guard=none) (l c:Operand) (hop:o.op=ZP t l c) (n:Nat) (hl:a.eval l=.int .i64 0) (hc:a.eval c=.int .i64 (n:Int)) (b2:bytes*n<=281474976710656) (b3:n<=maxLen)
  (hK:∀w',Below w.heap.size w w'->Sq E e w' (fun k=>w.heap.size<=k) (fun _=>False) (.slice (some ⟨w.heap.size,0,none⟩) 0 n) []->wpList P ops Q rest (a.put o.dst (.slice (some ⟨w.heap.size,0,none⟩) 0 n)) w') :
  wpList P ops Q (o::rest) a w:=by
 obtain ⟨i,hi,hz,hsz,hby⟩:=S.info;refine wpList_make_own w hg l c t hop w.heap.size e i z E.size S.under hi hz hsz .i64 .i64 (n:Int) n hl hc rfl (by rw [hby];exact b2) b3 (Vu _) fun w' hown hgr=>?_
 refine hK w' ((VQ w.heap.size w).grown hgr (Vu _) (fun k e=>by cases e)) ?_;have hsl:Sl w' (fun k=>w.heap.size<=k) e E.size (.slice (some ⟨w.heap.size,0,none⟩) 0 n) 0 []:=Sl.mQ hown fun _ h=>h
 exact ⟨fun k=>w.heap.size<=k/\k < w'.heap.size,fun _=>False,[],fun k hk=>hk.elim (·.1) YV,fun _ _ f=>f,fun k hk=>hk.2,hsl.bound,rfl⟩
theorem sQ:∀(es:List iW) (L:Lk) (e:iW),L.acts (es++[e])=((L.acts es).1++[((L.acts es).2.act e).1],((L.acts es).2.act e).2)
 |[],L,e=>rfl
 |f::es,L,e=>by
  show (((L.act f).1::((L.act f).2.acts (es++[e])).1,((L.act f).2.acts (es++[e])).2):List Nat × Lk)=_;rw [sQ es];rfl
theorem qX:∀(es:List iW) (L:Lk),(L.acts es).1.length=es.length
 |[],_=>rfl
 |e::es,L=>by show (_::_:List Nat).length=_;rw [VZ,VZ,qX es]
theorem wI {F Z:BS} {W w1 w2:World} {ts:List Th} {ops:Array Oper} {rest:List Oper} {o:Oper} {ac:Act} {Q:Exit->Act->World->Prop} {a:Option Addr} {c:Nat} {xs:List Nat} {e:Nat}
  (hg:o.guard=none) (s x:Operand) (hop:o.op=Yy { callee:=Xg Builtin.append,args := #[s,x],argTypes := #[38,38] })
  (h:dY F Z W ts w1) (i:Nat) (hi:ts[i]? = some (ζ dK 43 (.slice a xs.length c) xs)) (hb:Below w1.heap.size w1 w2) (hl:xs.length<=1000000) (hs:ac.eval s=.slice a xs.length c) (vb:Nat) (hx:ac.eval x=.slice (some ⟨vb,0,none⟩) 1 1) (hrow:Rd w2 1 (.slice (some ⟨vb,0,none⟩) 1 1) 1 [.int .i64 (e:Int)])
  (hK:∀a' c' w3,dY F Z W (ts.set i (ζ dK 43 (.slice a' (xs++[e]).length c') (xs++[e]))) w3->wpList Vs ops Q rest (ac.put o.dst (.slice a' (xs.length+1) c')) w3):wpList Vs ops Q (o::rest) ac w2:=by
 obtain ⟨K,us,hsl,hKn,hback⟩:=h.app i hi;refine cQ P_ hg s x hop K (.slice a xs.length c) xs.length us hs (Sl.keep hsl fun k _ hl=>hb.block k hl) _ 1 [.int .i64 (e:Int)] hx hrow (by intro u hu;obtain rfl:=Wj.1 hu;rfl) (by unfold maxLen;omega) (by omega) ?_;intro v' w' hs2 hf2;obtain ⟨g2,cz,cap2,rfl,_⟩:=Sl.head hs2 (by omega);refine hK _ _ _ ?_;have:=hback w2 w' [.int .i64 (e:Int)] [e] _ hb hs2 hf2 fun Y _=>⟨fun _=>False,fun _=>False,fun _ f=>f.elim,fun _ f=>f.elim,fun _ f=>f.elim,fK.single (E:=dK) rfl⟩
 rw [Vx];exact this
section
variable {Z:BS} {W w:World} {ts:List Th} {p N:Nat} {L:Lk}
theorem GD.len {x:iw} {o:Option Pk} (h:GD x o):x.length<=170:=by
 have hs:∀p:Pk,Good p->(dM p).length<=170:=fun p hg=>by
  have:=hg.pay;unfold dM;rw [VZ,Vx,eB,gN,List.length_singleton];omega
 match o,h with
 |some p,⟨hg,e⟩=>rw [e];exact hs p hg
 |none,⟨p,i,y,hg,_,_,e⟩=>rw [e,Wd];exact hs p hg
theorem yn {x:aj} {v:EV} {cs:Array Value} {o:Nat} (hi:x.Inv N) (hN:N<=170000000) (hm:x.prt.Min) (ht:lH W) (he:gM cs o x v) (h:dY (fun _=>False) Z W (dJ p (bG cs)::(bY x v++ts)) w) :
  Calls Vs 32 #[.pointer (some ⟨p,o,none⟩)] w fun e w'=>∃(a:Option Addr) (c:Nat),e=.returned (.slice a x.cR.1.length c)/\dY (fun _=>False) Z W (ζ d_ 103 (.slice a x.cR.1.length c) x.cR.1::dJ p (bG cs)::(bY x.cR.2 v++ts)) w':=by
 obtain ⟨s',os,h1,hb,h2,hn,hg⟩:=hi.found;have hk:x.cD.bV.length<=64:=VC (XJ _).length_le hi.wM.Ai;have b1:=hi.bd;have b2:=hi.tk;refine CX hi.ok (by omega) hm (fun s hs=>?_) (by show (x.cD.bV.map (·.2)).length<=64;rw [VL];exact hk) hi.wM.Ai (by omega) (by omega) (by rw [h2];exact hn) (by rw [h2];exact hg) ht he h;obtain ⟨y,hy,rfl⟩:=Wx.1 (show s ∈ x.cD.bV.map (·.2) from hs);obtain ⟨o,ho⟩:=hi.wS y ((XJ _).sublist.mem hy);exact ho.len
def az.f_ (c:az) (y:Pt):az:=if iK y.pk then (c.send (dM y.pk)).2 else c
def az.sends (c:az) (ys:List Pt):az:=ys.foldl az.f_ c
theorem sF:∀(ys:List Pt) (x:aj),x.send ys={ x with cD:=x.cD.sends ys }
 |[],_=>rfl
 |y::ys,x=>by
  show (x.gG y).send ys={ x with cD:=(x.cD.f_ y).sends ys }
  have e:x.gG y={ x with cD:=x.cD.f_ y }:=by
   unfold aj.gG az.f_;split <;> rfl
  rw [e,sF ys]
theorem vU (c:az) (ys:List Pt) {j:Nat} (h:j < ys.length):c.sends (ys.take (j+1))=(c.sends (ys.take j)).f_ ys[j]:=by
 rw [Yk h];unfold az.sends;rw [List.foldl_append];rfl
theorem vv:∀(ys:List Pt) {c:az},c.Ok->(c.sends ys).Ok/\(c.sends ys).bZ=c.bZ/\(c.sends ys).cC=c.cC/\(c.sends ys).cP<=c.cP+ys.length/\(c.sends ys).lost<=c.lost+ys.length
 |[],_,h=>⟨h,rfl,rfl,Vu _,Vu _⟩
 |y::ys,c,h=>by
  have h1:(c.f_ y).Ok/\(c.f_ y).bZ=c.bZ/\(c.f_ y).cC=c.cC/\(c.f_ y).cP<=c.cP+1/\(c.f_ y).lost<=c.lost+1:=by
   unfold az.f_;split
   ·obtain ⟨e1,e2,e3,e4,e5,e6⟩:=kT c (dM y.pk)
    exact ⟨az.kr h _,e3,e1,by omega,e6⟩
   ·exact ⟨h,rfl,rfl,by omega,by omega⟩
  obtain ⟨q1,q2,q3,q4,q5⟩:=vv ys h1.1;rw [VZ];exact ⟨q1,q2.trans h1.2.1,q3.trans h1.2.2.1,by have:=h1.2.2.2.1;show ((c.f_ y).sends ys).cP<=_;omega,by have:=h1.2.2.2.2;show ((c.f_ y).sends ys).lost<=_;omega⟩
abbrev gB (u v:Value):Obj:=.cells #[u,v] 93
theorem LQ (ua:Option Addr) (n uc:Nat) (va:Option Addr) (m vc:Nat) (w:World):(XG 93 (.agg #[.slice ua n uc,.slice va m vc]) (.int .i64 0)).run Vs w=.ok (.slice ua n uc) w:=rfl
theorem LP (ua:Option Addr) (n uc:Nat) (va:Option Addr) (m vc:Nat) (w:World):(XG 93 (.agg #[.slice ua n uc,.slice va m vc]) (.int .i64 1)).run Vs w=.ok (.slice va m vc) w:=rfl
abbrev iy (p:Nat) (cs:Array Value) (x:aj) (v:EV) (y:aj) (u:EV) (sb:Nat) (a b:Value) (ev:Value) (errs:List Nat):List Th:=
 [dJ p (bG cs),bP v.pp x.prt,kW v.sp x.sc,dm v.cp x.cD,b_ v.ov x.aV,b_ v.tv x.cF,ζ dK 3 v.nv x.aE,bP u.pp y.prt,kW u.sp y.sc,dm u.cp y.cD,b_ u.ov y.aV,b_ u.tv y.cF,ζ dK 3 u.nv y.aE,dJ sb (gB a b),ζ dK 43 ev errs]
def Gives (Z:BS) (W:World) (ts:List Th) (ea:Option Addr) (es:List iW):Prop:=
 ∀(k:Nat) (e:iW),es[k]? = some e->∀(us:List Th) (wr:World),dY (fun _=>False) Z W (us++ts) wr ->
  ∃b off da dc,ea=some ⟨b,off,none⟩/\wr.cell? ⟨b,off+k*4,none⟩=some (.int .i64 e.kind)/\wr.cell? ⟨b,off+k*4+1,none⟩=some (.int .i64 e.cS)/\wr.cell? ⟨b,off+k*4+2,none⟩=some (.int .i64 e.cls)/\wr.cell? ⟨b,off+k*4+3,none⟩=some (.slice da e.data.length dc) /\
   ∃(ts':List Th) (j:Nat) (T:Th),ts'[j]? = some T/\Reads T (.slice da e.data.length dc) e.data/\dY (fun _=>False) Z W (us++ts') wr/\∀Gs w',dY (fun _=>False) Z W (Gs++ts') w'->dY (fun _=>False) Z W (Gs++ts) w'
theorem MG {ea:Option Addr} {ec:Nat} {es:List iW} (j:Nat) (hj:ts[j]? = some (a_ eU (.slice ea es.length ec) es)):Gives Z W ts ea es:=fun k e hx us wr HH=>by
 have hi:(us++ts)[us.length+j]? = some (a_ eU (.slice ea es.length ec) es):=by
  rw [VP (Nat.le_add_right _ _),Nat.add_sub_cancel_left];exact hj
 obtain ⟨_,_,hev⟩:=HH.get (us.length+j) hi;obtain ⟨b,off,da,dc,e1,hby,k0,k1,k2,k3⟩:=uW (show dh eU wr _ (.slice ea es.length ec) es from hev) hx;subst e1
 have H2:=HH.weak (T:=dD (.slice da e.data.length dc) e.data) (us.length+j) hi fun G Y hon=>by
  obtain ⟨b',off',da',dc',PR,yP,_,_,_,Aq⟩:=uW (show dh eU wr Y (.slice (some ⟨b,off,none⟩) es.length ec) es from hon) hx;obtain ⟨rfl,rfl⟩:b=b'/\off=off':=by simpa using PR
  rw [k3] at Aq;obtain ⟨rfl,rfl⟩:da=da'/\dc=dc':=by simpa using Aq
  exact yP
 refine ⟨b,off,da,dc,rfl,k0,k1,k2,k3,ts++[dD (.slice da e.data.length dc) e.data],ts.length,_,by simp,Bq _ _,by rw [<-VE];exact H2,fun Gs w' h=>?_⟩;rw [<-VE] at h;exact h.front.tail
theorem Om (hF:L.Fit N) (h2:200<=N) (es:List iW) (hes:es.length<=1000) (hN:N+65*es.length+13000<=170000000) (hed:∀e ∈ es,e.data.length<=9223372036854775807) (ea:Option Addr) (ec:Nat) (hev:Gives Z W ts ea es) (ht:lH W) (h:dY (fun _=>False) Z W (bI p L::ts) w) :
  Calls Vs 9 #[.pointer (some ⟨p,0,none⟩),.slice ea es.length ec] w fun e' w'=>∃a c,e'=.returned (.slice a (L.acts es).1.length c)/\dY (fun _=>False) Z W (ζ dK 43 (.slice a (L.acts es).1.length c) (L.acts es).1::bI p (L.step es)::ts) w':=by
 have HH:=aQ h;have HF:=aQ hF;have HT:=aQ ht;have HJ:=aQ hev;have HED:=aQ hed;clear h hF ht hed hev;go_enter Tryz.func9,Tryz.ntmps9;go_wp2_with (refine D9 (E:=dK) P_ rfl _ _ rfl es.length (by rfl) (by rfl) (by omega) (by unfold maxLen;omega) ?_;intro w1 hb eD;have H1:=aQ ((HH.out.add hb (T:=ζ dK 43 (.slice (some ⟨w.heap.size,0,none⟩) 0 es.length) []) eD).front);clear hb eD);clear HH
 go_loopw [5,23] (fun u i wr=>∃k:Nat,k<=es.length/\i=.int .i64 (k:Int)/\∃(a:Option Addr) (c:Nat),u=.slice a (L.acts (es.take k)).1.length c /\
  Hid (dY (fun _=>False) Z W (ζ dK 43 (.slice a (L.acts (es.take k)).1.length c) (L.acts (es.take k)).1::bI p (L.acts (es.take k)).2::ts) wr)) (fun _ i _=>es.length - (intOf i).toNat)
 case atStart=>exact ⟨0,by omega,by go_num,_,_,rfl,H1⟩
 case round=>
  clear H1;obtain ⟨k,hk,rfl,a,c,rfl,HH⟩:=hrel;have htl:(es.take k).length<=k:=List.length_take_le _ _;have hFk:=(HF.out.acts (es.take k) h2).mono (M:=N+65*es.length) (by omega);by_cases hlt:k < es.length
  ·have hx:es[k]? = some es[k]:=Vw hlt
   have hsn:L.acts (es.take (k+1))=((L.acts (es.take k)).1++[((L.acts (es.take k)).2.act es[k]).1],((L.acts (es.take k)).2.act es[k]).2):=by
    rw [Yk hlt];exact sQ _ _ _
   have hdl:=HED.out es[k] (List.getElem_mem hlt);have hal:=qX (es.take k) L;have hel:(L.acts (es.take k)).1.length<=1000:=by omega
   have NK:=aQ hal;clear hal;generalize es[k]=e at *;generalize hr:L.acts (es.take k)=r at *;have HR:=aQ hr;have FI:=aQ hsn;have Q0:=aQ hFk;clear hr hsn hFk;obtain ⟨errs,K⟩:=r;dsimp only at HH FI Q0 NK hel;dsimp only;obtain ⟨b,off,da,dc,e1,k0,k1,k2,k3,ts',j,T,hjT,hRT,H2,hback⟩:=HJ.out k e hx [ζ dK 43 (.slice a errs.length c) errs,bI p K] wr HH.out;subst e1;have H3:=aQ (H2.τ (us:=[ζ dK 43 (.slice a errs.length c) errs,bI p K]) (vs:=[bI p K,ζ dK 43 (.slice a errs.length c) errs]) [1,0] (by decide) rfl);have HJT:=aQ hjT;have HRT:=aQ hRT;have Ay:=aQ hback;clear H2 HH hx hjT hRT hback;go_wp2_with fail;refine (II (ts:=ζ dK 43 (.slice a errs.length c) errs::ts') Q0.out (by omega) e da dc hdl (j+1) HRT.out HJT.out (H3.out.own (aK wr (.cells #[.int .i64 e.kind,.int .i64 e.cS,.int .i64 e.cls,.slice da e.data.length dc] 42)))).mono ?_;rintro e' w3 ⟨rfl,h4⟩;have H4:=aQ h4;clear h4 H3 k0 k1 k2 k3;generalize K.act e=q at *;obtain ⟨qe,qk⟩:=q;dsimp only at H4 FI;dsimp only;go_wp2_with (at_builtin;refine wI (e:=qe) rfl _ _ rfl H4.out 1 rfl (aK w3 _) (by omega) rfl w3.heap.size rfl (by exact iA _ _ _ _ rfl) ?_;intro a' c' w5 h;have H5:=aQ h;clear h);go_roundw
   case rel=>exact ⟨k+1,by omega,by go_num,a',c',by rw [FI.out,Vx];rfl,by rw [FI.out];exact aQ (Ay.out [ζ dK 43 (.slice a' (errs++[qe]).length c') (errs++[qe]),bI p qk] _ (dY.τ (us:=[bI p qk,ζ dK 43 (.slice a' (errs++[qe]).length c') (errs++[qe])]) (vs:=[ζ dK 43 (.slice a' (errs++[qe]).length c') (errs++[qe]),bI p qk]) H5.out [1,0] (by decide) rfl))⟩
   case measure=>simp [intOf];omega
  ·have hkl:es.take k=es:=Wn (by omega)
   rw [hkl] at HH hFk ⊢;have hFl:=(HF.out.acts es h2);have Q0:=aQ hFl;have sV:=aQ (show L.step es=(L.acts es).2.cR from rfl);have hel:(L.acts es).1.length<=1000:=by rw [qX];exact hes
   have hfull:(L.acts es).2.Fit (N+65*es.length):=hFl;clear hkl hFk htl HJ HED hFl;generalize hr:L.acts es=r at *;obtain ⟨errs,K⟩:=r;have HR:=aQ hr;clear hr;dsimp only at HH Q0 sV hel hfull;dsimp only;have HFU:=aQ hfull;clear hfull;obtain ⟨cs,v,u,e1,e2,e3,h3⟩:=(HH.out.τ (us:=[ζ dK 43 (.slice a errs.length c) errs,bI p K]) (vs:=[bI p K,ζ dK 43 (.slice a errs.length c) errs]) [1,0] (by decide) rfl).link;have sW:=aQ e1;have HE2:=aQ e2;have JB:=aQ e3;have H3:=aQ h3;clear h3 e1 e2 e3 HH;go_wp2_with fail;obtain ⟨sb,hsb⟩:∃sb,sb=wr.heap.size:=⟨_,rfl⟩
   have H4:=aQ (show dY (fun _=>False) Z W (iy p cs K.l v K.r u sb (.slice none 0 0) (.slice none 0 0) (.slice a errs.length c) errs++ts) (wr.alloc (gB (.slice none 0 0) (.slice none 0 0))) by
    rw [hsb];exact (H3.out.new (gB (.slice none 0 0) (.slice none 0 0))).front.τ (us:=dJ wr.heap.size (gB (.slice none 0 0) (.slice none 0 0))::dJ p (bG cs)::(bY K.l v++(bY K.r u++[ζ dK 43 (.slice a errs.length c) errs]))) [1,2,3,4,5,6,7,8,9,10,11,12,13,0,14] (by decide) rfl)
   rw [<-hsb];clear hsb H3
   go_loopw [34] (fun i wr=>
     (i=.int .i64 0/\Hid (dY (fun _=>False) Z W (iy p cs K.l v K.r u sb (.slice none 0 0) (.slice none 0 0) (.slice a errs.length c) errs++ts) wr)) \/
     (i=.int .i64 1/\∃ua uc,Hid (dY (fun _=>False) Z W (iy p cs K.l.cR.2 v K.r u sb (.slice ua K.l.cR.1.length uc) (.slice none 0 0) (.slice a errs.length c) errs++(a_ d_ (.slice ua K.l.cR.1.length uc) K.l.cR.1::ts)) wr)) \/
     (i=.int .i64 2/\∃ua uc va vc,Hid (dY (fun _=>False) Z W (iy p cs K.l.cR.2 v K.r.cR.2 u sb (.slice ua K.l.cR.1.length uc) (.slice va K.r.cR.1.length vc) (.slice a errs.length c) errs++(a_ d_ (.slice va K.r.cR.1.length vc) K.r.cR.1::a_ d_ (.slice ua K.l.cR.1.length uc) K.l.cR.1::ts)) wr)))
    (fun i _=>2 - (intOf i).toNat)
   case atStart=>exact .inl ⟨rfl,H4⟩
   case round=>
    clear H4
    rcases hrel with ⟨rfl,HK⟩|⟨rfl,ua,uc,HK⟩|⟨rfl,ua,uc,va,vc,HK⟩
    ·have il:=Q0.out.l
     have h5:=HK.out.τ (us:=iy p cs K.l v K.r u sb (.slice none 0 0) (.slice none 0 0) (.slice a errs.length c) errs) (vs:=dJ p (bG cs)::(bY K.l v++(bY K.r u++[dJ sb (gB (.slice none 0 0) (.slice none 0 0)),ζ dK 43 (.slice a errs.length c) errs]))) [0,1,2,3,4,5,6,7,8,9,10,11,12,13,14] (by decide) rfl;go_wp2_with fail;refine (yn (ts:=bY K.r u++[dJ sb (gB (.slice none 0 0) (.slice none 0 0)),ζ dK 43 (.slice a errs.length c) errs]++ts) il (by omega) il.mi HT.out sW.out h5).mono ?_;rintro e6 w6 ⟨ua,uc,rfl,h6⟩
     have h7:dY (fun _=>False) Z W (iy p cs K.l.cR.2 v K.r u sb (.slice none 0 0) (.slice none 0 0) (.slice a errs.length c) errs++(a_ d_ (.slice ua K.l.cR.1.length uc) K.l.cR.1::ts)) w6:=by
      have:=(h6.QQ 0 rfl qg).τ (us:=a_ d_ (.slice ua K.l.cR.1.length uc) K.l.cR.1::iy p cs K.l.cR.2 v K.r u sb (.slice none 0 0) (.slice none 0 0) (.slice a errs.length c) errs) (vs:=iy p cs K.l.cR.2 v K.r u sb (.slice none 0 0) (.slice none 0 0) (.slice a errs.length c) errs++[a_ d_ (.slice ua K.l.cR.1.length uc) K.l.cR.1]) [1,2,3,4,5,6,7,8,9,10,11,12,13,14,15,0] (by decide) rfl;rw [VE] at this;exact this
     have hs:=h7.blk 13 rfl;have g0:=aJ (i:=0) hs rfl;have gf:=fun i=>aD hs i
     have H8:=aQ (show dY (fun _=>False) Z W (iy p cs K.l.cR.2 v K.r u sb (.slice ua K.l.cR.1.length uc) (.slice none 0 0) (.slice a errs.length c) errs++(a_ d_ (.slice ua K.l.cR.1.length uc) K.l.cR.1::ts)) (w6.setCell ⟨sb,0,none⟩ (.slice ua K.l.cR.1.length uc)) from h7.set 13 rfl (gB (.slice ua K.l.cR.1.length uc) (.slice none 0 0)) (by exact eZ) (by (refine aS (Ξ hs) ?_);rfl));clear h5 h6 h7 hs HK il;go_wp2_with fail;go_roundw
     case rel=>exact .inr (.inl ⟨rfl,ua,uc,H8⟩)
     case measure=>simp [intOf]
    ·have ir:=Q0.out.r
     have h5:=HK.out.τ (us:=iy p cs K.l.cR.2 v K.r u sb (.slice ua K.l.cR.1.length uc) (.slice none 0 0) (.slice a errs.length c) errs) (vs:=dJ p (bG cs)::(bY K.r u++(bY K.l.cR.2 v++[dJ sb (gB (.slice ua K.l.cR.1.length uc) (.slice none 0 0)),ζ dK 43 (.slice a errs.length c) errs]))) [0,7,8,9,10,11,12,1,2,3,4,5,6,13,14] (by decide) rfl;go_wp2_with fail;refine (yn (ts:=bY K.l.cR.2 v++[dJ sb (gB (.slice ua K.l.cR.1.length uc) (.slice none 0 0)),ζ dK 43 (.slice a errs.length c) errs]++(a_ d_ (.slice ua K.l.cR.1.length uc) K.l.cR.1::ts)) ir (by omega) ir.mi HT.out HE2.out h5).mono ?_;rintro e6 w6 ⟨va,vc,rfl,h6⟩
     have h7:dY (fun _=>False) Z W (iy p cs K.l.cR.2 v K.r.cR.2 u sb (.slice ua K.l.cR.1.length uc) (.slice none 0 0) (.slice a errs.length c) errs++(a_ d_ (.slice va K.r.cR.1.length vc) K.r.cR.1::a_ d_ (.slice ua K.l.cR.1.length uc) K.l.cR.1::ts)) w6:=by
      have:=(h6.QQ 0 rfl qg).τ (us:=a_ d_ (.slice va K.r.cR.1.length vc) K.r.cR.1::dJ p (bG cs)::(bY K.r.cR.2 u++(bY K.l.cR.2 v++[dJ sb (gB (.slice ua K.l.cR.1.length uc) (.slice none 0 0)),ζ dK 43 (.slice a errs.length c) errs]))) (vs:=iy p cs K.l.cR.2 v K.r.cR.2 u sb (.slice ua K.l.cR.1.length uc) (.slice none 0 0) (.slice a errs.length c) errs++[a_ d_ (.slice va K.r.cR.1.length vc) K.r.cR.1]) [1,8,9,10,11,12,13,2,3,4,5,6,7,14,15,0] (by decide) rfl;rw [VE] at this;exact this
     have hs:=h7.blk 13 rfl;have g0:=aJ (i:=1) hs rfl;have gf:=fun i=>aD hs i
     have H8:=aQ (show dY (fun _=>False) Z W (iy p cs K.l.cR.2 v K.r.cR.2 u sb (.slice ua K.l.cR.1.length uc) (.slice va K.r.cR.1.length vc) (.slice a errs.length c) errs++(a_ d_ (.slice va K.r.cR.1.length vc) K.r.cR.1::a_ d_ (.slice ua K.l.cR.1.length uc) K.l.cR.1::ts)) (w6.setCell ⟨sb,1,none⟩ (.slice va K.r.cR.1.length vc)) from h7.set 13 rfl (gB (.slice ua K.l.cR.1.length uc) (.slice va K.r.cR.1.length vc)) (by exact eZ) (by (refine aS (Ξ hs) ?_);rfl));clear h5 h6 h7 hs HK ir;go_wp2_with fail;go_roundw
     case rel=>exact .inr (.inr ⟨rfl,ua,uc,va,vc,H8⟩)
     case measure=>simp [intOf]
    ·have hs:=HK.out.blk 13 rfl
     have g0:=aJ (i:=0) hs rfl;have g1:=aJ (i:=1) hs rfl;clear hs;obtain ⟨fl,la⟩:=HFU.out.l.cR;obtain ⟨fr,lb⟩:=HFU.out.r.cR;have TY:K.l.cR.2.cD.Ok/\K.l.cR.2.cD.bZ.length<=1000/\K.l.cR.2.cD.cC<=170000000/\K.l.cR.2.cD.cP<=170000000/\K.l.cR.2.cD.lost<=170000000:=⟨fl.wM,fl.fb,by have:=fl.tk;omega,by have:=fl.se;omega,by have:=fl.lo;omega⟩;have hcb:K.r.cR.2.cD.Ok/\K.r.cR.2.cD.bZ.length<=1000/\K.r.cR.2.cD.cC<=170000000/\K.r.cR.2.cD.cP<=170000000/\K.r.cR.2.cD.lost<=170000000:=⟨fr.wM,fr.fb,by have:=fr.tk;omega,by have:=fr.se;omega,by have:=fr.lo;omega⟩;have aa6:=aQ (show L.step es=⟨{ K.l.cR.2 with cD:=K.l.cR.2.cD.sends K.r.cR.1 },{ K.r.cR.2 with cD:=K.r.cR.2.cD.sends K.l.cR.1 }⟩ by rw [sV.out];unfold Lk.cR;rw [sF,sF]);have HIA:=aQ (show K.l.cR.2.inc=K.l.inc from rfl);have HIB:=aQ (show K.r.cR.2.inc=K.r.inc from rfl);clear fl fr HFU Q0 sV;generalize K.l.cR.2=A at *;generalize K.r.cR.2=B at *;generalize K.l.cR.1=pa at *;generalize K.r.cR.1=pb at *;go_wp2_with fail
     go_loopw [47] (fun i wr=>
       (i=.int .i64 0/\Hid (dY (fun _=>False) Z W (iy p cs A v B u sb (.slice ua pa.length uc) (.slice va pb.length vc) (.slice a errs.length c) errs++(a_ d_ (.slice va pb.length vc) pb::a_ d_ (.slice ua pa.length uc) pa::ts)) wr)) \/
       (i=.int .i64 1/\Hid (dY (fun _=>False) Z W (iy p cs A v { B with cD:=B.cD.sends pa } u sb (.slice ua pa.length uc) (.slice va pb.length vc) (.slice a errs.length c) errs++(a_ d_ (.slice va pb.length vc) pb::a_ d_ (.slice ua pa.length uc) pa::ts)) wr)) \/
       (i=.int .i64 2/\Hid (dY (fun _=>False) Z W (iy p cs { A with cD:=A.cD.sends pb } v { B with cD:=B.cD.sends pa } u sb (.slice ua pa.length uc) (.slice va pb.length vc) (.slice a errs.length c) errs++(a_ d_ (.slice va pb.length vc) pb::a_ d_ (.slice ua pa.length uc) pa::ts)) wr)))
      (fun i _=>2 - (intOf i).toNat)
     case atStart=>exact .inl ⟨rfl,HK⟩
     case round=>
     clear HK g0 g1
     rcases hrel with ⟨rfl,HK⟩|⟨rfl,HK⟩|⟨rfl,HK⟩
     ·have aaR:=LQ ua pa.length uc va pb.length vc wr
      go_wp2_with fail;go_loopw [53] (fun i wr=>∃j:Nat,j<=pa.length/\i=.int .i64 (j:Int)/\Hid (dY (fun _=>False) Z W (iy p cs A v { B with cD:=B.cD.sends (pa.take j) } u sb (.slice ua pa.length uc) (.slice va pb.length vc) (.slice a errs.length c) errs++(a_ d_ (.slice va pb.length vc) pb::a_ d_ (.slice ua pa.length uc) pa::ts)) wr)) (fun i _=>pa.length - (intOf i).toNat)
      case atStart=>exact ⟨0,by omega,by go_num,HK⟩
      case round=>
       clear HK;obtain ⟨j,hj,rfl,HJ⟩:=hrel;by_cases hlj:j < pa.length
       ·obtain ⟨_,_,hrd⟩:=HJ.out.get 16 rfl
        have hx:pa[j]? = some pa[j]:=Vw hlj;have HST:=aQ (vU B.cD pa hlj);obtain ⟨b,off,qa,qc,e1,hby,k0,k1,k2,k3,k4⟩:=tC (show dh d_ wr _ (.slice ua pa.length uc) pa from hrd) hx;obtain ⟨s1,s2,s3,s4,s5⟩:=vv (pa.take j) hcb.1;have htl:(pa.take j).length<=7:=VC (XD _ _) (by omega);subst e1;generalize pa[j]=x at *;generalize B.cD.sends (pa.take j)=cc at *;have jU:=aQ s1;have hfb:cc.bZ.length<=1000:=by rw [s2];exact hcb.2.1
        have htk:cc.cC<=170000000:=by rw [s3];exact hcb.2.2.1
        have hse:cc.cP<=170000007:=by have:=hcb.2.2.2.1;omega
        have hlo:cc.lost<=170000007:=by have:=hcb.2.2.2.2;omega
        have nK:=aQ hby.1;clear s1 s2 s3 s4 s5 htl hrd hx hby;by_cases hg:Good x.pk
        ·have HC:=aQ (show cc.f_ x=(cc.send (dM x.pk)).2 by unfold az.f_;rw [if_pos (fB.2 hg)])
         have Nk:=aQ hg;have hsl:(dM x.pk).length<=1000000:=by have:=(show GD (dM x.pk) (some x.pk) from ⟨hg,rfl⟩).len;omega
         clear hg;go_wp2_with fail;refine (xQ x.pk qa qc _ (nK.out.below (aK wr _)) ((HJ.out.tabs HT.out).below (aK wr _)) Nk.out).mono ?_;rintro e5 w5 ⟨v5,rfl,Ah,hb5⟩;have h6:=((HJ.out.own (aK wr (bW x (.slice qa x.pay.length qc)))).mM hb5 (T:=dD v5 (dM x.pk)) ⟨Ah.by,fun _ b hb=>Ah.own b hb⟩).front;have H6:=aQ h6;obtain ⟨va5,vc5,e5⟩:=Ah.slice;subst e5;have hcell:=(dR (HE2.out.other (y:=B) HIB.out) (h6.blk 1 rfl)).2.2.1;clear h6 Ah hb5 k0 k1 k2 k3 k4;go_wp2_with fail;refine (KT H6.out 10 rfl jU.out (show cc.bZ.length<=1000000 by omega) (show cc.cC < 1000000000 by omega) (show cc.cP < 1000000000 by omega) (show cc.lost < 1000000000 by omega) _ (dM x.pk) hsl 0 _ rfl (by decide) Qt).mono ?_;rintro e7 w7 ⟨rfl,h7⟩;have H7:=aQ (show dY (fun _=>False) Z W (iy p cs A v { B with cD:=B.cD.sends (pa.take (j+1)) } u sb (.slice (some ⟨b,off,none⟩) pa.length uc) (.slice va pb.length vc) (.slice a errs.length c) errs++(a_ d_ (.slice va pb.length vc) pb::a_ d_ (.slice (some ⟨b,off,none⟩) pa.length uc) pa::ts)) w7 by rw [HST.out,HC.out];exact h7.tail);clear h7 H6 hcell;go_wp2_with fail;go_roundw
         case rel=>exact ⟨j+1,by omega,by go_num,H7⟩
         case measure=>simp [intOf];omega
        ·have HC:=aQ (show cc.f_ x=cc by unfold az.f_;rw [if_neg fun h=>hg (fB.1 h)])
         have Nk:=aQ hg;clear hg;go_wp2_with fail;refine (Bg x.pk qa qc _ Nk.out).mono ?_;rintro e5 w5 ⟨rfl,hb5⟩;have H7:=aQ (show dY (fun _=>False) Z W (iy p cs A v { B with cD:=B.cD.sends (pa.take (j+1)) } u sb (.slice (some ⟨b,off,none⟩) pa.length uc) (.slice va pb.length vc) (.slice a errs.length c) errs++(a_ d_ (.slice va pb.length vc) pb::a_ d_ (.slice (some ⟨b,off,none⟩) pa.length uc) pa::ts)) w5 by rw [HST.out,HC.out];exact (HJ.out.own (aK wr (bW x (.slice qa x.pay.length qc)))).own hb5);clear hb5 k0 k1 k2 k3 k4;go_wp2_with fail;go_roundw
         case rel=>exact ⟨j+1,by omega,by go_num,H7⟩
         case measure=>simp [intOf];omega
       ·have hjl:pa.take j=pa:=Wn (by omega)
        rw [hjl] at HJ;clear hjl;go_wp2_with fail;go_roundw
        case rel=>exact .inr (.inl ⟨rfl,HJ⟩)
        case measure=>simp [intOf]
     ·have aaQ:=LP ua pa.length uc va pb.length vc wr
      go_wp2_with fail;go_loopw [53] (fun i wr=>∃j:Nat,j<=pb.length/\i=.int .i64 (j:Int)/\Hid (dY (fun _=>False) Z W (iy p cs { A with cD:=A.cD.sends (pb.take j) } v { B with cD:=B.cD.sends pa } u sb (.slice ua pa.length uc) (.slice va pb.length vc) (.slice a errs.length c) errs++(a_ d_ (.slice va pb.length vc) pb::a_ d_ (.slice ua pa.length uc) pa::ts)) wr)) (fun i _=>pb.length - (intOf i).toNat)
      case atStart=>exact ⟨0,by omega,by go_num,HK⟩
      case round=>
       clear HK;obtain ⟨j,hj,rfl,HJ⟩:=hrel;by_cases hlj:j < pb.length
       ·obtain ⟨_,_,hrd⟩:=HJ.out.get 15 rfl
        have hx:pb[j]? = some pb[j]:=Vw hlj;have HST:=aQ (vU A.cD pb hlj);obtain ⟨b,off,qa,qc,e1,hby,k0,k1,k2,k3,k4⟩:=tC (show dh d_ wr _ (.slice va pb.length vc) pb from hrd) hx;obtain ⟨s1,s2,s3,s4,s5⟩:=vv (pb.take j) TY.1;have htl:(pb.take j).length<=7:=VC (XD _ _) (by omega);subst e1;generalize pb[j]=x at *;generalize A.cD.sends (pb.take j)=cc at *;have jU:=aQ s1;have hfb:cc.bZ.length<=1000:=by rw [s2];exact TY.2.1
        have htk:cc.cC<=170000000:=by rw [s3];exact TY.2.2.1
        have hse:cc.cP<=170000007:=by have:=TY.2.2.2.1;omega
        have hlo:cc.lost<=170000007:=by have:=TY.2.2.2.2;omega
        have nK:=aQ hby.1;clear s1 s2 s3 s4 s5 htl hrd hx hby;by_cases hg:Good x.pk
        ·have HC:=aQ (show cc.f_ x=(cc.send (dM x.pk)).2 by unfold az.f_;rw [if_pos (fB.2 hg)])
         have Nk:=aQ hg;have hsl:(dM x.pk).length<=1000000:=by have:=(show GD (dM x.pk) (some x.pk) from ⟨hg,rfl⟩).len;omega
         clear hg;go_wp2_with fail;refine (xQ x.pk qa qc _ (nK.out.below (aK wr _)) ((HJ.out.tabs HT.out).below (aK wr _)) Nk.out).mono ?_;rintro e5 w5 ⟨v5,rfl,Ah,hb5⟩;have h6:=((HJ.out.own (aK wr (bW x (.slice qa x.pay.length qc)))).mM hb5 (T:=dD v5 (dM x.pk)) ⟨Ah.by,fun _ b hb=>Ah.own b hb⟩).front;have H6:=aQ h6;obtain ⟨va5,vc5,e5⟩:=Ah.slice;subst e5;have hcell:=(dL (sW.out.other (y:=A) HIA.out) (h6.blk 1 rfl)).2.2.1;clear h6 Ah hb5 k0 k1 k2 k3 k4;go_wp2_with fail;refine (KT H6.out 4 rfl jU.out (show cc.bZ.length<=1000000 by omega) (show cc.cC < 1000000000 by omega) (show cc.cP < 1000000000 by omega) (show cc.lost < 1000000000 by omega) _ (dM x.pk) hsl 0 _ rfl (by decide) Qt).mono ?_;rintro e7 w7 ⟨rfl,h7⟩;have H7:=aQ (show dY (fun _=>False) Z W (iy p cs { A with cD:=A.cD.sends (pb.take (j+1)) } v { B with cD:=B.cD.sends pa } u sb (.slice ua pa.length uc) (.slice (some ⟨b,off,none⟩) pb.length vc) (.slice a errs.length c) errs++(a_ d_ (.slice (some ⟨b,off,none⟩) pb.length vc) pb::a_ d_ (.slice ua pa.length uc) pa::ts)) w7 by rw [HST.out,HC.out];exact h7.tail);clear h7 H6 hcell;go_wp2_with fail;go_roundw
         case rel=>exact ⟨j+1,by omega,by go_num,H7⟩
         case measure=>simp [intOf];omega
        ·have HC:=aQ (show cc.f_ x=cc by unfold az.f_;rw [if_neg fun h=>hg (fB.1 h)])
         have Nk:=aQ hg;clear hg;go_wp2_with fail;refine (Bg x.pk qa qc _ Nk.out).mono ?_;rintro e5 w5 ⟨rfl,hb5⟩;have H7:=aQ (show dY (fun _=>False) Z W (iy p cs { A with cD:=A.cD.sends (pb.take (j+1)) } v { B with cD:=B.cD.sends pa } u sb (.slice ua pa.length uc) (.slice (some ⟨b,off,none⟩) pb.length vc) (.slice a errs.length c) errs++(a_ d_ (.slice (some ⟨b,off,none⟩) pb.length vc) pb::a_ d_ (.slice ua pa.length uc) pa::ts)) w5 by rw [HST.out,HC.out];exact (HJ.out.own (aK wr (bW x (.slice qa x.pay.length qc)))).own hb5);clear hb5 k0 k1 k2 k3 k4;go_wp2_with fail;go_roundw
         case rel=>exact ⟨j+1,by omega,by go_num,H7⟩
         case measure=>simp [intOf];omega
       ·have hjl:pb.take j=pb:=Wn (by omega)
        rw [hjl] at HJ;clear hjl;go_wp2_with fail;go_roundw
        case rel=>exact .inr (.inr ⟨rfl,HJ⟩)
        case measure=>simp [intOf]
     ·go_wp2_with fail
      go_ret;rw [aa6.out,HR.out];refine ⟨a,c,rfl,?_⟩;have h9:=HK.out.τ (us:=iy p cs { A with cD:=A.cD.sends pb } v { B with cD:=B.cD.sends pa } u sb (.slice ua pa.length uc) (.slice va pb.length vc) (.slice a errs.length c) errs) (vs:=dJ p (bG cs)::(bY { A with cD:=A.cD.sends pb } v++(bY { B with cD:=B.cD.sends pa } u++[ζ dK 43 (.slice a errs.length c) errs]))) [0,1,2,3,4,5,6,7,8,9,10,11,12,14] (by decide) rfl;have h10:=dY.bE (L:=⟨{ A with cD:=A.cD.sends pb },{ B with cD:=B.cD.sends pa }⟩) (ts:=ζ dK 43 (.slice a errs.length c) errs::a_ d_ (.slice va pb.length vc) pb::a_ d_ (.slice ua pa.length uc) pa::ts) (sW.out.other HIA.out) (HE2.out.other HIB.out) JB.out h9;exact h10.τ (us:=[bI p ⟨{ A with cD:=A.cD.sends pb },{ B with cD:=B.cD.sends pa }⟩,ζ dK 43 (.slice a errs.length c) errs,a_ d_ (.slice va pb.length vc) pb,a_ d_ (.slice ua pa.length uc) pa]) (vs:=[ζ dK 43 (.slice a errs.length c) errs,bI p ⟨{ A with cD:=A.cD.sends pb },{ B with cD:=B.cD.sends pa }⟩]) [1,0] (by decide) rfl
theorem qJ (hF:L.Fit N) (h2:200<=N) (es:List iW) (hes:es.length<=1000) (hN:N+65*es.length+13000<=170000000) (hed:∀e ∈ es,e.data.length<=1000000) (ev:Value) (j:Nat) (hj:ts[j]? = some (a_ eU ev es)) (ht:lH W) (h:dY (fun _=>False) Z W (bI p L::ts) w) :
  Calls Vs 9 #[.pointer (some ⟨p,0,none⟩),ev] w fun e' w'=>∃a c,e'=.returned (.slice a (L.acts es).1.length c)/\dY (fun _=>False) Z W (ζ dK 43 (.slice a (L.acts es).1.length c) (L.acts es).1::bI p (L.step es)::ts) w':=by
 obtain ⟨_,_,hev⟩:=h.get (j+1) hj;obtain ⟨ea,ec,rfl,_,_⟩:=dh.shape (show dh eU w _ ev es from hev);exact Om hF h2 es hes hN (fun e he=>VC (hed e he) (by decide)) ea ec (MG j hj) ht h
end

section
variable {P:Program} {ops:Array Oper} {Q:Exit->Act->World->Prop} {md:Region.Mode} {S:World->Prop}
def Fsh (P:Program) (ops:Array Oper) (D:Nat->Nat) (V:Nat->Nat->Value) (Pr:Nat->Nat->World->Prop) (js:List Nat) (a:Act) (j:Nat):Prop:=
 ∃(o:Oper) (xs:List Nat),ops[j]? = some o/\o.dst=some (D j)/\(∀x ∈ xs,∀i ∈ js,D i≠x) /\
  ∀(a':Act) (w1:World) (K:Act->World->Prop) (E:Prop),(∀x ∈ xs,a'.eval (.tmp x)=a.eval (.tmp x)) ->
   (∀b w2,Below w1.heap.size w1 w2->w1.heap.size<=b->b < w2.heap.size->Pr j b w2->K (a'.put o.dst (V j b)) w2) ->
   if VN o (yielded ops a'.tmps)=true then WZ P o a' w1 K Q else E
theorem ru (D:Nat->Nat) (hD:∀i j,D i=D j->i=j) (V:Nat->Nat->Value) (Pr:Nat->Nat->World->Prop) (hPr:∀j b w w',Pr j b w->b < w.heap.size->Below w.heap.size w w'->Pr j b w') (fuel:Nat) :
  ∀(m:Nat) (js:List Nat) (listed:Array Bool) (a:Act) (w:World),js.length=m->js.Nodup->readies md ops m js listed=true->(∀w',Below w.heap.size w w'->S w')->(∀j ∈ js,Fsh P ops (Q:=Q) D V Pr js a j) ->
   (∀(B:Nat->Nat) (w':World),Below w.heap.size w w'->(∀j ∈ js,w.heap.size<=B j/\B j < w'.heap.size/\Pr j (B j) w')->(∀i ∈ js,∀j ∈ js,B i=B j->i=j) ->
    wpAnyH P md ops Q S fuel (js.foldl (fun l j=>l.setIfInBounds j true) listed) (js.foldl (fun a j=>a.put (some (D j)) (V j (B j))) a) w') ->
   wpAnyH P md ops Q S (fuel+m) listed a w:=by
 intro m
 induction m with
 |zero=>
  intro js listed a w hl _ _ _ _ H;obtain rfl:=List.length_eq_zero_iff.1 hl;exact H (fun _=>0) w (VQ _ _) (fun j hj=>by cases hj) fun i hi=>by cases hi
 |succ m ih=>
  intro js listed a w hl hnd hok hS hops H;simp only [readies,Bool.and_eq_true,decide_eq_true_eq,List.all_eq_true] at hok;refine wpAnyH_all hok.1 (fun e=>by rw [e] at hl;cases hl) fun k hk=>?_
  obtain ⟨o,xs,h1,h3,h5,h6⟩:=hops k hk;refine wpOp_step h1 fun K hK=>?_
  refine h6 a w K _ (fun _ _=>rfl) fun b w1 hb1 hbl hbu hpr=>?_
  refine hK _ _ ⟨hS w1 hb1,?_⟩;rw [h3];have hmem:∀j,j ∈ js.erase k->j ∈ js/\j≠k:=fun j hj=>⟨List.mem_of_mem_erase hj,fun e=>by subst e;exact (ZT hnd) hj⟩
  refine ih (js.erase k) _ _ w1 (by rw [List.length_erase_of_mem hk,hl];rfl) (hnd.erase k) (hok.2 k hk) (fun w' hb=>hS w' (hb1.trans (hb.mono hb1.size))) (fun j hj=>?_) fun B' w' hb' hall hinj=>?_
  ·obtain ⟨o',xs',q1,q2,q3,q4⟩:=hops j (hmem j hj).1
   exact ⟨o',xs',q1,q2,fun x hx i hi=>q3 x hx i (hmem i hi).1,fun a' w2 K' E' he=>q4 a' w2 K' E' fun x hx=>(he x hx).trans (eval_put (q3 x hx k hk))⟩
  ·have hperm:js.Perm (k::js.erase k):=List.perm_cons_erase hk
   have:=H (fun j=>if j=k then b else B' j) w' (hb1.trans (hb'.mono hb1.size)) (fun j hj=>?_) (fun i hi j hj e=>?_)
   ·have e1:js.foldl (fun (l:Array Bool) j=>l.setIfInBounds j true) listed=(js.erase k).foldl (fun (l:Array Bool) j=>l.setIfInBounds j true) (listed.setIfInBounds k true):=
     ni (f:=fun (l:Array Bool) j=>l.setIfInBounds j true) (fun c x y=>by
      by_cases hxy:x=y
      ·subst hxy;rfl
      ·exact Array.setIfInBounds_comm _ _ hxy) hperm listed
    have e2:js.foldl (fun (a:Act) j=>a.put (some (D j)) (V j (if j=k then b else B' j))) a=(js.erase k).foldl (fun (a:Act) j=>a.put (some (D j)) (V j (B' j))) (a.put (some (D k)) (V k b)):=by
     rw [ni (f:=fun (a:Act) j=>a.put (some (D j)) (V j (if j=k then b else B' j))) (fun c x y=>?_) hperm a]
     ·rw [WM,if_pos rfl]
      exact qm fun j hj c=>by rw [if_neg (hmem j hj).2]
     ·by_cases hxy:x=y
      ·subst hxy;rfl
      ·exact Act.put_comm c _ _ fun d e e'=>hxy (hD _ _ (by cases e;exact (VM e').symm))
    rw [e1,e2] at this;exact this
   ·by_cases hjk:j=k
    ·subst hjk
     rw [if_pos rfl];exact ⟨hbl,VX hbu hb'.size,hPr _ _ _ _ hpr hbu hb'⟩
    ·rw [if_neg hjk]
     have hj':j ∈ js.erase k:=(WB hjk).2 hj;exact ⟨VC hb1.size (hall j hj').1,(hall j hj').2⟩
   ·by_cases hik:i=k
    ·by_cases hjk:j=k
     ·rw [hik,hjk]
     ·rw [if_pos hik,if_neg hjk] at e
      have:=(hall j ((WB hjk).2 hj)).1;omega
    ·by_cases hjk:j=k
     ·rw [if_neg hik,if_pos hjk] at e
      have:=(hall i ((WB hik).2 hi)).1;omega
     ·rw [if_neg hik,if_neg hjk] at e
      exact hinj i ((WB hik).2 hi) j ((WB hjk).2 hj) e
theorem lY {D:Nat->Nat} {V:Nat->Nat->Value} {Pr:Nat->Nat->World->Prop} {js:List Nat} {a:Act} {j:Nat} {n:Nat} (hn:n<=maxLen) {o:Oper} {t ty:TypeId} {z:Value} {x bytes:Nat} (h1:ops[j]? = some o) (h2:o.guard=none) (h3:o.dst=some (D j)) (h4:o.op=ZP t (.tmp x) (.tmp x)) (h5:∀i ∈ js,D i≠x) (h6:a.eval (.tmp x)=.int .i64 (n:Int)) (h7:o8 P t ty z 1 bytes) (h8:z.cells = #[z]) (h9:bytes*n<=281474976710656)
  (hV:∀b,V j b=.slice (some ⟨b,0,none⟩) n n) (hP:∀b w,Sl w (fun k=>k=b) ty 1 (.slice (some ⟨b,0,none⟩) n n) n (Vr n z)->Pr j b w):Fsh P ops (Q:=Q) D V Pr js a j:=by
 refine ⟨o,[x],h1,h3,fun y hy i hi=>by rw [Wj.1 hy];exact h5 i hi,fun a' w K E he hK=>?_⟩;have h6':a'.eval (.tmp x)=.int .i64 (n:Int):=(he x (List.mem_singleton_self x)).trans h6;obtain ⟨i,hi,hz,hsz,hby⟩:=h7.info;obtain ⟨w1,hrun,hown,hgr⟩:=run_make_full (P:=P) (w:=w) w.heap.size t ty i z 1 h7.under hi hz hsz .i64 .i64 n (by rw [hby];exact h9) hn (Vu _);have hb1:Below w.heap.size w w1:=(VQ w.heap.size w).grown hgr (Vu _) (fun k e=>by cases e);rw [h8,Xi,toList_madeCells_one] at hown
 have hsl:Sl w1 (fun k=>k=w.heap.size) ty 1 (.slice (some ⟨w.heap.size,0,none⟩) n n) n (Vr n z):=by
  obtain ⟨hl,⟨h,_⟩|⟨g,cap,cur,e,hb,hg,h10,h11,h12,Uc⟩⟩:=hown
  ·cases h
  ·obtain ⟨rfl,rfl⟩:w.heap.size=g/\n=cap:=by simpa using e
   exact ⟨hl,.inr ⟨_,0,_,cur,rfl,rfl,hg,h10,h11,by omega,by simpa using Uc⟩⟩
 have hkl:w.heap.size < w1.heap.size:=by
  obtain ⟨_,⟨h,_⟩|⟨g,off,cap,cur,e,rfl,hg,_⟩⟩:=hsl
  ·cases h
  ·exact lt_of_block hg
 refine nX (v:=.slice (some ⟨w.heap.size,0,none⟩) n n) (w':=w1) (by simp [VN,h2]) (by simp [execOp,h4,h6',hrun,Result.andThen]) ?_;have:=hK w.heap.size w1 hb1 (Vu _) hkl (hP _ _ hsl);rwa [hV] at this
end

abbrev cJ:List Value:=[.pointer none,.pointer none,.pointer none,.int .i64 0,.slice none 0 0,.slice none 0 0,.slice none 0 0]
abbrev lI (c:wP) (a:Option Addr) (k:Nat):Obj:=.cells #[.int .i64 (c.inc:Int),.slice a c.aZ.length k,.int .i64 (c.w:Int),.int .i64 (c.t:Int),.int .i64 (c.d:Int)] 24
theorem Ih (a:Int) (_:Int) (aa:Option Addr) (n k:Nat) (c d e f:Int) (ba:Option Addr) (m l:Nat) (g h i:Int) (w:World):(XG 132 (.agg #[.int .i64 a,.slice aa n k,.int .i64 c,.int .i64 d,.int .i64 e,.int .i64 f,.slice ba m l,.int .i64 g,.int .i64 h,.int .i64 i]) (.int .i64 0)).run Vs w=.ok (.agg #[.int .i64 a,.slice aa n k,.int .i64 c,.int .i64 d,.int .i64 e]) w:=rfl
theorem Ig (a:Int) (_:Int) (aa:Option Addr) (n k:Nat) (c d e f:Int) (ba:Option Addr) (m l:Nat) (g h i:Int) (w:World):(XG 132 (.agg #[.int .i64 a,.slice aa n k,.int .i64 c,.int .i64 d,.int .i64 e,.int .i64 f,.slice ba m l,.int .i64 g,.int .i64 h,.int .i64 i]) (.int .i64 1)).run Vs w=.ok (.agg #[.int .i64 f,.slice ba m l,.int .i64 g,.int .i64 h,.int .i64 i]) w:=rfl
theorem uD {w:World} {Z:BS} {a:Option Addr} {n c:Nat} {l:List Nat} (h:dh dK w Z (.slice a n c) l) (h0:0 < l.length):∃b o,a=some ⟨b,o,none⟩/\l.length<=c/\c<=maxLen/\∀(k x:Nat),l[k]? = some x->w.cell? ⟨b,o+k,none⟩=some (.int .i64 (x:Int)):=by
 obtain ⟨b,off,cs,e,_,hr,hc⟩:=h.at (by decide) (Vw h0);obtain ⟨a',c',e',m1,m2⟩:=h.shape;obtain ⟨rfl,rfl,rfl⟩:a=a'/\n=l.length/\c=c':=by simpa using e'
 refine ⟨b,off,e,m1,m2,fun k x hk=>?_⟩;obtain ⟨b2,cz,cs2,e2,_,hr2,hc2⟩:=h.at (by decide) hk;rw [e] at e2;obtain ⟨rfl,rfl⟩:b=b2/\off=cz:=by simpa using e2
 have h1:cs2=[.int .i64 (x:Int)]:=hr2;subst h1;have:=hc2 0 _ rfl;rwa [show off+k*dK.size+0=off+k by show off+k*1+0=_;omega] at this
theorem wP.Ok.cfg {c:wP} (h:c.Ok):xJ c.inc (c.aZ.map fun (x:Nat)=>(x:Int)) c.w c.t c.d:=by
 have i1:=h.i1;have i2:=h.i2;have w1:=h.w1;have w2:=h.w2;have t1:=h.t1;have t2:=h.t2;have d1:=h.d1;have d2:=h.d2;refine ⟨by rw [VL];exact h.n1,by rw [VL];exact h.n4,fun x hx=>?_,by omega,by omega,by omega,by omega,by omega,by omega,by omega,by omega⟩;obtain ⟨y,hy,rfl⟩:=Wx.1 hx;have:=h.rm y hy;omega
abbrev Rz (c:wP):δ:=dG c.inc c.aZ c.w c.t c.d
abbrev bH (c:wP) (v:EV):List Value:=[.pointer (some ⟨v.pp,0,none⟩),.pointer (some ⟨v.sp,0,none⟩),.pointer none,.int .i64 (c.inc:Int),v.ov,v.tv,v.nv]
abbrev bA (c:wP) (v:EV):List Th:=[bP v.pp (Rz c),kW v.sp Sc.new,b_ v.ov (Vr c.aZ.length []),b_ v.tv (Vr c.aZ.length []),ζ dK 3 v.nv (Vr c.aZ.length 0)]
def uX (n:Nat) (j b:Nat) (w:World):Prop:=
 (j=3/\w.heap[b]? = some (.cells #[.bool false,.slice none 0 0,.int .i64 0] 195))\/(j=11/\Sl w (fun k=>k=b) 3 1 (.slice (some ⟨b,0,none⟩) n n) n (Vr n (.int .i64 0)))\/(j≠3/\j≠11/\Sl w (fun k=>k=b) 51 1 (.slice (some ⟨b,0,none⟩) n n) n (Vr n (.slice none 0 0)))
theorem tV (n j b:Nat) (w w':World) (h:uX n j b w) (hb:b < w.heap.size) (hw:Below w.heap.size w w'):uX n j b w':=by
 rcases h with ⟨e,h⟩|⟨e,h⟩|⟨e1,e2,h⟩
 ·exact .inl ⟨e,(hw.block b hb).trans h⟩
 ·exact .inr (.inl ⟨e,h.keep fun k _ hl=>hw.block k hl⟩)
 ·exact .inr (.inr ⟨e1,e2,h.keep fun k _ hl=>hw.block k hl⟩)
def Lf (n j b:Nat):Value:=if j=3 then .pointer (some ⟨b,0,none⟩) else .slice (some ⟨b,0,none⟩) n n
theorem tX {n:Nat} {B:Nat->Nat} {w0 w:World} {Z:BS} (hall:∀j ∈ [3,7,9,11],w0.heap.size<=B j/\B j < w.heap.size/\uX n j (B j) w) (hinj:∀i ∈ [3,7,9,11],∀j ∈ [3,7,9,11],B i=B j->i=j) :
  Star [kW (B 3) Sc.new,b_ (.slice (some ⟨B 7,0,none⟩) n n) (Vr n []),b_ (.slice (some ⟨B 9,0,none⟩) n n) (Vr n []),ζ dK 3 (.slice (some ⟨B 11,0,none⟩) n n) (Vr n 0)] w (fun k=>w0.heap.size<=k) Z:=by
 have hnd:([3,7,9,11].map B).Nodup:=by
  rw [List.Nodup,List.pairwise_map];exact (show ([3,7,9,11]:List Nat).Nodup by decide).imp_of_mem fun hi hj hne e=>hne (hinj _ hi _ hj e)
 have hstar:=zn (w:=w) (Z:=fun _=>False) [(B 3,kW (B 3) Sc.new),(B 7,b_ (.slice (some ⟨B 7,0,none⟩) n n) (Vr n [])),(B 9,b_ (.slice (some ⟨B 9,0,none⟩) n n) (Vr n [])),(B 11,ζ dK 3 (.slice (some ⟨B 11,0,none⟩) n n) (Vr n 0))] hnd (fun x hx=>by
  simp only [WN,WE,or_false] at hx
  rcases hx with rfl|rfl|rfl|rfl
  ·obtain ⟨_,h2,⟨_,h3⟩|⟨e,_⟩|⟨e,_⟩⟩:=hall 3 (by decide)
   ·exact ⟨rfl,fun _=>False,none,[],0,fun _ f=>f.elim,h3,Sl.nil _ _ _ _,(fun h=>by cases h),(fun _=>rfl),(fun h=>by cases h)⟩
   ·cases e
   ·exact absurd rfl e
  ·obtain ⟨_,h2,⟨e,_⟩|⟨e,_⟩|⟨_,_,h3⟩⟩:=hall 7 (by decide)
   ·cases e
   ·cases e
   ·exact j6 rfl (fun w Z=>⟨_,rfl,Sq.nil _ _ _ _ _⟩) h3 h2
  ·obtain ⟨_,h2,⟨e,_⟩|⟨e,_⟩|⟨_,_,h3⟩⟩:=hall 9 (by decide)
   ·cases e
   ·cases e
   ·exact j6 rfl (fun w Z=>⟨_,rfl,Sq.nil _ _ _ _ _⟩) h3 h2
  ·obtain ⟨_,h2,⟨e,_⟩|⟨_,h3⟩|⟨_,e,_⟩⟩:=hall 11 (by decide)
   ·cases e
   ·exact j6 rfl (fun _ _=>rfl) h3 h2
   ·exact absurd rfl e)
 exact hstar.mono (fun k hk=>by
  obtain ⟨x,hx,rfl⟩:=Wx.1 hk;simp only [WN,WE,or_false] at hx
  rcases hx with rfl|rfl|rfl|rfl
  ·exact (hall 3 (by decide)).1
  ·exact (hall 7 (by decide)).1
  ·exact (hall 9 (by decide)).1
  ·exact (hall 11 (by decide)).1) fun _ f=>f.elim
theorem Ib (ua:Option Addr) (n uc:Nat) (va:Option Addr) (m vc:Nat) (w:World):(XG 136 (.agg #[.slice ua n uc,.slice va m vc]) (.int .i64 0)).run Vs w=.ok (.slice ua n uc) w:=rfl
theorem Ia (ua:Option Addr) (n uc:Nat) (va:Option Addr) (m vc:Nat) (w:World):(XG 136 (.agg #[.slice ua n uc,.slice va m vc]) (.int .i64 1)).run Vs w=.ok (.slice va m vc) w:=rfl
theorem Bh {F Z:BS} {W w:World} {us ts ns vs:List Th} (h:dY F Z W (us++ts++ns) w) (js:List Nat) (hn:js.Nodup) (he:js.map (fun j=>(us++ns)[j]?)=vs.map some):dY F Z W (vs++ts) w:=by
 have h1:dY F Z W ((us++ns)++ts) w:=by
  refine h.pick ((VV us.length)++((VV ns.length).map (· + (us.length+ts.length)))++((VV ts.length).map (· + us.length))) _ ?_ ?_
  ·rw [Zc,Zc]
   refine ⟨⟨Yu,YJ _ (fun a b h e=>h (by omega)) Yu,fun a ha b hb e=>?_⟩,YJ _ (fun a b h e=>h (by omega)) Yu,fun a ha b hb e=>?_⟩
   ·obtain ⟨c,_,rfl⟩:=Wx.1 hb
    have:=XO.1 ha;omega
   ·obtain ⟨c,hc,rfl⟩:=Wx.1 hb
    have hc:=XO.1 hc
    rcases List.mem_append.1 ha with ha|ha
    ·have:=XO.1 ha;omega
    ·obtain ⟨d,_,rfl⟩:=Wx.1 ha;omega
  ·rw [W9,W9,W9,W9,XR,XR]
   congr 1
   ·congr 1
    ·refine WQ fun k=>?_
     rw [VG,VG]
     rcases WV k us.length with hk|hk
     ·rw [VY hk,Vw hk]
      show some ((us++ts++ns)[k]?)=some (some us[k]);rw [VE,VO hk,Vw hk]
     ·rw [VT (by rw [Ym];exact hk),VT hk];rfl
    ·refine WQ fun k=>?_
     rw [VG,VG]
     rcases WV k ns.length with hk|hk
     ·rw [VY hk,Vw hk]
      show some ((us++ts++ns)[k+(us.length+ts.length)]?)=some (some ns[k]);rw [VP (by rw [Vx];omega),Vx,YB,Vw hk]
     ·rw [VT (by rw [Ym];exact hk),VT hk];rfl
   ·refine WQ fun k=>?_
    rw [VG,VG]
    rcases WV k ts.length with hk|hk
    ·rw [VY hk,Vw hk]
     show some ((us++ts++ns)[k+us.length]?)=some (some ts[k]);rw [VE,VP (by omega),YB,VO hk,Vw hk]
    ·rw [VT (by rw [Ym];exact hk),VT hk];rfl
 exact h1.τ js hn he
section
variable {Z:BS} {W w:World} {ts:List Th}
def aa4 (Z:BS) (W:World) (ts:List Th) (ca cb:wP) (dl:Int) (there back:List jV) (e:Ending) (w':World):Prop:=
 (¬(1<=dl/\dl<=8)/\e=.returned (.tuple #[.pointer none,.int .i64 2])/\dY (fun _=>False) Z W ts w') \/
 ((1<=dl/\dl<=8)/\¬(okF (-1) there=true/\okF (-1) back=true)/\e=.returned (.tuple #[.pointer none,.int .i64 1])/\dY (fun _=>False) Z W ts w') \/
 ((1<=dl/\dl<=8)/\okF (-1) there=true/\okF (-1) back=true/\∃p,e=.returned (.tuple #[.pointer (some ⟨p,0,none⟩),.int .i64 0])/\dY (fun _=>False) Z W (bI p (qG ca cb dl.toNat there back)::ts) w')
theorem Ms (ca cb:wP) (Tc:ca.Ok) (Ta:cb.Ok) (dl:Int) (there back:List jV) (l1:there.length<=1000) (l2:back.length<=1000)
  (aa ba:Option Addr) (ak bk:Nat) (tv bv:Value) (j1 j2 j3 j4:Nat) (h1:ts[j1]? = some (a_ dK (.slice aa ca.aZ.length ak) ca.aZ)) (h2:ts[j2]? = some (a_ dK (.slice ba cb.aZ.length bk) cb.aZ)) (h3:ts[j3]? = some (a_ dO tv there)) (h4:ts[j4]? = some (a_ dO bv back)) (h:dY (fun _=>False) Z W ts w) :
  Calls Vs 22 #[qd ca.inc aa ca.aZ.length ak ca.w ca.t ca.d,qd cb.inc ba cb.aZ.length bk cb.w cb.t cb.d,.int .i64 dl,tv,bv] w (aa4 Z W ts ca cb dl there back):=by
 obtain ⟨_,_,ra⟩:=h.get j1 h1;obtain ⟨ab,ao,rfl,_⟩:=uD (show dh dK w _ (.slice aa ca.aZ.length ak) ca.aZ from ra) Tc.n1;obtain ⟨_,_,rb⟩:=h.get j2 h2;obtain ⟨bb,bo,rfl,_⟩:=uD (show dh dK w _ (.slice ba cb.aZ.length bk) cb.aZ from rb) Ta.n1;obtain ⟨_,_,rt⟩:=h.get j3 h3;obtain ⟨ta,tk,rfl,_,_⟩:=dh.shape (show dh dO w _ tv there from rt);obtain ⟨_,_,rk⟩:=h.get j4 h4;obtain ⟨ka,kk,rfl,_,_⟩:=dh.shape (show dh dO w _ bv back from rk);have HH:=aQ h;have na:=Tc.n4;have nb:=Ta.n4;have HOA:=aQ Tc;have NC:=aQ Ta;have HJ1:=aQ h1;have HJ2:=aQ h2;have HJ3:=aQ h3;have HJ4:=aQ h4;clear h ra rb rt rk Tc Ta h1 h2 h3 h4;go_enter Tryz.func22,Tryz.ntmps22;go_wp2_with fail;obtain ⟨p,hp⟩:∃p,p=w.heap.size+1+1:=⟨_,rfl⟩
 have H1:=aQ (show dY (fun _=>False) Z W (dJ p (bG (cJ++cJ).toArray)::ts) _ from by
  have:=((HH.out.alloc (lI ca (some ⟨ab,ao,none⟩) ak)).alloc (lI cb (some ⟨bb,bo,none⟩) bk)).new (bG (cJ++cJ).toArray);rw [WW,WW,<-hp] at this;exact this.front)
 rw [<-hp];clear hp HH
 go_loopw [27] (fun i wr=>
   (i=.int .i64 0/\Hid (dY (fun _=>False) Z W (dJ p (bG (cJ++cJ).toArray)::ts) wr)) \/
   (i=.int .i64 1/\∃v,Hid (dY (fun _=>False) Z W (dJ p (bG (bH ca v++cJ).toArray)::(bA ca v++ts)) wr)) \/
   (i=.int .i64 2/\∃v u,Hid (dY (fun _=>False) Z W (dJ p (bG (bH ca v++bH cb u).toArray)::(bA ca v++(bA cb u++ts))) wr)))
  (fun i _=>2 - (intOf i).toNat)
 case atStart=>exact .inl ⟨rfl,H1⟩
 case round=>
 clear H1
 rcases hrel with ⟨rfl,HK⟩|⟨rfl,v,HK⟩|⟨rfl,v,u,HK⟩
 ·have aaR:=Ih ca.inc 0 (some ⟨ab,ao,none⟩) ca.aZ.length ak ca.w ca.t ca.d cb.inc (some ⟨bb,bo,none⟩) cb.aZ.length bk cb.w cb.t cb.d
  go_wp2_with fail;obtain ⟨_,_,hrd⟩:=HK.out.get (j1+1) HJ1.out;obtain ⟨b',o',e',m1,m2,rT⟩:=uD (show dh dK wr _ (.slice (some ⟨ab,ao,none⟩) ca.aZ.length ak) ca.aZ from hrd) HOA.out.n1;obtain ⟨rfl,rfl⟩:ab=b'/\ao=o':=by simpa using e'
  have iq:=aK wr (lI ca (some ⟨ab,ao,none⟩) ak);refine (vG (inc:=ca.inc) (aZ:=ca.aZ) (wi:=ca.w) (ti:=ca.t) (de:=ca.d) (rb:=ab) (ro:=ao) (rc:=ak) _ HOA.out.cfg m1 m2 (fun k x hk=>(Vt (iq.block ab (Vv wr _ (rT k x hk)))).trans (rT k x hk))).mono ?_;rintro e w2 ⟨pp,rfl,hm⟩;have eT:w2.heap[wr.heap.size]? = some (lI ca (some ⟨ab,ao,none⟩) ak):=(hm.1.block _ (by simp)).trans (heap_alloc_new wr _);have H2:=aQ ((HK.out.own iq).made hm).front;have NJ:=aQ eT;have x0:=aJ (i:=0) eT rfl;have x1:=aJ (i:=1) eT rfl;have hpx:¬p=wr.heap.size:=fun e=>by have:=lt_of_block (HK.out.blk 0 rfl);omega
  clear hm iq rT hrd HK eT;go_upto_region 9 with (fail)
  clear x0 x1;have nI:ca.aZ.length<=4:=na;refine wp_region_held_drew (S:=fun w'=>w'.heap[wr.heap.size]? = some (lI ca (some ⟨ab,ao,none⟩) ak)) (by kernel_rfl) NJ.out (fun hS0=>?_);refine Φ 0 3 hS0 ?_
  iterate 3 refine dI ?_
  refine aT ?_;refine Φ 4 3 hS0 ?_;refine dI ?_
  (refine aR (v:=?_) (by rfl) ?_ ?_;rotate_left 1;(focus ((intro w' hS';have l0:=aJ (i:=0) hS' rfl;clear hS';go_simp);try with_reducible rfl));simp only [VF,ag,Ψ,ae])
  refine dI ?_;refine aT ?_;refine Φ 8 1 hS0 ?_;refine dI ?_;refine aT ?_;refine Φ 10 1 hS0 ?_;refine dI ?_;refine aT ?_;refine Φ 13 2 hS0 ?_
  iterate 2 refine dI ?_
  refine aT ?_;change wpAnyH _ _ _ _ _ (3+4) _ _ _;refine ru (fun j=>j+42) (fun i j h=>by omega) (Lf ca.aZ.length) (uX ca.aZ.length) (tV _) 3 4 [3,7,9,11] _ _ _ rfl (by decide) (by kernel_rfl) (fun w' hb=>(hb.block _ (lt_of_block hS0)).trans hS0) (fun j hj=>?_) (fun B w5 hb hall hinj=>?_)
  ·simp only [WN,WE,or_false] at hj
   rcases hj with rfl|rfl|rfl|rfl
   ·refine ⟨{ dst:=some 45,op:=Yy { callee:=ZC (Zp 50),args := #[],argTypes := #[] },type := 94,pos := "link.go:58",after := #[],guard:=none },[],rfl,rfl,(fun x hx=>by cases hx),fun a' w1 K E _ hK=>?_⟩
    (refine ν (f := 50) (args := #[]) (by rfl) ?_ ?_;(focus (go_simp;first|done|(with_reducible rfl)|rfl)))
    refine (vI w1).mono ?_;rintro e' w2' ⟨rfl,rfl⟩;exact ⟨_,rfl,hK w1.heap.size _ (aK w1 _) (Vu _) (by simp) (.inl ⟨rfl,heap_alloc_new w1 _⟩)⟩
   ·exact lY (n:=ca.aZ.length) (by unfold maxLen;omega) rfl rfl rfl rfl (by decide) rfl o_ rfl (by omega) (fun b=>rfl) fun b w' h=>.inr (.inr ⟨by decide,by decide,h⟩)
   ·exact lY (n:=ca.aZ.length) (by unfold maxLen;omega) rfl rfl rfl rfl (by decide) rfl o_ rfl (by omega) (fun b=>rfl) fun b w' h=>.inr (.inr ⟨by decide,by decide,h⟩)
   ·exact lY (n:=ca.aZ.length) (by unfold maxLen;omega) rfl rfl rfl rfl (by decide) rfl Ky rfl (by omega) (fun b=>rfl) fun b w' h=>.inr (.inl ⟨rfl,h⟩)
  simp only [WM,ZA,VF,ag,Xk,Ψ,ae];have hS5:=(hb.block _ (lt_of_block hS0)).trans hS0;have hrow:w5.heap[p]? = some (bG (cJ++cJ).toArray):=(hb.block _ (lt_of_block (H2.out.blk 1 rfl))).trans (H2.out.drew.blk 1 rfl);have hf:=fun i=>aD hrow i
  have q0:=aJ (i:=0) hrow rfl;have q1:=aJ (i:=1) hrow rfl;have q2:=aJ (i:=2) hrow rfl;have q3:=aJ (i:=3) hrow rfl;have q4:=aJ (i:=4) hrow rfl;have q5:=aJ (i:=5) hrow rfl;have q6:=aJ (i:=6) hrow rfl
  have h5:=H2.out.drew.adds (rest:=[kW (B 3) Sc.new,b_ (.slice (some ⟨B 7,0,none⟩) ca.aZ.length ca.aZ.length) (Vr ca.aZ.length []),b_ (.slice (some ⟨B 9,0,none⟩) ca.aZ.length ca.aZ.length) (Vr ca.aZ.length []),ζ dK 3 (.slice (some ⟨B 11,0,none⟩) ca.aZ.length ca.aZ.length) (Vr ca.aZ.length 0)])
   (lS.news (Z:=fun k=>k < W.heap.size/\Z k/\¬False) hb (tX hall hinj) fun k h=>VX h.1 H2.out.drew.below.size)
  refine Φ 12 1 hS5 ?_;refine aR (v:=.agg #[.pointer (some ⟨pp,0,none⟩),.pointer (some ⟨B 3,0,none⟩),.pointer none,.int .i64 (ca.inc:Int),.slice (some ⟨B 7,0,none⟩) ca.aZ.length ca.aZ.length,.slice (some ⟨B 9,0,none⟩) ca.aZ.length ca.aZ.length,.slice (some ⟨B 11,0,none⟩) ca.aZ.length ca.aZ.length]) (by rfl) (fun w' _=>by kernel_rfl) ?_;simp only [VF,ag,Ψ,ae];refine aT ?_;refine ah 15 (fun K hK=>?_);go_simp;refine hK.out _ _ hS5 ?_;clear hK K;refine ah 16 (fun K hK=>?_);go_simp;obtain ⟨w6,yG⟩:∃w6,w6=(((((((w5.setCell ⟨p,0,none⟩ (.pointer (some ⟨pp,0,none⟩))).setCell ⟨p,1,none⟩ (.pointer (some ⟨B 3,0,none⟩))).setCell ⟨p,2,none⟩ (.pointer none)).setCell ⟨p,3,none⟩ (.int .i64 (ca.inc:Int))).setCell ⟨p,4,none⟩ (.slice (some ⟨B 7,0,none⟩) ca.aZ.length ca.aZ.length)).setCell ⟨p,5,none⟩ (.slice (some ⟨B 9,0,none⟩) ca.aZ.length ca.aZ.length)).setCell ⟨p,6,none⟩ (.slice (some ⟨B 11,0,none⟩) ca.aZ.length ca.aZ.length)):=⟨_,rfl⟩;have A8:w6.heap[p]? = some (bG (bH ca ⟨pp,B 3,0,.slice (some ⟨B 7,0,none⟩) ca.aZ.length ca.aZ.length,.slice (some ⟨B 9,0,none⟩) ca.aZ.length ca.aZ.length,.slice (some ⟨B 11,0,none⟩) ca.aZ.length ca.aZ.length⟩++cJ).toArray):=by rw [yG];(refine aS (Ξ hrow) ?_);rfl
  have DI:Fr (fun k=>k=p) w5 w6:=by rw [yG];exact eZ
  have h6:=h5.set 1 rfl (bG (bH ca ⟨pp,B 3,0,.slice (some ⟨B 7,0,none⟩) ca.aZ.length ca.aZ.length,.slice (some ⟨B 9,0,none⟩) ca.aZ.length ca.aZ.length,.slice (some ⟨B 11,0,none⟩) ca.aZ.length ca.aZ.length⟩++cJ).toArray) DI A8;have H7:=aQ (show dY (fun _=>False) Z W (dJ p (bG (bH ca ⟨pp,B 3,0,.slice (some ⟨B 7,0,none⟩) ca.aZ.length ca.aZ.length,.slice (some ⟨B 9,0,none⟩) ca.aZ.length ca.aZ.length,.slice (some ⟨B 11,0,none⟩) ca.aZ.length ca.aZ.length⟩++cJ).toArray)::(bA ca ⟨pp,B 3,0,.slice (some ⟨B 7,0,none⟩) ca.aZ.length ca.aZ.length,.slice (some ⟨B 9,0,none⟩) ca.aZ.length ca.aZ.length,.slice (some ⟨B 11,0,none⟩) ca.aZ.length ca.aZ.length⟩++ts)) w6 from Bh (us:=[bP pp (Rz ca),dJ p (bG (bH ca ⟨pp,B 3,0,.slice (some ⟨B 7,0,none⟩) ca.aZ.length ca.aZ.length,.slice (some ⟨B 9,0,none⟩) ca.aZ.length ca.aZ.length,.slice (some ⟨B 11,0,none⟩) ca.aZ.length ca.aZ.length⟩++cJ).toArray)]) (ns:=[kW (B 3) Sc.new,b_ (.slice (some ⟨B 7,0,none⟩) ca.aZ.length ca.aZ.length) (Vr ca.aZ.length []),b_ (.slice (some ⟨B 9,0,none⟩) ca.aZ.length ca.aZ.length) (Vr ca.aZ.length []),ζ dK 3 (.slice (some ⟨B 11,0,none⟩) ca.aZ.length ca.aZ.length) (Vr ca.aZ.length 0)]) h6 (vs:=dJ p (bG (bH ca ⟨pp,B 3,0,.slice (some ⟨B 7,0,none⟩) ca.aZ.length ca.aZ.length,.slice (some ⟨B 9,0,none⟩) ca.aZ.length ca.aZ.length,.slice (some ⟨B 11,0,none⟩) ca.aZ.length ca.aZ.length⟩++cJ).toArray)::bA ca ⟨pp,B 3,0,.slice (some ⟨B 7,0,none⟩) ca.aZ.length ca.aZ.length,.slice (some ⟨B 9,0,none⟩) ca.aZ.length ca.aZ.length,.slice (some ⟨B 11,0,none⟩) ca.aZ.length ca.aZ.length⟩) [1,0,2,3,4,5] (by decide) rfl);have PQ:w6.heap[wr.heap.size]? = some (lI ca (some ⟨ab,ao,none⟩) ak):=(DI.block _ (lt_of_block hS5) (fun e=>hpx e.symm)).trans hS5;rw [<-yG];clear yG hrow A8 DI h5 h6 hf q0 q1 q2 q3 q4 q5 q6 hall hinj hb hS5 H2 NJ;refine hK.out _ _ PQ ?_;clear hK K;refine fZ ?_;go_wp2_with fail;go_roundw
  case rel=>exact .inr (.inl ⟨rfl,_,H7⟩)
  case measure=>simp [intOf]
 ·have aaQ:=Ig ca.inc 0 (some ⟨ab,ao,none⟩) ca.aZ.length ak ca.w ca.t ca.d cb.inc (some ⟨bb,bo,none⟩) cb.aZ.length bk cb.w cb.t cb.d
  go_wp2_with fail;obtain ⟨_,_,hrd⟩:=HK.out.get (j2+6) HJ2.out;obtain ⟨b',o',e',m1,m2,rT⟩:=uD (show dh dK wr _ (.slice (some ⟨bb,bo,none⟩) cb.aZ.length bk) cb.aZ from hrd) NC.out.n1;obtain ⟨rfl,rfl⟩:bb=b'/\bo=o':=by simpa using e'
  have iq:=aK wr (lI cb (some ⟨bb,bo,none⟩) bk);refine (vG (inc:=cb.inc) (aZ:=cb.aZ) (wi:=cb.w) (ti:=cb.t) (de:=cb.d) (rb:=bb) (ro:=bo) (rc:=bk) _ NC.out.cfg m1 m2 (fun k x hk=>(Vt (iq.block bb (Vv wr _ (rT k x hk)))).trans (rT k x hk))).mono ?_;rintro e w2 ⟨pp,rfl,hm⟩;have eT:w2.heap[wr.heap.size]? = some (lI cb (some ⟨bb,bo,none⟩) bk):=(hm.1.block _ (by simp)).trans (heap_alloc_new wr _);have H2:=aQ ((HK.out.own iq).made hm).front;have NJ:=aQ eT;have x0:=aJ (i:=0) eT rfl;have x1:=aJ (i:=1) eT rfl;have hpx:¬p=wr.heap.size:=fun e=>by have:=lt_of_block (HK.out.blk 0 rfl);omega
  clear hm iq rT hrd HK eT;go_upto_region 9 with (fail)
  clear x0 x1;have nI:cb.aZ.length<=4:=nb;refine wp_region_held_drew (S:=fun w'=>w'.heap[wr.heap.size]? = some (lI cb (some ⟨bb,bo,none⟩) bk)) (by kernel_rfl) NJ.out (fun hS0=>?_);refine Φ 0 3 hS0 ?_
  iterate 3 refine dI ?_
  refine aT ?_;refine Φ 4 3 hS0 ?_;refine dI ?_
  (refine aR (v:=?_) (by rfl) ?_ ?_;rotate_left 1;(focus ((intro w' hS';have l0:=aJ (i:=0) hS' rfl;clear hS';go_simp);try with_reducible rfl));simp only [VF,ag,Ψ,ae])
  refine dI ?_;refine aT ?_;refine Φ 8 1 hS0 ?_;refine dI ?_;refine aT ?_;refine Φ 10 1 hS0 ?_;refine dI ?_;refine aT ?_;refine Φ 13 2 hS0 ?_
  iterate 2 refine dI ?_
  refine aT ?_;change wpAnyH _ _ _ _ _ (3+4) _ _ _;refine ru (fun j=>j+42) (fun i j h=>by omega) (Lf cb.aZ.length) (uX cb.aZ.length) (tV _) 3 4 [3,7,9,11] _ _ _ rfl (by decide) (by kernel_rfl) (fun w' hb=>(hb.block _ (lt_of_block hS0)).trans hS0) (fun j hj=>?_) (fun B w5 hb hall hinj=>?_)
  ·simp only [WN,WE,or_false] at hj
   rcases hj with rfl|rfl|rfl|rfl
   ·refine ⟨{ dst:=some 45,op:=Yy { callee:=ZC (Zp 50),args := #[],argTypes := #[] },type := 94,pos := "link.go:58",after := #[],guard:=none },[],rfl,rfl,(fun x hx=>by cases hx),fun a' w1 K E _ hK=>?_⟩
    (refine ν (f := 50) (args := #[]) (by rfl) ?_ ?_;(focus (go_simp;first|done|(with_reducible rfl)|rfl)))
    refine (vI w1).mono ?_;rintro e' w2' ⟨rfl,rfl⟩;exact ⟨_,rfl,hK w1.heap.size _ (aK w1 _) (Vu _) (by simp) (.inl ⟨rfl,heap_alloc_new w1 _⟩)⟩
   ·exact lY (n:=cb.aZ.length) (by unfold maxLen;omega) rfl rfl rfl rfl (by decide) rfl o_ rfl (by omega) (fun b=>rfl) fun b w' h=>.inr (.inr ⟨by decide,by decide,h⟩)
   ·exact lY (n:=cb.aZ.length) (by unfold maxLen;omega) rfl rfl rfl rfl (by decide) rfl o_ rfl (by omega) (fun b=>rfl) fun b w' h=>.inr (.inr ⟨by decide,by decide,h⟩)
   ·exact lY (n:=cb.aZ.length) (by unfold maxLen;omega) rfl rfl rfl rfl (by decide) rfl Ky rfl (by omega) (fun b=>rfl) fun b w' h=>.inr (.inl ⟨rfl,h⟩)
  simp only [WM,ZA,VF,ag,Xk,Ψ,ae];have hS5:=(hb.block _ (lt_of_block hS0)).trans hS0;have hrow:w5.heap[p]? = some (bG (bH ca v++cJ).toArray):=(hb.block _ (lt_of_block (H2.out.blk 1 rfl))).trans (H2.out.drew.blk 1 rfl);have hf:=fun i=>aD hrow i
  have q0:=aJ (i:=7) hrow rfl;have q1:=aJ (i:=8) hrow rfl;have q2:=aJ (i:=9) hrow rfl;have q3:=aJ (i:=10) hrow rfl;have q4:=aJ (i:=11) hrow rfl;have q5:=aJ (i:=12) hrow rfl;have q6:=aJ (i:=13) hrow rfl
  have h5:=H2.out.drew.adds (rest:=[kW (B 3) Sc.new,b_ (.slice (some ⟨B 7,0,none⟩) cb.aZ.length cb.aZ.length) (Vr cb.aZ.length []),b_ (.slice (some ⟨B 9,0,none⟩) cb.aZ.length cb.aZ.length) (Vr cb.aZ.length []),ζ dK 3 (.slice (some ⟨B 11,0,none⟩) cb.aZ.length cb.aZ.length) (Vr cb.aZ.length 0)])
   (lS.news (Z:=fun k=>k < W.heap.size/\Z k/\¬False) hb (tX hall hinj) fun k h=>VX h.1 H2.out.drew.below.size)
  refine Φ 12 1 hS5 ?_;refine aR (v:=.agg #[.pointer (some ⟨pp,0,none⟩),.pointer (some ⟨B 3,0,none⟩),.pointer none,.int .i64 (cb.inc:Int),.slice (some ⟨B 7,0,none⟩) cb.aZ.length cb.aZ.length,.slice (some ⟨B 9,0,none⟩) cb.aZ.length cb.aZ.length,.slice (some ⟨B 11,0,none⟩) cb.aZ.length cb.aZ.length]) (by rfl) (fun w' _=>by kernel_rfl) ?_;simp only [VF,ag,Ψ,ae];refine aT ?_;refine ah 15 (fun K hK=>?_);go_simp;refine hK.out _ _ hS5 ?_;clear hK K;refine ah 16 (fun K hK=>?_);go_simp;obtain ⟨w6,yG⟩:∃w6,w6=(((((((w5.setCell ⟨p,7,none⟩ (.pointer (some ⟨pp,0,none⟩))).setCell ⟨p,8,none⟩ (.pointer (some ⟨B 3,0,none⟩))).setCell ⟨p,9,none⟩ (.pointer none)).setCell ⟨p,10,none⟩ (.int .i64 (cb.inc:Int))).setCell ⟨p,11,none⟩ (.slice (some ⟨B 7,0,none⟩) cb.aZ.length cb.aZ.length)).setCell ⟨p,12,none⟩ (.slice (some ⟨B 9,0,none⟩) cb.aZ.length cb.aZ.length)).setCell ⟨p,13,none⟩ (.slice (some ⟨B 11,0,none⟩) cb.aZ.length cb.aZ.length)):=⟨_,rfl⟩;have A8:w6.heap[p]? = some (bG (bH ca v++bH cb ⟨pp,B 3,0,.slice (some ⟨B 7,0,none⟩) cb.aZ.length cb.aZ.length,.slice (some ⟨B 9,0,none⟩) cb.aZ.length cb.aZ.length,.slice (some ⟨B 11,0,none⟩) cb.aZ.length cb.aZ.length⟩).toArray):=by rw [yG];(refine aS (Ξ hrow) ?_);rfl
  have DI:Fr (fun k=>k=p) w5 w6:=by rw [yG];exact eZ
  have h6:=h5.set 1 rfl (bG (bH ca v++bH cb ⟨pp,B 3,0,.slice (some ⟨B 7,0,none⟩) cb.aZ.length cb.aZ.length,.slice (some ⟨B 9,0,none⟩) cb.aZ.length cb.aZ.length,.slice (some ⟨B 11,0,none⟩) cb.aZ.length cb.aZ.length⟩).toArray) DI A8;have H7:=aQ (show dY (fun _=>False) Z W (dJ p (bG (bH ca v++bH cb ⟨pp,B 3,0,.slice (some ⟨B 7,0,none⟩) cb.aZ.length cb.aZ.length,.slice (some ⟨B 9,0,none⟩) cb.aZ.length cb.aZ.length,.slice (some ⟨B 11,0,none⟩) cb.aZ.length cb.aZ.length⟩).toArray)::(bA ca v++(bA cb ⟨pp,B 3,0,.slice (some ⟨B 7,0,none⟩) cb.aZ.length cb.aZ.length,.slice (some ⟨B 9,0,none⟩) cb.aZ.length cb.aZ.length,.slice (some ⟨B 11,0,none⟩) cb.aZ.length cb.aZ.length⟩++ts))) w6 from by rw [<-VE];exact Bh (us:=bP pp (Rz cb)::dJ p (bG (bH ca v++bH cb ⟨pp,B 3,0,.slice (some ⟨B 7,0,none⟩) cb.aZ.length cb.aZ.length,.slice (some ⟨B 9,0,none⟩) cb.aZ.length cb.aZ.length,.slice (some ⟨B 11,0,none⟩) cb.aZ.length cb.aZ.length⟩).toArray)::bA ca v) (ns:=[kW (B 3) Sc.new,b_ (.slice (some ⟨B 7,0,none⟩) cb.aZ.length cb.aZ.length) (Vr cb.aZ.length []),b_ (.slice (some ⟨B 9,0,none⟩) cb.aZ.length cb.aZ.length) (Vr cb.aZ.length []),ζ dK 3 (.slice (some ⟨B 11,0,none⟩) cb.aZ.length cb.aZ.length) (Vr cb.aZ.length 0)]) h6 (vs:=dJ p (bG (bH ca v++bH cb ⟨pp,B 3,0,.slice (some ⟨B 7,0,none⟩) cb.aZ.length cb.aZ.length,.slice (some ⟨B 9,0,none⟩) cb.aZ.length cb.aZ.length,.slice (some ⟨B 11,0,none⟩) cb.aZ.length cb.aZ.length⟩).toArray)::(bA ca v++bA cb ⟨pp,B 3,0,.slice (some ⟨B 7,0,none⟩) cb.aZ.length cb.aZ.length,.slice (some ⟨B 9,0,none⟩) cb.aZ.length cb.aZ.length,.slice (some ⟨B 11,0,none⟩) cb.aZ.length cb.aZ.length⟩)) [1,2,3,4,5,6,0,7,8,9,10] (by decide) rfl);have PQ:w6.heap[wr.heap.size]? = some (lI cb (some ⟨bb,bo,none⟩) bk):=(DI.block _ (lt_of_block hS5) (fun e=>hpx e.symm)).trans hS5;rw [<-yG];clear yG hrow A8 DI h5 h6 hf q0 q1 q2 q3 q4 q5 q6 hall hinj hb hS5 H2 NJ;refine hK.out _ _ PQ ?_;clear hK K;refine fZ ?_;go_wp2_with fail;go_roundw
  case rel=>exact .inr (.inr ⟨rfl,v,_,H7⟩)
  case measure=>simp [intOf]
 ·by_cases hdl:¬(1<=dl/\dl<=8)
  ·have hq:dl < 1\/(1<=dl/\8 < dl):=by omega
   rcases hq with q1|⟨q1,q2⟩
   all_goals
    go_wp2_with fail;go_ret2;exact .inl ⟨hdl,rfl,dY.τ (us:=dJ p (bG (bH ca v++bH cb u).toArray)::(bA ca v++bA cb u)) (vs:=[]) (by exact HK.out) [] (by decide) rfl⟩
  obtain ⟨cB,rfl⟩:∃n:Nat,dl=(n:Int):=⟨dl.toNat,by omega⟩;have d1:1<=cB:=by omega
  have d2:cB<=8:=by omega
  have dd1:decide ((cB:Int) < 1)=false:=by simp;omega
  have dd2:decide (8 < (cB:Int))=false:=by simp;omega
  clear hdl;go_wp2_with fail
  go_loopw [68] (fun i wr=>
    (i=.int .i64 0/\Hid (dY (fun _=>False) Z W (dJ p (bG (bH ca v++bH cb u).toArray)::(bA ca v++(bA cb u++ts))) wr)) \/
    (i=.int .i64 1/\Hid (okF (-1) back=true)/\∃c0:Nat,Hid (dY (fun _=>False) Z W (dm c0 (az.new cB back)::dJ p (bG ((bH ca v).set 2 (.pointer (some ⟨c0,0,none⟩))++bH cb u).toArray)::(bA ca v++(bA cb u++ts))) wr)) \/
    (i=.int .i64 2/\Hid (okF (-1) back=true/\okF (-1) there=true)/\∃c0 c1:Nat,Hid (dY (fun _=>False) Z W (dm c1 (az.new cB there)::dm c0 (az.new cB back)::dJ p (bG ((bH ca v).set 2 (.pointer (some ⟨c0,0,none⟩))++(bH cb u).set 2 (.pointer (some ⟨c1,0,none⟩))).toArray)::(bA ca v++(bA cb u++ts))) wr)))
   (fun i _=>2 - (intOf i).toNat)
  case atStart=>exact .inl ⟨rfl,HK⟩
  case round=>
  clear HK
  rcases hrel with ⟨rfl,HK⟩|⟨rfl,HG,c0,HK⟩|⟨rfl,HG,c0,c1,HK⟩
  ·have hix:=Ib ka back.length kk ta there.length tk wr
   obtain ⟨_,_,hrd⟩:=HK.out.get (j4+11) HJ4.out;have HR:=aQ (show dh dO wr _ (.slice ka back.length kk) back from hrd);clear hrd;go_wp2_with fail;refine (yz wr _ _ back HR.out (by omega) cB d1 (by omega)).mono ?_;rintro e w2 (⟨hbad,rfl,hb⟩|⟨hgood,c0,rfl,hm⟩)
   ·have HX:=aQ (HK.out.own hb)
    have uM:=aQ hbad;clear HK HR hb hbad;go_wp2_with fail;go_ret2;exact .inr (.inl ⟨⟨by omega,by omega⟩,fun h=>(by have:=uM.out;rw [h.2] at this;cases this),rfl,dY.τ (us:=dJ p (bG (bH ca v++bH cb u).toArray)::(bA ca v++bA cb u)) (vs:=[]) (by exact HX.out) [] (by decide) rfl⟩)
   have HG0:=aQ hgood;clear hgood;have h2:=(HK.out.made hm).front;have hrow:=h2.blk 1 rfl;have hf:=fun i=>aD hrow i
   have q2:=aJ (i:=2) hrow rfl;have H3:=aQ (show dY (fun _=>False) Z W (dm c0 (az.new cB back)::dJ p (bG ((bH ca v).set 2 (.pointer (some ⟨c0,0,none⟩))++bH cb u).toArray)::(bA ca v++(bA cb u++ts))) (w2.setCell ⟨p,2,none⟩ (.pointer (some ⟨c0,0,none⟩))) from h2.set 1 rfl _ (by exact eZ) (by (refine aS (Ξ hrow) ?_);rfl));clear h2 hm hrow HR;go_wp2_with fail;go_roundw
   case rel=>exact .inr (.inl ⟨rfl,HG0,c0,H3⟩)
   case measure=>simp [intOf]
  ·have hix:=Ia ka back.length kk ta there.length tk wr
   obtain ⟨_,_,hrd⟩:=HK.out.get (j3+12) HJ3.out;have HR:=aQ (show dh dO wr _ (.slice ta there.length tk) there from hrd);clear hrd;go_wp2_with fail;refine (yz wr _ _ there HR.out (by omega) cB d1 (by omega)).mono ?_;rintro e w2 (⟨hbad,rfl,hb⟩|⟨hgood,c1,rfl,hm⟩)
   ·have HX:=aQ (HK.out.own hb)
    have uM:=aQ hbad;clear HK HR hb hbad;go_wp2_with fail;go_ret2;exact .inr (.inl ⟨⟨by omega,by omega⟩,fun h=>(by have:=uM.out;rw [h.1] at this;cases this),rfl,dY.τ (us:=dm c0 (az.new cB back)::dJ p (bG ((bH ca v).set 2 (.pointer (some ⟨c0,0,none⟩))++bH cb u).toArray)::(bA ca v++bA cb u)) (vs:=[]) (by exact HX.out) [] (by decide) rfl⟩)
   have HG1:=aQ (And.intro HG.out hgood);clear hgood;have h2:=(HK.out.made hm).front;have hrow:=h2.blk 2 rfl;have hf:=fun i=>aD hrow i
   have q2:=aJ (i:=9) hrow rfl;have H3:=aQ (show dY (fun _=>False) Z W (dm c1 (az.new cB there)::dm c0 (az.new cB back)::dJ p (bG ((bH ca v).set 2 (.pointer (some ⟨c0,0,none⟩))++(bH cb u).set 2 (.pointer (some ⟨c1,0,none⟩))).toArray)::(bA ca v++(bA cb u++ts))) (w2.setCell ⟨p,9,none⟩ (.pointer (some ⟨c1,0,none⟩))) from h2.set 2 rfl _ (by exact eZ) (by (refine aS (Ξ hrow) ?_);rfl));clear h2 hm hrow HR;go_wp2_with fail;go_roundw
   case rel=>exact .inr (.inr ⟨rfl,HG1,c0,c1,H3⟩)
   case measure=>simp [intOf]
  ·go_wp2_with fail
   go_ret2;refine .inr (.inr ⟨⟨by omega,by omega⟩,HG.out.2,HG.out.1,p,rfl,?_⟩);have h3:=HK.out.τ (us:=dm c1 (az.new cB there)::dm c0 (az.new cB back)::dJ p (bG ((bH ca v).set 2 (.pointer (some ⟨c0,0,none⟩))++(bH cb u).set 2 (.pointer (some ⟨c1,0,none⟩))).toArray)::(bA ca v++bA cb u)) (vs:=dJ p (bG ((bH ca v).set 2 (.pointer (some ⟨c0,0,none⟩))++(bH cb u).set 2 (.pointer (some ⟨c1,0,none⟩))).toArray)::(bY (qG ca cb cB there back).l { v with cp:=c0 }++bY (qG ca cb cB there back).r { u with cp:=c1 })) [2,3,4,1,5,6,7,8,9,0,10,11,12] (by decide) rfl;refine dY.bE (cs:=((bH ca v).set 2 (.pointer (some ⟨c0,0,none⟩))++(bH cb u).set 2 (.pointer (some ⟨c1,0,none⟩))).toArray) (v:={ v with cp:=c0 }) (u:={ u with cp:=c1 }) ?_ ?_ rfl (by rw [<-VE];exact h3)
   ·intro j x hj
    match j,hj with
    |0,hj=>exact hj
    |1,hj=>exact hj
    |2,hj=>exact hj
    |3,hj=>exact hj
    |4,hj=>exact hj
    |5,hj=>exact hj
    |6,hj=>exact hj
    |j+7,hj=>simp [lZ] at hj
   ·intro j x hj
    match j,hj with
    |0,hj=>exact hj
    |1,hj=>exact hj
    |2,hj=>exact hj
    |3,hj=>exact hj
    |4,hj=>exact hj
    |5,hj=>exact hj
    |6,hj=>exact hj
    |j+7,hj=>simp [lZ] at hj
theorem K4 (ca cb:wP) (Tc:ca.Ok) (Ta:cb.Ok) (cB:Nat) (d1:1<=cB) (d2:cB<=8) (there back:List jV) (f1:okF (-1) there=true) (f2:okF (-1) back=true) (l1:there.length<=1000) (l2:back.length<=1000)
  (aa ba:Option Addr) (ak bk:Nat) (tv bv:Value) (j1 j2 j3 j4:Nat) (h1:ts[j1]? = some (a_ dK (.slice aa ca.aZ.length ak) ca.aZ)) (h2:ts[j2]? = some (a_ dK (.slice ba cb.aZ.length bk) cb.aZ)) (h3:ts[j3]? = some (a_ dO tv there)) (h4:ts[j4]? = some (a_ dO bv back)) (h:dY (fun _=>False) Z W ts w) :
  Calls Vs 22 #[qd ca.inc aa ca.aZ.length ak ca.w ca.t ca.d,qd cb.inc ba cb.aZ.length bk cb.w cb.t cb.d,.int .i64 (cB:Int),tv,bv] w fun e w'=>∃p,e=.returned (.tuple #[.pointer (some ⟨p,0,none⟩),.int .i64 0])/\dY (fun _=>False) Z W (bI p (qG ca cb cB there back)::ts) w':=
 (Ms ca cb Tc Ta (cB:Int) there back l1 l2 aa ba ak bk tv bv j1 j2 j3 j4 h1 h2 h3 h4 h).mono fun e w' hh=>by
  rcases hh with ⟨hn,_⟩|⟨_,hn,_⟩|⟨_,_,_,p,he,hq⟩
  ·exact absurd ⟨by omega,by omega⟩ hn
  ·exact absurd ⟨f1,f2⟩ hn
  ·exact ⟨p,he,hq⟩
end

end Go.Proofs.YtjnbanjjoomecaaGreatDoor
