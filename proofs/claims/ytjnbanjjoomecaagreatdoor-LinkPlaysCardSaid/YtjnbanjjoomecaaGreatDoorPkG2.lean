/- Lemmas; no condition on the program. -/
import Derived.Test.YtjnbanjjoomecaaGreatDoorPkG1
import Derived.StillTailTactics
namespace Go.Proofs.YtjnbanjjoomecaaGreatDoor
open Go.RowKit
open List renaming replicate→Vr, getElem?_eq_getElem→Vw, length_append→Vx, take_succ_cons→Vy, drop_succ_cons→Vz, mem_of_getElem?→VD, append_assoc→VE, getElem?_map→VG, drop_zero→VH, take_zero→VI, length_map→VL, getElem?_append_left→VO, getElem?_append_right→VP, range→VV, length_take→VW, getElem?_range→VY, length_cons→VZ, length_set→Wd, eq_nil_of_length_eq_zero→Wh, mem_singleton→Wj, getD→Wo, mem_replicate→Wu, mem_map→Wx, not_mem_nil→WE, mem_cons_self→WG, foldl_cons→WM, mem_cons→WN, mem_append→WY, map_append→W9, take_length→Xd, mem_cons_of_mem→Xe, length_singleton→Xl, take_add_one→Xr, length→XT, mem_of_mem_drop→Yf, mem_or_eq_of_mem_set→YK, foldl_append→Zd
open _root_.Go.Proofs.Tryz renaming prog→Vs
open World renaming cell?_of_block→Vt, block_lt_of_cell?→Vv, drew→V3, size_alloc→WW, frozen?_of_block→XA
open Nat renaming le_refl→Vu, le_trans→VC, zero_le→VJ, zero_add→V5, le_of_not_lt→XI, add_sub_cancel_left→YP, lt_succ_of_lt→Zi
open Act renaming put→VF
open Option.some renaming inj→VM
open IntWalk renaming i64_in→V6
open Calls renaming quiet_of_same→Wq
open Int renaming toNat_natCast→Wv
open Bool renaming and_eq_true→Ww
open Callee renaming builtin→Xg
open Builtin renaming append→Xw
open Decidable renaming byContradiction→Yi
open Prod renaming snd→ZW, fst→ZX
set_option maxRecDepth 100000
set_option maxHeartbeats 64000000
theorem dY.jW {F Z:BS} {W w:World} {ts:List Th} {α : Type} {E:El α} {T:TypeId} (h:dY F Z W ts w):dY F Z W (ζ E T (.slice none 0 0) []::ts) w:=
 (h.add (Below.refl _ _) (T:=ζ E T (.slice none 0 0) []) (Sq.nil _ _ _ _ _)).front
theorem Gn {F Z:BS} {W w:World} {ts:List Th} {p N:Nat} {a:δ} {x:PV} {v10 v11 v12 v13:Value} (hok:a.Beg N) (hN:N<=1000000000) (cM:Nat) (h:dY F Z W (g_ p a x v10 v11 v12 v13++ts) w) :
  Calls Vs 90 #[.pointer (some ⟨p,0,none⟩),.int .i64 (cM:Int)] w (PG F Z W ts p a x cM):=by
 obtain ⟨rv,sp,ap,wv,bv,fu,eO,fq,fw,ig,kv,fM,rev,fD⟩:=x;have n1:=hok.n1;have n4:=hok.n4;have wl:=hok.wl;have bl:=hok.bl;have sl:=hok.sl;have hkl:=hok.kl;obtain ⟨_,_,hr⟩:=h.get 1 rfl;obtain ⟨rb,ro,rc,e1,_,_⟩:=bR (show Sq dK 3 w _ _ rv a.aZ from hr) n1;obtain ⟨_,_,hwt⟩:=h.get 2 rfl;obtain ⟨wb,wo,wk,e2,w1',_⟩:=bR (show Sq (df ψ 40) 51 w _ _ wv a.aX from hwt) (by omega);obtain ⟨_,_,hbf⟩:=h.get 3 rfl;obtain ⟨bb,bo,bc,e3,b1',_⟩:=bR (show Sq (df ψ 40) 51 w _ _ bv a.aY from hbf) (by omega);obtain ⟨_,_,hbs⟩:=h.get 4 rfl;obtain ⟨sb,so,sc,e4,s1',_⟩:=bR (show Sq dK 3 w _ _ ig a.base from hbs) (by omega);obtain ⟨_,_,hkp⟩:=h.get 5 rfl;obtain ⟨ka,kc,e5,hk1,hk2,hk3⟩:=Sq.le (show Sq jg 225 w _ _ kv a.cT from hkp);subst e1 e2 e3 e4 e5;clear hr hwt hbf hbs hkp;have bz:=aQ hok;have Ui:=aQ wl;have HBL:=aQ bl;have gK:=aQ sl;have HKL:=aQ hkl;have HH:=aQ h;have hrow:=h.blk 0 rfl;have c7:=(bB hrow).2.2.2.1;dsimp only at c7;rw [wl] at c7;unfold maxLen at hk2;clear hrow h hok;go_enter Tryz.func90,Tryz.ntmps90;go_upto_block 0 with fail
 go_cut [] from 4 (fun wx=>Hid (dY F Z W (g_ p { a with aX:=cZ a a.aX.length } ⟨.slice (some ⟨rb,ro,none⟩) a.aZ.length rc,sp,ap,.slice (some ⟨wb,wo,none⟩) a.aX.length wk,.slice (some ⟨bb,bo,none⟩) a.aY.length bc,fu,eO,fq,fw,.slice (some ⟨sb,so,none⟩) a.base.length sc,.slice ka a.cT.length kc,fM,rev,fD⟩ v10 v11 v12 v13++ts) wx))
 case first=>
  go_wp2_with fail;go_loopw [15] (fun i wr=>∃j:Nat,j<=a.aZ.length/\i=.int .i64 (j:Int)/\Hid (dY F Z W (g_ p { a with aX:=cZ a j } ⟨.slice (some ⟨rb,ro,none⟩) a.aZ.length rc,sp,ap,.slice (some ⟨wb,wo,none⟩) a.aX.length wk,.slice (some ⟨bb,bo,none⟩) a.aY.length bc,fu,eO,fq,fw,.slice (some ⟨sb,so,none⟩) a.base.length sc,.slice ka a.cT.length kc,fM,rev,fD⟩ v10 v11 v12 v13++ts) wr)) (fun i _=>a.aZ.length - (intOf i).toNat)
  case atStart=>exact ⟨0,VJ _,rfl,aQ (by rw [Cm];exact HH.out)⟩
  case round=>
   clear HH c7;obtain ⟨j,hj,rfl,HJ⟩:=hrel;by_cases hlt:j < a.aZ.length
   ·have hrow:=HJ.out.blk 0 rfl
    have c15:=(bB hrow).2.2.2.2.2.2.2.2.2.2.2;dsimp only at c15;clear hrow;go_upto_block 2 with fail
    have HN:=aQ (show dY F Z W (ζ ψ 40 (.slice none 0 0) []::(g_ p { a with aX:=cZ a j } ⟨.slice (some ⟨rb,ro,none⟩) a.aZ.length rc,sp,ap,.slice (some ⟨wb,wo,none⟩) a.aX.length wk,.slice (some ⟨bb,bo,none⟩) a.aY.length bc,fu,eO,fq,fw,.slice (some ⟨sb,so,none⟩) a.base.length sc,.slice ka a.cT.length kc,fM,rev,fD⟩ v10 v11 v12 v13++ts)) wr from HJ.out.jW)
    go_cut [5,7,15] from 15 to 52 (fun u5 u7 u15 wy=>u15=.int .i64 (j:Int)/\∃(a5:Option Addr) (c5:Nat),u5=.slice a5 (again a.cT j).length c5/\Hid (dY F Z W (ζ ψ 40 (.slice a5 (again a.cT j).length c5) (again a.cT j)::(g_ p { a with aX:=cZ a j } ⟨.slice (some ⟨rb,ro,none⟩) a.aZ.length rc,sp,ap,.slice (some ⟨wb,wo,none⟩) a.aX.length wk,.slice (some ⟨bb,bo,none⟩) a.aY.length bc,fu,eO,fq,fw,.slice (some ⟨sb,so,none⟩) a.base.length sc,.slice ka a.cT.length kc,fM,rev,fD⟩ v10 v11 v12 v13++ts)) wy))
    case first=>
     go_wp2_with fail;go_loopw [23,5,7] (fun i u5 _ wy=>∃(k:Nat) (a5:Option Addr) (c5:Nat),k<=a.cT.length/\i=.int .i64 (k:Int)/\u5=.slice a5 (again (a.cT.take k) j).length c5/\Hid (dY F Z W (ζ ψ 40 (.slice a5 (again (a.cT.take k) j).length c5) (again (a.cT.take k) j)::(g_ p { a with aX:=cZ a j } ⟨.slice (some ⟨rb,ro,none⟩) a.aZ.length rc,sp,ap,.slice (some ⟨wb,wo,none⟩) a.aX.length wk,.slice (some ⟨bb,bo,none⟩) a.aY.length bc,fu,eO,fq,fw,.slice (some ⟨sb,so,none⟩) a.base.length sc,.slice ka a.cT.length kc,fM,rev,fD⟩ v10 v11 v12 v13++ts)) wy)) (fun i _ _ _=>a.cT.length - (intOf i).toNat)
     case atStart=>exact ⟨0,none,0,VJ _,rfl,rfl,HN⟩
     case round=>
      clear HN c15;obtain ⟨k,a5,c5,hk,rfl,rfl,HK⟩:=hrel;by_cases hlk:k < a.cT.length
      ·obtain ⟨⟨fc,fd⟩,hx⟩:∃f,a.cT[k]? = some f:=⟨_,Vw hlk⟩
       have hsn:=Fp (c:=j) hx;have hal:=qW (a.cT.take k) j;rw [VW,Nat.min_eq_left hk] at hal;obtain ⟨_,_,hkp⟩:=HK.out.get 6 rfl;obtain ⟨kb,ko,TP,e5,_,_⟩:=bR (show Sq jg 225 wr _ _ (.slice ka a.cT.length kc) a.cT from hkp) (by omega);obtain ⟨rfl,rfl⟩:ka=some ⟨kb,ko,none⟩/\kc=TP:=by simpa using e5
       obtain ⟨v,k0,k1,hby⟩:=uG hkp hx;obtain ⟨va,vc,rfl⟩:=hby.slice;obtain ⟨ys,hys⟩:∃ys,ys=again (a.cT.take k) j:=⟨_,rfl⟩;rw [<-hys] at HK hal hsn;have HYS:=aQ hys;have HX:=aQ hx;have FI:=aQ hsn;rw [<-hys];clear hkp hby e5 hys hx hsn;by_cases hfj:fc=j
       ·subst hfj
        have eT:=aK wr (.cells #[.int .i64 (fc:Int),.slice va fd.length vc] 225);obtain ⟨Kx,us,Yx,hsl,_,hoth,hback⟩:=HK.out.yT 0 rfl
        have Kk:fE wr Yx (.slice va fd.length vc) fd:=by
         obtain ⟨H,_,hh⟩:=hoth 6 _ (by decide) rfl;obtain ⟨v',_,e,hb⟩:=uG (show Sq jg 225 wr H Yx (.slice (some ⟨kb,ko,none⟩) a.cT.length kc) a.cT from hh) HX.out;rw [k1] at e
         cases e
         exact hb
        have iT:=aQ (fun (v2:Value) (w2:World) (w1:World) (hb:Below wr.heap.size wr w1) (hsl2:Sl w2 (fun k=>Kx k\/w1.heap.size<=k) 40 1 v2 (ys.length+1) (us++[.slice va fd.length vc])) (hfr2:Fr Kx w1 w2)=>
         show ∃a2 c2,v2=.slice a2 (ys.length+1) c2/\Hid (dY F Z W (ζ ψ 40 (.slice a2 (ys.length+1) c2) (ys++[fd])::(g_ p { a with aX:=cZ a fc } ⟨.slice (some ⟨rb,ro,none⟩) a.aZ.length rc,sp,ap,.slice (some ⟨wb,wo,none⟩) a.aX.length wk,.slice (some ⟨bb,bo,none⟩) a.aY.length bc,fu,eO,fq,fw,.slice (some ⟨sb,so,none⟩) a.base.length sc,.slice (some ⟨kb,ko,none⟩) a.cT.length kc,fM,rev,fD⟩ v10 v11 v12 v13++ts)) w2) from by
          obtain ⟨a2,c2,rfl⟩:=hsl2.shape;exact ⟨a2,c2,rfl,aQ (hback _ _ [.slice va fd.length vc] [fd] _ hb hsl2 hfr2 ⟨fun _=>False,Yx,fun _ f=>f.elim,fun _ y=>.inl y,fun _ f=>f.elim,fK.single (E:=ψ) ⟨_,rfl,Kk.below hb⟩⟩)⟩)
        have gK:=aQ hsl;clear hsl hoth hback Kk eT;go_wp2_with (at_builtin;refine cQ qA rfl _ _ rfl Kx (.slice a5 ys.length c5) ys.length us rfl ((gK.out.alloc _).alloc _) _ 1 [.slice va fd.length vc] rfl (iA _ _ _ _ (by simp)) (by intro u hu;simp at hu;subst hu;rfl) (by unfold maxLen;omega) (by omega) ?_;intro v2 w2 hsl2 hfr2;obtain ⟨a2,c2,rfl,HS2⟩:=iT.out v2 w2 _ ((aK wr _).trans ((aK _ _).mono (by simp))) hsl2 hfr2;clear hsl2 hfr2);go_roundw
        case rel=>
         have e:again (a.cT.take (k+1)) fc=ys++[fd]:=by rw [FI.out,if_pos (by simp)]
         exact ⟨k+1,a2,c2,by omega,by go_num,by rw [e,Vx];rfl,by rw [e,Vx];exact HS2⟩
        case measure=>simp [intOf];omega
       ·have hne:((fc:Int) == (j:Int))=false:=by rw [beq_eq_false_iff_ne];omega
        have HNE:=aQ hfj;clear hfj;go_wp2_with fail;go_roundw
        case rel=>
         have e:again (a.cT.take (k+1)) j=ys:=by rw [FI.out,if_neg (by simpa using HNE.out),List.append_nil]
         exact ⟨k+1,a5,c5,by omega,by go_num,by rw [e],by rw [e];exact aQ (HK.out.alloc _)⟩
        case measure=>simp [intOf];omega
      ·obtain rfl:a.cT.length=k:=by omega
       rw [Xd] at HK ⊢;go_wp2_with fail;go_meet;exact ⟨rfl,a5,c5,rfl,HK⟩
    case rest=>
     obtain ⟨rfl,a5,c5,rfl,HA⟩:=hcut;have hag:=qW a.cT j;obtain ⟨ys,hys⟩:∃ys,ys=again a.cT j:=⟨_,rfl⟩;have HYS:=aQ hys;rw [<-hys] at HA hag ⊢;clear hys c15 HN;have hrow:=HA.out.blk 1 rfl;have c7:=(bB hrow).2.2.2.1;dsimp only at c7;rw [Ui.out] at c7;go_upto_region 10 with fail
     obtain ⟨vcw,je,hout⟩:=HA.out.out 3 rfl (Eb (p:=a) (j:=j) (by rw [Ui.out];exact hlt));obtain ⟨_,_,eD⟩:=hout.front.get 0 rfl;obtain ⟨xa,xc,e9,hx1,hx2,_⟩:=Sq.le eD;subst e9;have hxl:=bz.out.qy _ (VD (bT (d:=[]) (show j < a.aX.length by rw [Ui.out];exact hlt)));obtain ⟨xs,hxs⟩:∃xs,xs=a.aX.getD j []:=⟨_,rfl⟩;have uA:=aQ hxs;rw [<-hxs] at je hxl hx1 hout;have hpb:p≠wb:=hout.front.apart 2 4 (by decide) rfl rfl (fun _ _ h=>h.2) fun _ _ h=>(Sq.free (show Sq _ _ _ _ _ _ _ from h)).2.1
     have hfz:∀k,wc.frozen? ⟨wb,k,none⟩=false:=by
      obtain ⟨_,_,hh⟩:=hout.front.get 4 rfl;exact (Sq.free (show Sq _ _ _ _ _ (.slice (some ⟨wb,wo,none⟩) a.aX.length wk) _ from hh)).2.2.2
     obtain ⟨Kx,us,Yx,hsl,hKn,hoth,hback⟩:=hout.front.yT 1 rfl;have o5:¬Kx p:=hKn p 2 _ (by decide) rfl fun H Y h=>.inl h.2
     have hKb:¬Kx wb:=hKn wb 4 _ (by decide) rfl fun H Y h=>.inl (Sq.free (show Sq _ _ _ H Y _ _ from h)).2.1
     obtain ⟨Hx,_,K',D',Gs,_,_,_,rR,DK⟩:=hoth 0 _ (by decide) rfl;have hp1:p < wc.heap.size:=Vv wc _ c7;have hl1:wb < wc.heap.size:=Vv wc _ je
     have iT:=aQ (fun (v2:Value) (w2:World) (hsl2:Sl w2 (fun k=>Kx k\/wc.drew.heap.size<=k) 40 1 v2 (ys.length+xs.length) (us++Gs)) (hfr2:Fr Kx wc.drew w2)=>
      show ∃a2 c2,v2=.slice a2 (ys.length+xs.length) c2/\w2.cell? ⟨p,7,none⟩=some (.slice (some ⟨wb,wo,none⟩) a.aZ.length wk)/\w2.cell? ⟨wb,wo+j,none⟩=some (.slice xa xs.length xc)/\(∀k,w2.frozen? ⟨wb,k,none⟩=false)/\Hid (dY F Z W (g_ p { a with aX:=cZ a (j+1) } ⟨.slice (some ⟨rb,ro,none⟩) a.aZ.length rc,sp,ap,.slice (some ⟨wb,wo,none⟩) a.aX.length wk,.slice (some ⟨bb,bo,none⟩) a.aY.length bc,fu,eO,fq,fw,.slice (some ⟨sb,so,none⟩) a.base.length sc,.slice ka a.cT.length kc,fM,rev,fD⟩ v10 v11 v12 v13++ts) (w2.setCell ⟨wb,wo+j,none⟩ (.slice a2 (ys.length+xs.length) c2))) from by
       obtain ⟨a2,c2,rfl⟩:=hsl2.shape;have hb:=bS wc 1;have h1:=hback wc.drew w2 Gs xs _ hb hsl2 hfr2 ⟨fun _=>False,Yx,fun _ f=>f.elim,fun _ y=>.inl y,fun _ f=>f.elim,DZ (DK.later hb)⟩;have h2:=dY.back (c:=j) (Gr:=cZ a (j+1)) (dY.wT (dY.tail h1)) 2 rfl (by rw [Wd,VL,xg,Ui.out];exact hlt) (by rw [j_,HYS.out,uA.out,Ea]);exact ⟨a2,c2,rfl,(Vt (hfr2.block p hp1 o5)).trans c7,(Vt (hfr2.block wb hl1 hKb)).trans je,fun k=>(XA (hfr2.block wb hl1 hKb)).trans (hfz k),aQ h2⟩)
     have gK:=aQ hsl;have Dq:=aQ rR.rd;have uP:=aQ DK.one;clear hsl hKn hoth hback rR DK eD hout o5 hKb hx1 hxs hp1 hl1 HA;refine wp_region_held_drew (S:=fun w'=>w'.cell? ⟨p,7,none⟩=some (.slice (some ⟨wb,wo,none⟩) a.aZ.length wk)) (by kernel_rfl) c7 (fun hS0=>?_);refine Φ 0 12 hS0 ?_
     iterate 12 (refine aR (v:=?_) (by rfl) ?_ ?_;rotate_left 1;(focus ((intro w' hS';go_simp);try with_reducible rfl));simp only [VF,ag,Ψ,ae])
     refine aT ?_;refine ah 12 (fun K hK=>?_);go_simp;refine hK.out _ _ c7 ?_;clear hK K;refine ah 13 (fun K hK=>?_);refine υ qA rfl _ _ rfl Kx (.slice a5 ys.length c5) ys.length us rfl gK.out.drew (.slice xa xs.length xc) xs.length Gs rfl (Dq.out.keep fun _ _ _=>rfl) uP.out (by unfold maxLen;omega) (by omega) ?_;intro v2 w2 hsl2 hfr2;obtain ⟨a2,c2,rfl,kp,k0,kf,HS2⟩:=iT.out v2 w2 hsl2 hfr2;clear hsl2 hfr2;refine hK.out _ _ kp ?_;clear hK K;simp only [VF,ag,Ψ,ae];refine ah 14 (fun K hK=>?_);go_simp;refine hK.out _ _ kp ?_;clear hK K;refine ah 15 (fun K hK=>?_);go_simp;refine hK.out _ _ (oI hpb kp) ?_;clear hK K;refine fZ ?_;go_wp2_with fail;go_roundw
     case rel=>exact ⟨j+1,by omega,by go_num,HS2⟩
     case measure=>simp [intOf];omega
   ·obtain rfl:a.aZ.length=j:=by omega
    go_wp2_with fail;go_meet;rw [show cZ a a.aX.length=cZ a a.aZ.length by rw [Ui.out]];exact HJ
 case rest=>
  clear HH c7;have hrow:=hcut.out.blk 0 rfl;have hp1:=lt_of_block hrow;have c15:=(bB hrow).2.2.2.2.2.2.2.2.2.2.2;have c9:=(bB hrow).2.2.2.2.2.1;have cf:=fun i=>aD hrow i
  have h1:=hcut.out.set 0 rfl (jH { a with aX:=cZ a a.aX.length,cM:=cM,cT:=[] } ⟨.slice (some ⟨rb,ro,none⟩) a.aZ.length rc,sp,ap,.slice (some ⟨wb,wo,none⟩) a.aX.length wk,.slice (some ⟨bb,bo,none⟩) a.aY.length bc,fu,eO,fq,fw,.slice (some ⟨sb,so,none⟩) a.base.length sc,.slice none 0 0,fM,rev,fD⟩ v10 v11 v12 v13) (w':=(wc.setCell ⟨p,15,none⟩ (.slice none 0 0)).setCell ⟨p,9,none⟩ (.int .i64 (cM:Int))) (by exact eZ) (by (refine aS (Ξ hrow) ?_);rfl)
  have H1:=aQ (show dY F Z W (g_ p { a with aX:=cZ a a.aX.length,cM:=cM,cT:=[] } ⟨.slice (some ⟨rb,ro,none⟩) a.aZ.length rc,sp,ap,.slice (some ⟨wb,wo,none⟩) a.aX.length wk,.slice (some ⟨bb,bo,none⟩) a.aY.length bc,fu,eO,fq,fw,.slice (some ⟨sb,so,none⟩) a.base.length sc,.slice none 0 0,fM,rev,fD⟩ v10 v11 v12 v13++ts) ((wc.setCell ⟨p,15,none⟩ (.slice none 0 0)).setCell ⟨p,9,none⟩ (.int .i64 (cM:Int))) from
   h1.upd 5 rfl (T':=ζ jg 225 (.slice none 0 0) []) fun G Y _ _=>⟨Sq.nil _ _ _ _ _,Fr.refl _ _⟩)
  clear h1 hrow;go_upto_region 14 with fail
  generalize hw1:(wc.setCell ⟨p,15,none⟩ (.slice none 0 0)).setCell ⟨p,9,none⟩ (.int .i64 (cM:Int))=w1 at H1 ⊢;clear hw1 c15 c9 cf hp1 hcut;have hrow:=H1.out.blk 0 rfl;obtain ⟨c1,c2,c3,_,_,_,c10,_⟩:=bB hrow;have hp1:=lt_of_block hrow;have cf:=fun i=>aD hrow i
  clear hrow;refine wp_region_held_drew (S:=fun w'=>w'.cell? ⟨p,2,none⟩=some (.int .i64 (a.cA:Int))/\w'.cell? ⟨p,3,none⟩=some (.int .i64 (a.aN:Int))) (by kernel_rfl) ⟨c2,c3⟩ (fun hS0=>?_);refine Φ 0 11 hS0 ?_
  iterate 11 (refine aR (v:=?_) (by rfl) ?_ ?_;rotate_left 1;(focus ((intro w' hS';obtain ⟨l0,l1⟩:=hS';go_simp);try with_reducible rfl));simp only [VF,ag,Ψ,ae])
  refine aT ?_;refine ah 11 (fun K hK=>?_)
  (refine ν (f:=?_) (args:=?_) (by rfl) ?_ ?_;rotate_left 2;(focus (go_simp;first|(with_reducible rfl)|(refine ⟨?_,?_⟩ <;> with_reducible rfl)));(refine (aaa a.cA a.aN w1.drew bz.out.w1 bz.out.w2 bz.out.t1 bz.out.t2).mono ?_);rintro e' w2 ⟨rfl,hsn,hb⟩)
  refine ⟨_,rfl,?_⟩;simp only [VF,ag,Ψ,ae];have H2:=aQ (H1.out.drew.add hb (T:=kY w1.drew.heap.size (eH a.cA a.aN)) ((Al.thing _ _).mono hsn fun k hk=>by have hk':k=w1.drew.heap.size:=hk;omega)).front;refine hK.out _ _ ⟨(Vt (hb.block p hp1)).trans c2,(Vt (hb.block p hp1)).trans c3⟩ ?_;clear hK K;have k2:=(Vt (hb.block p hp1)).trans c2;have k3:=(Vt (hb.block p hp1)).trans c3;clear c1 c2 c3 c10 cf hS0 hsn;change wpAnyH _ _ _ _ _ (1+5) _ _ _;refine aH 12 5 (by kernel_rfl) ⟨k2,k3⟩ (fun _ _ _ _ _ h=>h) ?_;simp only [Vz,VH,Vy,VI]
  iterate 5 refine dI ?_
  refine aT ?_;have hr2:=H2.out.blk 1 rfl;have k10:=(bB hr2).2.2.2.2.2.2.1;have kf:=fun i=>aD hr2 i
  obtain ⟨sq,eD⟩:∃sq,sq=w1.drew.heap.size:=⟨_,rfl⟩;have H3:=aQ (H2.out.set 1 rfl (jH { a with aX:=cZ a a.aX.length,cM:=cM,cT:=[] } ⟨.slice (some ⟨rb,ro,none⟩) a.aZ.length rc,sp,ap,.slice (some ⟨wb,wo,none⟩) a.aX.length wk,.slice (some ⟨bb,bo,none⟩) a.aY.length bc,fu,eO,fq,fw,.slice (some ⟨sb,so,none⟩) a.base.length sc,.slice none 0 0,fM,rev,fD⟩ (.pointer (some ⟨w1.drew.heap.size,0,none⟩)) v11 v12 v13) (w':=w2.setCell ⟨p,10,none⟩ (.pointer (some ⟨w1.drew.heap.size,0,none⟩))) (by exact eZ) (by (refine aS (Ξ hr2) ?_);rfl));obtain ⟨_,m2,m3,_⟩:=bB (H3.out.blk 1 rfl);clear H1 H2 hb hr2;refine ah 17 (fun K hK=>?_);go_simp;refine hK.out _ _ ⟨m2,m3⟩ ?_;clear hK K k2 k3 k10 kf m2 m3;refine fZ ?_;have h3:=H3.out;clear H3;rw [<-eD] at h3;change Exit.then _ _ _ _ (w2.setCell ⟨p,10,none⟩ (.pointer (some ⟨w1.drew.heap.size,0,none⟩)));rw [<-eD];generalize w2.setCell ⟨p,10,none⟩ (.pointer (some ⟨sq,0,none⟩))=w3 at h3 ⊢;clear eD;have H3:=aQ (show dY F Z W (kY sq (eH a.cA a.aN)::g_ p { a with aX:=cZ a a.aX.length,cM:=cM,cT:=[] } ⟨.slice (some ⟨rb,ro,none⟩) a.aZ.length rc,sp,ap,.slice (some ⟨wb,wo,none⟩) a.aX.length wk,.slice (some ⟨bb,bo,none⟩) a.aY.length bc,fu,eO,fq,fw,.slice (some ⟨sb,so,none⟩) a.base.length sc,.slice none 0 0,fM,rev,fD⟩ (.pointer (some ⟨sq,0,none⟩)) v11 v12 v13++ts) w3 from h3);clear h3;go_upto_region 15 with fail
  go_wp2_with fail;refine (wK w3).mono ?_;rintro e' w4 ⟨rfl,hrc,hb⟩;have H4:=aQ (H3.out.add hb (T:=rP w3.heap.size 0) ⟨hrc,Vu _⟩).front;have hrow:=H4.out.blk 2 rfl;have c11:=(bB hrow).2.2.2.2.2.2.2.1;have cf:=fun i=>aD hrow i
  have hp1:=lt_of_block hrow;obtain ⟨rq,hrq⟩:∃rq,rq=w3.heap.size:=⟨_,rfl⟩;rw [<-hrq] at H4 ⊢;have h5:=H4.out.set 2 rfl (jH { a with aX:=cZ a a.aX.length,cM:=cM,cT:=[] } ⟨.slice (some ⟨rb,ro,none⟩) a.aZ.length rc,sp,ap,.slice (some ⟨wb,wo,none⟩) a.aX.length wk,.slice (some ⟨bb,bo,none⟩) a.aY.length bc,fu,eO,fq,fw,.slice (some ⟨sb,so,none⟩) a.base.length sc,.slice none 0 0,fM,rev,fD⟩ (.pointer (some ⟨sq,0,none⟩)) (.pointer (some ⟨rq,0,none⟩)) v12 v13) (w':=w4.setCell ⟨p,11,none⟩ (.pointer (some ⟨rq,0,none⟩))) (by exact eZ) (by (refine aS (Ξ hrow) ?_);rfl);clear hrow hrc hb H3 hrq;go_upto_region 16 with fail
  generalize w4.setCell ⟨p,11,none⟩ (.pointer (some ⟨rq,0,none⟩))=w5 at h5 ⊢;have H5:=aQ (show dY F Z W (rP rq 0::kY sq (eH a.cA a.aN)::g_ p { a with aX:=cZ a a.aX.length,cM:=cM,cT:=[] } ⟨.slice (some ⟨rb,ro,none⟩) a.aZ.length rc,sp,ap,.slice (some ⟨wb,wo,none⟩) a.aX.length wk,.slice (some ⟨bb,bo,none⟩) a.aY.length bc,fu,eO,fq,fw,.slice (some ⟨sb,so,none⟩) a.base.length sc,.slice none 0 0,fM,rev,fD⟩ (.pointer (some ⟨sq,0,none⟩)) (.pointer (some ⟨rq,0,none⟩)) v12 v13++ts) w5 from h5);clear h5 H4 c11 cf hp1;have hrow:=H5.out.blk 2 rfl;have c1:=(bB hrow).1;dsimp only at c1;clear hrow;go_wp2_with fail;refine (EL a.aZ.length w5 n1 n4).mono ?_;rintro e' w6 ⟨tq,rfl,hm⟩;have H6:=aQ (H5.out.made hm).front;have hrow:=H6.out.blk 3 rfl;have c12:=(bB hrow).2.2.2.2.2.2.2.2.1;have cf:=fun i=>aD hrow i
  have hp1:=lt_of_block hrow;have h7:=H6.out.set 3 rfl (jH { a with aX:=cZ a a.aX.length,cM:=cM,cT:=[] } ⟨.slice (some ⟨rb,ro,none⟩) a.aZ.length rc,sp,ap,.slice (some ⟨wb,wo,none⟩) a.aX.length wk,.slice (some ⟨bb,bo,none⟩) a.aY.length bc,fu,eO,fq,fw,.slice (some ⟨sb,so,none⟩) a.base.length sc,.slice none 0 0,fM,rev,fD⟩ (.pointer (some ⟨sq,0,none⟩)) (.pointer (some ⟨rq,0,none⟩)) (.pointer (some ⟨tq,0,none⟩)) v13) (w':=w6.setCell ⟨p,12,none⟩ (.pointer (some ⟨tq,0,none⟩))) (by exact eZ) (by (refine aS (Ξ hrow) ?_);rfl);clear hrow hm H5;go_upto_region 17 with fail
  generalize w6.setCell ⟨p,12,none⟩ (.pointer (some ⟨tq,0,none⟩))=w7 at h7 ⊢;have H7:=aQ (show dY F Z W (nL tq (Vr a.aZ.length ⟨0,0⟩)::rP rq 0::kY sq (eH a.cA a.aN)::g_ p { a with aX:=cZ a a.aX.length,cM:=cM,cT:=[] } ⟨.slice (some ⟨rb,ro,none⟩) a.aZ.length rc,sp,ap,.slice (some ⟨wb,wo,none⟩) a.aX.length wk,.slice (some ⟨bb,bo,none⟩) a.aY.length bc,fu,eO,fq,fw,.slice (some ⟨sb,so,none⟩) a.base.length sc,.slice none 0 0,fM,rev,fD⟩ (.pointer (some ⟨sq,0,none⟩)) (.pointer (some ⟨rq,0,none⟩)) (.pointer (some ⟨tq,0,none⟩)) v13++ts) w7 from h7);clear h7 H6 c12 cf hp1 c1;have hrow:=H7.out.blk 3 rfl;have c1:=(bB hrow).1;dsimp only at c1;clear hrow;go_wp2_with fail
  have Lb:∀(k y:Nat),a.aZ[k]? = some y->w7.cell? ⟨rb,ro+k,none⟩=some (.int .i64 (y:Int)):=fun k y hk=>by
   obtain ⟨_,_,hr⟩:=H7.out.get 4 rfl;exact dP (show Sq dK 3 w7 _ _ (.slice (some ⟨rb,ro,none⟩) a.aZ.length rc) a.aZ from hr) hk
  refine (EN w7 n1 n4 bz.out.rm Lb).mono ?_;rintro e' w8 ⟨gq,rfl,hm⟩;have H8:=aQ (H7.out.made hm).front;have hrow:=H8.out.blk 4 rfl;have c13:=(bB hrow).2.2.2.2.2.2.2.2.2.1;have cf:=fun i=>aD hrow i
  have hp1:=lt_of_block hrow;have h9:=H8.out.set 4 rfl (jH { a with aX:=cZ a a.aX.length,cM:=cM,cT:=[] } ⟨.slice (some ⟨rb,ro,none⟩) a.aZ.length rc,sp,ap,.slice (some ⟨wb,wo,none⟩) a.aX.length wk,.slice (some ⟨bb,bo,none⟩) a.aY.length bc,fu,eO,fq,fw,.slice (some ⟨sb,so,none⟩) a.base.length sc,.slice none 0 0,fM,rev,fD⟩ (.pointer (some ⟨sq,0,none⟩)) (.pointer (some ⟨rq,0,none⟩)) (.pointer (some ⟨tq,0,none⟩)) (.pointer (some ⟨gq,0,none⟩))) (w':=w8.setCell ⟨p,13,none⟩ (.pointer (some ⟨gq,0,none⟩))) (by exact eZ) (by (refine aS (Ξ hrow) ?_);rfl);clear hrow hm H7 Lb c1;go_upto_region 18 with fail
  generalize w8.setCell ⟨p,13,none⟩ (.pointer (some ⟨gq,0,none⟩))=w9 at h9 ⊢;have H9:=aQ (show dY F Z W (nO gq (a.aZ.map fun r=>⟨r,0,0⟩)::nL tq (Vr a.aZ.length ⟨0,0⟩)::rP rq 0::kY sq (eH a.cA a.aN)::g_ p { a with aX:=cZ a a.aX.length,cM:=cM,cT:=[] } ⟨.slice (some ⟨rb,ro,none⟩) a.aZ.length rc,sp,ap,.slice (some ⟨wb,wo,none⟩) a.aX.length wk,.slice (some ⟨bb,bo,none⟩) a.aY.length bc,fu,eO,fq,fw,.slice (some ⟨sb,so,none⟩) a.base.length sc,.slice none 0 0,fM,rev,fD⟩ (.pointer (some ⟨sq,0,none⟩)) (.pointer (some ⟨rq,0,none⟩)) (.pointer (some ⟨tq,0,none⟩)) (.pointer (some ⟨gq,0,none⟩))++ts) w9 from h9);clear h9 H8 c13 cf hp1;have hrow:=H9.out.blk 4 rfl;have c8:=(bB hrow).2.2.2.2.1;dsimp only at c8;rw [HBL.out] at c8;clear hrow;go_wp2_with fail;go_loopw [111] (fun i wr=>∃j:Nat,j<=a.aZ.length/\i=.int .i64 (j:Int)/\Hid (dY F Z W (nO gq (AV a j)::nL tq (Vr a.aZ.length ⟨0,0⟩)::rP rq 0::kY sq (eH a.cA a.aN)::g_ p { a with aX:=cZ a a.aX.length,cM:=cM,cT:=[],base:=nS a j } ⟨.slice (some ⟨rb,ro,none⟩) a.aZ.length rc,sp,ap,.slice (some ⟨wb,wo,none⟩) a.aX.length wk,.slice (some ⟨bb,bo,none⟩) a.aY.length bc,fu,eO,fq,fw,.slice (some ⟨sb,so,none⟩) a.base.length sc,.slice none 0 0,fM,rev,fD⟩ (.pointer (some ⟨sq,0,none⟩)) (.pointer (some ⟨rq,0,none⟩)) (.pointer (some ⟨tq,0,none⟩)) (.pointer (some ⟨gq,0,none⟩))++ts) wr)) (fun i _=>a.aZ.length - (intOf i).toNat)
  case atStart=>exact ⟨0,VJ _,rfl,aQ (by rw [I4,Fg gK.out];exact H9.out)⟩
  case round=>
   clear H9 c8;obtain ⟨j,hj,rfl,HJ⟩:=hrel;by_cases hlt:j < a.aZ.length
   ·have hrow:=HJ.out.blk 4 rfl
    have c14:=(bB hrow).2.2.2.2.2.2.2.2.2.2.1;have c13:=(bB hrow).2.2.2.2.2.2.2.2.2.1;dsimp only at c14;rw [gK.out] at c14;obtain ⟨_,_,hbf⟩:=HJ.out.get 7 rfl;have hx:=bT (d:=[]) (show j < a.aY.length by rw [HBL.out];exact hlt);have hxl:=bz.out.rO _ (VD hx);obtain ⟨v,A,hv,eD,_⟩:=iQ (show Sq (df ψ 40) 51 wr _ _ (.slice (some ⟨bb,bo,none⟩) a.aY.length bc) a.aY from hbf) hx;obtain ⟨va,vc,rfl⟩:=eD.shape;obtain ⟨_,_,hbs⟩:=HJ.out.get 8 rfl;have hsb:=show Sq dK 3 wr _ _ (.slice (some ⟨sb,so,none⟩) a.base.length sc) (nS a j) from hbs;have hsf:=(Sq.free hsb).2.2.2;have hbc:=dP hsb (nW hlt);obtain ⟨l,hl⟩:∃l,l=(a.aY.getD j []).length:=⟨_,rfl⟩;have HL:=aQ hl;rw [<-hl] at hv hxl;have h1:=HJ.out.yM (xs:=nS a j) 8 rfl (c:=j) (y:=l) (u:=(l:Int)) (by rw [jK];exact hlt) rfl;have hsx:(nS a j).set j l=nS a (j+1):=by rw [hl];exact qN (f:=fun i=>(a.aY.getD i []).length)
    rw [hsx] at h1;have H1:=aQ (show dY F Z W (nO gq (AV a j)::nL tq (Vr a.aZ.length ⟨0,0⟩)::rP rq 0::kY sq (eH a.cA a.aN)::g_ p { a with aX:=cZ a a.aX.length,cM:=cM,cT:=[],base:=nS a (j+1) } ⟨.slice (some ⟨rb,ro,none⟩) a.aZ.length rc,sp,ap,.slice (some ⟨wb,wo,none⟩) a.aX.length wk,.slice (some ⟨bb,bo,none⟩) a.aY.length bc,fu,eO,fq,fw,.slice (some ⟨sb,so,none⟩) a.base.length sc,.slice none 0 0,fM,rev,fD⟩ (.pointer (some ⟨sq,0,none⟩)) (.pointer (some ⟨rq,0,none⟩)) (.pointer (some ⟨tq,0,none⟩)) (.pointer (some ⟨gq,0,none⟩))++ts) (wr.setCell ⟨sb,so+j,none⟩ (.int .i64 (l:Int))) from h1);clear hrow hbf hx eD hbs hsb hl h1 hsx;go_wp2_with fail;go_loopw [126] (fun i wr=>∃k:Nat,k<=l/\i=.int .i64 (k:Int)/\Hid (dY F Z W (nO gq ((AV a j).set j ⟨a.aZ.getD j 0,min k (a.aZ.getD j 0),0⟩)::nL tq (Vr a.aZ.length ⟨0,0⟩)::rP rq 0::kY sq (eH a.cA a.aN)::g_ p { a with aX:=cZ a a.aX.length,cM:=cM,cT:=[],base:=nS a (j+1) } ⟨.slice (some ⟨rb,ro,none⟩) a.aZ.length rc,sp,ap,.slice (some ⟨wb,wo,none⟩) a.aX.length wk,.slice (some ⟨bb,bo,none⟩) a.aY.length bc,fu,eO,fq,fw,.slice (some ⟨sb,so,none⟩) a.base.length sc,.slice none 0 0,fM,rev,fD⟩ (.pointer (some ⟨sq,0,none⟩)) (.pointer (some ⟨rq,0,none⟩)) (.pointer (some ⟨tq,0,none⟩)) (.pointer (some ⟨gq,0,none⟩))++ts) wr)) (fun i _=>l - (intOf i).toNat)
    case atStart=>
     refine ⟨0,VJ _,rfl,aQ ?_⟩;rw [Nat.zero_min,jy (nW hlt)];exact H1.out
    case round=>
     clear H1 c13 c14 hsf hbc hv;obtain ⟨k,hk,rfl,HK⟩:=hrel;by_cases hlk:k < l
     ·have c13:=(bB (HK.out.blk 4 rfl)).2.2.2.2.2.2.2.2.2.1
      have hc:((AV a j).set j ⟨a.aZ.getD j 0,min k (a.aZ.getD j 0),0⟩)[j]? = some ⟨a.aZ.getD j 0,min k (a.aZ.getD j 0),0⟩:=List.getElem?_set_self (by rw [jK];exact hlt);have hrm:=bz.out.rm _ (VD (bT (d:=0) hlt));have HQ:=aQ (vZ HK.out 0 rfl (by rw [Wd,jK];exact n4) hc (by dsimp only;omega) (by dsimp only;omega) (by dsimp only;omega));have HR:=aQ (show (fV.cO ⟨a.aZ.getD j 0,min k (a.aZ.getD j 0),0⟩).2=⟨a.aZ.getD j 0,min (k+1) (a.aZ.getD j 0),0⟩ by rw [<-ng _ k,<-ng _ (k+1)];rfl);clear hc hrm;go_wp2_with fail;refine HQ.out.mono ?_;rintro e' w' ⟨rfl,hh⟩;have HH:=aQ hh;clear hh HQ;go_wp2_with fail;go_roundw
      case rel=>
       refine ⟨k+1,by omega,by go_num,aQ ?_⟩;have:=HH.out;rw [List.set_set,HR.out] at this;exact this
      case measure=>simp [intOf];omega
     ·obtain rfl:l=k:=by omega
      go_wp2_with fail;go_roundw
      case rel=>
       refine ⟨j+1,by omega,by go_num,aQ ?_⟩;have:=HK.out;rw [HL.out,qN (f:=fun i=>(⟨a.aZ.getD i 0,min (a.aY.getD i []).length (a.aZ.getD i 0),0⟩:fV))] at this;exact this
      case measure=>simp [intOf];omega
   ·obtain rfl:a.aZ.length=j:=by omega
    go_wp2_with fail;go_end0;refine ⟨rfl,sq,rq,tq,gq,?_⟩;have h1:=HJ.out;rw [MI a cM,Jo HBL.out cM] at h1;have e1:cZ a a.aX.length=(a.begin cM).aX:=Ec a;rw [e1] at h1
    exact dY.τ (us:=[nO gq (a.begin cM).π,nL tq (Vr a.aZ.length ⟨0,0⟩),rP rq 0,kY sq (eH a.cA a.aN),
     dJ p (ky (a.begin cM) ⟨.slice (some ⟨rb,ro,none⟩) a.aZ.length rc,sp,ap,.slice (some ⟨wb,wo,none⟩) a.aX.length wk,.slice (some ⟨bb,bo,none⟩) a.aY.length bc,sq,rq,tq,gq,.slice (some ⟨sb,so,none⟩) a.base.length sc,.slice none 0 0,fM,rev,fD⟩),ζ dK 3 (.slice (some ⟨rb,ro,none⟩) a.aZ.length rc) a.aZ,
     ζ (df ψ 40) 51 (.slice (some ⟨wb,wo,none⟩) a.aX.length wk) (a.begin cM).aX,ζ (df ψ 40) 51 (.slice (some ⟨bb,bo,none⟩) a.aY.length bc) a.aY,ζ dK 3 (.slice (some ⟨sb,so,none⟩) a.base.length sc) (a.begin cM).base,ζ jg 225 (.slice none 0 0) []]) h1 [4,5,6,7,8,9,3,2,1,0] (by decide) rfl

abbrev bW (x:Pt) (pv:Value):Obj:=.cells #[.int .u8 (U x.kind),.int .i64 x.cls,.int .i64 x.number,.int .i64 x.value,pv] 103
abbrev dH (x:Pt) (pv:Value):Value:=.agg #[.int .u8 (U x.kind),.int .i64 x.cls,.int .i64 x.number,.int .i64 x.value,pv]
theorem dx {w:World} {b:Nat} {x:Pt} {pv:Value} (h:w.heap[b]? = some (bW x pv)):w.cell? ⟨b,0,none⟩=some (.int .u8 (U x.kind))/\w.cell? ⟨b,1,none⟩=some (.int .i64 x.cls)/\w.cell? ⟨b,2,none⟩=some (.int .i64 x.number)/\w.cell? ⟨b,3,none⟩=some (.int .i64 x.value)/\w.cell? ⟨b,4,none⟩=some pv:=
 ⟨aJ h rfl,aJ h rfl,aJ h rfl,aJ h rfl,aJ h rfl⟩
theorem δ.Ok.Uf {N:Nat} {p:δ} (h:p.Ok N):p.Beg N:=
 ⟨h.n1,h.n4,h.rm,h.w1,h.w2,h.t1,h.t2,h.wl,h.bl,h.sl,by
  have h1:=congrArg XT h.cT;rw [VL] at h1;have:=h.snd.cT;have:=h.snd.w2;omega,h.qy,h.rO⟩
theorem dY.qF {F Z:BS} {W w:World} {ts:List Th} {p:Nat} {a:δ} (h:dY F Z W (bP p a::ts) w):∃x,dY F Z W (bX p a x++ts) w:=dY.opens h
theorem dY.bO {F Z:BS} {W w:World} {ts:List Th} {p:Nat} {a:δ} {x:PV} (h:dY F Z W (bX p a x++ts) w):dY F Z W (bP p a::ts) w:=dY.shut (f:=bX p a) h
theorem dY.dropLast {F Z:BS} {W w:World} {us ts:List Th} {T:Th} (h:dY F Z W (us++(ts++[T])) w):dY F Z W (us++ts) w:=by
 rw [<-VE] at h;exact h.front.tail
theorem O5 {F Z:BS} {W w:World} {ts:List Th} {p N:Nat} {a:δ} (x:Pt) (pa:Option Addr) (pn pc:Nat) (hok:a.Ok N) (hN:N<=1000000000) (h:dY F Z W (bP p a::ts) w) :
  Calls Vs 135 #[.pointer (some ⟨p,0,none⟩),dH x (.slice pa pn pc)] w fun e w'=>e=.returned (.tuple #[])/\dY F Z W (bP p (a.gy x)::ts) w':=by
 obtain ⟨y,hst⟩:=h.qF;have h1:=(hst.new (bW x (.slice pa pn pc)));obtain ⟨rv,sp,ap,wv,bv,fu,eO,fq,fw,ig,kv,fM,rev,fD⟩:=y;have H1:=aQ (show dY F Z W (bX p a ⟨rv,sp,ap,wv,bv,fu,eO,fq,fw,ig,kv,fM,rev,fD⟩++(ts++[dJ w.heap.size (bW x (.slice pa pn pc))])) (w.alloc (bW x (.slice pa pn pc))) by rw [<-VE];exact h1);have hrow:=h1.blk 0 rfl;obtain ⟨_,_,_,_,_,c5,_⟩:=aB hrow;obtain ⟨k0,k1,k2,k3,_⟩:=dx (heap_alloc_new w (bW x (.slice pa pn pc)));have hside:=(show ∃G Y,(o9 sp a.cS).on _ G Y from h1.get 2 rfl);obtain ⟨_,_,hside⟩:=hside;have De:=aQ hside.2;have bz:=aQ hok;dsimp only at c5;clear hst h1 hrow h hok hside;go_enter Tryz.func135,Tryz.ntmps135;go_wp2_with fail;generalize w.alloc (bW x (.slice pa pn pc))=w1 at *;refine wp_region_still_tail 9 (by kernel_rfl) (by kernel_rfl) ?_;simp only [Vy,VI,Vz,VH];change wpStill _ _ (V3 _) (fun a'=>wpList _ _ _ _ a' (V3 _)) _ _
 repeat still_step
 refine wpStill_nil ?_;go_wp2_with fail;refine (uo sp a.cS w1.drew x.number x.value De.out).mono ?_;rintro e w2 ⟨⟨c,rfl⟩,hs2,hf2⟩
 have H2:=aQ (show dY F Z W (bX p { a with cS:=a.cS.cO x.number x.value } ⟨rv,sp,ap,wv,bv,fu,eO,fq,fw,ig,kv,fM,rev,fD⟩++(ts++[dJ w.heap.size (bW x (.slice pa pn pc))])) w2 from
  H1.out.drew.upd 2 rfl (T':=o9 sp (a.cS.cO x.number x.value)) fun G Y hon _=>⟨⟨hon.1,hs2⟩,hf2.mono fun k hk=>by subst hk;exact hon.1⟩)
 have Vd:=aQ hs2;clear H1 hs2 hf2 c5 k0 k1 k2 k3 De;have hrow:=H2.out.blk 0 rfl;obtain ⟨_,_,_,_,_,c5,_,_,_,c9,_⟩:=aB hrow;dsimp only at c5 c9;obtain ⟨s2,hsd⟩:∃s2,s2=a.cS.cO x.number x.value:=⟨_,rfl⟩;have HS2:=aQ hsd;rw [<-hsd] at H2 Vd;clear hrow hsd;go_wp2_with fail;refine (Mk sp s2 w2 Vd.out).mono ?_;rintro e w' ⟨rfl,rfl⟩;by_cases h0:s2.cM=0
 ·have b0:((s2.cM:Int) != 0)=false:=by simp [h0]
  have HG:=aQ (show a.gy x={ a with cS:=s2 } by
   unfold δ.gy;dsimp only;rw [<-HS2.out,if_neg (fun h=>h.1 h0)])
  clear h0;go_wp2_with fail;go_end0;refine ⟨rfl,?_⟩;rw [HG.out];exact H2.out.dropLast.bO
 ·have b0:((s2.cM:Int) != 0)=true:=by simp;omega
  by_cases h1:s2.cM=a.cM
  ·have b1:((s2.cM:Int) != (a.cM:Int))=false:=by simp [h1]
   have HG:=aQ (show a.gy x={ a with cS:=s2 } by
    unfold δ.gy;dsimp only;rw [<-HS2.out,if_neg (fun h=>h.2 h1)])
   clear h0 h1;go_wp2_with fail;go_end0;refine ⟨rfl,?_⟩;rw [HG.out];exact H2.out.dropLast.bO
  ·have b1:((s2.cM:Int) != (a.cM:Int))=true:=by simp;omega
   have HG:=aQ (show a.gy x=({ a with cS:=s2 }:δ).begin s2.cM by
    unfold δ.gy;dsimp only;rw [<-HS2.out,if_pos ⟨h0,h1⟩])
   have HB:=aQ (show dY F Z W (g_ p { a with cS:=s2 } ⟨rv,sp,ap,wv,bv,fu,eO,fq,fw,ig,kv,fM,rev,fD⟩ (.pointer (some ⟨fu,0,none⟩)) (.pointer (some ⟨eO,0,none⟩)) (.pointer (some ⟨fq,0,none⟩)) (.pointer (some ⟨fw,0,none⟩)) ++
     ([o9 sp s2,Dv ap a.dE,kY fu a.snd,rP eO a.rcv,nL fq a.bu,nO fw a.π,ζ dK 3 fM a.aG,ζ dK 3 rev a.aW,ζ dK 3 fD a.cF]++(ts++[dJ w.heap.size (bW x (.slice pa pn pc))]))) w2 by
    rw [<-VE];exact H2.out.τ [0,1,4,5,10,11,2,3,6,7,8,9,12,13,14] (by decide) rfl)
   have HBG:=aQ (Gn (a:={ a with cS:=s2 }) (N:=N) (by have:=bz.out.Uf;exact ⟨this.1,this.2,this.3,this.4,this.5,this.6,this.7,this.8,this.9,this.10,this.11,this.12,this.13⟩) hN s2.cM HB.out);clear h0 h1 HB H2;go_wp2_with fail;refine HBG.out.mono ?_;rintro e w' ⟨rfl,sq,rq,tq,gq,hh⟩;rw [<-VE] at hh;have HH:=aQ (hh.τ (vs:=bX p (({ a with cS:=s2 }:δ).begin s2.cM) ⟨rv,sp,ap,wv,bv,sq,rq,tq,gq,ig,.slice none 0 0,fM,rev,fD⟩) [0,1,10,11,2,3,6,7,8,9,4,5,16,17,18] (by decide) rfl);clear hh HBG;go_wp2_with fail;go_end0;refine ⟨rfl,?_⟩;rw [HG.out];exact HH.out.dropLast.bO
theorem OO {F Z:BS} {W w:World} {ts:List Th} {p N:Nat} {a:δ} (x:Pt) (pa:Option Addr) (pn pc:Nat) (hok:a.Ok N) (h:dY F Z W (bP p a::ts) w) :
  Calls Vs 138 #[.pointer (some ⟨p,0,none⟩),dH x (.slice pa pn pc)] w fun e w'=>e=.returned (.tuple #[])/\dY F Z W (bP p (a.raise x)::ts) w':=by
 obtain ⟨y,hst⟩:=h.qF;have h1:=(hst.new (bW x (.slice pa pn pc)));obtain ⟨rv,sp,ap,wv,bv,fu,eO,fq,fw,ig,kv,fM,rev,fD⟩:=y;have H1:=aQ (show dY F Z W (bX p a ⟨rv,sp,ap,wv,bv,fu,eO,fq,fw,ig,kv,fM,rev,fD⟩++(ts++[dJ w.heap.size (bW x (.slice pa pn pc))])) (w.alloc (bW x (.slice pa pn pc))) by rw [<-VE];exact h1);have hrow:=h1.blk 0 rfl;obtain ⟨_,c1,_,_,_,_,_,_,_,_,_,_,c12,_⟩:=aB hrow;obtain ⟨k0,k1,k2,k3,_⟩:=dx (heap_alloc_new w (bW x (.slice pa pn pc)));obtain ⟨_,_,hr⟩:=h1.get 1 rfl;obtain ⟨rb,ro,rc,e1,_,_⟩:=bR (show Sq dK 3 _ _ _ rv a.aZ from hr) hok.n1;subst e1;have bz:=aQ hok;have n4:=hok.n4;dsimp only at c1 c12;clear hst h1 hrow h hok hr;go_enter Tryz.func138,Tryz.ntmps138;go_wp2_with fail;generalize w.alloc (bW x (.slice pa pn pc))=w1 at *;by_cases hc:0<=x.cls/\x.cls < a.aZ.length
 ·obtain ⟨c,hcc⟩:∃c:Nat,x.cls=(c:Int):=⟨x.cls.toNat,by omega⟩
  have hcl:c < a.aZ.length:=by omega
  have HG:=aQ (show a.raise x={ a with bu:=a.bu.set c ((a.bu.getD c ⟨0,0⟩).raise x.number) } by
   unfold δ.raise;rw [if_pos (show a.has x.cls from hc),hcc];rfl)
  have HQ:=aQ (iD (p:=p) (w:=w1) c (some ⟨rb,ro,none⟩) rc hcl c1);have hg:=bT (d:=(⟨0,0⟩:jC)) (show c < a.bu.length by rw [bz.out.tl];exact hcl);have HR:=aQ (OM H1.out.drew 8 rfl (by rw [bz.out.tl];exact n4) hg x.number);rw [hcc] at k1 ⊢;clear hc hg hcc;refine HQ.out.mono ?_;rintro e w' ⟨rfl,rfl⟩;go_wp2_with fail;refine wp_region_still_tail 8 (by kernel_rfl) (by kernel_rfl) ?_;simp only [Vy,VI,Vz,VH];change wpStill _ _ (V3 _) (fun a'=>wpList _ _ _ _ a' (V3 _)) _ _
  repeat still_step
  refine wpStill_nil ?_;go_wp2_with fail;refine HR.out.mono ?_;rintro e w2 ⟨⟨_,rfl⟩,hh⟩;have HH:=aQ (show dY F Z W (bX p { a with bu:=a.bu.set c ((a.bu.getD c ⟨0,0⟩).raise x.number) } ⟨.slice (some ⟨rb,ro,none⟩) a.aZ.length rc,sp,ap,wv,bv,fu,eO,fq,fw,ig,kv,fM,rev,fD⟩++(ts++[dJ w.heap.size (bW x (.slice pa pn pc))])) w2 from hh);clear hh HR;go_wp2_with fail;go_end0;refine ⟨rfl,?_⟩;rw [HG.out];exact HH.out.dropLast.bO
 ·have HG:=aQ (show a.raise x=a by
   unfold δ.raise;rw [if_neg (show ¬a.has x.cls from hc)])
  have HQ:=aQ (oP (p:=p) (w:=w1) x.cls (some ⟨rb,ro,none⟩) rc (n:=a.aZ.length) (by omega) c1);clear hc;refine HQ.out.mono ?_;rintro e w' ⟨rfl,rfl⟩;go_wp2_with fail;go_end0;refine ⟨rfl,?_⟩;rw [HG.out];exact H1.out.dropLast.bO

section
variable {F Z:BS} {W w:World} {ts:List Th} {p:Nat} {s:bg}
theorem R4 (h:dY F Z W ts w) (i:Nat) (hi:ts[i]? = some (kY p s)) (hok:s.Ok) (ht:s.total < 1000000000000) (n:Int) :
  Calls Vs 160 #[.pointer (some ⟨p,0,none⟩),.int .i64 n] w fun e w'=>e=.returned (.int .i64 ((s.nJ n).1:Int))/\dY F Z W (ts.set i (kY p (s.nJ n).2)) w':=
 h.act i hi fun _ _ hd hon=>(aao hon hok ht n).mono fun _ _ ⟨he,h1,h2⟩=>⟨he,lS.same h2 (T:=kY p (s.nJ n).2) ((Al.thing _ _).mono h1 fun _ h=>h.1) hd⟩
theorem LF (h:dY F Z W ts w) (i:Nat) (hi:ts[i]? = some (kY p s)) (hok:s.Ok) (v:Value) (d:dV) (hv:By w v d) :
  Calls Vs 147 #[.pointer (some ⟨p,0,none⟩),v] w fun e w'=>e=.returned (.int .i64 ((s.dQ d).1:Int))/\dY F Z W (ts.set i (kY p (s.dQ d).2)) w':=
 h.act i hi fun _ _ _ hon=>(OW hon hok v d hv).mono fun _ _ ⟨he,h1,h2⟩=>⟨he,lS.aaB (T:=kY p (s.dQ d).2) h2 h1⟩
theorem Ou (h:dY F Z W ts w) (i:Nat) (hi:ts[i]? = some (kY p s)) (hok:s.Ok) (ht:s.total < 1000000000000) :
  Calls Vs 104 #[.pointer (some ⟨p,0,none⟩)] w fun e w'=>∃v,e=.returned (.tuple #[.int .i64 ((s.cR.1.elim 0 (·.1):Nat):Int),v,.bool s.cR.1.isSome])/\dY F Z W (ts.set i (kY p s.cR.2)++[dD v (s.cR.1.elim [] (·.2))]) w':=by
 obtain ⟨G,Y,hon,hd,_,_,hb⟩:=h.use i hi;refine (RP hon hok ht).mono fun e w' ⟨v,he,h1,h2,h3⟩=>⟨v,he,hb w' _ [_] ⟨h3,fun k=>(Y k/\k < w.heap.size)\/w.heap.size<=k,fun k hk=>hk.imp (·.1) .inr,Star.two (G:=fun k=>G k/\k < w.heap.size) (H:=fun _=>False) h2 ?_ (fun _ _ f=>f) (fun k hk=>⟨.inl hk.1,?_⟩) fun _ f=>f.elim⟩⟩
 ·exact ⟨h1.1,fun _ b hb=>.inr (h1.2 b hb)⟩
 ·rintro (⟨y,_⟩|hl)
  ·exact hd k hk.1 y
  ·omega
theorem FX (h:dY F Z W ts w) (i:Nat) (hi:ts[i]? = some (kY p s)) :
  Calls Vs 143 #[.pointer (some ⟨p,0,none⟩)] w fun e w'=>e=.returned (.int .i64 (s.cT.length:Int))/\w=w':=by
 obtain ⟨G,Y,hon⟩:=h.get i hi;exact Sr hon
theorem LD (h:dY F Z W ts w) (i:Nat) (hi:ts[i]? = some (kY p s)) (hok:s.Ok) (ht:s.total < 1000000000000) :
  Calls Vs 148 #[.pointer (some ⟨p,0,none⟩)] w fun e w'=>e=.returned (.tuple #[.int .i64 ((s.aG:Int)+(s.cT.length:Int)),.int .i64 (s.aG:Int)])/\dY F Z W ts w':=by
 obtain ⟨G,Y,hon⟩:=h.get i hi;exact (Ol hon hok ht).mono fun e w' ⟨he,n,hn⟩=>⟨he,by subst hn;exact h.drewN n⟩
end
theorem nC (l:List Nat) (ks:List (Nat × dV)):(tally l ks).length=l.length:=by
 unfold tally
 induction ks generalizing l with
 |nil=>rfl
 |cons f ks ih=>rw [WM,ih,Wd]
theorem vS (l:List Nat) {ks:List (Nat × dV)} {j:Nat} {f:Nat × dV} (hj:ks[j]? = some f):tally l (ks.take (j+1))=(tally l (ks.take j)).set f.1 ((tally l (ks.take j)).getD f.1 0+1):=by
 unfold tally;rw [Xr,hj,Zd];rfl
theorem ve (ks:List (Nat × dV)):∀ {l:List Nat} {M:Nat},(∀x ∈ l,x<=M)->∀x ∈ tally l ks,x<=M+ks.length:=by
 unfold tally
 induction ks with
 |nil=>intro l M h x hx;exact h x hx
 |cons f ks ih=>
  intro l M h x hx;rw [WM] at hx
  have:=ih (l:=l.set f.1 (l.getD f.1 0+1)) (M:=M+1) (fun y hy=>by
   rcases YK hy with hy|rfl
   ·have:=h y hy;omega
   ·rw [Wo]
    cases hg:l[f.1]? with
    |none=>simp
    |some z=>have:=h z (VD hg);simp;omega) x hx
  rw [VZ];omega
theorem D7 {s:bg} (hok:s.Ok) (n:Int):(s.nJ n).1<=s.cT.length:=by
 unfold bg.nJ bg.accept
 cases hc:s.count n with
 |none=>exact VJ _
 |some k=>exact VC (count_le hc) hok.cP
theorem δ.Ok.xH {N:Nat} {p:δ} (h:p.Ok N):p.cT.length=p.snd.cT.length:=by
 have h1:=congrArg XT h.cT;rwa [VL] at h1
theorem DV {α : Type} {E:El α} {T:TypeId} {w:World} {F Z:BS} {g off n c:Nat} {xs:List α} (h:Sq E T w F Z (.slice (some ⟨g,off,none⟩) n c) xs) {k:Nat} (hk:k<=xs.length) :
  Sq E T w F Z (.slice (if c=k then some ⟨g,off,none⟩ else some ⟨g,off+k*E.size,none⟩) (n - k) (c - k)) (xs.drop k):=by
 by_cases h0:k=0
 ·subst h0
  simpa using h
 ·obtain ⟨g',off',e,hn,_,h'⟩:=h.drop (by omega) hk
  obtain ⟨rfl,rfl⟩:g=g'/\off=off':=by simpa using e
  rw [hn];exact h'
theorem xy {F Z:BS} {W w:World} {ts:List Th} {p N:Nat} {a:δ} (x:Pt) (pa:Option Addr) (pn pc:Nat) (hok:a.Ok N) (hN:N<=1000000000) (h:dY F Z W (bP p a::ts) w) :
  Calls Vs 137 #[.pointer (some ⟨p,0,none⟩),dH x (.slice pa pn pc)] w fun e w'=>e=.returned (.tuple #[])/\dY F Z W (bP p (a.bQ x)::ts) w':=by
 obtain ⟨y,hst⟩:=h.qF;have h1:=(hst.new (bW x (.slice pa pn pc)));obtain ⟨rv,sp,ap,wv,bv,fu,eO,fq,fw,ig,kv,fM,rev,fD⟩:=y;have H1:=aQ (show dY F Z W (bX p a ⟨rv,sp,ap,wv,bv,fu,eO,fq,fw,ig,kv,fM,rev,fD⟩++(ts++[dJ w.heap.size (bW x (.slice pa pn pc))])) (w.alloc (bW x (.slice pa pn pc))) by rw [<-VE];exact h1);have hrow:=h1.blk 0 rfl;obtain ⟨_,_,_,_,_,_,_,_,_,_,c10,_⟩:=aB hrow;obtain ⟨k0,k1,k2,k3,_⟩:=dx (heap_alloc_new w (bW x (.slice pa pn pc)));have bz:=aQ hok;have n4:=hok.n4;dsimp only at c10;have HR:=aQ (R4 H1.out.drew 6 rfl hok.snd (by have:=hok.tot;omega) x.number);obtain ⟨k,hk⟩:∃k,k=(a.snd.nJ x.number).1:=⟨_,rfl⟩;have hkl:=D7 hok.snd x.number;have hkk:=hok.xH;have hkm:=hok.snd.cT;have hw2:=hok.snd.w2;rw [<-hkk] at hkl hkm;rw [<-hk] at HR hkl;have HK:=aQ hk;clear hst h1 hrow h hok hk hkk;go_enter Tryz.func137,Tryz.ntmps137;go_wp2_with fail;generalize w.alloc (bW x (.slice pa pn pc))=w1 at *;refine wp_region_still_tail 6 (by kernel_rfl) (by kernel_rfl) ?_;simp only [Vy,VI,Vz,VH];change wpStill _ _ (V3 _) (fun a'=>wpList _ _ _ _ a' (V3 _)) _ _
 repeat still_step
 refine wpStill_nil ?_;go_wp2_with fail;refine HR.out.mono ?_;rintro e w2 ⟨rfl,hh⟩;obtain ⟨_,_,hkp⟩:=hh.get 11 rfl;obtain ⟨ka,kc,e5,q1,q2,q3⟩:=Sq.le (show Sq jg 225 w2 _ _ kv a.cT from hkp);subst e5;obtain ⟨_,_,hac⟩:=hh.get 12 rfl;obtain ⟨ab,ao,ac,e6,r1,r2⟩:=bR (show Sq dK 3 w2 _ _ fM a.aG from hac) (by rw [bz.out.al];exact bz.out.n1);subst e6;have HH:=aQ (show dY F Z W (bX p { a with snd:=(a.snd.nJ x.number).2 } ⟨rv,sp,ap,wv,bv,fu,eO,fq,fw,ig,.slice ka a.cT.length kc,.slice (some ⟨ab,ao,none⟩) a.aG.length ac,rev,fD⟩++(ts++[dJ w.heap.size (bW x (.slice pa pn pc))])) w2 from hh);have hrow:=HH.out.blk 0 rfl;have c15:=(aB hrow).2.2.2.2.2.2.2.2.2.2.2.2.2.2.2.1;dsimp only at c15;unfold maxLen at q2;clear hkp hac hh HR H1 c10 k0 k1 k2 k3 hrow;go_wp2_with fail;go_loopw [21,6] (fun i _ wr=>∃j:Nat,j<=k/\i=.int .i64 (j:Int)/\Hid (dY F Z W (bX p { a with snd:=(a.snd.nJ x.number).2,aG:=tally a.aG (a.cT.take j),cT:=a.cT } ⟨rv,sp,ap,wv,bv,fu,eO,fq,fw,ig,.slice ka a.cT.length kc,.slice (some ⟨ab,ao,none⟩) a.aG.length ac,rev,fD⟩++(ts++[dJ w.heap.size (bW x (.slice pa pn pc))])) wr)) (fun i _ _=>k - (intOf i).toNat)
 case atStart=>exact ⟨0,VJ _,rfl,HH⟩
 case round=>
  clear HH c15;obtain ⟨j,hj,rfl,HJ⟩:=hrel;by_cases hlt:j < k
  ·obtain ⟨⟨fc,fd⟩,hx⟩:∃f,a.cT[j]? = some f:=⟨_,Vw (by omega)⟩
   have hcl:=bz.out.yF _ (VD hx);obtain ⟨_,_,hkp⟩:=HJ.out.get 11 rfl;obtain ⟨kb,ko,TP,e5,_,_⟩:=bR (show Sq jg 225 wr _ _ (.slice ka a.cT.length kc) a.cT from hkp) (by omega);obtain ⟨rfl,rfl⟩:ka=some ⟨kb,ko,none⟩/\kc=TP:=by simpa using e5
   obtain ⟨v,k0,k1,hby⟩:=uG hkp hx;obtain ⟨va,vc,rfl⟩:=hby.slice;obtain ⟨_,_,hac⟩:=HJ.out.get 12 rfl;have DN:=show Sq dK 3 wr _ _ (.slice (some ⟨ab,ao,none⟩) a.aG.length ac) (tally a.aG (a.cT.take j)) from hac;have haf:=(Sq.free DN).2.2.2;have hal:(tally a.aG (a.cT.take j)).length=a.aZ.length:=by rw [nC,bz.out.al]
   dsimp only at hcl;have hz:=bT (d:=0) (show fc < (tally a.aG (a.cT.take j)).length by rw [hal];exact hcl);have hzb:=ve (a.cT.take j) bz.out.Ak _ (VD hz);rw [VW] at hzb;have hzc:=dP DN hz;have hrow:=HJ.out.blk 0 rfl;have c16:=(aB hrow).2.2.2.2.2.2.2.2.2.2.2.2.2.2.2.2.1;dsimp only at c16;rw [bz.out.al] at c16 r1;have eT:=aK wr (.cells #[.int .i64 (fc:Int),.slice va fd.length vc] 225);have hs:=((HJ.out.yM (xs:=tally a.aG (a.cT.take j)) 12 rfl (c:=fc) (y:=(tally a.aG (a.cT.take j)).getD fc 0+1) (u:=((tally a.aG (a.cT.take j)).getD fc 0:Int)+1) (by rw [hal];exact hcl) (by omega)).alloc (.cells #[.int .i64 (fc:Int),.slice va fd.length vc] 225)).drew;have e9:=vS a.aG hx;dsimp only at e9;rw [<-e9] at hs;have HS:=aQ hs;obtain ⟨z,hzz⟩:∃z,z=(tally a.aG (a.cT.take j)).getD fc 0:=⟨_,rfl⟩;rw [<-hzz] at hzb hzc HS;have hp1:=lt_of_block hrow;have ha1:=Vv wr _ hzc;dsimp only at ha1;clear hkp hby e5 hx hac DN hz hzz hrow eT hs e9 hal;have hw1:IntKind.i64.wrap ((z:Int)+1)=(z:Int)+1:=V6 _ (by omega);go_wp2_with fail;refine wp_region_still_tail 10 (by kernel_rfl) (by kernel_rfl) ?_;simp only [Vy,VI,Vz,VH];change wpStill _ _ (V3 _) (fun a'=>wpList _ _ _ _ a' (V3 _)) _ _
   repeat still_step
   refine wpStill_nil ?_;go_wp2_with fail;go_roundw
   case rel=>exact ⟨j+1,by omega,by go_num,HS⟩
   case measure=>simp [intOf];omega
  ·obtain rfl:k=j:=by omega
   have HG:=aQ (show a.bQ x={ a with snd:=(a.snd.nJ x.number).2,aG:=tally a.aG (a.cT.take k),cT:=a.cT.drop k } by
    unfold δ.bQ;rw [<-HK.out])
   have hrow:=HJ.out.blk 0 rfl;have c15:=(aB hrow).2.2.2.2.2.2.2.2.2.2.2.2.2.2.2.1;have cf:=fun i=>aD hrow i
   dsimp only at c15;have θ:=aQ hrow
   have yV:=aQ (fun (nv:Value) (hnv:∀G Y,Sq jg 225 wr G Y (.slice ka a.cT.length kc) a.cT->Sq jg 225 wr G Y nv (a.cT.drop k))=>
    show dY F Z W (bX p { a with snd:=(a.snd.nJ x.number).2,aG:=tally a.aG (a.cT.take k),cT:=a.cT.drop k } ⟨rv,sp,ap,wv,bv,fu,eO,fq,fw,ig,nv,.slice (some ⟨ab,ao,none⟩) a.aG.length ac,rev,fD⟩++(ts++[dJ w.heap.size (bW x (.slice pa pn pc))])) (wr.setCell ⟨p,15,none⟩ nv) from by
     have h1:=HJ.out.upd 11 rfl (T':=ζ jg 225 nv (a.cT.drop k)) (w':=wr) fun G Y hon _=>⟨hnv G Y hon,Fr.refl _ _⟩
     exact h1.set 0 rfl (ky { a with snd:=(a.snd.nJ x.number).2,aG:=tally a.aG (a.cT.take k),cT:=a.cT.drop k } ⟨rv,sp,ap,wv,bv,fu,eO,fq,fw,ig,nv,.slice (some ⟨ab,ao,none⟩) a.aG.length ac,rev,fD⟩) (w':=wr.setCell ⟨p,15,none⟩ nv) (by exact eZ) (by have hr:=θ.out;(refine aS (Ξ hr) ?_);rfl))
   clear hrow;have hki:(k:Int)<=(a.cT.length:Int):=by omega
   cases ka with
   |none=>
    obtain ⟨z1,z2⟩:=q3 rfl;have hk0:k=0:=by omega
    subst hk0;subst z2;rw [z1] at c15
    have HS:=aQ (yV.out (.slice none 0 0) fun G Y _=>by
     rw [VH,Wh z1];exact Sq.nil _ _ _ _ _)
    clear q3 yV;go_wp2_with fail;go_end0;refine ⟨rfl,?_⟩;rw [HG.out];exact HS.out.dropLast.bO
   |some TQ=>
    obtain ⟨kb,ko,rfl⟩:∃kb ko,TQ=⟨kb,ko,none⟩:=by
     obtain ⟨_,_,K,D,us,_,_,_,⟨_,⟨h,_⟩|⟨g,off,cap,cur,e,_⟩⟩,_⟩:=HJ.out.get 11 rfl
     ·cases h
     ·obtain ⟨rfl,_⟩:TQ=⟨g,off,none⟩/\kc=cap:=by simpa using e
      exact ⟨g,off,rfl⟩
    have HS:=aQ (yV.out (.slice (if kc=k then some ⟨kb,ko,none⟩ else some ⟨kb,ko+k*2,none⟩) (a.cT.length - k) (kc - k)) fun G Y h=>DV h hkl);obtain ⟨na,hna⟩:∃na,(if kc=k then some (⟨kb,ko,none⟩:Addr) else some ⟨kb,ko+k*2,none⟩)=na:=⟨_,rfl⟩;rw [hna] at HS;clear q3 yV;go_wp2_with fail;go_end0;refine ⟨rfl,?_⟩;rw [HG.out];exact HS.out.dropLast.bO

section
variable {F Z:BS} {W w:World} {ts:List Th} {p N:Nat} {a:δ}
theorem Vo {rp k:Nat} (h:dY F Z W ts w) (i j:Nat) (hi:ts[i]? = some (rP rp k)) (hk:k < 1000000000000) (v:Value) (d:dV) (hj:ts[j]? = some (dD v d)) (hij:j≠i) (hd:d.length<=1048576) :
  Calls Vs 159 #[.pointer (some ⟨rp,0,none⟩),.int .i64 ((k:Int) % 256),v] w fun e w'=>∃v',e=.returned (.tuple #[v',.bool true])/\dY F Z W (ts.set i (rP rp (k+1))++[dD v' d]) w':=by
 obtain ⟨G,Y,hon,hdj,_,hoth,hb⟩:=h.use i hi;obtain ⟨H,h1,h2,hby⟩:=hoth j _ hij hj;by_cases h0:0 < d.length
 ·refine (CG rp k v d w hon.1 hk hby.1 hd fun b hb e=>?_).mono fun e w' ⟨v',he,ho,hr,hf⟩=>⟨v',he,hb w' _ [_] ⟨hf.mono fun x hx=>by subst hx;exact hon.2,fun x=>(Y x/\x < w.heap.size)\/w.heap.size<=x,fun x hx=>hx.imp (·.1) .inr,Star.two (G:=fun x=>x=rp) (H:=fun _=>False) ⟨hr,rfl⟩ ?_ (fun _ _ f=>f) (fun x hx=>⟨.inl (by have hx':x=rp:=hx;subst hx';exact hon.2),?_⟩) fun _ f=>f.elim⟩⟩
  ·subst e;exact hdj b hon.2 (hby.2 h0 b hb)
  ·exact ⟨ho.by,fun _ b hb=>.inr (ho.Ue.2 b hb).1⟩
  ·have hx':x=rp:=hx
   subst hx';have:=lt_of_block hon.1;rintro (⟨y,_⟩|hl)
   ·exact hdj x hon.2 y
   ·omega
 ·have hd0:d=[]:=Wh (by omega)
  subst hd0;refine (ry rp k v [] w hon.1 hk (Rd.stay hby.1 fun h=>by rw [di] at h;simp at h) hd).mono fun e w' ⟨v',he,ho,hr,hf⟩=>⟨v',he,hb w' _ [_] ⟨hf.mono fun x hx=>by subst hx;exact hon.2,fun x=>(Y x/\x < w.heap.size)\/w.heap.size<=x,fun x hx=>hx.imp (·.1) .inr,Star.two (G:=fun x=>x=rp) (H:=fun _=>False) ⟨hr,rfl⟩ ?_ (fun _ _ f=>f) (fun x hx=>⟨.inl (by have hx':x=rp:=hx;subst hx';exact hon.2),?_⟩) fun _ f=>f.elim⟩⟩
  ·exact ⟨ho.by,fun _ b hb=>.inr (ho.Ue.2 b hb).1⟩
  ·have hx':x=rp:=hx
   subst hx';have:=lt_of_block hon.1;rintro (⟨y,_⟩|hl)
   ·exact hdj x hon.2 y
   ·omega
theorem dY.mZ {us:List Th} {b:Nat} {o:Obj} (h:dY F Z W (us++(ts++[dJ b o])) w):w.heap[b]? = some o:=by
 rw [<-VE] at h;exact h.front.blk 0 rfl
theorem mE {us:List Th} {B:Th}:(us++(ts++[B]))[us.length+ts.length]? = some B:=by
 rw [VP (by omega),YP];simp
theorem sK {us:List Th} {T B:Th} {j:Nat} (hj:ts[j]? = some T):(us++(ts++[B]))[us.length+j]? = some T:=by
 rw [VP (by omega),YP,VO (aA hj),hj]
theorem Iw (x:Pt) (pv:Value) (hok:a.Ok N) (hN:N<=1000000000) (h:dY F Z W (bP p a::ts) w) (j:Nat) (hj:ts[j]? = some (dD pv x.pay)) (hpl:x.pay.length<=1000) :
  Calls Vs 136 #[.pointer (some ⟨p,0,none⟩),dH x pv] w fun e w'=>e=.returned (.tuple #[])/\dY F Z W (bP p (a.cO x)::ts) w':=by
 obtain ⟨y,hst⟩:=h.qF;have h1:=(hst.new (bW x pv));obtain ⟨rv,sp,ap,wv,bv,fu,eO,fq,fw,ig,kv,fM,rev,fD⟩:=y;obtain ⟨_,_,hby⟩:=h.get (j+1) (T:=dD pv x.pay) (by simpa using hj);obtain ⟨pa,pc,rfl⟩:=fE.slice hby;have H1:=aQ (show dY F Z W (bX p a ⟨rv,sp,ap,wv,bv,fu,eO,fq,fw,ig,kv,fM,rev,fD⟩++(ts++[dJ w.heap.size (bW x (.slice pa x.pay.length pc))])) (w.alloc (bW x (.slice pa x.pay.length pc))) by rw [<-VE];exact h1);have hrow:=h1.blk 0 rfl;obtain ⟨_,c1,_,_,_,_,_,_,_,_,_,c11,_,c13,_⟩:=aB hrow;obtain ⟨k0,k1,k2,k3,k4⟩:=dx (heap_alloc_new w (bW x (.slice pa x.pay.length pc)));obtain ⟨_,_,hr⟩:=h1.get 1 rfl;obtain ⟨rb,ro,rc,e1,_,_⟩:=bR (show Sq dK 3 _ _ _ rv a.aZ from hr) hok.n1;subst e1;have bz:=aQ hok;have HJ:=aQ hj;have n4:=hok.n4;dsimp only at c1 c11 c13;clear hst h1 hrow h hok hr hby hj c13 k0 k3;go_enter Tryz.func136,Tryz.ntmps136;go_wp2_with fail;generalize w.alloc (bW x (.slice pa x.pay.length pc))=w1 at *;by_cases hc:0<=x.cls/\x.cls < a.aZ.length
 ·obtain ⟨c,hcc⟩:∃c:Nat,x.cls=(c:Int):=⟨x.cls.toNat,by omega⟩
  have hcl:c < a.aZ.length:=by omega
  have Kt:=aQ (show a.has x.cls from hc);have HQ:=aQ (iD (p:=p) (w:=w1) c (some ⟨rb,ro,none⟩) rc hcl c1);have JU:=aQ hcc;rw [hcc] at k1 ⊢;clear hc hcc;refine HQ.out.mono ?_;rintro e w' ⟨rfl,rfl⟩;clear HQ;by_cases hn:x.number=((a.rcv % 256:Nat):Int)
  ·have fA:=aQ (Vo H1.out.drew 7 (15+j) rfl (by have:=bz.out.rcv;omega) (.slice pa x.pay.length pc) x.pay (sK (us:=bX p a ⟨.slice (some ⟨rb,ro,none⟩) a.aZ.length rc,sp,ap,wv,bv,fu,eO,fq,fw,ig,kv,fM,rev,fD⟩) HJ.out) (by omega) (by omega))
   have QZ:=aQ hn;have hn':x.number=(a.rcv:Int) % 256:=by omega
   rw [hn'] at k2;clear hn hn';go_wp2_with fail;refine wp_region_held_drew (S:=fun w'=>w'.cell? ⟨p,11,none⟩=some (.pointer (some ⟨eO,0,none⟩))/\w'.cell? ⟨w.heap.size,2,none⟩=some (.int .i64 ((a.rcv:Int) % 256))/\w'.cell? ⟨w.heap.size,4,none⟩=some (.slice pa x.pay.length pc)) (by kernel_rfl) ⟨c11,k2,k4⟩ (fun hS0=>?_);refine Φ 0 8 hS0 ?_
   iterate 8 (refine aR (v:=?_) (by rfl) ?_ ?_;rotate_left 1;(focus ((intro w' hS';obtain ⟨l0,l1,l2⟩:=hS';go_simp);try with_reducible rfl));simp only [VF,ag,Ψ,ae])
   refine aT ?_;refine ah 8 (fun K hK=>?_)
   (refine ν (f:=?_) (args:=?_) (by rfl) ?_ ?_;rotate_left 2;(focus (go_simp;first|(with_reducible rfl)|(refine ⟨?_,?_⟩ <;> with_reducible rfl)));(refine (fA.out).mono ?_);rintro e w2 ⟨v',rfl,hh⟩)
   refine ⟨_,rfl,?_⟩;simp only [VF,ag,Ψ,ae];obtain ⟨_,_,hby⟩:=(dY.front hh).get 0 rfl;obtain ⟨va,vc,rfl⟩:=fE.slice hby;have H2:=aQ (show dY F Z W (dD (.slice va x.pay.length vc) x.pay::(bX p { a with rcv:=a.rcv+1 } ⟨.slice (some ⟨rb,ro,none⟩) a.aZ.length rc,sp,ap,wv,bv,fu,eO,fq,fw,ig,kv,fM,rev,fD⟩++(ts++[dJ w.heap.size (bW x (.slice pa x.pay.length pc))]))) w2 from hh.front);clear hh hby fA H1 c1 c11 k1 k2 k4 hS0;have hrow:=H2.out.blk 1 rfl;have c13:=(aB hrow).2.2.2.2.2.2.2.2.2.2.2.2.2.1;have c11:=(aB hrow).2.2.2.2.2.2.2.2.2.2.2.1;have hp1:=lt_of_block hrow;have eT:=H2.out.mZ (us:=dD (.slice va x.pay.length vc) x.pay::bX p { a with rcv:=a.rcv+1 } ⟨.slice (some ⟨rb,ro,none⟩) a.aZ.length rc,sp,ap,wv,bv,fu,eO,fq,fw,ig,kv,fM,rev,fD⟩);have k1:=(dx eT).2.1;have k2:=(dx eT).2.2.1;have k4:=(dx eT).2.2.2.2;rw [JU.out] at k1;rw [QZ.out] at k2;dsimp only at c13 c11;have Tj:w2.cell? ⟨p,11,none⟩=some (.pointer (some ⟨eO,0,none⟩))/\w2.cell? ⟨w.heap.size,2,none⟩=some (.int .i64 ((a.rcv:Int) % 256))/\w2.cell? ⟨w.heap.size,4,none⟩=some (.slice pa x.pay.length pc):=⟨c11,by rw [k2];simp,k4⟩;clear c11 k2 k4;refine hK.out _ _ Tj ?_;clear hK K;refine Φ 9 5 Tj ?_
   iterate 5 refine dI ?_
   refine aT ?_;refine fZ ?_;clear Tj;have hg:=bT (d:=(⟨0,0,0⟩:fV)) (show c < a.π.length by rw [bz.out.gl];exact hcl);have hgb:=bz.out.π _ (VD hg);have HR:=aQ (vZ H2.out.drew 10 rfl (by rw [bz.out.gl];exact n4) hg (by omega) (by omega) (by omega));clear hrow eT hg hgb;go_wp2_with fail;refine wp_region_still_tail 6 (by kernel_rfl) (by kernel_rfl) ?_;simp only [Vy,VI,Vz,VH];change wpStill _ _ (V3 _) (fun a'=>wpList _ _ _ _ a' (V3 _)) _ _
   repeat still_step
   refine wpStill_nil ?_;go_wp2_with fail;refine HR.out.mono ?_;rintro e w3 ⟨rfl,hh⟩;have H3:=aQ (show dY F Z W (dD (.slice va x.pay.length vc) x.pay::(bX p { a with rcv:=a.rcv+1,π:=a.π.set c (a.π.getD c ⟨0,0,0⟩).cO.2 } ⟨.slice (some ⟨rb,ro,none⟩) a.aZ.length rc,sp,ap,wv,bv,fu,eO,fq,fw,ig,kv,fM,rev,fD⟩++(ts++[dJ w.heap.size (bW x (.slice pa x.pay.length pc))]))) w3 from hh);clear hh HR H2 c13 k1;have hrow:=H3.out.blk 1 rfl;have hp1:=lt_of_block hrow
   cases Gx:(a.π.getD c ⟨0,0,0⟩).cO.1 with
   |false=>
    have HG:=aQ (show a.cO x={ a with rcv:=a.rcv+1,π:=a.π.set c (a.π.getD c ⟨0,0,0⟩).cO.2,bL:=a.bL+1 } by
     have hg:=bT (d:=(⟨0,0,0⟩:fV)) (show c < a.π.length by rw [bz.out.gl];exact hcl)
     have e:(a.π.getD c ⟨0,0,0⟩).cO.2=a.π.getD c ⟨0,0,0⟩:=by
      revert Gx;unfold fV.cO;split
      ·intro _;rfl
      ·intro h;cases h
     unfold δ.cO;rw [if_neg (by rintro (h|h);exact h Kt.out;exact h QZ.out),JU.out];dsimp only [Wv];rw [if_pos Gx,e,jy hg])
    have c19:=(aB hrow).2.2.2.2.2.2.2.2.2.2.2.2.2.2.2.2.2.2.2;have cf:=fun i=>aD hrow i
    have hov:=bz.out.C_;have HS:=aQ (H3.out.set 1 rfl (ky { a with rcv:=a.rcv+1,π:=a.π.set c (a.π.getD c ⟨0,0,0⟩).cO.2,bL:=a.bL+1 } ⟨.slice (some ⟨rb,ro,none⟩) a.aZ.length rc,sp,ap,wv,bv,fu,eO,fq,fw,ig,kv,fM,rev,fD⟩) (w':=w3.setCell ⟨p,19,none⟩ (.int .i64 ((a.bL:Int)+1))) (by exact eZ) (by (refine aS (Ξ hrow) ?_);rfl));clear hrow Gx;go_wp2_with fail;refine bodyPost_ret (v:=.tuple #[]) (by simp [results,Tryz.results136,go_sem]) rfl ?_;refine ⟨rfl,?_⟩;rw [HG.out];exact HS.out.tail.dropLast.bO
   |true=>
    have HRV:=aQ Gx;obtain ⟨_,_,hb⟩:=H3.out.get 6 rfl;obtain ⟨b1,o1,k1,e2,m1,nG⟩:=bR (show Sq (df ψ 40) 51 w3 _ _ bv a.aY from hb) (by rw [bz.out.bl];omega);subst e2;have hbf:=(Sq.free (show Sq (df ψ 40) 51 w3 _ _ (.slice (some ⟨b1,o1,none⟩) a.aY.length k1) a.aY from hb)).2.2.2;have hx:=bT (d:=[]) (show c < a.aY.length by rw [bz.out.bl];exact hcl);have hln:=bz.out.rO _ (VD hx);have hpb:p≠b1:=H3.out.apart 1 6 (by decide) rfl rfl (fun _ _ h=>h.2) fun _ _ h=>(Sq.free (show Sq _ _ _ _ _ _ _ from h)).2.1
    have eT:=H3.out.mZ (us:=dD (.slice va x.pay.length vc) x.pay::bX p { a with rcv:=a.rcv+1,π:=a.π.set c (a.π.getD c ⟨0,0,0⟩).cO.2 } ⟨.slice (some ⟨rb,ro,none⟩) a.aZ.length rc,sp,ap,wv,.slice (some ⟨b1,o1,none⟩) a.aY.length k1,fu,eO,fq,fw,ig,kv,fM,rev,fD⟩);obtain ⟨vb,je,tF⟩:=H3.out.out 6 rfl hx;have hout:=tF.front;obtain ⟨xs,hxs⟩:∃xs,xs=a.aY.getD c []:=⟨_,rfl⟩;have uA:=aQ hxs;rw [<-hxs] at hln hout;obtain ⟨_,_,eD⟩:=hout.get 0 rfl;obtain ⟨JE,k2,e3⟩:=Sq.shape (show Sq ψ 40 w3 _ _ vb xs from eD);subst e3;have hbb:w.heap.size≠b1:=(show dY F Z W ((ζ ψ 40 (.slice JE xs.length k2) xs::dD (.slice va x.pay.length vc) x.pay::(bX p { a with rcv:=a.rcv+1,π:=a.π.set c (a.π.getD c ⟨0,0,0⟩).cO.2 } ⟨.slice (some ⟨rb,ro,none⟩) a.aZ.length rc,sp,ap,wv,.slice (some ⟨b1,o1,none⟩) a.aY.length k1,fu,eO,fq,fw,ig,kv,fM,rev,fD⟩).set 5 (ζ (jm (df ψ 40)) 51 (.slice (some ⟨b1,o1,none⟩) a.aY.length k1) ((a.aY.map some).set c none)))++(ts++[dJ w.heap.size (bW x (.slice pa x.pay.length pc))])) w3 from hout).apart (17+ts.length) 7 (by omega) (mE (us:=ζ ψ 40 (.slice JE xs.length k2) xs::dD (.slice va x.pay.length vc) x.pay::(bX p { a with rcv:=a.rcv+1,π:=a.π.set c (a.π.getD c ⟨0,0,0⟩).cO.2 } ⟨.slice (some ⟨rb,ro,none⟩) a.aZ.length rc,sp,ap,wv,.slice (some ⟨b1,o1,none⟩) a.aY.length k1,fu,eO,fq,fw,ig,kv,fM,rev,fD⟩).set 5 (ζ (jm (df ψ 40)) 51 (.slice (some ⟨b1,o1,none⟩) a.aY.length k1) ((a.aY.map some).set c none)))) rfl (fun _ _ h=>h.2) fun _ _ h=>(Sq.free (show Sq _ _ _ _ _ _ _ from h)).2.1
    obtain ⟨Kx,us,Yx,hsl,hKn,hoth,hback⟩:=hout.yT 0 rfl;have o5:¬Kx p:=hKn p 2 _ (by decide) rfl fun H Y h=>.inl h.2
    have hKb:¬Kx b1:=hKn b1 7 _ (by decide) rfl fun H Y h=>.inl (Sq.free (show Sq _ _ _ H Y _ _ from h)).2.1
    have hKx:¬Kx w.heap.size:=hKn _ (17+ts.length) (dJ w.heap.size (bW x (.slice pa x.pay.length pc))) (by omega) (mE (us:=ζ ψ 40 (.slice JE xs.length k2) xs::dD (.slice va x.pay.length vc) x.pay::(bX p { a with rcv:=a.rcv+1,π:=a.π.set c (a.π.getD c ⟨0,0,0⟩).cO.2 } ⟨.slice (some ⟨rb,ro,none⟩) a.aZ.length rc,sp,ap,wv,.slice (some ⟨b1,o1,none⟩) a.aY.length k1,fu,eO,fq,fw,ig,kv,fM,rev,fD⟩).set 5 (ζ (jm (df ψ 40)) 51 (.slice (some ⟨b1,o1,none⟩) a.aY.length k1) ((a.aY.map some).set c none)))) fun H Y h=>.inl h.2
    obtain ⟨Hx,_,hby⟩:=hoth 1 _ (by decide) rfl;have hrow:=H3.out.blk 1 rfl;have c8:=(aB hrow).2.2.2.2.2.2.2.2.1;have k1':=(dx eT).2.1;rw [JU.out] at k1';dsimp only at c8;rw [bz.out.bl] at c8 m1;have yQ:b1 < w3.heap.size:=Vv w3 _ je;have hxl:=lt_of_block eT;have hbd:=bS w3 1;have iq:=aK w3.drew (.cells #[.slice va x.pay.length vc] 40);have hS2:(w3.drew.alloc (.cells #[.slice va x.pay.length vc] 40)).cell? ⟨p,8,none⟩=some (.slice (some ⟨b1,o1,none⟩) a.aZ.length k1)/\(w3.drew.alloc (.cells #[.slice va x.pay.length vc] 40)).cell? ⟨w.heap.size,1,none⟩=some (.int .i64 (c:Int)):=⟨aI _ _ c8,aI _ _ k1'⟩;have hv2:(w3.drew.alloc (.cells #[.slice va x.pay.length vc] 40)).cell? ⟨b1,o1+c,none⟩=some (.slice JE xs.length k2):=aI _ _ je
    have iT:=aQ (fun (v2:Value) (w2:World) (hsl2:Sl w2 (fun k=>Kx k\/(w3.drew.alloc (.cells #[.slice va x.pay.length vc] 40)).heap.size<=k) 40 1 v2 (xs.length+1) (us++[.slice va x.pay.length vc])) (hfr2:Fr Kx (w3.drew.alloc (.cells #[.slice va x.pay.length vc] 40)) w2)=>
     show ∃a2 c2,v2=.slice a2 (xs.length+1) c2/\w2.cell? ⟨p,8,none⟩=some (.slice (some ⟨b1,o1,none⟩) a.aZ.length k1)/\w2.cell? ⟨w.heap.size,1,none⟩=some (.int .i64 (c:Int))/\w2.cell? ⟨b1,o1+c,none⟩=some (.slice JE xs.length k2)/\(∀k,w2.frozen? ⟨b1,k,none⟩=false) /\
      Hid (dY F Z W (bX p { a with rcv:=a.rcv+1,π:=a.π.set c (a.π.getD c ⟨0,0,0⟩).cO.2,aY:=a.aY.set c (xs++[x.pay]) } ⟨.slice (some ⟨rb,ro,none⟩) a.aZ.length rc,sp,ap,wv,.slice (some ⟨b1,o1,none⟩) a.aY.length k1,fu,eO,fq,fw,ig,kv,fM,rev,fD⟩++(ts++[dJ w.heap.size (bW x (.slice pa x.pay.length pc))])) (w2.setCell ⟨b1,o1+c,none⟩ (.slice a2 (xs.length+1) c2))) from by
     obtain ⟨a2,c2,rfl⟩:=hsl2.shape;have h1:=hback (w3.drew.alloc (.cells #[.slice va x.pay.length vc] 40)) w2 [.slice va x.pay.length vc] [x.pay] _ (hbd.trans iq) hsl2 hfr2 ⟨fun _=>False,Yx,fun _ f=>f.elim,fun _ y=>.inl y,fun _ f=>f.elim,fK.single (E:=ψ) ⟨_,rfl,fE.below hby (hbd.trans iq)⟩⟩;have h2:=dY.back (c:=c) (Gr:=a.aY.set c (xs++[x.pay])) (dY.wT h1) 6 rfl (by rw [Wd,VL,bz.out.bl];exact hcl) j_;have hlA:∀k,k < w3.heap.size->k < (w3.drew.alloc (.cells #[.slice va x.pay.length vc] 40)).heap.size:=fun k hk=>by rw [WW];exact Zi hk
     exact ⟨a2,c2,rfl,(Vt (hfr2.block p (hlA p hp1) o5)).trans hS2.1,(Vt (hfr2.block _ (hlA _ hxl) hKx)).trans hS2.2,(Vt (hfr2.block b1 (hlA b1 yQ) hKb)).trans hv2,fun k=>(XA (hfr2.block b1 (hlA b1 yQ) hKb)).trans ((XA ((hbd.trans iq).block b1 yQ)).trans (hbf k)),aQ h2.tail⟩)
    have gK:=aQ hsl;have w8:=hS2.1;have w9:=hS2.2;clear hb hx hout tF eD hxs hKn hoth hback hsl o5 hKb hKx hby hrow eT nG iq hbd hS2 hbf Gx;go_wp2_with fail;refine wp_region_held_drew (S:=fun w'=>w'.cell? ⟨p,8,none⟩=some (.slice (some ⟨b1,o1,none⟩) a.aZ.length k1)/\w'.cell? ⟨w.heap.size,1,none⟩=some (.int .i64 (c:Int))) (by kernel_rfl) ⟨c8,k1'⟩ (fun hS0=>?_);refine Φ 0 13 hS0 ?_
    iterate 13 (refine aR (v:=?_) (by rfl) ?_ ?_;rotate_left 1;(focus ((intro w' hS';obtain ⟨l0,l1⟩:=hS';go_simp);try with_reducible rfl));simp only [VF,ag,Ψ,ae])
    refine aT ?_;refine Φ 14 1 hS0 ?_;refine dI ?_;refine aT ?_;clear hS0;refine gm 13 15 (by kernel_rfl) rfl rfl (fun K hK=>?_) (fun K hK=>?_)
    focus
     go_simp;refine hK.out _ _ ⟨c8,k1'⟩ ?_;clear hK K;refine ah 15 (fun K hK=>?_);go_simp;refine hK.out _ _ ⟨w8,w9⟩ ?_;clear hK K
    rotate_left
    focus
     go_simp;refine hK.out _ _ ⟨w8,w9⟩ ?_;clear hK K;refine ah 13 (fun K hK=>?_);go_simp;refine hK.out _ _ ⟨w8,w9⟩ ?_;clear hK K
    all_goals
     refine ah 16 (fun K hK=>?_);refine υ qA rfl _ _ rfl Kx (.slice JE xs.length k2) xs.length us rfl (gK.out.drew.alloc _) _ 1 [.slice va x.pay.length vc] rfl (iA _ _ _ _ rfl) (by intro u hu;simp at hu;subst hu;rfl) (by unfold maxLen;omega) (by omega) ?_;intro v2 w4 hsl2 hfr2;obtain ⟨a2,c2,rfl,q1,q2,q3,qf,nH⟩:=iT.out v2 w4 hsl2 hfr2;clear hsl2 hfr2;refine hK.out _ _ ⟨q1,q2⟩ ?_;clear hK K;simp only [VF,ag,Ψ,ae];refine ah 17 (fun K hK=>?_);go_simp;refine hK.out _ _ ⟨q1,q2⟩ ?_;clear hK K;refine ah 18 (fun K hK=>?_);go_simp;refine hK.out _ _ ⟨oI hpb q1,oI hbb q2⟩ ?_;clear hK K;refine fZ ?_;clear q1 q2 q3 qf w8 w9 hv2 c8 k1' iT gK je;generalize w4.setCell ⟨b1,o1+c,none⟩ (.slice a2 (xs.length+1) c2)=w5 at nH ⊢;obtain ⟨_,_,hre⟩:=nH.out.get 13 rfl;obtain ⟨b3,o3,k3,e3,m3,QJ⟩:=bR (show Sq dK 3 w5 _ _ rev a.aW from hre) (by rw [bz.out.rl];omega);subst e3;have hz:=bT (d:=0) (show c < a.aW.length by rw [bz.out.rl];exact hcl);have hzb:=bz.out.ren _ (VD hz);have hzc:=dP hre hz;have hzf:=(Sq.free (show Sq dK 3 w5 _ _ (.slice (some ⟨b3,o3,none⟩) a.aW.length k3) a.aW from hre)).2.2.2;have hrow:=nH.out.blk 0 rfl;have c17:=(aB hrow).2.2.2.2.2.2.2.2.2.2.2.2.2.2.2.2.2.1;have eT:=nH.out.mZ (us:=bX p { a with rcv:=a.rcv+1,π:=a.π.set c (a.π.getD c ⟨0,0,0⟩).cO.2,aY:=a.aY.set c (xs++[x.pay]) } ⟨.slice (some ⟨rb,ro,none⟩) a.aZ.length rc,sp,ap,wv,.slice (some ⟨b1,o1,none⟩) a.aY.length k1,fu,eO,fq,fw,ig,kv,fM,.slice (some ⟨b3,o3,none⟩) a.aW.length k3,fD⟩);have k1':=(dx eT).2.1;rw [JU.out] at k1';dsimp only at c17;rw [bz.out.rl] at c17 m3
     have qz:=aQ (show dY F Z W (bX p { a with rcv:=a.rcv+1,π:=a.π.set c (a.π.getD c ⟨0,0,0⟩).cO.2,aY:=a.aY.set c (xs++[x.pay]),aW:=a.aW.set c (a.aW.getD c 0+1) } ⟨.slice (some ⟨rb,ro,none⟩) a.aZ.length rc,sp,ap,wv,.slice (some ⟨b1,o1,none⟩) a.aY.length k1,fu,eO,fq,fw,ig,kv,fM,.slice (some ⟨b3,o3,none⟩) a.aW.length k3,fD⟩++(ts++[dJ w.heap.size (bW x (.slice pa x.pay.length pc))])) ((w5.setCell ⟨b3,o3+c,none⟩ (.int .i64 ((a.aW.getD c 0:Int)+1))).drew) from
      (nH.out.yM (xs:=a.aW) 13 rfl (c:=c) (y:=a.aW.getD c 0+1) (u:=(a.aW.getD c 0:Int)+1) (by rw [bz.out.rl];exact hcl) (by omega)).drew)
     obtain ⟨z,hzz⟩:∃z,z=a.aW.getD c 0:=⟨_,rfl⟩;have HZ:=aQ hzz;rw [<-hzz] at hzb hzc;clear hre hz hrow eT hzz nH m1 QJ;have hw1:IntKind.i64.wrap ((z:Int)+1)=(z:Int)+1:=V6 _ (by omega);go_upto_region 7 with fail
     refine wp_region_still_tail 10 (by kernel_rfl) (by kernel_rfl) ?_;simp only [Vy,VI,Vz,VH];change wpStill _ _ (V3 _) (fun a'=>wpList _ _ _ _ a' (V3 _)) _ _
     repeat still_step
     refine wpStill_nil ?_;go_wp2_with fail;go_end0
     have HG:a.cO x={ a with rcv:=a.rcv+1,π:=a.π.set c (a.π.getD c ⟨0,0,0⟩).cO.2,aY:=a.aY.set c (xs++[x.pay]),aW:=a.aW.set c (a.aW.getD c 0+1) }:=by
      unfold δ.cO;rw [if_neg (by rintro (h|h);exact h Kt.out;exact h QZ.out),JU.out];dsimp only [Wv];rw [if_neg (by rw [HRV.out];decide),<-uA.out]
     refine ⟨rfl,?_⟩;rw [HG];have hz:=HZ.out;subst hz;exact qz.out.dropLast.bO
  ·have HG:=aQ (show a.cO x=a by
    unfold δ.cO;rw [if_pos (.inr hn)])
   have hne:x.number≠(a.rcv:Int) % 256:=by omega
   obtain ⟨_,_,hby⟩:=H1.out.drew.get (15+j) (sK (us:=bX p a ⟨.slice (some ⟨rb,ro,none⟩) a.aZ.length rc,sp,ap,wv,bv,fu,eO,fq,fw,ig,kv,fM,rev,fD⟩) HJ.out);obtain ⟨_,_,UX⟩:=H1.out.drew.get 7 rfl;have fA:=aQ (EA eO a.rcv x.number (.slice pa x.pay.length pc) x.pay w1.drew UX.1 hby.1 hne);clear hn hne hby UX;go_wp2_with fail;refine wp_region_held_drew (S:=fun w'=>w'.cell? ⟨p,11,none⟩=some (.pointer (some ⟨eO,0,none⟩))/\w'.cell? ⟨w.heap.size,2,none⟩=some (.int .i64 (x.number))/\w'.cell? ⟨w.heap.size,4,none⟩=some (.slice pa x.pay.length pc)) (by kernel_rfl) ⟨c11,k2,k4⟩ (fun hS0=>?_);refine Φ 0 8 hS0 ?_
   iterate 8 (refine aR (v:=?_) (by rfl) ?_ ?_;rotate_left 1;(focus ((intro w' hS';obtain ⟨l0,l1,l2⟩:=hS';go_simp);try with_reducible rfl));simp only [VF,ag,Ψ,ae])
   refine aT ?_;refine ah 8 (fun K hK=>?_)
   (refine ν (f:=?_) (args:=?_) (by rfl) ?_ ?_;rotate_left 2;(focus (go_simp;first|(with_reducible rfl)|(refine ⟨?_,?_⟩ <;> with_reducible rfl)));(refine (fA.out).mono ?_);rintro e w' ⟨rfl,rfl⟩)
   refine ⟨_,rfl,?_⟩;simp only [VF,ag,Ψ,ae];have Tj:=hS0;refine hK.out _ _ Tj ?_;clear hK K;refine Φ 9 5 Tj ?_
   iterate 5 refine dI ?_
   refine aT ?_;refine fZ ?_;go_wp2_with fail;refine bodyPost_ret (v:=.tuple #[]) (by simp [results,Tryz.results136,go_sem]) rfl ?_;refine ⟨rfl,?_⟩;rw [HG.out];exact H1.out.drew.dropLast.bO
 ·have HG:=aQ (show a.cO x=a by
   unfold δ.cO;rw [if_pos (show ¬a.has x.cls\/_ from .inl hc)])
  have HQ:=aQ (oP (p:=p) (w:=w1) x.cls (some ⟨rb,ro,none⟩) rc (n:=a.aZ.length) (by omega) c1);clear hc;refine HQ.out.mono ?_;rintro e w' ⟨rfl,rfl⟩;go_wp2_with fail;refine bodyPost_ret (v:=.tuple #[]) (by simp [results,Tryz.results136,go_sem]) rfl ?_;refine ⟨rfl,?_⟩;rw [HG.out];exact H1.out.dropLast.bO
end

section
variable {F Z:BS} {W w:World} {ts:List Th} {p N:Nat} {a:δ}
theorem MF (x:Pt) (pv:Value) (hok:a.Ok N) (hN:N<=1000000000) (h:dY F Z W (bP p a::ts) w) (j:Nat) (hj:ts[j]? = some (dD pv x.pay)) (hpl:x.pay.length<=1000) :
  Calls Vs 99 #[.pointer (some ⟨p,0,none⟩),dH x pv] w fun e w'=>e=.returned (.tuple #[])/\dY F Z W (bP p (a.cU x)::ts) w':=by
 have hmf:∀(fn:Fn) (first cap:Array Value) (w:World),(Instr.makeFunc fn first cap).run Vs w=.ok (.func fn first cap) w:=fun _ _ _ _=>rfl
 have h1:=(h.new (bW x pv));obtain ⟨_,_,hby⟩:=h.get (j+1) (T:=dD pv x.pay) (by simpa using hj);obtain ⟨pa,pc,rfl⟩:=fE.slice hby;have H1:=aQ (show dY F Z W (bP p a::(ts++[dJ w.heap.size (bW x (.slice pa x.pay.length pc))])) (w.alloc (bW x (.slice pa x.pay.length pc))) from h1);obtain ⟨_,_,y,hst⟩:=h1.get 0 rfl;have hrow:=(hst.get (i:=0) rfl).1;have c5:=(aB hrow).2.2.2.2.2.1;have De:=aQ (hst.get (i:=2) rfl).2;obtain ⟨k0,k1,k2,k3,k4⟩:=dx (heap_alloc_new w (bW x (.slice pa x.pay.length pc)));have hj':(ts++[dJ w.heap.size (bW x (.slice pa x.pay.length pc))])[j]? = some (dD (.slice pa x.pay.length pc) x.pay):=by rw [VO (aA hj),hj]
 have HJ:=aQ hj';have bz:=aQ hok;obtain ⟨rv,sp,ap,wv,bv,fu,eO,fq,fw,ig,kv,fM,rev,fD⟩:=y;dsimp only at c5 De;clear hst h1 hrow h hok hby hj hj';have uV:=aQ (fun (a':δ) (w':World) (h:dY F Z W (bP p a'::(ts++[dJ w.heap.size (bW x (.slice pa x.pay.length pc))])) w')=>show dY F Z W (bP p a'::ts) w' from dY.dropLast (us:=[bP p a']) h);go_enter Tryz.func99,Tryz.ntmps99;go_wp2_with fail;generalize w.alloc (bW x (.slice pa x.pay.length pc))=w1 at *;by_cases hk1:x.kind=1#8
 ·have b1:((U x.kind:Int) != 1)=false:=by rw [hk1];rfl
  have b2:((U x.kind:Int) == 1)=true:=by rw [hk1];rfl
  have HG:=aQ (show a.cU x=a.gy x by unfold δ.cU;rw [if_pos hk1]);clear hk1;go_quiet (fail);go_wp2_with fail;refine (O5 x pa x.pay.length pc bz.out hN (H1.out.drewN nq)).mono ?_;rintro e w' ⟨rfl,hh⟩;have HH:=aQ hh;clear hh;go_wp2_with fail;go_end0;refine ⟨rfl,?_⟩;rw [HG.out];exact uV.out _ _ HH.out
 ·have b1:((U x.kind:Int) != 1)=true:=by
   rw [bne_iff_ne];intro e;exact hk1 (pz.1 (e.trans (by rfl:(1:Int)=U (1#8))))
  have b2:((U x.kind:Int) == 1)=false:=by rw [beq_eq_false_iff_ne];rw [bne_iff_ne] at b1;exact b1
  by_cases hup:a.cS.state=2
  ·have b3:((a.cS.state:Int) == 2)=true:=by rw [hup];rfl
   by_cases hac:a.cS.cM≠0/\(a.cS.cM:Int)=x.value
   ·have HAC:=aQ (show decide (a.cS.cM≠0/\(a.cS.cM:Int)=x.value)=true from decide_eq_true hac)
    have HC:=aQ (show a.cS.state=2/\a.cS.cM≠0/\(a.cS.cM:Int)=x.value from ⟨hup,hac⟩);have HK1:=aQ hk1;clear hup hac hk1;go_quiet (first|((go_at_call 45;exact Wq ((mq sp a.cS _ (by exact De.out)).mono fun e w' h=>⟨show e=.returned (.int .i64 (a.cS.state:Int)) from h.1,h.2.symm⟩)))|((go_at_call 134;exact Wq ((uh sp a.cS _ x.value (by exact De.out)).mono fun e w' h=>⟨show e=.returned (.bool true) from by rw [h.1,HAC.out],h.2.symm⟩))));go_upto_region 6 with fail
    by_cases hk2:x.kind=2#8
    ·have b4:((U x.kind:Int) == 2)=true:=by rw [hk2];rfl
     have HG:=aQ (show a.cU x=a.cO x by unfold δ.cU;rw [if_neg HK1.out,if_neg (fun h=>h HC.out),if_pos hk2]);clear hk2;go_wp2_with fail;refine (Iw x (.slice pa x.pay.length pc) bz.out hN (H1.out.drewN nq) j HJ.out hpl).mono ?_;rintro e w' ⟨rfl,hh⟩;have HH:=aQ hh;clear hh;go_wp2_with fail;go_end0;refine ⟨rfl,?_⟩;rw [HG.out];exact uV.out _ _ HH.out
    ·have b4:((U x.kind:Int) == 2)=false:=by rw [beq_eq_false_iff_ne];intro e;exact hk2 (pz.1 (e.trans (by rfl:(2:Int)=U (2#8))))
     by_cases hk3:x.kind=3#8
     ·have b5:((U x.kind:Int) == 3)=true:=by rw [hk3];rfl
      have HG:=aQ (show a.cU x=a.bQ x by unfold δ.cU;rw [if_neg HK1.out,if_neg (fun h=>h HC.out),if_neg hk2,if_pos hk3]);clear hk2 hk3;go_wp2_with fail;refine (xy x pa x.pay.length pc bz.out hN (H1.out.drewN nq)).mono ?_;rintro e w' ⟨rfl,hh⟩;have HH:=aQ hh;clear hh;go_wp2_with fail;go_end0;refine ⟨rfl,?_⟩;rw [HG.out];exact uV.out _ _ HH.out
     ·have b5:((U x.kind:Int) == 3)=false:=by rw [beq_eq_false_iff_ne];intro e;exact hk3 (pz.1 (e.trans (by rfl:(3:Int)=U (3#8))))
      by_cases hk4:x.kind=4#8
      ·have b6:((U x.kind:Int) == 4)=true:=by rw [hk4];rfl
       have HG:=aQ (show a.cU x=a.raise x by unfold δ.cU;rw [if_neg HK1.out,if_neg (fun h=>h HC.out),if_neg hk2,if_neg hk3,if_pos hk4]);clear hk2 hk3 hk4;go_wp2_with fail;refine (OO x pa x.pay.length pc bz.out (H1.out.drewN nq)).mono ?_;rintro e w' ⟨rfl,hh⟩;have HH:=aQ hh;clear hh;go_wp2_with fail;go_end0;refine ⟨rfl,?_⟩;rw [HG.out];exact uV.out _ _ HH.out
      ·have b6:((U x.kind:Int) == 4)=false:=by rw [beq_eq_false_iff_ne];intro e;exact hk4 (pz.1 (e.trans (by rfl:(4:Int)=U (4#8))))
       have HG:=aQ (show a.cU x=a by unfold δ.cU;rw [if_neg HK1.out,if_neg (fun h=>h HC.out),if_neg hk2,if_neg hk3,if_neg hk4]);clear hk2 hk3 hk4;go_wp2_with fail;refine bodyPost_ret (v:=.tuple #[]) (by simp [results,Tryz.results99,go_sem]) rfl ?_;refine ⟨rfl,?_⟩;rw [HG.out];exact uV.out _ _ (H1.out.drewN _)
   ·have HAC:=aQ (show decide (a.cS.cM≠0/\(a.cS.cM:Int)=x.value)=false from decide_eq_false hac)
    have HG:=aQ (show a.cU x=a by unfold δ.cU;rw [if_neg hk1,if_pos (fun h=>hac h.2)]);clear hup hac hk1;go_quiet (first|((go_at_call 45;exact Wq ((mq sp a.cS _ (by exact De.out)).mono fun e w' h=>⟨show e=.returned (.int .i64 (a.cS.state:Int)) from h.1,h.2.symm⟩)))|((go_at_call 134;exact Wq ((uh sp a.cS _ x.value (by exact De.out)).mono fun e w' h=>⟨show e=.returned (.bool false) from by rw [h.1,HAC.out],h.2.symm⟩))));go_wp2_with fail;refine bodyPost_ret (v:=.tuple #[]) (by simp [results,Tryz.results99,go_sem]) rfl ?_;refine ⟨rfl,?_⟩;rw [HG.out];exact uV.out _ _ (H1.out.drewN _)
  ·have b3:((a.cS.state:Int) == 2)=false:=by rw [beq_eq_false_iff_ne];omega
   have HG:=aQ (show a.cU x=a by unfold δ.cU;rw [if_neg hk1,if_pos (fun h=>hup h.1)]);clear hup hk1;go_quiet ((go_at_call 45;exact Wq ((mq sp a.cS _ (by exact De.out)).mono fun e w' h=>⟨show e=.returned (.int .i64 (a.cS.state:Int)) from h.1,h.2.symm⟩)));go_wp2_with fail;refine bodyPost_ret (v:=.tuple #[]) (by simp [results,Tryz.results99,go_sem]) rfl ?_;refine ⟨rfl,?_⟩;rw [HG.out];exact uV.out _ _ (H1.out.drewN _)
end

theorem RZ:o8 Vs 128 225 (.agg #[.int .i64 0,.slice none 0 0]) 2 32:=⟨Tryz.underlying128,info_parts (by kernel_rfl),rfl,by decide⟩
theorem dY.weak {F Z:BS} {W w:World} {ts:List Th} {A T:Th} (h:dY F Z W ts w) (i:Nat) (hi:ts[i]? = some A) (k:∀G Y,A.on w G Y->T.on w (fun _=>False) Y):dY F Z W (ts++[T]) w:=by
 obtain ⟨L,h1,h2,h3⟩:=h;refine ⟨L,h1,h2,fun j T' hj=>?_⟩;by_cases hjl:j < ts.length
 ·rw [VO hjl] at hj;exact h3 j T' hj
 ·rw [VP (XI hjl)] at hj
  obtain rfl:T=T':=by
   have:j - ts.length=0:=by have:=aA hj;simp at this;omega
   rw [this] at hj;simpa using hj
  exact T.mono (k _ _ (h3 i A hi)) (fun _ f=>f.elim) fun _ h=>h
theorem KV (w : World) (g : Nat) (u v : Value) (T : TypeId) (hg : g = w.heap.size) : Rd (w.alloc (.cells #[u, v] T)) 2 (.slice (some ⟨g, 0, none⟩) 1 1) 1 [u, v] := by
  subst hg;refine ⟨rfl, _, 1, rfl, Vu _, by decide, (fun e => by cases e), fun b hb j x hj => ?_⟩;obtain rfl := VM hb;have hr := heap_alloc_new w (.cells #[u, v] T)
  match j, hj with
  | 0, hj => exact ⟨rfl, by obtain rfl : u = x := by simpa using hj
                            exact aJ (i := 0) hr rfl⟩
  | 1, hj => exact ⟨rfl, by obtain rfl : v = x := by simpa using hj
                            exact aJ (i := 1) hr rfl⟩
  | j + 2, hj => simp at hj
abbrev kG (a:δ) (c:Nat):Bool:=decide (0 < (a.aX.getD c []).length) && decide ((a.bu.getD c ⟨0,0⟩).cP < (a.bu.getD c ⟨0,0⟩).cE)
theorem tK {a:δ} {n:Nat} (h:a.aX.length=n):upTo n (kG a) (fun _=>false) n=a.bK:=by rw [uZ,<-h];rfl
theorem Bu {F Z:BS} {W w:World} {ts:List Th} {T:TypeId} {b off n cap:Nat} {xs:List Bool} (h:dY F Z W ts w) (i:Nat) (hi:ts[i]? = some (ζ gV T (.slice (some ⟨b,off,none⟩) n cap) xs)) {c:Nat} {y:Bool} (hc:c < xs.length) :
  dY F Z W (ts.set i (ζ gV T (.slice (some ⟨b,off,none⟩) n cap) (xs.set c y))) (w.setCell ⟨b,off+c,none⟩ (.bool y)):=by
 have:=h.put xW i hi (c:=c) (j:=0) (a:=xs.getD c false) (a':=y) (u:=.bool y) (bT hc) (by decide) rfl;simpa [gV] using this
theorem dY.RA {F Z:BS} {W w:World} {ts:List Th} {T1 T2:TypeId} {b o n cap c k:Nat} {iI:List (List (List (BitVec 8)))} {xs:List (List (BitVec 8))} {d:List (BitVec 8)} (h:dY F Z W ts w) (i:Nat) (hi:ts[i]? = some (ζ (df ψ T1) T2 (.slice (some ⟨b,o,none⟩) n cap) iI)) (hx:iI[c]? = some xs) (hd:xs[k]? = some d) :
  ∃b2 o2 k2 v,w.cell? ⟨b,o+c,none⟩=some (.slice (some ⟨b2,o2,none⟩) xs.length k2)/\xs.length<=k2/\k2<=9223372036854775807/\w.cell? ⟨b2,o2+k,none⟩=some v/\dY F Z W (ts++[dD v d]) w:=by
 obtain ⟨G,Y,hon⟩:=h.get i hi;obtain ⟨v0,A,hv0,eD,_⟩:=iQ hon hx;obtain ⟨b2,o2,k2,rfl,m1,m2⟩:=bR eD (by have:=aA hd;omega);obtain ⟨v,hv,hby⟩:=oG eD hd;refine ⟨b2,o2,k2,v,hv0,m1,m2,hv,h.weak i hi fun G' Y' Ke=>?_⟩;obtain ⟨v0',A',UR,Ka,_⟩:=iQ Ke hx;rw [hv0] at UR;obtain rfl:=VM UR;obtain ⟨v',hv',yP⟩:=oG Ka hd;rw [hv] at hv';obtain rfl:=VM hv';exact yP
theorem dY.K8 {F Z:BS} {W w:World} {us ts:List Th} {v:Value} {d:List (BitVec 8)} (h:dY F Z W (us++(ts++[dD v d])) w):By w v d:=by
 rw [<-VE] at h;obtain ⟨_,_,hb⟩:=h.front.get 0 rfl;exact hb.1
section
variable {F Z:BS} {W w:World} {ts:List Th} {p N:Nat} {a:δ}
theorem Pj (num:Nat) (hok:a.Ok N) (hN:N<=1000000000) (rT:num < 256) (hk:(num+256 - a.snd.aG % 256) % 256 < a.cT.length) (h:dY F Z W (bP p a::ts) w) :
  Calls Vs 105 #[.pointer (some ⟨p,0,none⟩),.int .i64 (num:Int)] w fun e w'=>e=.returned (.int .i64 ((a.lC num:Nat):Int))/\dY F Z W (bP p a::ts) w':=by
 obtain ⟨y,hst⟩:=h.qF;obtain ⟨rv,sp,ap,wv,bv,fu,eO,fq,fw,ig,kv,fM,rev,fD⟩:=y;have hrow:=hst.blk 0 rfl;have c10:=(aB hrow).2.2.2.2.2.2.2.2.2.2.1;have HR:=aQ (LD hst 6 rfl hok.snd (by have:=hok.tot;omega));have hac:a.snd.aG<=1000000000:=by have:=hok.tot;unfold bg.total at this;omega
 obtain ⟨q,hq⟩:∃q,q=(num+256 - a.snd.aG % 256) % 256:=⟨_,rfl⟩;have hqi:((num:Int) - (a.snd.aG:Int) % 256+256) % 256=(q:Int):=by omega
 have HQ:=aQ hq;rw [<-hq] at hk;have hn1:(num:Int) < 256:=by omega
 obtain ⟨⟨fc,fd⟩,hx⟩:∃f,a.cT[q]? = some f:=⟨_,Vw hk⟩;have HK:=aQ hx;dsimp only at c10;clear hq hst hrow h hok hx;go_enter Tryz.func105,Tryz.ntmps105;go_wp2_with fail;refine HR.out.mono ?_;rintro e w1 ⟨rfl,hh⟩;obtain ⟨_,_,hkp⟩:=hh.get 11 rfl;obtain ⟨kb,ko,kc,e5,m1,m2⟩:=bR (show Sq jg 225 w1 _ _ kv a.cT from hkp) (by omega);subst e5;obtain ⟨v,k0,_,_⟩:=uG hkp HK.out;have HH:=aQ hh;have hrow:=hh.blk 0 rfl;have c15:=(aB hrow).2.2.2.2.2.2.2.2.2.2.2.2.2.2.2.1;dsimp only at c15;clear hkp hh hrow HR c10;go_wp2_with fail;go_ret;refine ⟨?_,HH.out.bO⟩;unfold δ.lC;rw [<-HQ.out,show a.cT.getD q (0,[])=(fc,fd) by simp [Wo,HK.out]];rfl
theorem MV (hok:a.Ok N) (_:N<=1000000000) (h:dY F Z W (bP p a::ts) w) :
  Calls Vs 103 #[.pointer (some ⟨p,0,none⟩)] w fun e w'=>e=.returned (.tuple #[])/\dY F Z W (bP p a.choose::ts) w':=by
 obtain ⟨y,hst⟩:=h.qF;obtain ⟨rv,sp,ap,wv,bv,fu,eO,fq,fw,ig,kv,fM,rev,fD⟩:=y;have hrow:=hst.blk 0 rfl;obtain ⟨_,_,c2,_,_,_,_,c7,_,_,c10,_⟩:=aB hrow;obtain ⟨_,_,hwt⟩:=hst.get 4 rfl;have n1:=hok.n1;have n4:=hok.n4;obtain ⟨b1,o1,k1,e2,m1,nG⟩:=bR (show Sq (df ψ 40) 51 w _ _ wv a.aX from hwt) (by rw [hok.wl];exact n1);subst e2;have bz:=aQ hok;have HH:=aQ hst;dsimp only at c2 c7 c10;rw [hok.wl] at c7 m1;clear hst hrow h hok hwt;go_enter Tryz.func103,Tryz.ntmps103;go_wp2_with fail;by_cases hfull:a.cA<=a.snd.cT.length
 ·have HG:=aQ (show a.choose=a by unfold δ.choose;rw [if_pos hfull])
  go_quiet ((go_at_call 143;exact Wq ((FX (HH.out.drewN _) 6 rfl).mono fun e w' h=>⟨show e=.returned (.int .i64 (a.snd.cT.length:Int)) from h.1,h.2.symm⟩)));go_wp2_with fail;refine bodyPost_ret (v:=.tuple #[]) (by simp [results,Tryz.results103,go_sem]) rfl ?_;refine ⟨rfl,?_⟩;rw [HG.out];exact (HH.out.drewN _).bO
 ·have hroom:decide (a.cA<=a.snd.cT.length)=false:=by simpa using hfull
  have uU:=aQ hfull;clear hfull;go_quiet ((go_at_call 143;exact Wq ((FX (HH.out.drewN _) 6 rfl).mono fun e w' h=>⟨show e=.returned (.int .i64 (a.snd.cT.length:Int)) from h.1,h.2.symm⟩)));have h1:=HH.out.drewN nq;generalize w.drewN nq=w1 at h1 ⊢;have H1:=aQ h1;have d7:=(aB (h1.blk 0 rfl)).2.2.2.2.2.2.2.1;dsimp only at d7;rw [bz.out.wl] at d7;clear h1 c2 c7 c10 HH;go_wp2_with (at_make;refine jB (E:=gV) KS rfl (a0:=false) (fun _ _=>rfl) rfl _ _ rfl a.aZ.length rfl rfl (by omega) (by unfold maxLen;omega) ?_;intro w2 hb2 hs2;obtain ⟨qb,QK⟩:∃qb,qb=w1.heap.size:=⟨_,rfl⟩;rw [<-QK] at hs2 ⊢;have H2:=aQ ((H1.out.add hb2 (T:=ζ gV 4 (.slice (some ⟨qb,0,none⟩) a.aZ.length a.aZ.length) (Vr a.aZ.length false)) (by rw [QK] at hs2 ⊢;exact hs2)).front);clear hb2 hs2 d7 QK;have d7:=(aB (H2.out.blk 1 rfl)).2.2.2.2.2.2.2.1;dsimp only at d7;rw [bz.out.wl] at d7);go_loopw [30,3,4] (fun i _ _ wr=>∃j:Nat,j<=a.aZ.length/\i=.int .i64 (j:Int)/\Hid (dY F Z W (ζ gV 4 (.slice (some ⟨qb,0,none⟩) a.aZ.length a.aZ.length) (upTo a.aZ.length (kG a) (fun _=>false) j)::(bX p a ⟨rv,sp,ap,.slice (some ⟨b1,o1,none⟩) a.aX.length k1,bv,fu,eO,fq,fw,ig,kv,fM,rev,fD⟩++ts)) wr)) (fun i _ _ _=>a.aZ.length - (intOf i).toNat)
  case atStart=>exact ⟨0,VJ _,rfl,aQ (by rw [oJ,show (VV a.aZ.length).map (fun _=>false)=Vr a.aZ.length false by rw [List.map_const',List.length_range]];exact H2.out)⟩
  case round=>
   clear H2 H1 d7;obtain ⟨j,hj,rfl,HJ⟩:=hrel;by_cases hlt:j < a.aZ.length
   ·have hrow:=HJ.out.blk 1 rfl
    have d7:=(aB hrow).2.2.2.2.2.2.2.1;have d12:=(aB hrow).2.2.2.2.2.2.2.2.2.2.2.2.1;dsimp only at d7 d12;rw [bz.out.wl] at d7;obtain ⟨_,_,hwt⟩:=HJ.out.get 5 rfl;have hx:=bT (d:=[]) (show j < a.aX.length by rw [bz.out.wl];exact hlt);have hln:=bz.out.qy _ (VD hx);obtain ⟨v,A,hv,eD,_⟩:=iQ (show Sq (df ψ 40) 51 wr _ _ (.slice (some ⟨b1,o1,none⟩) a.aX.length k1) a.aX from hwt) hx;obtain ⟨va,vc,rfl⟩:=eD.shape;obtain ⟨_,_,hrq⟩:=HJ.out.get 0 rfl;have hrf:=(Sq.free (show Sq gV 4 wr _ _ (.slice (some ⟨qb,0,none⟩) a.aZ.length a.aZ.length) _ from hrq)).2.2.2;have hrc:=mG hrq (nW hlt);rw [V5] at hrc;have hg:=bT (d:=(⟨0,0⟩:jC)) (show j < a.bu.length by rw [bz.out.tl];exact hlt);have hgb:=bz.out.bu _ (VD hg);obtain ⟨l,hl⟩:∃l,l=(a.aX.getD j []).length:=⟨_,rfl⟩;have HL:=aQ hl;rw [<-hl] at hv hln
    have DR:=aQ (fun (w':World) (h:dY F Z W (ζ gV 4 (.slice (some ⟨qb,0,none⟩) a.aZ.length a.aZ.length) (upTo a.aZ.length (kG a) (fun _=>false) j)::(bX p a ⟨rv,sp,ap,.slice (some ⟨b1,o1,none⟩) a.aX.length k1,bv,fu,eO,fq,fw,ig,kv,fM,rev,fD⟩++ts)) w')=>show dY F Z W (ζ gV 4 (.slice (some ⟨qb,0,none⟩) a.aZ.length a.aZ.length) (upTo a.aZ.length (kG a) (fun _=>false) (j+1))::(bX p a ⟨rv,sp,ap,.slice (some ⟨b1,o1,none⟩) a.aX.length k1,bv,fu,eO,fq,fw,ig,kv,fM,rev,fD⟩++ts)) (w'.setCell ⟨qb,j,none⟩ (.bool (kG a j))) from by
     have:=Bu h 0 rfl (c:=j) (y:=kG a j) (by rw [jK];exact hlt);rw [qN (f:=kG a),V5] at this;exact this)
    by_cases h0:l=0
    ·have HAS:=aQ (show kG a j=false by unfold kG;rw [<-HL.out,h0];rfl)
     rw [h0] at hv;clear hrow hwt hx eD hrq hg hgb hl h0 hln;go_wp2_with fail;go_roundw
     case rel=>exact ⟨j+1,by omega,by go_num,aQ (by have:=DR.out _ HJ.out;rwa [HAS.out] at this)⟩
     case measure=>simp [intOf];omega
    ·have hlp:0 < l:=by omega
     have HAS:=aQ (show kG a j=decide ((a.bu.getD j ⟨0,0⟩).cP < (a.bu.getD j ⟨0,0⟩).cE) by unfold kG;rw [<-HL.out,decide_eq_true hlp,Bool.true_and]);have HR:=aQ (Sn HJ.out 9 rfl (by rw [bz.out.tl];exact n4) hg (by omega) (by omega));obtain ⟨sn,hsn⟩:∃sn,sn=(a.bu.getD j ⟨0,0⟩).cP:=⟨_,rfl⟩;obtain ⟨lm,hlm⟩:∃lm,lm=(a.bu.getD j ⟨0,0⟩).cE:=⟨_,rfl⟩;rw [<-hsn,<-hlm] at HAS HR hgb;obtain ⟨g1,g2⟩:=hgb;clear hrow hwt hx eD hrq hg hl h0 hsn hlm;go_wp2_with fail;refine HR.out.mono ?_;rintro e w4 ⟨rfl,hh⟩;have H4:=aQ hh;obtain ⟨_,_,hrq⟩:=hh.get 0 rfl;have abv:=(Sq.free (show Sq gV 4 w4 _ _ (.slice (some ⟨qb,0,none⟩) a.aZ.length a.aZ.length) _ from hrq)).2.2.2;have aaI:=mG hrq (nW hlt);rw [V5] at aaI;clear hh hrq hrf hrc HR hv d7 d12;go_wp2_with fail;go_roundw
     case rel=>exact ⟨j+1,by omega,by go_num,aQ (by have:=DR.out _ H4.out;rwa [HAS.out] at this)⟩
     case measure=>simp [intOf];omega
   ·obtain rfl:a.aZ.length=j:=by omega
    have h5:=HJ.out;rw [tK bz.out.wl] at h5;have H5:=aQ h5;have hrow:=h5.blk 1 rfl;have d6:=(aB hrow).2.2.2.2.2.2.1;dsimp only at d6;have hrl:a.bK.length=a.aZ.length:=by unfold δ.bK;simp [bz.out.wl]
    have Uq:=aQ hrl;have HP:=aQ (Sa h5 4 0 rfl rfl (by decide) (by rw [hrl];exact bz.out.dE));clear h5 hrow hrl
    cases hpk:(a.dE.pick a.bK).1 with
    |none=>
     have HG:=aQ (show a.choose={ a with dE:=(a.dE.pick a.bK).2 } by unfold δ.choose;rw [if_neg uU.out,hpk]);have Dh:=aQ hpk;rw [hpk] at HP;clear hpk;go_wp2_with fail;refine HP.out.mono ?_;rintro e w6 ⟨rfl,hh⟩;have HH:=aQ (show dY F Z W (ζ gV 4 (.slice (some ⟨qb,0,none⟩) a.aZ.length a.aZ.length) a.bK::(bX p { a with dE:=(a.dE.pick a.bK).2 } ⟨rv,sp,ap,.slice (some ⟨b1,o1,none⟩) a.aX.length k1,bv,fu,eO,fq,fw,ig,kv,fM,rev,fD⟩++ts)) w6 from hh);clear hh HP d6;go_wp2_with fail;refine bodyPost_ret (v:=.tuple #[]) (by simp [results,Tryz.results103,go_sem]) rfl ?_;refine ⟨rfl,?_⟩;rw [HG.out];exact HH.out.tail.bO
    |some c=>
     have hfr:=jN (χ:=a.bK) (ptr:=a.dE.ptr) (n:=a.bK.length) (by rw [Uq.out];exact n1) (k:=a.bK.length) (i:=0) (c:=c) hpk;have hcl:c < a.aZ.length:=by rw [<-Uq.out];exact hfr.1
     have N8:kG a c=true:=by
      have:=hfr.2;unfold δ.bK at this;rw [Wo,VG,VY (by rw [bz.out.wl];exact hcl)] at this;exact this
     have hwn:0 < (a.aX.getD c []).length:=by
      unfold kG at N8;rw [Ww] at N8;exact of_decide_eq_true N8.1
     obtain ⟨d,l,hdl⟩:∃d l,a.aX.getD c []=d::l:=by
      cases hw:a.aX.getD c [] with
      |nil=>rw [hw] at hwn;simp at hwn
      |cons d l=>exact ⟨d,l,rfl⟩
     have HG:=aQ (show a.choose={ a with dE:=(a.dE.pick a.bK).2,aX:=a.aX.set c l,bu:=a.bu.set c (a.bu.getD c ⟨0,0⟩).take,snd:=(a.snd.dQ d).2,cT:=a.cT++[(c,d)] } by
      unfold δ.choose;rw [if_neg uU.out,hpk];dsimp only;rw [hdl];rfl)
     have HDL:=aQ hdl;rw [hpk] at HP;clear hpk hfr N8 hwn hdl;go_wp2_with fail;refine HP.out.mono ?_;rintro e w6 ⟨rfl,hh⟩;have hh':=show dY F Z W (ζ gV 4 (.slice (some ⟨qb,0,none⟩) a.aZ.length a.aZ.length) a.bK::(bX p { a with dE:=(a.dE.pick a.bK).2 } ⟨rv,sp,ap,.slice (some ⟨b1,o1,none⟩) a.aX.length k1,bv,fu,eO,fq,fw,ig,kv,fM,rev,fD⟩++ts)) w6 from hh;have H6:=aQ hh'.tail;rw [show iY (some c)=(c:Int) from rfl];clear hh hh' HP d6;have hx:a.aX[c]? = some (d::l):=by rw [<-HDL.out];exact bT (by rw [bz.out.wl];exact hcl)
     have hdl:=bz.out.xz _ (VD hx) d WG;have hln:=bz.out.qy _ (VD hx);obtain ⟨b2,o2,k2,v,hv0,m2,Gw,hv,h7⟩:=H6.out.RA 4 rfl hx (k:=0) (d:=d) rfl;rw [Nat.add_zero] at hv;have H7:=aQ (show dY F Z W (bX p { a with dE:=(a.dE.pick a.bK).2 } ⟨rv,sp,ap,.slice (some ⟨b1,o1,none⟩) a.aX.length k1,bv,fu,eO,fq,fw,ig,kv,fM,rev,fD⟩++(ts++[dD v d])) w6 by rw [<-VE];exact h7);obtain ⟨va,vc,hve⟩:=By.slice H7.out.K8;subst hve;obtain ⟨vc',UQ,_,jT⟩:=H7.out.inner 4 rfl hx;obtain rfl:vc'=_:=VM (UQ.symm.trans hv0);rw [show (d::l).length=l.length+1 from rfl] at hv0 m2 hln jT
     have HS:=aQ (jT (.slice (if k2=1 then some ⟨b2,o2,none⟩ else some ⟨b2,o2+1,none⟩) l.length (k2 - 1)) l fun G Y h=>by
      obtain ⟨g,off,e,_,_,h'⟩:=h.drop (k:=1) (by decide) (by simp);obtain ⟨rfl,rfl⟩:b2=g/\o2=off:=by simpa using e
      simpa [ψ] using h')
     obtain ⟨_,_,hwt⟩:=H7.out.get 4 rfl;have hwf:=(Sq.free (show Sq (df ψ 40) 51 w6 _ _ (.slice (some ⟨b1,o1,none⟩) a.aX.length k1) a.aX from hwt)).2.2.2;have d7:=(aB (H7.out.blk 0 rfl)).2.2.2.2.2.2.2.1;dsimp only at d7;rw [bz.out.wl] at d7;have QO:(1:Int)<=(l.length:Int)+1:=by omega
     have hm2:((l.length:Int)+1)<=(k2:Int):=by omega
     have h0l:0 < l.length+1:=by omega
     obtain ⟨na,hna⟩:∃na,(if k2=1 then some (⟨b2,o2,none⟩:Addr) else some ⟨b2,o2+1,none⟩)=na:=⟨_,rfl⟩;rw [hna] at HS;clear hx h7 jT hwt UQ H6;go_wp2_with fail;refine wp_region_still_tail 14 (by kernel_rfl) (by kernel_rfl) ?_;simp only [Vy,VI,Vz,VH];change wpStill _ _ (V3 _) (fun a'=>wpList _ _ _ _ a' (V3 _)) _ _
     repeat still_step
     refine wpStill_nil ?_;clear hna;go_upto_region 11 with fail
     have hs3:=HS.out.drew;generalize hw2:V3 _=w7 at hs3 ⊢;clear hw2 HS d7 hwf hv0 hv QO hm2 h0l m2 Gw;have H8:=aQ (show dY F Z W (bX p { a with dE:=(a.dE.pick a.bK).2,aX:=a.aX.set c l } ⟨rv,sp,ap,.slice (some ⟨b1,o1,none⟩) a.aX.length k1,bv,fu,eO,fq,fw,ig,kv,fM,rev,fD⟩++(ts++[dD (.slice va d.length vc) d])) w7 from hs3);have d12:=(aB (hs3.blk 0 rfl)).2.2.2.2.2.2.2.2.2.2.2.2.1;dsimp only at d12;have hg:=bT (d:=(⟨0,0⟩:jC)) (show c < a.bu.length by rw [bz.out.tl];exact hcl);have HT:=aQ (Ot H8.out 8 rfl (by rw [bz.out.tl];exact n4) hg (by have:=(bz.out.bu _ (VD hg)).2;omega));clear hg hs3;go_wp2_with fail;refine HT.out.mono ?_;rintro e w8 ⟨⟨_,rfl⟩,hh⟩;have H9:=aQ (show dY F Z W (bX p { a with dE:=(a.dE.pick a.bK).2,aX:=a.aX.set c l,bu:=a.bu.set c (a.bu.getD c ⟨0,0⟩).take } ⟨rv,sp,ap,.slice (some ⟨b1,o1,none⟩) a.aX.length k1,bv,fu,eO,fq,fw,ig,kv,fM,rev,fD⟩++(ts++[dD (.slice va d.length vc) d])) w8 from hh);have d10:=(aB (hh.blk 0 rfl)).2.2.2.2.2.2.2.2.2.2.1;dsimp only at d10;have HF:=aQ (LF H9.out 6 rfl bz.out.snd (.slice va d.length vc) d H9.out.K8);clear hh HT H8 d12;go_wp2_with fail;refine HF.out.mono ?_;rintro e w9 ⟨rfl,hh⟩;have Nl:=aQ (show dY F Z W (bX p { a with dE:=(a.dE.pick a.bK).2,aX:=a.aX.set c l,bu:=a.bu.set c (a.bu.getD c ⟨0,0⟩).take,snd:=(a.snd.dQ d).2 } ⟨rv,sp,ap,.slice (some ⟨b1,o1,none⟩) a.aX.length k1,bv,fu,eO,fq,fw,ig,kv,fM,rev,fD⟩++(ts++[dD (.slice va d.length vc) d])) w9 from hh);clear hh HF H9 d10;obtain ⟨_,_,hkp⟩:=Nl.out.get 11 rfl;obtain ⟨ka,kc,e5,q1,q2,q3⟩:=Sq.le (show Sq jg 225 w9 _ _ kv a.cT from hkp);subst e5;have hkl:a.cT.length<=128:=bz.out.Uf.kl;obtain ⟨Kx,us,Yx,hsl,hKn,hoth,hback⟩:=Nl.out.yT 11 rfl;have o5:¬Kx p:=hKn p 0 _ (by decide) rfl fun H Y h=>.inl h.2
     have Kk:fE w9 Yx (.slice va d.length vc) d:=by
      obtain ⟨H,_,hh⟩:=hoth (15+ts.length) (dD (.slice va d.length vc) d) (by omega) (mE (us:=bX p { a with dE:=(a.dE.pick a.bK).2,aX:=a.aX.set c l,bu:=a.bu.set c (a.bu.getD c ⟨0,0⟩).take,snd:=(a.snd.dQ d).2 } ⟨rv,sp,ap,.slice (some ⟨b1,o1,none⟩) a.aX.length k1,bv,fu,eO,fq,fw,ig,.slice ka a.cT.length kc,fM,rev,fD⟩));exact hh
     have hrow:=Nl.out.blk 0 rfl;have hp1:=lt_of_block hrow;have d15:=(aB hrow).2.2.2.2.2.2.2.2.2.2.2.2.2.2.2.1;dsimp only at d15;have iq:=aK w9 (.cells #[.int .i64 (c:Int),.slice va d.length vc] 225)
     have iT:=aQ (fun (v2:Value) (w2:World) (hsl2:Sl w2 (fun k=>Kx k\/(w9.alloc (.cells #[.int .i64 (c:Int),.slice va d.length vc] 225)).heap.size<=k) 225 2 v2 (a.cT.length+1) (us++[.int .i64 (c:Int),.slice va d.length vc])) (hfr2:Fr Kx (w9.alloc (.cells #[.int .i64 (c:Int),.slice va d.length vc] 225)) w2)=>
      show ∃a2 c2,v2=.slice a2 (a.cT.length+1) c2/\w2.cell? ⟨p,15,none⟩=some (.slice ka a.cT.length kc)/\(∀k,w2.frozen? ⟨p,k,none⟩=false)/\Hid (dY F Z W (bX p { a with dE:=(a.dE.pick a.bK).2,aX:=a.aX.set c l,bu:=a.bu.set c (a.bu.getD c ⟨0,0⟩).take,snd:=(a.snd.dQ d).2,cT:=a.cT++[(c,d)] } ⟨rv,sp,ap,.slice (some ⟨b1,o1,none⟩) a.aX.length k1,bv,fu,eO,fq,fw,ig,.slice a2 (a.cT.length+1) c2,fM,rev,fD⟩++(ts++[dD (.slice va d.length vc) d])) (w2.setCell ⟨p,15,none⟩ (.slice a2 (a.cT.length+1) c2))) from by
      obtain ⟨a2,c2,rfl⟩:=hsl2.shape
      have h1:=hback (w9.alloc (.cells #[.int .i64 (c:Int),.slice va d.length vc] 225)) w2 [.int .i64 (c:Int),.slice va d.length vc] [(c,d)] _ iq hsl2 hfr2 ⟨fun _=>False,Yx,fun _ f=>f.elim,fun _ y=>.inl y,fun _ f=>f.elim,
       fK.single (E:=jg) ⟨[.int .i64 (c:Int)],[.slice va d.length vc],fun _=>False,fun _=>False,rfl,fun _ f=>f,fun _ f=>f,fun _ f=>f.elim,rfl,_,rfl,Kk.below iq⟩⟩
      have hr2:=(hfr2.block p (by rw [WW];exact Zi hp1) o5).trans ((iq.block p hp1).trans hrow);exact ⟨a2,c2,rfl,(aB hr2).2.2.2.2.2.2.2.2.2.2.2.2.2.2.2.1,fun k=>aD hr2 k,aQ (h1.set 0 rfl (ky { a with dE:=(a.dE.pick a.bK).2,aX:=a.aX.set c l,bu:=a.bu.set c (a.bu.getD c ⟨0,0⟩).take,snd:=(a.snd.dQ d).2,cT:=a.cT++[(c,d)] } ⟨rv,sp,ap,.slice (some ⟨b1,o1,none⟩) a.aX.length k1,bv,fu,eO,fq,fw,ig,.slice a2 (a.cT.length+1) c2,fM,rev,fD⟩) (w':=w2.setCell ⟨p,15,none⟩ (.slice a2 (a.cT.length+1) c2)) (by exact eZ) (by (refine aS (Ξ hr2) ?_);rfl))⟩)
     have gK:=aQ hsl;clear hkp hsl hKn hoth hback o5 Kk hrow iq q1 q2 q3;go_wp2_with (at_builtin;refine cQ RZ rfl _ _ rfl Kx (.slice ka a.cT.length kc) a.cT.length us rfl (gK.out.alloc _) _ 1 [.int .i64 (c:Int),.slice va d.length vc] rfl (KV _ _ _ _ _ rfl) (by intro u hu;simp at hu;rcases hu with rfl|rfl <;> rfl) (by unfold maxLen;omega) (by omega) ?_;intro v2 w2 hsl2 hfr2;obtain ⟨a2,c2,rfl,k0,kf,HS2⟩:=iT.out v2 w2 hsl2 hfr2;clear hsl2 hfr2);go_end0;refine ⟨rfl,?_⟩;rw [HG.out];exact HS2.out.dropLast.bO
end

abbrev QH (x:Pt) (pv:Value):List Value:=[.int .u8 (U x.kind),.int .i64 x.cls,.int .i64 x.number,.int .i64 x.value,pv]
def d_:El Pt where
 size:=5
 rd w _ Z cs p:=∃v,cs=QH p v/\fE w Z v p.pay
 len h:=by obtain ⟨v,h,_⟩:=h;rw [h];rfl
 keep h _ hk:=by obtain ⟨v,e,h⟩:=h;exact ⟨v,e,h.stay fun k hz=>hk k (.inr hz)⟩
 mono h _ hZ:=by obtain ⟨v,e,h⟩:=h;exact ⟨v,e,h.mono hZ⟩
 one h u hu:=by
  obtain ⟨v,rfl,⟨_,a,c,rfl,_⟩,_⟩:=h;simp only [QH,WN,WE,or_false] at hu
  rcases hu with rfl|rfl|rfl|rfl|rfl <;> rfl
theorem qg {w:World} {A B:BS} {cs:List Value} {p:Pt} (h:d_.rd w A B cs p):d_.rd w (fun _=>False) (fun k=>A k\/B k) cs p:=by
 obtain ⟨v,e,h⟩:=h;exact ⟨v,e,h.mono fun _ h=>.inr h⟩
theorem UH:o8 Vs 92 103 (.agg #[.int .u8 0,.int .i64 0,.int .i64 0,.int .i64 0,.slice none 0 0]) 5 56:=⟨Tryz.underlying92,info_parts (by kernel_rfl),rfl,by decide⟩
theorem F3 {x:Pt} {a:Option Addr} {n c:Nat}:∀u ∈ QH x (.slice a n c),u.oneCell'=true:=by
 intro u hu;simp only [QH,WN,WE,or_false] at hu
 rcases hu with rfl|rfl|rfl|rfl|rfl <;> rfl
theorem Qb {w:World} {vb:Nat} {x:Pt} {v:Value} (hrow:w.heap[vb]? = some (bW x v)):Rd w 5 (.slice (some ⟨vb,0,none⟩) 1 1) 1 (QH x v):=by
 refine ⟨rfl,some ⟨vb,0,none⟩,1,rfl,Vu _,by unfold maxLen;omega,(fun e=>by cases e),fun b hb k u hk=>?_⟩;obtain rfl:=VM hb;refine ⟨rfl,?_⟩;simp only [World.cell?,hrow,V5];simpa using hk
section
variable {F Z:BS} {W w1 w2:World} {ts:List Th}
theorem gu {ops:Array Oper} {rest:List Oper} {o:Oper} {ac:Act} {Q:Exit->Act->World->Prop} {a:Option Addr} {c:Nat} {xs:List Pt} {x:Pt} {pa:Option Addr} {pn pc:Nat}
  (hg:o.guard=none) (s y:Operand) (hop:o.op=Op.call { callee:=Xg Xw,args := #[s,y],argTypes := #[92,92] })
  (h:dY F Z W ts w1) (i:Nat) (hi:ts[i]? = some (ζ d_ 103 (.slice a xs.length c) xs)) (hp:∀Y,zi ts i w1 Y->fE w1 Y (.slice pa pn pc) x.pay) (hb:Below w1.heap.size w1 w2) (hl:xs.length<=1000000) (hs:ac.eval s=.slice a xs.length c) (vb:Nat) (hx:ac.eval y=.slice (some ⟨vb,0,none⟩) 1 1) (hrow:w2.heap[vb]? = some (bW x (.slice pa pn pc)))
  (hK:∀a' c' w3,dY F Z W (ts.set i (ζ d_ 103 (.slice a' (xs++[x]).length c') (xs++[x]))) w3->wpList Vs ops Q rest (ac.put o.dst (.slice a' (xs.length+1) c')) w3):wpList Vs ops Q (o::rest) ac w2:=by
 obtain ⟨K,us,Y,hsl,_,hoth,hback⟩:=h.yT i hi;refine cQ UH hg s y hop K (.slice a xs.length c) xs.length us hs (Sl.keep hsl fun k _ hl=>hb.block k hl) _ 1 _ hx (Qb hrow) F3 (by unfold maxLen;omega) (by omega) ?_;intro v' w' hs2 hf2;obtain ⟨a2,c2,rfl⟩:=hs2.shape;refine hK _ _ _ ?_;have:=hback w2 w' _ [x] _ hb hs2 hf2 ⟨fun _=>False,Y,fun _ f=>f.elim,fun k hk=>.inl hk,fun _ f=>f.elim,fK.single (E:=d_) ⟨_,rfl,fE.below (hp Y hoth) hb⟩⟩;rw [Vx];exact this
theorem Cq {ops:Array Oper} {o:Oper} {ac:Act} {K0:Act->World->Prop} {Q:Exit->Act->World->Prop} {E0:Prop} {a:Option Addr} {c:Nat} {xs:List Pt} {x:Pt} {pa:Option Addr} {pn pc:Nat}
  (hg:o.guard=none) (s y:Operand) (hop:o.op=Op.call { callee:=Xg Xw,args := #[s,y],argTypes := #[92,92] })
  (h:dY F Z W ts w1) (i:Nat) (hi:ts[i]? = some (ζ d_ 103 (.slice a xs.length c) xs)) (hp:∀Y,zi ts i w1 Y->fE w1 Y (.slice pa pn pc) x.pay) (hb:Below w1.heap.size w1 w2) (hl:xs.length<=1000000) (hs:ac.eval s=.slice a xs.length c) (vb:Nat) (hx:ac.eval y=.slice (some ⟨vb,0,none⟩) 1 1) (hrow:w2.heap[vb]? = some (bW x (.slice pa pn pc)))
  (hK:∀a' c' w3,dY F Z W (ts.set i (ζ d_ 103 (.slice a' (xs++[x]).length c') (xs++[x]))) w3->K0 (ac.put o.dst (.slice a' (xs.length+1) c')) w3):if Region.wanted o (yielded ops ac.tmps)=true then Oper.wp Vs o ac w2 K0 Q else E0:=by
 obtain ⟨K,us,Y,hsl,_,hoth,hback⟩:=h.yT i hi;refine υ UH hg s y hop K (.slice a xs.length c) xs.length us hs (Sl.keep hsl fun k _ hl=>hb.block k hl) _ 1 _ hx (Qb hrow) F3 (by unfold maxLen;omega) (by omega) ?_;intro v' w' hs2 hf2;obtain ⟨a2,c2,rfl⟩:=hs2.shape;refine hK _ _ _ ?_;have:=hback w2 w' _ [x] _ hb hs2 hf2 ⟨fun _=>False,Y,fun _ f=>f.elim,fun k hk=>.inl hk,fun _ f=>f.elim,fK.single (E:=d_) ⟨_,rfl,fE.below (hp Y hoth) hb⟩⟩;rw [Vx];exact this
theorem dY.K7 (h:dY F Z W ts w1) {x:Pt} {v:Value} (hp:∀Y,fE w1 Y v x.pay):dY F Z W (ζ d_ 103 (.slice (some ⟨w1.heap.size,0,none⟩) 1 1) [x]::ts) (w1.alloc (bW x v)):=by
 refine (h.add (aK w1 _) (T:=ζ d_ 103 (.slice (some ⟨w1.heap.size,0,none⟩) 1 1) [x]) ?_).front;refine ⟨fun k=>k=w1.heap.size,fun _=>False,QH x v,fun k hk=>by rcases hk with rfl|f;exact Vu _;exact f.elim,fun _ _ f=>f,fun k hk=>by subst hk;simp,?_,fK.single (E:=d_) ⟨v,rfl,(hp _).below (aK w1 _)⟩⟩;exact ⟨rfl,.inr ⟨w1.heap.size,0,1,(QH x v).toArray,rfl,rfl,heap_alloc_new w1 _,Vu _,by unfold maxLen;omega,by simp [d_],rfl⟩⟩
end
theorem tC {w:World} {Z:BS} {a:Option Addr} {n c:Nat} {l:List Pt} (h:dh d_ w Z (.slice a n c) l) {i:Nat} {x:Pt} (hi:l[i]? = some x) :
  ∃b off pa pc,a=some ⟨b,off,none⟩/\fE w Z (.slice pa x.pay.length pc) x.pay/\w.cell? ⟨b,off+i*5,none⟩=some (.int .u8 (U x.kind))/\w.cell? ⟨b,off+i*5+1,none⟩=some (.int .i64 x.cls)/\w.cell? ⟨b,off+i*5+2,none⟩=some (.int .i64 x.number)/\w.cell? ⟨b,off+i*5+3,none⟩=some (.int .i64 x.value)/\w.cell? ⟨b,off+i*5+4,none⟩=some (.slice pa x.pay.length pc):=by
 obtain ⟨b,off,cs,e,_,⟨v,rfl,hv⟩,hc⟩:=h.at (by decide) hi;obtain ⟨pa,pc,rfl⟩:=hv.slice;exact ⟨b,off,pa,pc,e,hv,hc 0 _ rfl,hc 1 _ rfl,hc 2 _ rfl,hc 3 _ rfl,hc 4 _ rfl⟩

theorem mem_set {α : Type} {P : α -> Prop} {l:List α} {i:Nat} {v : α} (h:∀x ∈ l,P x) (hv:P v):∀x ∈ l.set i v,P x:=fun x hx=>by
 rcases YK hx with hx|rfl
 ·exact h x hx
 ·exact hv
theorem bM {α : Type} {P : α -> Prop} {l:List α} {d : α} (h:∀x ∈ l,P x) (hd:P d) (i:Nat):P (l.getD i d):=by
 rw [Wo]
 cases hx:l[i]? with
 |none=>exact hd
 |some x=>exact h x (VD hx)
theorem δ.Ok.mono {N M:Nat} {p:δ} (h:p.Ok N) (hm:N<=M):p.Ok M:=
 ⟨h.n1,h.n4,h.rm,h.i1,h.i2,h.w1,h.w2,h.t1,h.t2,h.d1,h.d2,h.cS,h.dE,h.wl,h.bl,h.tl,h.gl,h.sl,h.al,h.rl,h.kl,h.cM,h.snd,h.win,(VC h.tot hm),(VC h.rcv hm),h.cT,h.yF,h.xz,(fun x hx=>VC (h.qy x hx) hm),h.yI,(fun x hx=>VC (h.rO x hx) hm),h.bu,(fun g hg=>⟨(h.π g hg).1,(h.π g hg).2.1,VC (h.π g hg).2.2 hm⟩),(fun x hx=>VC (h.rG x hx) hm),(fun x hx=>VC (h.Ak x hx) hm),(fun x hx=>VC (h.ren x hx) hm),(fun x hx=>VC (h.tan x hx) hm),(VC h.C_ hm)⟩
theorem δ.Ok.small {N:Nat} {p:δ} (h:p.Ok N):∀f ∈ p.cT,f.2.length<=64:=fun f hf=>h.snd.small _ (by rw [<-h.cT];exact Wx.2 ⟨f,hf,rfl⟩)
theorem δ.Ok.begin {N:Nat} {p:δ} (h:p.Ok N) {cM:Nat} (hp:cM<=1099511627775):(p.begin cM).Ok (N+128):=by
 have k:=h.mono (show N<=N+128 by omega);have hkl:=h.Uf.kl;refine ⟨k.n1,k.n4,k.rm,k.i1,k.i2,k.w1,k.w2,k.t1,k.t2,k.d1,k.d2,k.cS,k.dE,(by simp [δ.begin,h.wl]),k.bl,(by simp [δ.begin]),(by simp [δ.begin]),(by simp [δ.begin,h.bl]),k.al,k.rl,k.kl,(hp),(yf h.w1 h.w2 h.t1 h.t2),(rfl),(by simp [δ.begin,eH,bg.total]),(VJ _),(rfl),(fun f hf=>by cases hf),?_,?_,k.yI,k.rO,?_,?_,?_,k.Ak,k.ren,k.tan,k.C_⟩
 ·intro l hl d hd
  obtain ⟨c,hc,rfl⟩:=Wx.1 hl
  rcases WY.1 hd with hd|hd
  ·obtain ⟨f,hf,rfl⟩:=Wx.1 hd
   exact h.small f (List.mem_filter.1 hf).1
  ·exact bM (P:=fun l:List dV=>∀d ∈ l,d.length<=64) h.xz (by simp) c d hd
 ·intro l hl
  obtain ⟨c,hc,rfl⟩:=Wx.1 hl;have h1:=qW p.cT c;have h2:=bM (P:=fun l:List dV=>l.length<=N) (d:=[]) h.qy (VJ _) c;unfold again at h1;rw [Vx];omega
 ·intro t ht
  obtain ⟨_,rfl⟩:=Wu.1 ht;exact ⟨Vu _,VJ _⟩
 ·intro g hg
  obtain ⟨c,hc,rfl⟩:=Wx.1 hg;have h1:=bM (P:=fun l:List dV=>l.length<=N) (d:=[]) h.rO (VJ _) c;have h2:p.aZ.getD c 0<=64:=bM (P:=fun x:Nat=>x<=64) (fun x hx=>(h.rm x hx).2) (VJ _) c;rw [ng];exact ⟨h2,VJ _,by dsimp only;omega⟩
 ·intro x hx
  obtain ⟨l,hl,rfl⟩:=Wx.1 hx;exact k.rO l hl
theorem Side.zY {s:Side} (h:s.Ok) (m y:Int):(s.cO m y).cM<=1099511627775:=by
 have:=h.cO m y;have:=this.cM;have:=(h.cO m y).seen;omega
theorem δ.Ok.gy {N:Nat} {p:δ} (h:p.Ok N) (x:Pt):(p.gy x).Ok (N+200):=by
 have k:=h.mono (show N<=N+200 by omega);have h1:({ p with cS:=p.cS.cO x.number x.value }:δ).Ok N:=⟨h.n1,h.n4,h.rm,h.i1,h.i2,h.w1,h.w2,h.t1,h.t2,h.d1,h.d2,(h.cS.cO _ _),h.dE,h.wl,h.bl,h.tl,h.gl,h.sl,h.al,h.rl,h.kl,h.cM,h.snd,h.win,h.tot,h.rcv,h.cT,h.yF,h.xz,h.qy,h.yI,h.rO,h.bu,h.π,h.rG,h.Ak,h.ren,h.tan,h.C_⟩;unfold δ.gy;dsimp only;split
 ·exact (h1.begin (Side.zY h.cS _ _)).mono (by omega)
 ·exact h1.mono (by omega)
theorem δ.Ok.cO {N:Nat} {p:δ} (h:p.Ok N) (x:Pt) (hx:x.pay.length<=1000):(p.cO x).Ok (N+200):=by
 have k:=h.mono (show N<=N+200 by omega);have hr:=h.rcv;have ho:=h.C_;unfold δ.cO;split
 ·exact k
 ·dsimp only
  split
  ·exact ⟨k.n1,k.n4,k.rm,k.i1,k.i2,k.w1,k.w2,k.t1,k.t2,k.d1,k.d2,k.cS,k.dE,k.wl,k.bl,k.tl,k.gl,k.sl,k.al,k.rl,k.kl,k.cM,k.snd,k.win,k.tot,(by dsimp only;omega),k.cT,k.yF,k.xz,k.qy,k.yI,k.rO,k.bu,k.π,k.rG,k.Ak,k.ren,k.tan,(by dsimp only;omega)⟩
  ·exact ⟨k.n1,k.n4,k.rm,k.i1,k.i2,k.w1,k.w2,k.t1,k.t2,k.d1,k.d2,k.cS,k.dE,k.wl,(by simp [h.bl]),k.tl,(by simp [h.gl]),k.sl,k.al,(by simp [h.rl]),k.kl,k.cM,k.snd,k.win,k.tot,(by dsimp only;omega),k.cT,k.yF,k.xz,k.qy,(mem_set k.yI (fun d hd=>by
    rcases WY.1 hd with hd|hd
    ·exact bM (P:=fun l:List dV=>∀d ∈ l,d.length<=1000) k.yI (by simp) _ d hd
    ·rw [Wj.1 hd];exact hx)),(mem_set k.rO (by
    have:=bM (P:=fun l:List dV=>l.length<=N) (d:=[]) h.rO (VJ _) x.cls.toNat;rw [Vx,Xl];omega)),k.bu,(mem_set k.π (by
    have h0:=bM (P:=fun g:fV=>g.room<=64/\g.cI<=g.aW/\g.aW<=N) (d:=⟨0,0,0⟩) h.π ⟨VJ _,Vu _,VJ _⟩ x.cls.toNat;unfold fV.cO;split
    ·exact ⟨h0.1,h0.2.1,VC h0.2.2 (by omega)⟩
    ·exact ⟨h0.1,by dsimp only;omega,by dsimp only;omega⟩)),k.rG,k.Ak,(mem_set k.ren (by
    have:=bM (P:=fun x:Nat=>x<=N) (d:=0) h.ren (VJ _) x.cls.toNat;omega)),k.tan,k.C_⟩
theorem δ.Ok.bQ {N : Nat} {p : δ} (h : p.Ok N) (x : Pt) : (p.bQ x).Ok (N + 200) := by
  have k := h.mono (show N ≤ N + 200 by omega);have hkl := h.Uf.kl;have hak := D7 h.snd x.number;have hkk := h.xH;unfold δ.bQ
  have hw : (p.snd.nJ x.number).2.cA = p.snd.cA := by
    unfold bg.nJ bg.accept
    cases p.snd.count x.number with
    | none => rfl
    | some k => unfold bg.drop; dsimp only; split <;> rfl
  have hkd : (p.snd.nJ x.number).2.cT = p.snd.cT.drop (p.snd.nJ x.number).1 := by
    unfold bg.nJ bg.accept
    cases p.snd.count x.number with
    | none => simp
    | some k => unfold bg.drop; dsimp only; split
                · rename_i h0; subst h0; simp
                · rfl
  exact ⟨k.n1, k.n4, k.rm, k.i1, k.i2, k.w1, k.w2, k.t1, k.t2, k.d1, k.d2, k.cS, k.dE, k.wl, k.bl, k.tl, k.gl, k.sl, (by rw [nC]; exact h.al), k.rl, k.kl, k.cM, (SH h.snd _), (by rw [hw]; exact h.win), (by have := Ag h.snd x.number; show (p.snd.accept x.number).2.total ≤ _; rw [this]; exact k.tot), k.rcv, (by rw [hkd, ← h.cT, List.map_drop]), (fun f hf => h.yF f (Yf hf)), k.xz, k.qy, k.yI, k.rO, k.bu, k.π, k.rG, (fun y hy => by have := ve _ h.Ak y hy; rw [VW] at this; omega), k.ren, k.tan, k.C_⟩
theorem jC.Mj {t:jC} (h:t.cP<=t.cE/\t.cE<=1099511627776) (l:Int):(t.raise l).cP<=(t.raise l).cE/\(t.raise l).cE<=1099511627776:=by
 unfold jC.raise;split
 ·exact h
 ·dsimp only;omega
theorem δ.Ok.raise {N:Nat} {p:δ} (h:p.Ok N) (x:Pt):(p.raise x).Ok (N+200):=by
 have k:=h.mono (show N<=N+200 by omega);unfold δ.raise;split
 ·exact ⟨k.n1,k.n4,k.rm,k.i1,k.i2,k.w1,k.w2,k.t1,k.t2,k.d1,k.d2,k.cS,k.dE,k.wl,k.bl,(by simp [h.tl]),k.gl,k.sl,k.al,k.rl,k.kl,k.cM,k.snd,k.win,k.tot,k.rcv,k.cT,k.yF,k.xz,k.qy,k.yI,k.rO,(mem_set k.bu (jC.Mj (bM (P:=fun t:jC=>t.cP<=t.cE/\t.cE<=1099511627776) k.bu ⟨Vu _,VJ _⟩ _) _)),k.π,k.rG,k.Ak,k.ren,k.tan,k.C_⟩
 ·exact k
theorem δ.Ok.cU {N:Nat} {p:δ} (h:p.Ok N) (x:Pt) (hx:x.pay.length<=1000):(p.cU x).Ok (N+200):=by
 have k:=h.mono (show N<=N+200 by omega);unfold δ.cU;split
 ·exact h.gy x
 ·split
  ·exact k
  ·split
   ·exact h.cO x hx
   ·split
    ·exact h.bQ x
    ·split
     ·exact h.raise x
     ·exact k
theorem δ.Ok.handles {N:Nat} {p:δ} (h:p.Ok N):∀(l:List Pt),(∀x ∈ l,x.pay.length<=1000)->(l.foldl δ.cU p).Ok (N+200*l.length)
 |[],_=>h
 |x::l,hl=>by
  rw [WM,VZ];exact ((h.cU x (hl x WG)).handles l fun y hy=>hl y (Xe _ hy)).mono (by omega)
theorem δ.Ok.nY {N:Nat} {p:δ} (h:p.Ok N):({ p with cS:=p.cS.cR }:δ).Ok N:=⟨h.n1,h.n4,h.rm,h.i1,h.i2,h.w1,h.w2,h.t1,h.t2,h.d1,h.d2,(h.cS.cR),h.dE,h.wl,h.bl,h.tl,h.gl,h.sl,h.al,h.rl,h.kl,h.cM,h.snd,h.win,h.tot,h.rcv,h.cT,h.yF,h.xz,h.qy,h.yI,h.rO,h.bu,h.π,h.rG,h.Ak,h.ren,h.tan,h.C_⟩
theorem oq {s:bg} {d:dV} (h1:d.length<=64) (h2:s.cT.length < s.cA):s.dQ d=(0,{ s with cT:=s.cT++[d] }):=by
 unfold bg.dQ;rw [if_neg (by omega),if_neg (by omega)]
theorem δ.sG {N:Nat} {p:δ} (h:p.Ok N) {c:Nat} (hc:(p.dE.pick p.bK).1=some c):c < p.aZ.length/\0 < (p.aX.getD c []).length/\(p.bu.getD c ⟨0,0⟩).cP < (p.bu.getD c ⟨0,0⟩).cE:=by
 have hl:p.bK.length=p.aZ.length:=by unfold δ.bK;simp [h.wl]
 have hf:=jN (χ:=p.bK) (ptr:=p.dE.ptr) (n:=p.bK.length) (by rw [hl];exact h.n1) (k:=p.bK.length) (i:=0) (c:=c) hc;have hcl:c < p.aZ.length:=by rw [<-hl];exact hf.1
 have:=hf.2;unfold δ.bK at this;rw [Wo,VG,VY (by rw [h.wl];exact hcl)] at this;have h3:(decide (0 < (p.aX.getD c []).length) && decide ((p.bu.getD c ⟨0,0⟩).cP < (p.bu.getD c ⟨0,0⟩).cE))=true:=this;rw [Ww] at h3;exact ⟨hcl,of_decide_eq_true h3.1,of_decide_eq_true h3.2⟩
theorem δ.Ok.choose {N:Nat} {p:δ} (h:p.Ok N):p.choose.Ok (N+1):=by
 have k:=h.mono (show N<=N+1 by omega);have hrl:p.bK.length=p.aZ.length:=by unfold δ.bK;simp [h.wl]
 have U5:(p.dE.pick p.bK).2.Ok p.aZ.length:=by
  have:=h.dE;rw [<-hrl] at this ⊢;exact this.pick
 unfold δ.choose;split
 ·exact k
 ·rename_i hroom
  split
  ·exact ⟨k.n1,k.n4,k.rm,k.i1,k.i2,k.w1,k.w2,k.t1,k.t2,k.d1,k.d2,k.cS,(U5),k.wl,k.bl,k.tl,k.gl,k.sl,k.al,k.rl,k.kl,k.cM,k.snd,k.win,k.tot,k.rcv,k.cT,k.yF,k.xz,k.qy,k.yI,k.rO,k.bu,k.π,k.rG,k.Ak,k.ren,k.tan,k.C_⟩
  ·rename_i c hc
   obtain ⟨q1,q2,q3⟩:=δ.sG h hc
   obtain ⟨d,l,hdl⟩:∃d l,p.aX.getD c []=d::l:=by
    cases hw:p.aX.getD c [] with
    |nil=>rw [hw] at q2;simp at q2
    |cons d l=>exact ⟨d,l,rfl⟩
   have hm:d::l ∈ p.aX:=by rw [<-hdl];exact VD (bT (by rw [h.wl];exact q1))
   have hd:=h.xz _ hm d WG;have hln:=h.qy _ hm;have hot:=h.tot;rw [hdl];have hof:=oq (s:=p.snd) (d:=d) hd (by rw [h.win];omega);show δ.Ok (N+1) { p with dE:=_,aX:=p.aX.set c l,bu:=_,snd:=(p.snd.dQ d).2,cT:=p.cT++[(c,d)] };rw [hof];have hoo:({ p.snd with cT:=p.snd.cT++[d] }:bg).Ok:=by have:=Mo h.snd d;rwa [hof] at this
   exact ⟨k.n1,k.n4,k.rm,k.i1,k.i2,k.w1,k.w2,k.t1,k.t2,k.d1,k.d2,k.cS,(U5),(by simp [h.wl]),k.bl,(by simp [h.tl]),k.gl,k.sl,k.al,k.rl,k.kl,k.cM,(hoo),(h.win),(by simp only [bg.total,Vx,Xl] at hot ⊢;omega),k.rcv,(by rw [W9,h.cT];rfl),(fun f hf=>by
    rcases WY.1 hf with hf|hf
    ·exact h.yF f hf
    ·rw [Wj.1 hf];exact q1),(mem_set k.xz fun e he=>h.xz _ hm e (Xe _ he)),(mem_set k.qy (by rw [VZ] at hln;omega)),k.yI,k.rO,(mem_set k.bu (by
    have:=bM (P:=fun t:jC=>t.cP<=t.cE/\t.cE<=1099511627776) (d:=⟨0,0⟩) k.bu ⟨Vu _,VJ _⟩ c;unfold jC.take;split
    ·exact this
    ·dsimp only;omega)),k.π,k.rG,k.Ak,k.ren,k.tan,k.C_⟩
theorem xm (s:bg):s.cR.2.cT=s.cT/\s.cR.2.cA=s.cA:=by
 unfold bg.cR;split
 ·exact ⟨rfl,rfl⟩
 ·split
  ·split <;> exact ⟨rfl,rfl⟩
  ·exact ⟨rfl,rfl⟩
theorem δ.Ok.FW {N:Nat} {p:δ} (h:p.Ok N):({ p with snd:=p.snd.cR.2 }:δ).Ok N:=by
 have h1:=xm p.snd;exact ⟨h.n1,h.n4,h.rm,h.i1,h.i2,h.w1,h.w2,h.t1,h.t2,h.d1,h.d2,h.cS,h.dE,h.wl,h.bl,h.tl,h.gl,h.sl,h.al,h.rl,h.kl,h.cM,(zk h.snd),(by rw [h1.2];exact h.win),(by rw [Ef];exact h.tot),h.rcv,(by rw [h1.1];exact h.cT),h.yF,h.xz,h.qy,h.yI,h.rO,h.bu,h.π,h.rG,h.Ak,h.ren,h.tan,h.C_⟩
theorem δ.Ok.cR {N:Nat} {p:δ} (h:p.Ok N) {l:List Pt} (hl:∀x ∈ l,x.pay.length<=1000):(p.cR l).2.Ok (N+200*l.length+1):=by
 have h1:=(h.handles l hl).nY;unfold δ.cR;dsimp only;split
 ·exact h1.mono (by omega)
 ·have h2:=h1.choose.FW
  cases ht:(δ.choose { l.foldl δ.cU p with cS:=(l.foldl δ.cU p).cS.cR }).snd.cR with
  |mk o s=>
   rw [ht] at h2
   cases o with
   |none=>exact h2
   |some nd=>exact h2
theorem δ.Ok.dQ {N:Nat} {p:δ} (h:p.Ok N) (c:Int) (d:dV):(p.dQ c d).2.Ok (N+65):=by
 have k:=h.mono (show N<=N+65 by omega);unfold δ.dQ;split
 ·exact k
 ·rename_i h0
  split
  ·exact k
  ·rename_i h1
   have hc:0<=c/\c < p.aZ.length:=Yi fun hc=>h0 (.inl hc)
   have hd:d.length<=64:=XI fun hc=>h0 (.inr hc)
   have hm:p.aX.getD c.toNat [] ∈ p.aX:=VD (bT (by rw [h.wl];omega))
   exact ⟨k.n1,k.n4,k.rm,k.i1,k.i2,k.w1,k.w2,k.t1,k.t2,k.d1,k.d2,k.cS,k.dE,(by simp [h.wl]),k.bl,k.tl,k.gl,k.sl,k.al,k.rl,k.kl,k.cM,k.snd,k.win,k.tot,k.rcv,k.cT,k.yF,(mem_set k.xz fun e he=>by
    rcases WY.1 he with he|he
    ·exact h.xz _ hm e he
    ·rw [Wj.1 he];exact hd),(mem_set k.qy (by rw [Vx,Xl];omega)),k.yI,k.rO,k.bu,k.π,k.rG,k.Ak,k.ren,k.tan,k.C_⟩
theorem fV.O6 {g:fV} {N:Nat} (h:g.room<=64/\g.cI<=g.aW/\g.aW<=N):g.free.room<=64/\g.free.cI<=g.free.aW/\g.free.aW<=N:=by
 unfold fV.free;split
 ·exact h
 ·dsimp only;omega
theorem δ.Ok.take {N:Nat} {p:δ} (h:p.Ok N) (c:Int):(p.take c).2.Ok (N+1):=by
 have k:=h.mono (show N<=N+1 by omega);unfold δ.take;split
 ·exact k
 ·rename_i d hd
  have hc:p.has c:=by
   unfold δ.jY at hd;split at hd
   ·assumption
   ·cases hd
  have hc':0<=c/\c < p.aZ.length:=hc;have hm:p.aY.getD c.toNat [] ∈ p.aY:=VD (bT (by rw [h.bl];omega));have hg:p.π.getD c.toNat ⟨0,0,0⟩ ∈ p.π:=VD (bT (by rw [h.gl];omega));have ht:p.cF.getD c.toNat 0 ∈ p.cF:=VD (bT (by rw [h.kl];omega));have ht':=h.tan _ ht;exact ⟨k.n1,k.n4,k.rm,k.i1,k.i2,k.w1,k.w2,k.t1,k.t2,k.d1,k.d2,k.cS,k.dE,k.wl,(by simp [h.bl]),k.tl,(by simp [h.gl]),k.sl,k.al,k.rl,(by simp [h.kl]),k.cM,k.snd,k.win,k.tot,k.rcv,k.cT,k.yF,k.xz,k.qy,(mem_set k.yI fun e he=>h.yI _ hm e (Yf he)),(mem_set k.rO (by have:=h.rO _ hm;rw [List.length_drop];omega)),k.bu,(mem_set k.π (fV.O6 (k.π _ hg))),k.rG,k.Ak,k.ren,(mem_set k.tan (by omega)),k.C_⟩
theorem yg {inc wi ti de:Nat} {aZ:List Nat} (n1:1<=aZ.length) (n4:aZ.length<=4) (rm:∀x ∈ aZ,1<=x/\x<=64) (i1:1<=inc) (i2:inc<=1099511627775) (w1:1<=wi) (w2:wi<=128) (t1:1<=ti) (t2:ti<=1000) (d1:1<=de) (d2:de<=1000) :
  (dG inc aZ wi ti de).Ok 200:=by
 have hr0:∀x ∈ Vr aZ.length (0:Nat),x<=0:=fun x hx=>by rw [(Wu.1 hx).2];exact Vu _
 have h:δ.Ok 0 ⟨inc,aZ,wi,ti,de,gP inc de,ji aZ.length,Vr aZ.length [],Vr aZ.length [],0,eH wi ti,0,Vr aZ.length ⟨0,0⟩,Vr aZ.length ⟨0,0,0⟩,Vr aZ.length 0,[],Vr aZ.length 0,Vr aZ.length 0,Vr aZ.length 0,0⟩:=
  ⟨(n1),(n4),(rm),(i1),(i2),(w1),(w2),(t1),(t2),(d1),(d2),(EM i1 i2 d1 d2),(IV n1 (by omega)),(by simp),(by simp),(by simp),(by simp),(by simp),(by simp),(by simp),(by simp),(VJ _),(yf w1 w2 t1 t2),(rfl),(Vu _),(Vu _),(rfl),(fun f hf=>by cases hf),(fun l hl=>by rw [(Wu.1 hl).2];simp),(fun l hl=>by rw [(Wu.1 hl).2];exact Vu _),(fun l hl=>by rw [(Wu.1 hl).2];simp),(fun l hl=>by rw [(Wu.1 hl).2];exact Vu _),(fun t ht=>by rw [(Wu.1 ht).2];exact ⟨Vu _,VJ _⟩),(fun t ht=>by rw [(Wu.1 ht).2];exact ⟨VJ _,Vu _,Vu _⟩),(hr0),(hr0),(hr0),(hr0),(Vu _)⟩
 have:=(h.begin (cM:=0) (by omega)).mono (show 0+128<=200 by omega);exact this

theorem sD {s s':bg} (hok:s.Ok) {n:Nat} {d:dV} (h:s.cR=(some (n,d),s')):n < 256/\(n+256 - s'.aG % 256) % 256 < s.cT.length:=by
 have hk:=hok.cT;have hw:=hok.w2;unfold bg.cR at h;split at h
 ·cases h
 ·split at h
  ·split at h
   ·cases h
   ·unfold bg.send at h
    dsimp only at h;have h1:=congrArg ZX h;have h2:=congrArg ZW h;dsimp only at h1 h2;subst h2;obtain ⟨rfl,_⟩:(s.aG+0) % 256=n/\_:=by simpa using h1
    dsimp only;omega
  ·unfold bg.send at h
   dsimp only at h;have h1:=congrArg ZX h;have h2:=congrArg ZW h;dsimp only at h1 h2;subst h2;obtain ⟨rfl,_⟩:(s.aG+s.pos) % 256=n/\_:=by simpa using h1
   dsimp only;omega
def δ.Min (p:δ):Prop:=p.cS.mine=p.inc
theorem rz (s:Side) (m y:Int):(s.cO m y).mine=s.mine:=by unfold Side.cO;split <;> rfl
theorem lL (s:Side):s.cR.mine=s.mine:=by unfold Side.cR;split;rfl;split <;> rfl
theorem δ.Min.cU {p:δ} (h:p.Min) (x:Pt):(p.cU x).Min:=by
 unfold δ.cU;split
 ·unfold δ.gy
  dsimp only;split
  ·show (p.cS.cO x.number x.value).mine=p.inc
   rw [rz];exact h
  ·show (p.cS.cO x.number x.value).mine=p.inc
   rw [rz];exact h
 ·split
  ·exact h
  ·split
   ·unfold δ.cO;split
    ·exact h
    ·dsimp only;split <;> exact h
   ·split
    ·exact h
    ·split
     ·unfold δ.raise;split <;> exact h
     ·exact h
theorem δ.Min.handles {p:δ} (h:p.Min):∀l:List Pt,(l.foldl δ.cU p).Min
 |[]=>h
 |x::l=>by rw [WM];exact (h.cU x).handles l
abbrev δ.gU (p:δ):Pt:=⟨1#8,0,p.inc,p.cS.cR.cM,[]⟩
abbrev δ.lT (p:δ):Pt:=⟨3#8,0,(p.rcv % 256:Nat),p.inc,[]⟩
abbrev δ.j5 (p:δ) (c:Nat):Pt:=⟨4#8,(c:Int),((p.π.getD c ⟨0,0,0⟩).cE:Int) - ((p.base.getD c 0:Nat):Int),p.inc,[]⟩
theorem δ.cX {a a1:δ} {l:List Pt} (h:a1=l.foldl δ.cU a) (hs:a1.cS.cR.state≠2):a.cR l=([a1.gU],{ a1 with cS:=a1.cS.cR }):=by
 unfold δ.cR;rw [<-h];exact if_pos hs
theorem δ.oF {a a1:δ} {l:List Pt} (h:a1=l.foldl δ.cU a) (hs:a1.cS.cR.state=2):a.cR l =
  (match (δ.choose { a1 with cS:=a1.cS.cR }).snd.cR with
  |(some (n,d),s)=>(a1.gU::a1.lT::(VV a1.base.length).map a1.j5++[⟨2#8,(δ.lC { δ.choose { a1 with cS:=a1.cS.cR } with snd:=s } n:Nat),n,(δ.choose { a1 with cS:=a1.cS.cR }).inc,d⟩],{ δ.choose { a1 with cS:=a1.cS.cR } with snd:=s })
  |(none,s)=>(a1.gU::a1.lT::(VV a1.base.length).map a1.j5,{ δ.choose { a1 with cS:=a1.cS.cR } with snd:=s })):=by
 unfold δ.cR;rw [<-h];exact if_neg (fun h=>h hs)
def M7 (F Z:BS) (W:World) (ts:List Th) (p:Nat) (r:List Pt × δ) (e:Ending) (w':World):Prop:=
 ∃(sa:Option Addr) (sc:Nat),e=.returned (.slice sa r.1.length sc)/\dY F Z W (ζ d_ 103 (.slice sa r.1.length sc) r.1::bP p r.2::ts) w'
section
variable {F Z:BS} {W w:World} {ts:List Th} {p N:Nat} {a:δ}
theorem Ej {sp:Nat} {s:Side} (h:dY F Z W ts w) (i:Nat) (hi:ts[i]? = some (o9 sp s)) (hok:s.Ok) :
  Calls Vs 100 #[.pointer (some ⟨sp,0,none⟩)] w fun e w'=>e=.returned (.agg #[.int .i64 (s.cR.mine:Int),.int .i64 (s.cR.cM:Int)])/\dY F Z W (ts.set i (o9 sp s.cR)) w':=
 h.act i hi fun G Y hd hon=>(zG sp s w hon.2 hok).mono fun e w' ⟨he,h1,h2⟩=>⟨he,lS.same (T:=o9 sp s.cR) (h2.mono fun k hk=>by subst hk;exact hon.1) ⟨hon.1,h1⟩ hd⟩
theorem RS (bV:List Pt) (av:Value) (hok:a.Ok N) (Ti:a.Min) (hN:N+200*bV.length+1000<=1000000000) (harr:∀x ∈ bV,x.pay.length<=1000) (h:dY F Z W (bP p a::ts) w) (j:Nat) (hj:ts[j]? = some (a_ d_ av bV)) :
  Calls Vs 64 #[.pointer (some ⟨p,0,none⟩),av] w (M7 F Z W ts p (a.cR bV)):=by
 obtain ⟨_,_,hrd⟩:=h.get (j+1) (T:=a_ d_ av bV) (by simpa using hj);obtain ⟨aa,ac,rfl,m1,m2⟩:=dh.shape hrd;have HH:=aQ h;have bz:=aQ hok;have uQ:=aQ harr;have HJ:=aQ hj;have HMI:=aQ (Ti.handles bV);clear hrd h hok harr hj Ti;go_enter Tryz.func64,Tryz.ntmps64;go_wp2_with fail;go_loopw [19,6] (fun i _ wr=>∃k:Nat,k<=bV.length/\i=.int .i64 (k:Int)/\Hid (dY F Z W (bP p ((bV.take k).foldl δ.cU a)::ts) wr)) (fun i _ _=>bV.length - (intOf i).toNat)
 case atStart=>exact ⟨0,VJ _,rfl,HH⟩
 case round=>
  clear HH;obtain ⟨k,hk,rfl,HK⟩:=hrel;by_cases hlt:k < bV.length
  ·obtain ⟨x,hx⟩:∃x,bV[k]? = some x:=⟨_,Vw hlt⟩
   obtain ⟨_,_,hrd⟩:=HK.out.get (j+1) (T:=a_ d_ (.slice aa bV.length ac) bV) (by simpa using HJ.out);obtain ⟨b,off,pa,pc,e1,_,k0,k1,k2,k3,k4⟩:=tC hrd hx;subst e1
   have HW:=aQ (HK.out.weak (j+1) (A:=a_ d_ (.slice (some ⟨b,off,none⟩) bV.length ac) bV) (T:=dD (.slice pa x.pay.length pc) x.pay) (by simpa using HJ.out) fun G Y hon=>by
    obtain ⟨b',off',pa',pc',e',hby,_,_,_,_,JI⟩:=tC (show dh d_ wr Y _ _ from hon) hx;obtain ⟨rfl,rfl⟩:b=b'/\off=off':=by simpa using e'
    rw [k4] at JI;obtain ⟨rfl,rfl⟩:pa=pa'/\pc=pc':=by simpa using JI
    exact hby)
   have Kg:=bz.out.handles (bV.take k) fun y hy=>uQ.out y (List.mem_of_mem_take hy)
   have hlk:(bV.take k).length<=bV.length:=by rw [VW];omega
   have hbx:=aK wr (bW x (.slice pa x.pay.length pc));have HQ:=aQ (MF (ts:=ts++[dD (.slice pa x.pay.length pc) x.pay]) x (.slice pa x.pay.length pc) Kg (by omega) (show dY F Z W (bP p ((bV.take k).foldl δ.cU a)::(ts++[dD (.slice pa x.pay.length pc) x.pay])) (wr.alloc (bW x (.slice pa x.pay.length pc))) from HW.out.own hbx) ts.length (by simp) (uQ.out x (VD hx)));have HT:=aQ (show (bV.take (k+1)).foldl δ.cU a=((bV.take k).foldl δ.cU a).cU x by rw [Xr,hx,Zd];rfl);clear hrd hx Kg hbx hlk;go_wp2_with fail;refine HQ.out.mono ?_;rintro e w' ⟨rfl,hh⟩
   have H2:=aQ (show dY F Z W (bP p ((bV.take (k+1)).foldl δ.cU a)::ts) w' by
    rw [HT.out];exact dY.dropLast (us:=[bP p (((bV.take k).foldl δ.cU a).cU x)]) hh)
   clear hh HQ HW k0 k1 k2 k3 k4;go_wp2_with fail;go_roundw
   case rel=>exact ⟨k+1,by omega,by go_num,H2⟩
   case measure=>simp [intOf];omega
  ·obtain rfl:bV.length=k:=by omega
   rw [Xd] at HK;have gz:=aQ (bz.out.handles bV uQ.out);obtain ⟨a1,ha1⟩:∃a1,a1=bV.foldl δ.cU a:=⟨_,rfl⟩;rw [<-ha1] at HK gz HMI;have HA1:=aQ ha1;obtain ⟨y,hst⟩:=HK.out.qF;obtain ⟨rv,sp,ap,wv,bv,fu,eO,fq,fw,ig,kv,fM,rev,fD⟩:=y;have hrow:=hst.blk 0 rfl;obtain ⟨c0,_,_,_,_,c5,_⟩:=aB hrow;dsimp only at c0 c5;have H1:=aQ hst;have De:=aQ (Ej hst 2 rfl gz.out.cS);clear hst hrow ha1 HK bz uQ;go_wp2_with fail;refine De.out.mono ?_;rintro e w2 ⟨rfl,hh⟩;have H2:=aQ (show dY F Z W (bX p { a1 with cS:=a1.cS.cR } ⟨rv,sp,ap,wv,bv,fu,eO,fq,fw,ig,kv,fM,rev,fD⟩++ts) w2 from hh);rw [show a1.cS.cR.mine=a1.inc by rw [lL];exact HMI.out];clear hh De H1 c0 c5;go_upto_region 11 with fail
   have h4:=(H2.out.alloc (.cells #[.int .i64 (a1.inc:Int),.int .i64 (a1.cS.cR.cM:Int)] 202)).K7 (x:=a1.gU) (v:=.slice none 0 0) fun Y=>fE.nil _ Y
   rw [WW] at h4;change dY F Z W _ ((w2.alloc (.cells #[.int .i64 (a1.inc:Int),.int .i64 (a1.cS.cR.cM:Int)] 202)).alloc (.cells #[.int .u8 1,.int .i64 0,.int .i64 (a1.inc:Int),.int .i64 (a1.cS.cR.cM:Int),.slice none 0 0] 103)) at h4;generalize (w2.alloc (.cells #[.int .i64 (a1.inc:Int),.int .i64 (a1.cS.cR.cM:Int)] 202)).alloc (.cells #[.int .u8 1,.int .i64 0,.int .i64 (a1.inc:Int),.int .i64 (a1.cS.cR.cM:Int),.slice none 0 0] 103)=w4 at h4 ⊢;generalize w2.heap.size+1=lb at h4 ⊢;have H4:=aQ (show dY F Z W (ζ d_ 103 (.slice (some ⟨lb,0,none⟩) 1 1) [a1.gU]::(bX p { a1 with cS:=a1.cS.cR } ⟨rv,sp,ap,wv,bv,fu,eO,fq,fw,ig,kv,fM,rev,fD⟩++ts)) w4 from h4);have hrow:=h4.blk 1 rfl;have c5:=(aB hrow).2.2.2.2.2.1;have c11:=(aB hrow).2.2.2.2.2.2.2.2.2.2.2.1;dsimp only at c5 c11;obtain ⟨_,_,hsd⟩:=h4.get 3 rfl;have HST:=aQ (mq sp a1.cS.cR w4 hsd.2);obtain ⟨_,_,hrc⟩:=h4.get 8 rfl;obtain ⟨rx,hrx⟩:∃rx:Nat,rx=a1.rcv % 256:=⟨_,rfl⟩;have HRX:=aQ hrx;have NT:(a1.rcv:Int) % 256=(rx:Int):=by omega
   have hex:=Ae eO a1.rcv w4 hrc.1;rw [NT] at hex;have HEX:=aQ hex;clear hrx NT hex;clear h4 hrow hsd hrc H2;by_cases hup:a1.cS.cR.state=2
   ·have b1:((a1.cS.cR.state:Int) != 2)=false:=by rw [hup];rfl
    have Uk:=aQ hup;clear hup;go_upto_region 13 with (go_at_call 45;refine HST.out.mono ?_;rintro e w' ⟨rfl,rfl⟩)
    go_upto_region 14 with (first
     |(go_at_call 101;refine HEX.out.mono ?_;rintro e w' ⟨rfl,rfl⟩)
     |(at_builtin;refine gu (xs:=[a1.gU]) (x:=⟨3#8,0,(rx:Int),a1.inc,[]⟩) (pa:=none) (pn:=0) (pc:=0) rfl _ _ rfl H4.out 0 rfl (fun Y _=>fE.nil _ Y) (aK w4 _) (by simp) rfl w4.heap.size rfl (heap_alloc_new w4 _) ?_;intro sa sc w5 h5;have H5:=aQ h5;clear h5))
    have HL2:=aQ (show [a1.gU]++[(⟨3#8,0,(rx:Int),a1.inc,[]⟩:Pt)]=a1.gU::a1.lT::(VV 0).map a1.j5 by rw [HRX.out];rfl);rw [HL2.out] at H5;obtain ⟨_,_,hbs⟩:=H5.out.get 11 rfl;obtain ⟨sb,so,sk,e6,r1,r2⟩:=bR (show Sq dK 3 w5 _ _ ig a1.base from hbs) (by rw [gz.out.sl];exact gz.out.n1);subst e6;have hrow:=H5.out.blk 1 rfl;have c14:=(aB hrow).2.2.2.2.2.2.2.2.2.2.2.2.2.2.1;dsimp only at c14;rw [gz.out.sl] at c14;have H6:=aQ (show dY F Z W (ζ d_ 103 (.slice sa (a1.gU::a1.lT::(VV 0).map a1.j5).length sc) (a1.gU::a1.lT::(VV 0).map a1.j5)::(bX p { a1 with cS:=a1.cS.cR } ⟨rv,sp,ap,wv,bv,fu,eO,fq,fw,.slice (some ⟨sb,so,none⟩) a1.base.length sk,kv,fM,rev,fD⟩++ts)) w5 from H5.out);have hbl:a1.aZ.length<=4:=gz.out.n4;clear hbs hrow H5 H4 HST HEX c5 c11 HL2;go_wp2_with fail;go_loopw [65,9,10,11] (fun i u9 _ _ wr=>∃(k:Nat) (l:List Pt) (sa:Option Addr) (sc:Nat),k<=a1.aZ.length/\i=.int .i64 (k:Int)/\u9=.slice sa l.length sc/\Hid (l=a1.gU::a1.lT::(VV k).map a1.j5)/\l.length<=6/\Hid (dY F Z W (ζ d_ 103 (.slice sa l.length sc) l::(bX p { a1 with cS:=a1.cS.cR } ⟨rv,sp,ap,wv,bv,fu,eO,fq,fw,.slice (some ⟨sb,so,none⟩) a1.base.length sk,kv,fM,rev,fD⟩++ts)) wr)) (fun i _ _ _ _=>a1.aZ.length - (intOf i).toNat)
    case atStart=>exact ⟨0,_,sa,sc,VJ _,rfl,rfl,aQ rfl,by simp,H6⟩
    case round=>
     clear H6 c14;obtain ⟨k,l,ua,uc,hk,rfl,rfl,xD,hl6,HK⟩:=hrel;by_cases hlt:k < a1.aZ.length
     ·have hrow:=HK.out.blk 1 rfl
      have c13:=(aB hrow).2.2.2.2.2.2.2.2.2.2.2.2.2.1;dsimp only at c13;obtain ⟨_,_,hbs⟩:=HK.out.get 11 rfl;have hz:=bT (d:=0) (show k < a1.base.length by rw [gz.out.sl];exact hlt);have hzb:=gz.out.rG _ (VD hz);have hzc:=dP (show Sq dK 3 wr _ _ (.slice (some ⟨sb,so,none⟩) a1.base.length sk) a1.base from hbs) hz;obtain ⟨_,_,hgv⟩:=HK.out.get 10 rfl;have hg:=bT (d:=(⟨0,0,0⟩:fV)) (show k < a1.π.length by rw [gz.out.gl];exact hlt);have hgb:=gz.out.π _ (VD hg);have HLM:=aQ (IW hgv (by rw [gz.out.gl];exact hbl) hg (by omega) (by omega));obtain ⟨z,hzz⟩:∃z,z=a1.base.getD k 0:=⟨_,rfl⟩;obtain ⟨g,hgg⟩:∃g,g=a1.π.getD k ⟨0,0,0⟩:=⟨_,rfl⟩;have HZ:=aQ hzz;have NH:=aQ hgg;rw [<-hzz] at hzb hzc;rw [<-hgg] at hgb HLM;obtain ⟨g1,g2,g3⟩:=hgb;clear hrow hbs hz hgv hg hzz hgg;go_wp2_with fail;refine HLM.out.mono ?_;rintro e w6 ⟨rfl,hb6⟩
      have HCR:=aQ (show (⟨4#8,(k:Int),(g.room:Int)+(g.cI:Int) - (z:Int),a1.inc,[]⟩:Pt)=a1.j5 k by
       unfold δ.j5;rw [<-NH.out,<-HZ.out];unfold fV.cE;rw [Int.natCast_add])
      have JW:=aQ hb6;clear hb6 HLM;have hgm:(g.room:Int)+(g.cI:Int)<=2000000000:=by omega
      have abJ:0<=(g.room:Int)+(g.cI:Int):=by omega
      have hzi:(z:Int)<=1000000000:=by omega
      go_upto_region 18 with (at_builtin;refine gu (xs:=l) (x:=⟨4#8,(k:Int),(g.room:Int)+(g.cI:Int) - (z:Int),a1.inc,[]⟩) (pa:=none) (pn:=0) (pc:=0) rfl _ _ rfl HK.out 0 rfl (fun Y _=>fE.nil _ Y) (JW.out.trans ((aK w6 _).mono JW.out.size)) (by omega) rfl w6.heap.size rfl (heap_alloc_new w6 _) ?_;intro va vc w7 h7;have H7:=aQ h7;clear h7)
      have Nj:=aQ (show l++[(⟨4#8,(k:Int),(g.room:Int)+(g.cI:Int) - (z:Int),a1.inc,[]⟩:Pt)]=a1.gU::a1.lT::(VV (k+1)).map a1.j5 by
       rw [xD.out,HCR.out,List.range_succ,W9];rfl)
      have h7:=H7.out;rw [Nj.out] at h7;obtain ⟨l',hl'⟩:∃l',l'=a1.gU::a1.lT::(VV (k+1)).map a1.j5:=⟨_,rfl⟩;have hlen:l.length+1=l'.length:=by rw [hl',<-Nj.out];simp
      have NV:l'.length<=6:=by rw [hl'];simp;omega
      rw [<-hl'] at h7;have H8:=aQ h7;have Og:=aQ hl';rw [hlen];clear h7 hl' H7 Nj c13 hzc JW hlen;go_wp2_with fail;go_roundw
      case rel=>exact ⟨k+1,l',va,vc,by omega,by go_num,rfl,Og,NV,H8⟩
      case measure=>simp [intOf];omega
     ·obtain rfl:a1.aZ.length=k:=by omega
      have hA:=(dY.bO (ts:=ts++[ζ d_ 103 (.slice ua l.length uc) l]) (show dY F Z W (bX p { a1 with cS:=a1.cS.cR } ⟨rv,sp,ap,wv,bv,fu,eO,fq,fw,.slice (some ⟨sb,so,none⟩) a1.base.length sk,kv,fM,rev,fD⟩++(ts++[ζ d_ 103 (.slice ua l.length uc) l])) wr by rw [<-VE];exact dY.wT HK.out));obtain ⟨M,hM⟩:∃M,M=N+200*bV.length:=⟨_,rfl⟩;have DF:δ.Ok M { a1 with cS:=a1.cS.cR }:=by rw [hM];exact gz.out.nY
      have Aw:=aQ (MV DF (by omega) hA);have Nz:=aQ (δ.oF HA1.out Uk.out);have hok2:=DF.choose
      have AP:(δ.choose { a1 with cS:=a1.cS.cR }).inc=a1.inc:=by
       unfold δ.choose;split
       ·rfl
       ·split <;> rfl
      obtain ⟨a2,ha2⟩:∃a2,a2=δ.choose { a1 with cS:=a1.cS.cR }:=⟨_,rfl⟩;rw [<-ha2] at Aw Nz hok2 AP;have jw:=aQ hok2;have RG:=aQ AP;have Dl:=aQ (show l=a1.gU::a1.lT::(VV a1.base.length).map a1.j5 by rw [xD.out,gz.out.sl]);clear hA DF hok2 AP ha2;go_wp2_with fail;refine Aw.out.mono ?_;rintro e w3 ⟨rfl,hh⟩;obtain ⟨y',hst⟩:=hh.qF;obtain ⟨rv',sp',PT,wv',Nw,AA,AJ,Az,AU,yR,Ns,yU,yL,yK⟩:=y';have c10:=(aB (hst.blk 0 rfl)).2.2.2.2.2.2.2.2.2.2.1;dsimp only at c10;have JP:=aQ (Ou hst 6 rfl jw.out.snd (by have:=jw.out.tot;omega));clear hh hst Aw HK;go_wp2_with fail
      cases ht:a2.snd.cR with
      |mk o s'=>
      rw [ht] at JP Nz;have PX:=aQ ht;clear ht
      cases o with
      |none=>
       refine JP.out.mono ?_;rintro e w5 ⟨v,rfl,hh⟩;have h5:dY F Z W (bX p { a2 with snd:=s' } ⟨rv',sp',PT,wv',Nw,AA,AJ,Az,AU,yR,Ns,yU,yL,yK⟩++(ts++[ζ d_ 103 (.slice ua l.length uc) l])) w5:=dY.tail (dY.front hh);have H5:=aQ h5;clear hh h5 JP;go_wp2_with fail;go_ret;refine ⟨ua,uc,by rw [Nz.out];dsimp only;rw [<-Dl.out];rfl,?_⟩;rw [Nz.out,<-Dl.out];exact dY.front (ts:=bP p { a2 with snd:=s' }::ts) (dY.bO (ts:=ts++[ζ d_ 103 (.slice ua l.length uc) l]) H5.out)
      |some nd=>
       obtain ⟨n,d⟩:=nd;have hts:=sD jw.out.snd PX.out;have hkk:=jw.out.xH;have Ri:=jw.out.FW;rw [PX.out] at Ri;refine JP.out.mono ?_;rintro e w5 ⟨v,rfl,hh⟩;obtain ⟨_,_,hby⟩:=(dY.front hh).get 0 rfl;obtain ⟨va,vc,rfl⟩:=fE.slice hby;have h5:dY F Z W (bP p { a2 with snd:=s' }::(ts++[ζ d_ 103 (.slice ua l.length uc) l]++[dD (.slice va d.length vc) d])) w5:=dY.bO (x:=⟨rv',sp',PT,wv',Nw,AA,AJ,Az,AU,yR,Ns,yU,yL,yK⟩) (by rw [<-VE];exact hh);have TE:=aQ (Pj (a:={ a2 with snd:=s' }) n Ri (by omega) hts.1 (by show _ < a2.cT.length;rw [hkk];exact hts.2) h5);clear hh h5 JP hts hkk Ri hby;dsimp only [Option.elim,Option.isSome];go_wp2_with fail;refine TE.out.mono ?_;rintro e w6 ⟨rfl,hh⟩
       have H6:=aQ (show dY F Z W (ζ d_ 103 (.slice ua l.length uc) l::dD (.slice va d.length vc) d::bP p { a2 with snd:=s' }::ts) w6 from
        dY.front (ts:=dD (.slice va d.length vc) d::bP p { a2 with snd:=s' }::ts) (dY.front (ts:=bP p { a2 with snd:=s' }::(ts++[ζ d_ 103 (.slice ua l.length uc) l])) hh))
       obtain ⟨cl,hcl⟩:∃cl,cl=δ.lC { a2 with snd:=s' } n:=⟨_,rfl⟩;rw [<-hcl] at Nz ⊢;clear hh TE hcl;go_upto_region 23 with (at_builtin;refine gu (xs:=l) (x:=⟨2#8,(cl:Int),(n:Int),a1.inc,d⟩) (pa:=va) (pn:=d.length) (pc:=vc) rfl _ _ rfl H6.out 0 rfl (fun Y hO=>by obtain ⟨_,_,hb⟩:=hO 1 _ (by decide) rfl;exact hb) (aK w6 _) (by omega) rfl w6.heap.size rfl (heap_alloc_new w6 _) ?_;intro xa xc w7 h7;have H7:=aQ h7;clear h7)
       go_wp2_with fail;go_ret;have HF:=Nz.out;rw [<-Dl.out,RG.out] at HF;refine ⟨xa,xc,by rw [HF];dsimp only;rw [Vx];rfl,?_⟩;rw [HF];have h7:=H7.out;rw [<-RG.out] at h7 ⊢;exact dY.τ (us:=[ζ d_ 103 (.slice xa (l++[(⟨2#8,(cl:Int),(n:Int),a2.inc,d⟩:Pt)]).length xc) (l++[(⟨2#8,(cl:Int),(n:Int),a2.inc,d⟩:Pt)]),dD (.slice va d.length vc) d,bP p { a2 with snd:=s' }]) (vs:=[ζ d_ 103 (.slice xa (l++[(⟨2#8,(cl:Int),(n:Int),a2.inc,d⟩:Pt)]).length xc) (l++[(⟨2#8,(cl:Int),(n:Int),a2.inc,d⟩:Pt)]),bP p { a2 with snd:=s' }]) h7 [0,2] (by decide) rfl
   ·have b1:((a1.cS.cR.state:Int) != 2)=true:=by rw [bne_iff_ne];omega
    have HG:=aQ (δ.cX HA1.out hup);clear hup;go_wp2_with (go_at_call 45;refine HST.out.mono ?_;rintro e w' ⟨rfl,rfl⟩);go_ret;refine ⟨some ⟨lb,0,none⟩,1,?_,?_⟩
    ·rw [HG.out];rfl
    ·rw [HG.out]
     exact dY.front (ts:=[bP p { a1 with cS:=a1.cS.cR }]++ts) (by
      rw [VE];exact dY.bO (ts:=ts++[ζ d_ 103 (.slice (some ⟨lb,0,none⟩) 1 1) [a1.gU]]) (by rw [<-VE];exact dY.wT H4.out))
end


end Go.Proofs.YtjnbanjjoomecaaGreatDoor
