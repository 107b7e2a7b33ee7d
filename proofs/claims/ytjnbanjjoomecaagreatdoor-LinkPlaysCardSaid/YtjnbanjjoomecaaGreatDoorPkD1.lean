/- Lemmas; no condition on the program. -/
import Derived.Test.YtjnbanjjoomecaaGreatDoorPkC1
import Derived.Deep.CutRange
import Derived.Test.YtjnbanjjoomecaaGreatDoorPkC2
namespace Go.Proofs.YtjnbanjjoomecaaGreatDoor
open Go.RowKit
open _root_.Go.Proofs.Tryz renaming prog→Vs
open Nat renaming le_refl→Vu, le_trans→VC, lt_of_lt_of_le→VX, zero_add→V5
open World renaming block_lt_of_cell?→Vv, size_alloc→WW
open List renaming length_append→Vx, length_take→VW, length_cons→VZ, length_drop→V9, getD→Wo, length_nil→Ws, nil_append→WT
open Act renaming put→VF
open _root_.Go.RowKit.Below renaming setCell→VK, heap_setCell→Wy, heap_alloc→WA
open Region renaming wanted→VN
open IntWalk renaming i64_in→V6
open BitVec renaming eq_of_toNat_eq→Wz
open Oper renaming wp→WZ
open Bool renaming eq_false_iff→XH
set_option maxRecDepth 100000
set_option maxHeartbeats 64000000
theorem sH {l r:List Byte}:∀k,(∀j,j < k->l.getD j 0=r.getD j 0)->num l k=num r k
 |0,_=>rfl
 |k+1,h=>by
  show 256*num l k+_=256*num r k+_;rw [sH k fun j hj=>h j (by omega),h k (by omega)]
theorem getD_take_lt {l:List Byte} {k n:Nat} (h:k < n):(l.take n).getD k 0=l.getD k 0:=by
 unfold Wo;rw [List.getElem?_take,if_pos h]
theorem kS (l:List Byte) (n k:Nat):(l.drop n).getD k 0=l.getD (n+k) 0:=by
 unfold Wo;rw [List.getElem?_drop]
theorem CU (bs:List Byte) (n:Nat) (h:13<=n):bJ (bs.take n)=⟨bs.getD 0 0,((bs.getD 1 0).toNat:Int),(num ((bs.drop 2).take 5) 5:Nat),(num ((bs.drop 7).take 5) 5:Nat),(bs.drop 13).take (n - 13)⟩:=by
 unfold bJ;have e1:num ((bs.take n).drop 2) 5=num ((bs.drop 2).take 5) 5:=sH 5 fun j hj=>by rw [kS,getD_take_lt (by omega),getD_take_lt hj,kS]
 have e2:num ((bs.take n).drop 7) 5=num ((bs.drop 7).take 5) 5:=sH 5 fun j hj=>by rw [kS,getD_take_lt (by omega),getD_take_lt hj,kS]
 rw [getD_take_lt (by omega),getD_take_lt (by omega),e1,e2,List.drop_take]
theorem zJ (bs:List Byte) (n:Nat) (hn:bs.length=n+4):cK bs=true↔∀k,k < 4->bs.getD (n+k) 0=(rV (bs.take n) >>> (8*k)).setWidth 8:=by
 have hln:(bs.take n).length=n:=by rw [VW];omega
 have hle:∀S:BitVec 32,∀k,k < 4->(sU S).getD k 0=(S >>> (8*k)).setWidth 8:=fun S k hk=>by
  have:k=0\/k=1\/k=2\/k=3:=by omega
  rcases this with rfl|rfl|rfl|rfl <;> simp [sU]
 rw [rC bs (by omega),show bs.length - 4=n by omega];constructor
 ·intro h k hk
  rw [<-hle _ k hk];have:bs.getD (n+k) 0=(iL (bs.take n)).getD (n+k) 0:=congrArg (fun l:List Byte=>l.getD (n+k) 0) h;rw [this];unfold iL Wo;rw [List.getElem?_append_right (by omega),hln,Nat.add_sub_cancel_left]
 ·intro h
  unfold iL
  conv=>lhs;rw [<-List.take_append_drop n bs]
  congr 1;apply List.ext_getElem
  ·simp [sU];omega
  ·intro k h1 h2
   have hk:k < 4:=by simpa [sU] using h2
   have h3:=(h k hk).trans (hle (rV (bs.take n)) k hk).symm;rw [<-kS] at h3;have h4:n+k < bs.length:=by omega
   simpa [Wo,h1,h2,h4] using h3
theorem By.part {w:World} {b off n c:Nat} {bs:List Byte} (h:By w (.slice (some ⟨b,off,none⟩) n c) bs) {i j:Nat} (hij:i<=j) (hj:j<=n) (hc:c≠i):By w (.slice (some ⟨b,off+i,none⟩) (j - i) (c - i)) ((bs.drop i).take (j - i)):=by
 have:=h.Qq (k:=i) (by omega);rw [if_neg hc] at this;exact this.take (by omega)
theorem E5 (v:Value) (bs:List Byte) (w:World) (hb:By w v bs) (h:bs.length < 17) :
  Calls Vs 74 #[v] w (jD w bs):=by
 have HD:=aQ (qo h);obtain ⟨a,cap,rfl⟩:=hb.slice;clear hb;go_enter Tryz.func74,Tryz.ntmps74;go_wp2_with fail;exact bodyPost_ret (v:=.tuple #[.agg #[.int .u8 0,.int .i64 0,.int .i64 0,.int .i64 0,.slice none 0 0],.int .i64 4]) (by simp [results,Tryz.results74,go_sem]) rfl (jD.zero HD.out (by exact dC))
theorem Jd (v:Value) (bs:List Byte) (w:World) (hb:By w v bs) (h:17<=bs.length) (hm:bs.length<=100000) (h2:64 < (bs.getD 12 0).toNat\/(bs.getD 12 0).toNat+17≠bs.length) :
  Calls Vs 74 #[v] w (jD w bs):=by
 have HD:=aQ (sP h h2);obtain ⟨_,⟨rfl,a,cap,rfl,_⟩|⟨b,off,cap,rfl,h0,hcap,hcm,hc⟩⟩:=hb.cases
 ·simp at h
 have p_:=hc 12 (by omega);clear hb hc;rw [nQ] at p_;have aac:(bs.getD 12 0).toNat < 256:=(bs.getD 12 0).isLt;generalize (bs.getD 12 0).toNat=m at *;have hlt:b < w.heap.size:=Vv w _ p_;by_cases h64:64 < m
 ·clear h2
  go_enter Tryz.func74,Tryz.ntmps74;go_wp2_with fail;exact bodyPost_ret (v:=.tuple #[.agg #[.int .u8 0,.int .i64 0,.int .i64 0,.int .i64 0,.slice none 0 0],.int .i64 3]) (by simp [results,Tryz.results74,go_sem]) rfl (jD.zero HD.out (by exact dC))
 ·have hne:((m:Int)+17 != (bs.length:Int))=true:=by simp;omega
  clear h2;go_enter Tryz.func74,Tryz.ntmps74;go_wp2_with fail;exact bodyPost_ret (v:=.tuple #[.agg #[.int .u8 0,.int .i64 0,.int .i64 0,.int .i64 0,.slice none 0 0],.int .i64 3]) (by simp [results,Tryz.results74,go_sem]) rfl (jD.zero HD.out (by exact dC))
theorem oK {ops:Array Oper} {o:Oper} {a:Act} {w:World} {K:Act->World->Prop} {Q:Exit->Act->World->Prop} {E:Prop} (hg:o.guard=none) (hop:o.op=Op.buildSlice 40 0 #[])
  (hK:∀g w',w'.heap[g]? = some (.cells #[] 5)->w.heap.size<=g->Below w.heap.size w w'->K (a.put o.dst (.slice (some ⟨g,0,none⟩) 0 0)) w') :
  if VN o (yielded ops a.tmps)=true then WZ Vs o a w K Q else E:=by
 obtain ⟨d,op,ty,pos,af,g⟩:=o;dsimp only at hg hop;subst hg;subst hop;rw [if_pos (by simp [VN])];have h:=hK w.heap.size (w.alloc (.cells #[] 5)) (heap_alloc_new w _) (Vu _) (aK w _);clear hK;go_simp;exact h
theorem mo {ops:Array Oper} {o:Oper} {a:Act} {w:World} {K:Act->World->Prop} {Q:Exit->Act->World->Prop} {E:Prop}
  (hg:o.guard=none) (s x:Operand) (hop:o.op=Op.call { callee:=Callee.builtin Builtin.append,args := #[s,x],argTypes := #[40,40] })
  (lg:Nat) (hs:a.eval s=.slice (some ⟨lg,0,none⟩) 0 0) (aaO:w.heap[lg]? = some (.cells #[] 5)) (y:Value) (ys:List Byte) (hx:a.eval x=y) (hr:By w y ys) (hl:ys.length<=1000000)
  (hK:∀a' c' w',Sl w' (fun k=>k=lg\/w.heap.size<=k) 5 1 (.slice a' ys.length c') ys.length (cu ys)->Fr (fun k=>k=lg) w w'->K (a.put o.dst (.slice a' ys.length c')) w') :
  if VN o (yielded ops a.tmps)=true then WZ Vs o a w K Q else E:=by
 refine υ Ao hg s x hop (fun k=>k=lg) (.slice (some ⟨lg,0,none⟩) 0 0) 0 [] hs ⟨rfl,.inr ⟨lg,0,0,#[],rfl,rfl,aaO,Vu _,Nat.zero_le _,Vu _,rfl⟩⟩ y ys.length (cu ys) hx hr iM (by unfold maxLen;omega) (by omega) fun v' w' h1 h2=>?_
 rw [V5,WT] at h1;obtain ⟨a',c',rfl⟩:=h1.shape;exact hK a' c' w' h1 h2

theorem Je (v:Value) (bs:List Byte) (w:World) (hb:By w v bs) (h:17<=bs.length) (hm:bs.length<=100000) (h2:(bs.getD 12 0).toNat<=64/\(bs.getD 12 0).toNat+17=bs.length) :
  Calls Vs 74 #[v] w (jD w bs):=by
 have HB:=aQ hb;have HP9:=aQ (fun hs=>vL h h2 hs);have Ni:=aQ (fun hs hv=>vM h h2 hs hv);have Tv:=aQ (fun hs hv=>uJ h h2 hs hv);obtain ⟨_,⟨rfl,a,cap,rfl,_⟩|⟨b,off,cap,rfl,h0,hcap,hcm,hc⟩⟩:=hb.cases
 ·simp at h
 have p_:=hc 12 (by omega);rw [nQ] at p_;obtain ⟨h64,Gy⟩:=h2;obtain ⟨n,hn⟩:∃n,bs.length=n+4:=⟨bs.length - 4,by omega⟩;have aaN:13<=n:=by omega
 have HSB:=aQ (zJ bs n hn);have NC:=aQ (CU bs n aaN);have e4:bs.length - 4=n:=by omega
 rw [e4] at Ni Tv;have GI:=aQ (show By w (.slice (some ⟨b,off+2,none⟩) 5 (cap - 2)) ((bs.drop 2).take 5) from HB.out.part (i:=2) (j:=7) (by omega) (by omega) (by omega));have HP7:=aQ (show By w (.slice (some ⟨b,off+7,none⟩) 5 (cap - 7)) ((bs.drop 7).take 5) from HB.out.part (i:=7) (j:=12) (by omega) (by omega) (by omega));have Tu:=aQ (show By w (.slice (some ⟨b,off+13,none⟩) (n - 13) (cap - 13)) ((bs.drop 13).take (n - 13)) from HB.out.part (i:=13) (j:=n) (by omega) (by omega) (by omega));have HPS:=aQ (show By w (.slice (some ⟨b,off,none⟩) n cap) (bs.take n) from HB.out.take (by omega));have HL2:=aQ (show ((bs.drop 2).take 5).length=5 by rw [VW,V9];omega);have Nj:=aQ (show ((bs.drop 7).take 5).length=5 by rw [VW,V9];omega);have Av:=aQ (show ((bs.drop 13).take (n - 13)).length=n - 13 by rw [VW,V9];omega);have c0:=hc 0 (by omega);have c1:=hc 1 (by omega);rw [Nat.add_zero] at c0;have HC:=aQ hc;have hlt:b < w.heap.size:=Vv w _ p_;have hx1:(bs.getD 1 0).toNat < 256:=(bs.getD 1 0).isLt;have HN:=aQ hn;have H12:=aQ Gy;rw [hn] at Gy hcap h hm h0 ⊢;clear hn e4 hb hc h0 h;generalize (bs.getD 12 0).toNat=m at *;have hne:((m:Int)+17 != (n:Int)+4)=false:=by simp;omega
 clear Gy;obtain ⟨x0,hx0⟩:∃x0,x0=bs.getD 0 0:=⟨_,rfl⟩;obtain ⟨x1,Dz⟩:∃x1,x1=bs.getD 1 0:=⟨_,rfl⟩;rw [<-hx0] at c0;rw [<-Dz] at c1 hx1;rw [nQ x1] at c1;have HX0:=aQ hx0;have xC:=aQ Dz;clear hx0 Dz;have hd2:¬cap=2:=by omega
 have hd7:¬cap=7:=by omega
 have abQ:¬cap=13:=by omega
 have hcm':cap<=9223372036854775807:=hcm;clear hcm;go_enter Tryz.func74,Tryz.ntmps74;go_wp2_with fail;obtain ⟨w1,hw1⟩:∃w1,w1=w.alloc (.cells #[.int .u8 0,.int .i64 0,.int .i64 0,.int .i64 0,.slice none 0 0] 103):=⟨_,rfl⟩;rw [<-hw1];have θ:=aQ (show w1.heap[w.heap.size]? = some (.cells #[.int .u8 0,.int .i64 0,.int .i64 0,.int .i64 0,.slice none 0 0] 103) by rw [hw1];exact heap_alloc_new w _);have HB1:=aQ (show Below w.heap.size w w1 by rw [hw1];exact aK w _);clear hw1;have HZ1:=aQ (lt_of_block θ.out);have hq1:IntKind.i64.wrap ((x1.toNat:Nat):Int)=((x1.toNat:Nat):Int):=V6 _ (by omega);have hb0:(0:Int) < (n:Int)+4:=by omega
 have hb1:(1:Int) < (n:Int)+4:=by omega
 have hb1':(0:Int)<=1/\(1:Int) < (n:Int)+4:=by omega
 have hi2:(0:Int)<=2/\(2:Int)<=7/\(7:Int)<=(cap:Int)/\(12:Int)<=(cap:Int):=by omega
 have hin:(0:Int)<=(n:Int)/\(13:Int)<=(n:Int)/\(n:Int)<=(cap:Int):=by omega
 have hq4:IntKind.i64.wrap ((n:Int)+4 - 4)=(n:Int):=by rw [show (n:Int)+4 - 4=n by omega];exact V6 _ (by omega)
 have abx:IntKind.i64.wrap (n:Int)=(n:Int):=V6 _ (by omega);have GI:=aQ (GI.out.below HB1.out);have HP7:=aQ (HP7.out.below HB1.out);have Tu:=aQ (Tu.out.below HB1.out);have c0:=cell_later HB1.out c0;have c1:=cell_later HB1.out c1;go_upto_region 5 with fail
 go_cut [4] from 27 to 53 (fun u wc=>∃(pb:Nat) (xa:Option Addr) (xc:Nat),u=.pointer (some ⟨pb,0,none⟩)/\Hid (Nb wc w1.heap.size (.slice xa (n - 13) xc) ((bs.drop 13).take (n - 13)))/\Hid (Below w1.heap.size w1 wc)/\Hid (w.heap.size < pb)/\Hid (wc.heap[pb]? = some (.cells #[.int .u8 (U x0),.int .i64 (x1.toNat:Int),.int .i64 ((num ((bs.drop 2).take 5) 5:Nat):Int),.int .i64 ((num ((bs.drop 7).take 5) 5:Nat):Int),.slice xa (n - 13) xc] 103)))
 case first=>
  refine wp_region_held_drew (S:=Below w1.heap.size w1) (by kernel_rfl) (by exact dC) (fun hS0=>?_);refine Φ 0 13 hS0 ?_;(iterate 9 (refine aR (v:=?_) (by rfl) ?_ ?_;rotate_left 1;(focus ((intro w' hS';have h0:=cell_later hS' c0;have h1:=cell_later hS' c1;go_simp);try with_reducible rfl));simp only [VF,ag,Ψ,ae]));(refine gT (v:=?_) (f:=?_) (args:=?_) (by rfl) ?_ ?_ ?_;rotate_left 3;(focus (intro w';go_simp;first|(with_reducible rfl)|(refine ⟨?_,?_⟩ <;> with_reducible rfl)));(focus (intro w' hS';with_reducible exact (pR _ ((bs.drop 2).take 5) w' (GI.out.below hS') HL2.out)));simp only [VF,ag,Ψ,ae]);(iterate 2 (refine aR (v:=?_) (by rfl) ?_ ?_;rotate_left 1;(focus ((intro w' hS';have h0:=cell_later hS' c0;have h1:=cell_later hS' c1;go_simp);try with_reducible rfl));simp only [VF,ag,Ψ,ae]));(refine gT (v:=?_) (f:=?_) (args:=?_) (by rfl) ?_ ?_ ?_;rotate_left 3;(focus (intro w';go_simp;first|(with_reducible rfl)|(refine ⟨?_,?_⟩ <;> with_reducible rfl)));(focus (intro w' hS';with_reducible exact (pR _ ((bs.drop 7).take 5) w' (HP7.out.below hS') Nj.out)));simp only [VF,ag,Ψ,ae]);refine aT ?_;refine Φ 14 5 hS0 ?_;(iterate 5 refine dI ?_);refine aT ?_;(refine gm 13 21 (by kernel_rfl) rfl rfl (fun K hK=>?_) (fun K hK=>?_));(focus (refine oK (by rfl) (by rfl) ?_;intro lg w2 hn2 hg2 hb2;have abK:w1.heap.size<=lg:=hg2;have hlg:=lt_of_block hn2;simp only [VF,ag,Ψ,ae];have hS2:=hS0.trans (hb2.mono hS0.size);refine hK.out _ _ hS2 ?_;clear hK K;(refine gm 19 21 (by kernel_rfl) rfl rfl (fun K hK=>?_) (fun K hK=>?_));(focus ((refine mo (by rfl) _ _ (by rfl) lg (by rfl) hn2 (.slice (some ⟨b,off+13,none⟩) (n - 13) (cap - 13)) ((bs.drop 13).take (n - 13)) (by rfl) (Tu.out.below hS2) (by rw [Av.out];omega) ?_);intro xa xc w3 lN hf3;rw [Av.out] at lN;simp only [VF,ag,Ψ,ae,Av.out];have fU:=hS2.trans (hf3.below hS2.size (fun k hk=>by have hk':k=lg:=hk;omega));have aaM:Nb w3 w1.heap.size (.slice xa (n - 13) xc) ((bs.drop 13).take (n - 13)):=(by unfold Nb;rw [Av.out];exact lN.mono fun k hk=>hk.elim (fun e=>by omega) fun e=>VC hS2.size e);refine hK.out _ _ fU ?_;clear hK K;refine Φ 20 1 fU ?_;refine dI ?_;refine aT ?_;(refine ah 21 (fun K hK=>?_));refine iF (by rfl) (by rfl) ?_;intro pb w4 QM hb4 hl4;simp only [VF,ag,Ψ,ae];(refine hK.out _ _ (fU.trans (hb4.mono fU.size)) ?_);clear hK K;((refine ah 22 (fun K hK=>?_));(refine iE (by rfl) (by rfl) _ _ (by rfl) pb (by rfl) _ _ _ _ _ _ _ (by rfl) QM ?_);intro w5 Au hs5 rM FB;(refine hK.out _ _ (rM _ _ (VC fU.size hl4) (fU.trans (hb4.mono fU.size))) ?_);clear hK K;refine fZ ?_;go_wp2_with fail;go_meet;have wN:=aQ (show Nb w5 w1.heap.size (.slice xa (n - 13) xc) ((bs.drop 13).take (n - 13)) from (aaM.below (rM _ _ hl4 hb4)));have rH:=aQ (rM _ _ (VC fU.size hl4) (fU.trans (hb4.mono fU.size)));have Dl:=aQ (VX HZ1.out (VC fU.size hl4));have wR:=aQ Au;(case rel=>exact ⟨pb,xa,xc,rfl,wN,rH,Dl,wR⟩))));(focus (refine iF (by rfl) (by rfl) ?_;intro pb w3 hp3 hb3 hl3;simp only [VF,ag,Ψ,ae];have fU:=hS2.trans (hb3.mono hS2.size);(refine hK.out _ _ fU ?_);clear hK K;have hpl:=lt_of_block hp3;(refine ah 19 (fun K hK=>?_));(refine mo (by rfl) _ _ (by rfl) lg (by rfl) ((hb3.block _ hlg).trans hn2) (.slice (some ⟨b,off+13,none⟩) (n - 13) (cap - 13)) ((bs.drop 13).take (n - 13)) (by rfl) (Tu.out.below fU) (by rw [Av.out];omega) ?_);intro xa xc w4 nI JL;rw [Av.out] at nI;simp only [VF,ag,Ψ,ae,Av.out];have p8:=fU.trans (JL.below fU.size (fun k hk=>by have hk':k=lg:=hk;omega));(refine hK.out _ _ p8 ?_);clear hK K;refine Φ 20 1 p8 ?_;refine dI ?_;refine aT ?_;((refine ah 22 (fun K hK=>?_));(refine iE (by rfl) (by rfl) _ _ (by rfl) pb (by rfl) _ _ _ _ _ _ _ (by rfl) (JL.keep hp3 (by show ¬pb=lg;omega)) ?_);intro w5 Au hs5 rM FB;(refine hK.out _ _ (rM _ _ (VC hS2.size hl3) p8) ?_);clear hK K;refine fZ ?_;go_wp2_with fail;go_meet;have wN:=aQ (show Nb w5 w1.heap.size (.slice xa (n - 13) xc) ((bs.drop 13).take (n - 13)) from (by unfold Nb;rw [Av.out];exact (Sl.keep nI fun k hk _=>FB k (hk.elim (fun e=>by omega) fun e=>by omega)).mono fun k hk=>hk.elim (fun e=>by omega) fun e=>VC fU.size e));have rH:=aQ (rM _ _ (VC hS2.size hl3) p8);have Dl:=aQ (VX HZ1.out (VC hS2.size hl3));have wR:=aQ Au;(case rel=>exact ⟨pb,xa,xc,rfl,wN,rH,Dl,wR⟩))))));(focus (refine iF (by rfl) (by rfl) ?_;intro pb w2 hp2 hb2 hl2;simp only [VF,ag,Ψ,ae];have hS2:=hS0.trans (hb2.mono hS0.size);(refine hK.out _ _ hS2 ?_);clear hK K;have hpl:=lt_of_block hp2;(refine ah 13 (fun K hK=>?_));refine oK (by rfl) (by rfl) ?_;intro lg w3 lN hg3 hb3;have hg3':w1.heap.size<=lg:=VC hS2.size hg3;simp only [VF,ag,Ψ,ae];have fU:=hS2.trans (hb3.mono hS2.size);refine hK.out _ _ fU ?_;clear hK K;(refine ah 19 (fun K hK=>?_));(refine mo (by rfl) _ _ (by rfl) lg (by rfl) lN (.slice (some ⟨b,off+13,none⟩) (n - 13) (cap - 13)) ((bs.drop 13).take (n - 13)) (by rfl) (Tu.out.below fU) (by rw [Av.out];omega) ?_);intro xa xc w4 nI JL;rw [Av.out] at nI;simp only [VF,ag,Ψ,ae,Av.out];have p8:=fU.trans (JL.below fU.size (fun k hk=>by have hk':k=lg:=hk;omega));(refine hK.out _ _ p8 ?_);clear hK K;refine Φ 20 1 p8 ?_;refine dI ?_;refine aT ?_;have h32:=hb3.size;((refine ah 22 (fun K hK=>?_));(refine iE (by rfl) (by rfl) _ _ (by rfl) pb (by rfl) _ _ _ _ _ _ _ (by rfl) (JL.keep ((hb3.block _ hpl).trans hp2) (by show ¬pb=lg;omega)) ?_);intro w5 Au hs5 rM FB;(refine hK.out _ _ (rM _ _ (VC hS0.size hl2) p8) ?_);clear hK K;refine fZ ?_;go_wp2_with fail;go_meet;have wN:=aQ (show Nb w5 w1.heap.size (.slice xa (n - 13) xc) ((bs.drop 13).take (n - 13)) from (by unfold Nb;rw [Av.out];exact (Sl.keep nI fun k hk _=>FB k (hk.elim (fun e=>by omega) fun e=>by omega)).mono fun k hk=>hk.elim (fun e=>by omega) fun e=>VC fU.size e));have rH:=aQ (rM _ _ (VC hS0.size hl2) p8);have Dl:=aQ (VX HZ1.out (VC hS0.size hl2));have wR:=aQ Au;(case rel=>exact ⟨pb,xa,xc,rfl,wN,rH,Dl,wR⟩))))
 case rest=>
  obtain ⟨pb,xa,xc,rfl,wN,rH,Dl,wR⟩:=hcut;generalize wL:wc=w5 at *;clear wL;have Tg:w5.heap[pb]? = some (.cells #[.int .u8 (U (bJ (bs.take n)).kind),.int .i64 (bJ (bs.take n)).cls,.int .i64 (bJ (bs.take n)).number,.int .i64 (bJ (bs.take n)).value,.slice xa (bJ (bs.take n)).pay.length xc] 103):=(by rw [NC.out,<-HX0.out,<-xC.out];dsimp only;rw [Av.out];exact wR.out);have NG:=aQ (show Nb w5 w1.heap.size (.slice xa (bJ (bs.take n)).pay.length xc) (bJ (bs.take n)).pay by rw [NC.out];dsimp only;rw [Av.out];exact wN.out);clear NC wN wR HX0 xC GI HP7 Tu HL2 Nj Av c0 c1 p_;generalize bJ (bs.take n)=p at *;have wR:=aQ Tg;clear Tg;have FJ:=aQ ((rH.out.block _ HZ1.out).trans θ.out);have hws:=HB1.out.size;have iV:=aQ (HB1.out.trans (rH.out.mono hws));obtain ⟨z0,z1,z2,z3,z4⟩:=aO FJ.out;have zf:=fun i=>aD FJ.out i;have hzl:=lt_of_block FJ.out;go_wp2_with fail;(refine (vX _ (bs.take n) w5 (HPS.out.below iV.out)).mono ?_);rintro e w6 ⟨rfl,rfl⟩;generalize rV (bs.take n)=S at *;go_wp2_with fail;(go_loopw [6] (fun i wr=>∃k:Nat,k<=4/\i=.int .i64 (k:Int)/\Hid (∀j,j < k->bs.getD (n+j) 0=(S >>> (8*j)).setWidth 8)/\∃m',wr=w5.drewN m') (fun i _=>4 - (intOf i).toNat));(case atStart=>exact ⟨0,by omega,by go_num,aQ (fun j hj=>by omega),0,rfl⟩);(case round=>(obtain ⟨k,hk,rfl,HA,m',rfl⟩:=hrel;(by_cases hlt':k < 4);(focus (have hck:=cell_later iV.out (HC.out (n+k) (by have:=HN.out;omega));obtain ⟨x,hx⟩:∃x,x=bs.getD (n+k) 0:=⟨_,rfl⟩;rw [<-hx] at hck;have HX:=aQ hx;clear hx;obtain ⟨y,hy⟩:∃y,y=(S >>> (8*k)).setWidth 8:=⟨_,rfl⟩;have HYE:=aQ hy;clear hy;have hs1:IntKind.i64.wrap ((n:Int)+(k:Int))=(n:Int)+(k:Int):=V6 _ (by omega);have hs2:(0:Int)<=(n:Int)+(k:Int)/\(n:Int)+(k:Int) < (n:Int)+4:=(by omega);have hs3:((n:Int)+(k:Int)).toNat=n+k:=(by omega);have hs4:IntKind.i64.wrap (8*(k:Int))=8*(k:Int):=V6 _ (by omega);(by_cases he:x=y);(focus (have h1:(x != (S >>> (8*k)).setWidth 8)=false:=(by rw [<-HYE.out];simpa using he);have HE:=aQ he;clear he;go_wp2_with fail;go_quiet (fail);go_wp2_with fail;go_roundw;(case rel=>exact ⟨k+1,by omega,by go_num,aQ (fun j hj=>by by_cases hjk:j=k;(rw [hjk,<-HX.out,HE.out,HYE.out]);exact HA.out j (by omega)),_,rfl⟩);(case measure=>simp [intOf];omega)));(focus (have h1:(x != (S >>> (8*k)).setWidth 8)=true:=(by rw [<-HYE.out];simpa using he);have HE:=aQ he;clear he;have HF:=aQ (HP9.out (by rw [XH];intro hs;exact HE.out (by rw [HX.out,HYE.out];exact HSB.out.1 hs k hlt')));go_wp2_with fail;go_quiet (fail);go_wp2_with fail;have q:=fun mm=>aO (mJ (w:=w5.drewN mm) FJ.out (.int .u8 0) (.int .i64 0) (.int .i64 0) (.int .i64 0) (.slice none 0 0));exact bodyPost_ret (v:=.tuple #[.agg #[.int .u8 0,.int .i64 0,.int .i64 0,.int .i64 0,.slice none 0 0],.int .i64 9]) (by simp [results,Tryz.results74,go_sem,q]) rfl (jD.zero HF.out (VK (VK (VK (VK (VK (Bw.drewN iV.out _) (Vu _) _) (Vu _) _) (Vu _) _) (Vu _) _) (Vu _) _))))));(focus (obtain rfl:k=4:=(by omega);have hsl:=HSB.out.2 HA.out;have RD:=aQ (Ni.out hsl);have RF:=aQ (Tv.out hsl);clear hsl Ni Tv HSB HA HP9;have HRm:=aQ (show (w5.drewN m').heap[pb]? = _ from wR.out);have HQm:=aQ (show (w5.drewN m').heap[w.heap.size]? = _ from FJ.out);have HBm:=aQ (show Below w.heap.size w (w5.drewN m') from Bw.drewN iV.out m');have HKm:=aQ (show Nb (w5.drewN m') w1.heap.size (.slice xa p.pay.length xc) p.pay from NG.out.below (bS _ _));clear z0 z1 z2 z3 z4 zf;clear hzl wR FJ iV NG;generalize w5.drewN m'=w6 at *;obtain ⟨y0,y1,y2,y3,y4⟩:=aO HRm.out;go_wp2_with fail;(refine (zU p xa xc w6).mono ?_);rintro e w7 ⟨rfl,rJ⟩;clear y0 y1 y2 y3 y4;have HR7:=aQ ((rJ.block _ (lt_of_block HRm.out)).trans HRm.out);have Ur:=aQ ((rJ.block _ (lt_of_block HQm.out)).trans HQm.out);have HK7:=aQ (HKm.out.below rJ);have HB7:=aQ (HBm.out.trans (rJ.mono HBm.out.size));clear rJ;obtain ⟨y0,y1,y2,y3,y4⟩:=aO HR7.out;obtain ⟨z0,z1,z2,z3,z4⟩:=aO Ur.out;have zf:=fun i=>aD Ur.out i;have hzl:=lt_of_block Ur.out;(cases hv:iK p with|true=>(have HV:=aQ (RF.out hv);clear hv RF RD;go_wp2_with fail;obtain ⟨q0,q1,q2,q3,q4⟩:=aO (mJ Ur.out (.int .u8 (U p.kind)) (.int .i64 p.cls) (.int .i64 p.number) (.int .i64 p.value) (.slice xa p.pay.length xc));exact bodyPost_ret (v:=.tuple #[.agg #[.int .u8 (U p.kind),.int .i64 p.cls,.int .i64 p.number,.int .i64 p.value,.slice xa p.pay.length xc],.int .i64 0]) (by simp [results,Tryz.results74,go_sem,q0,q1,q2,q3,q4]) rfl (jD.mk HV.out (Nb.lower (B:=w1.heap.size) (Sl.keep HK7.out fun k hk _=>fC (by have:=HZ1.out;have hk':w1.heap.size<=k:=hk;omega) _ _ _ _ _) hws) (VK (VK (VK (VK (VK HB7.out (Vu _) _) (Vu _) _) (Vu _) _) (Vu _) _) (Vu _) _)))|false=>(have HV:=aQ (RD.out hv);clear hv RF RD;go_wp2_with fail;obtain ⟨q0,q1,q2,q3,q4⟩:=aO (mJ Ur.out (.int .u8 0) (.int .i64 0) (.int .i64 0) (.int .i64 0) (.slice none 0 0));exact bodyPost_ret (v:=.tuple #[.agg #[.int .u8 0,.int .i64 0,.int .i64 0,.int .i64 0,.slice none 0 0],.int .i64 1]) (by simp [results,Tryz.results74,go_sem,q0,q1,q2,q3,q4]) rfl (jD.zero HV.out (VK (VK (VK (VK (VK HB7.out (Vu _) _) (Vu _) _) (Vu _) _) (Vu _) _) (Vu _) _))))))))
theorem MQ (v:Value) (bs:List Byte) (w:World) (hb:By w v bs) (hm:bs.length<=100000) :
  Calls Vs 74 #[v] w (jD w bs):=by
 rcases wC bs with ⟨h,_⟩|⟨h,h2,_⟩|⟨h,h2,_⟩
 ·exact E5 v bs w hb h
 ·exact Jd v bs w hb h hm h2
 ·exact Je v bs w hb h hm h2

theorem mD {x:Byte} (h:au x=true):nM x=(idx x:Int)/\idx x < 16:=by
 have h16:idx x < 16:=by simpa [au] using h
 unfold nM;rw [if_pos (by omega)];exact ⟨rfl,h16⟩
theorem BQ {x:Byte} (h:au x=false):nM x < 0\/15 < nM x:=by
 have h16:16<=idx x:=by simpa [au] using h
 unfold nM;by_cases h20:idx x < 20
 ·rw [if_pos h20];right;omega
 ·rw [if_neg h20];left;decide
theorem CE (v:Value) (ss:List Byte) (w:World) (hb:By w v ss) (hm:ss.length<=100000) :
  Calls Vs 73 #[v] w (uk w ss):=by
 have HB:=aQ hb;obtain ⟨a,cap,rfl⟩:=hb.slice;clear hb;go_enter Tryz.func73,Tryz.ntmps73;go_wp2_with fail;go_loopw [5] (fun i wr=>∃k:Nat,k<=ss.length/\i=.int .i64 (k:Int)/\Hid (∀j,j < k->au (ss.getD j 0)=true)/\Hid (Below w.heap.size w wr)) (fun i _=>ss.length - (intOf i).toNat)
 case atStart=>exact ⟨0,by omega,by go_num,aQ (fun j hj=>by omega),aQ (Below.refl _ _)⟩
 case round=>
  obtain ⟨k,hk,rfl,Q4,iV⟩:=hrel;by_cases hlt:k < ss.length
  ·obtain ⟨_,⟨h0,_⟩|⟨bb,off,cp,e,_,_,_,hc⟩⟩:=(HB.out.below iV.out).cases
   ·rw [h0] at hlt;simp at hlt
   ·obtain ⟨rfl,rfl⟩:a=some ⟨bb,off,none⟩/\cap=cp:=by simpa using e
    have hck:=hc k hlt;clear hc e;obtain ⟨x,hx⟩:∃x,x=ss.getD k 0:=⟨_,rfl⟩;rw [<-hx] at hck;have HX:=aQ hx;clear hx;go_wp2_with fail;refine (eY x wr).mono ?_;rintro e w' ⟨rfl,hbx⟩;have NJ:=aQ (iV.out.trans (hbx.mono iV.out.size));clear hbx hck
    cases hd:au x with
    |true=>
     obtain ⟨hi,NY⟩:=mD hd;rw [hi];generalize idx x=n at *
     have Oh:Hid (∀j,j < k+1->au (ss.getD j 0)=true):=aQ (fun j hj=>by
      by_cases hjk:j=k
      ·rw [hjk,<-HX.out];exact hd
      ·exact Q4.out j (by omega))
     clear hi hd;have hn0:(0:Int)<=(n:Int)/\(n:Int)<=15:=by omega
     go_wp2_with fail;go_roundw
     case rel=>exact ⟨k+1,by omega,by go_num,Oh,NJ⟩
     case measure=>simp [intOf];omega
    |false=>
     have Uz:=aQ (Ce (BX Q4.out hlt (by rw [<-HX.out];exact hd)));have hi:=BQ hd;generalize nM x=n at *;clear hd;by_cases hn:n < 0
     ·clear hi
      go_wp2_with fail
      go_ret3
      exact uk.mk Uz.out (Nb.nil _ _) NJ.out
     ·have hn2:15 < n:=hi.resolve_left hn
      clear hi;go_wp2_with fail
      go_ret3
      exact uk.mk Uz.out (Nb.nil _ _) NJ.out
  ·have hkl:k=ss.length:=by omega
   have HAD:=aQ (Ci (ss:=ss) (by rw [<-hkl];exact Q4.out));clear hkl;by_cases hev:ss.length % 2=0
   ·have htt:((ss.length:Int) % 2 != 0)=false:=by simp;omega
    have HEV:=aQ hev;have Q3:=aQ (sO HAD.out hev);clear hev;go_wp2_with fail;go_loopw [7,8] (fun u i w2=>∃m:Nat,2*m<=ss.length/\i=.int .i64 ((2*m:Nat):Int)/\(∃a' c',u=.slice a' (jZ (ss.take (2*m))).length c')/\Hid (Nb w2 w.heap.size u (jZ (ss.take (2*m))))/\Hid (Below w.heap.size w w2)) (fun _ i _=>ss.length - (intOf i).toNat)
    case atStart=>exact ⟨0,by omega,by go_num,⟨none,0,rfl⟩,aQ (Nb.nil _ _),iV⟩
    case round=>
     obtain ⟨m,hm2,rfl,⟨ua,uc,rfl⟩,HO,HBV⟩:=hrel;by_cases hl2:2*m < ss.length
     ·have hl3:2*m+1 < ss.length:=by have:=HEV.out;omega
      obtain ⟨_,⟨h0,_⟩|⟨bb,off,cp,e,_,_,_,hc⟩⟩:=HB.out.cases
      ·rw [h0] at hl2;simp at hl2
      ·obtain ⟨rfl,rfl⟩:a=some ⟨bb,off,none⟩/\cap=cp:=by simpa using e
       have c0:=hc (2*m) hl2;have c1:=hc (2*m+1) hl3;clear hc e;have sV:=aQ (yu ss m hl3);have hdx:=HAD.out (ss.getD (2*m) 0) (by simp [Wo,hl2]);have hdy:=HAD.out (ss.getD (2*m+1) 0) (by simp [Wo,hl3]);obtain ⟨x,hx⟩:∃x,x=ss.getD (2*m) 0:=⟨_,rfl⟩;obtain ⟨y,hy⟩:∃y,y=ss.getD (2*m+1) 0:=⟨_,rfl⟩;rw [<-hx] at c0 hdx sV;rw [<-hy] at c1 hdy sV;clear hx hy;obtain ⟨hix,aad⟩:=mD hdx;obtain ⟨hiy,abj⟩:=mD hdy;clear hdx hdy;have Uv:=aQ hix;have HIY:=aQ hiy;clear hix hiy;have hxl:(jZ (ss.take (2*m))).length<=100000:=by rw [jO,VW];omega
       obtain ⟨bt,hbt⟩:∃bt:Byte,bt=BitVec.ofNat 8 (16*idx x+idx y):=⟨_,rfl⟩;rw [<-hbt] at sV;have HBT:=aQ (show (16*(idx x:Int)+(idx y:Int))=U bt by rw [hbt];unfold U;rw [BitVec.toNat_ofNat];omega);clear hbt;generalize jZ (ss.take (2*m))=xs at *;obtain ⟨kk,hkk⟩:∃kk,kk=2*m:=⟨_,rfl⟩;rw [<-hkk] at c0 c1 hl2 hl3 hm2;rw [<-hkk];have HKK:=aQ hkk;clear hkk;have hs1:IntKind.i64.wrap ((kk:Int)+1)=(kk:Int)+1:=V6 _ (by omega);have hs2:(0:Int)<=(kk:Int)+1/\(kk:Int)+1 < (ss.length:Int):=by omega
       have hs3:((kk:Int)+1).toNat=kk+1:=by omega
       have hs4:(0:Int)<=(kk:Int)/\(kk:Int) < (ss.length:Int):=by omega
       generalize hnx:idx x=nx at *;generalize hny:idx y=ny at *;have hs5:IntKind.i64.wrap (16*(nx:Int))=16*(nx:Int):=V6 _ (by omega);have hs6:IntKind.i64.wrap (16*(nx:Int)+(ny:Int))=16*(nx:Int)+(ny:Int):=V6 _ (by omega);have hs7:IntKind.u8.wrap (16*(nx:Int)+(ny:Int))=16*(nx:Int)+(ny:Int):=by rw [IntKind.wrap_u8];omega
       have HNX:=aQ hnx;have HNY:=aQ hny;clear hnx hny;go_wp2_with fail;refine wp_region_held_drew (S:=Below w.heap.size w) (by kernel_rfl) (Bw.drew HBV.out) (fun hS0=>?_);refine Φ 0 5 hS0 ?_
       iterate 5 (refine aR (v:=?_) (by rfl) ?_ ?_;rotate_left 1;(focus ((intro w' hS';have h0:=cell_later hS' c0;have h1:=cell_later hS' c1;go_simp);try with_reducible rfl));simp only [VF,ag,Ψ,ae])
       refine aT ?_;refine Φ 7 5 hS0 ?_
       iterate 5 (refine aR (v:=?_) (by rfl) ?_ ?_;rotate_left 1;(focus ((intro w' hS';have h0:=cell_later hS' c0;have h1:=cell_later hS' c1;go_simp);try with_reducible rfl));simp only [VF,ag,Ψ,ae])
       refine aT ?_;refine ah 5 (fun K hK=>?_)
       (refine ν (f:=?_) (args:=?_) (by rfl) ?_ ?_;rotate_left 2;(focus (go_simp;first|(with_reducible rfl)|(refine ⟨?_,?_⟩ <;> with_reducible rfl)));(refine ((eY x _)).mono ?_);rintro e' w'' ⟨rfl,hbx⟩)
       rw [Uv.out];refine ⟨_,rfl,?_⟩;simp only [VF,ag,Ψ,ae];have hS1:=hS0.trans (hbx.mono hS0.size);refine hK.out _ _ hS1 ?_;clear hK K;refine Φ 6 1 hS1 ?_;refine dI ?_;refine aT ?_;refine ah 12 (fun K hK=>?_)
       (refine ν (f:=?_) (args:=?_) (by rfl) ?_ ?_;rotate_left 2;(focus (go_simp;first|(with_reducible rfl)|(refine ⟨?_,?_⟩ <;> with_reducible rfl)));(refine ((eY y _)).mono ?_);rintro e' w'' ⟨rfl,hby⟩)
       rw [HIY.out];refine ⟨_,rfl,?_⟩;simp only [VF,ag,Ψ,ae];have hS2:=hS1.trans (hby.mono hS1.size);refine hK.out _ _ hS2 ?_;clear hK K;refine Φ 13 2 hS2 ?_
       iterate 2 refine dI ?_
       refine aT ?_;refine ah 15 (fun K hK=>?_);go_simp;refine hK.out _ _ (show Below w.heap.size w _ from hS2.trans ((aK _ _).mono hS2.size)) ?_;clear hK K;refine ah 16 (fun K hK=>?_);have abr:=HBV.out.size;have hw2:Below wr.heap.size wr _:=(bS wr 1).trans (hbx.trans (hby.mono hbx.size));have abV:=hS2.size;refine mV (by rfl) _ _ (by rfl) w.heap.size (.slice ua xs.length uc) xs (by rfl) (HO.out.below (hw2.trans ((aK _ _).mono hw2.size))) _ [bt] (by rfl) (eX _ _ _ _ [bt] 1 1 rfl (by rw [HBT.out];rfl) rfl (Vu _) (by decide)) (by show xs.length+1<=_;omega) (by simp;omega) ?_;intro xa xc w3 lN hb3;simp only [VF,ag,Ψ,ae];have fU:=hS2.trans (((aK _ _).mono hS2.size).trans hb3);refine hK.out _ _ fU ?_;clear hK K;have yJ:=aQ lN;have HB3:=aQ fU;clear lN hb3 fU hS2 hS1 hS0 hbx hby hw2;refine ah 17 (fun K hK=>?_);go_simp;refine hK.out _ _ HB3.out ?_;clear hK K;refine fZ ?_;go_wp2_with fail;go_roundw
       case rel=>exact ⟨m+1,by have:=HKK.out;omega,by have:=HKK.out;go_num,⟨xa,xc,by rw [sV.out,Vx];rfl⟩,aQ (by rw [sV.out];exact yJ.out),HB3⟩
       case measure=>simp [intOf];omega
     ·go_wp2_with fail
      go_ret3
      exact uk.mk Q3.out (by have:=HO.out;rw [List.take_of_length_le (by omega)] at this ⊢;exact this) HBV.out
   ·have htt:((ss.length:Int) % 2 != 0)=true:=by simp;omega
    have Q3:=aQ (Cc HAD.out hev);clear hev;go_wp2_with fail
    go_ret3
    exact uk.mk Q3.out (Nb.nil _ _) iV.out

theorem Δ {w:World} {s:Nat} {a b c:Value} {T:TypeId} (h:w.heap[s]? = some (.cells #[a,b,c] T)):w.cell? ⟨s,0,none⟩=some a/\w.cell? ⟨s,1,none⟩=some b/\w.cell? ⟨s,2,none⟩=some c:=⟨aJ (i:=0) h rfl,aJ (i:=1) h rfl,aJ (i:=2) h rfl⟩
theorem UF {w:World} {s:Nat} {a b c:Value} {T:TypeId} (h:w.heap[s]? = some (.cells #[a,b,c] T)) (x y z:Value):(((w.setCell ⟨s,0,none⟩ x).setCell ⟨s,1,none⟩ y).setCell ⟨s,2,none⟩ z).heap[s]? = some (.cells #[x,y,z] T):=by (refine aS (Ξ h) ?_);rfl
theorem kQ {w:World} {s k:Nat} (hk:k≠s) (x y z:Value):(((w.setCell ⟨s,0,none⟩ x).setCell ⟨s,1,none⟩ y).setCell ⟨s,2,none⟩ z).heap[k]? = w.heap[k]?:=
 (Wy _ _ _ _ hk).trans ((Wy _ _ _ _ hk).trans (Wy _ _ _ _ hk))
def kH (w:World) (s:Sc) (x:Byte) (e:Ending) (w':World):Prop:=∃(a:Option Addr) (c:Nat) (r:Pk) (f:Bool) (ra:Option Addr) (rc:Nat),e=.returned (.tuple #[.agg #[.bool (s.push x).1.inside,.slice a (s.push x).1.data.length c,.int .i64 ((s.push x).1.bad:Int)],.agg #[.int .u8 (U r.kind),.int .i64 r.cls,.int .i64 r.number,.int .i64 r.value,.slice ra r.pay.length rc],.bool f]) /\
 fE w' (fun k=>w.heap.size<=k) (.slice a (s.push x).1.data.length c) (s.push x).1.data/\fE w' (fun k=>w.heap.size<=k) (.slice ra r.pay.length rc) r.pay/\(s.push x).2=(if f then some r else none)/\(f=false->r=Pk.zero)/\Below w.heap.size w w'
def AX (wx:World) (m n:Nat) (u0 u1 u2 v0 v1 v2 v3 v4:Value):World:=(((((((( wx.setCell ⟨m,0,none⟩ u0).setCell ⟨m,1,none⟩ u1).setCell ⟨m,2,none⟩ u2).setCell ⟨n,0,none⟩ v0).setCell ⟨n,1,none⟩ v1).setCell ⟨n,2,none⟩ v2).setCell ⟨n,3,none⟩ v3).setCell ⟨n,4,none⟩ v4)
theorem EW {wx:World} {m n k:Nat} (h1:k≠m) (h2:k≠n) (u0 u1 u2 v0 v1 v2 v3 v4:Value):(AX wx m n u0 u1 u2 v0 v1 v2 v3 v4).heap[k]? = wx.heap[k]?:=(fC h2 _ _ _ _ _).trans (kQ h1 _ _ _)
theorem Le {wx:World} {m n:Nat} (hne:m≠n) {a b c:Value} {T:TypeId} (h:wx.heap[m]? = some (.cells #[a,b,c] T)) (u0 u1 u2 v0 v1 v2 v3 v4:Value):(AX wx m n u0 u1 u2 v0 v1 v2 v3 v4).heap[m]? = some (.cells #[u0,u1,u2] T):=(fC hne _ _ _ _ _).trans (UF h _ _ _)
theorem Ld {wx:World} {m n:Nat} (hne:m≠n) {a b c d e:Value} {T:TypeId} (h:wx.heap[n]? = some (.cells #[a,b,c,d,e] T)) (u0 u1 u2 v0 v1 v2 v3 v4:Value):(AX wx m n u0 u1 u2 v0 v1 v2 v3 v4).heap[n]? = some (.cells #[v0,v1,v2,v3,v4] T):=mJ ((kQ (Ne.symm hne) _ _ _).trans h) _ _ _ _ _
theorem EX {wx w:World} {B m n:Nat} (h:Below B w wx) (hm:B<=m) (hn:B<=n) (u0 u1 u2 v0 v1 v2 v3 v4:Value):Below B w (AX wx m n u0 u1 u2 v0 v1 v2 v3 v4):=
 (VK (VK (VK (VK (VK (VK (VK (VK h hm _) hm _) hm _) hn _) hn _) hn _) hn _) hn _)
abbrev QG (i:Bool) (a:Option Addr) (n c b:Nat):Obj:=.cells #[.bool i,.slice a n c,.int .i64 (b:Int)] 65
abbrev Ap:Obj:=.cells #[.bool false,.slice none 0 0,.int .i64 0] 65
abbrev C9:Obj:=.cells #[.int .u8 0,.int .i64 0,.int .i64 0,.int .i64 0,.slice none 0 0] 103
def Ny (w w2:World) (o:Obj):Prop:=w2.heap[w.heap.size]? = some o/\w2.heap[w.heap.size+1]? = some Ap/\w2.heap[w.heap.size+1+1]? = some C9
theorem Ny.below {w w2 w3:World} {o:Obj} {B:Nat} (h:Ny w w2 o) (hb:Below B w2 w3) (hl:w.heap.size+1+1 < B):Ny w w3 o:=⟨(hb.block _ (by omega)).trans h.1,(hb.block _ (by omega)).trans h.2.1,(hb.block _ hl).trans h.2.2⟩
theorem lX (w:World) (o:Obj):∃w1,w1=((w.alloc o).alloc Ap).alloc C9/\Ny w w1 o/\Below w.heap.size w w1:=by
 refine ⟨_,rfl,⟨?_,?_,?_⟩,by exact dC⟩
 ·exact (WA _ _ _ (by simp <;> omega)).trans ((WA _ _ _ (by simp <;> omega)).trans (heap_alloc_new w _))
 ·refine (WA _ _ _ (by simp <;> omega)).trans ?_
  have h:=heap_alloc_new (w.alloc o) Ap;rwa [WW] at h
 ·have h:=heap_alloc_new ((w.alloc o).alloc Ap) C9
  rwa [WW,WW] at h
theorem iU {wx:World} {m:Nat} (hr:wx.heap[m]? = some Ap) (hq:wx.heap[m+1]? = some C9) (u0 u1 u2 v0 v1 v2 v3 v4:Value) :
  ∀wf,wf=(((((((( wx.setCell ⟨m,0,none⟩ u0).setCell ⟨m,1,none⟩ u1).setCell ⟨m,2,none⟩ u2).setCell ⟨m+1,0,none⟩ v0).setCell ⟨m+1,1,none⟩ v1).setCell ⟨m+1,2,none⟩ v2).setCell ⟨m+1,3,none⟩ v3).setCell ⟨m+1,4,none⟩ v4) ->
   wf.cell? ⟨m,0,none⟩=some u0/\wf.cell? ⟨m,1,none⟩=some u1/\wf.cell? ⟨m,2,none⟩=some u2/\wf.cell? ⟨m+1,0,none⟩=some v0/\wf.cell? ⟨m+1,1,none⟩=some v1/\wf.cell? ⟨m+1,2,none⟩=some v2/\wf.cell? ⟨m+1,3,none⟩=some v3/\wf.cell? ⟨m+1,4,none⟩=some v4:=by
 rintro _ rfl;obtain ⟨f0,f1,f2⟩:=Δ (Le (show m≠m+1 by omega) hr u0 u1 u2 v0 v1 v2 v3 v4);obtain ⟨g0,g1,g2,g3,g4⟩:=aO (Ld (show m≠m+1 by omega) hq u0 u1 u2 v0 v1 v2 v3 v4);exact ⟨f0,f1,f2,g0,g1,g2,g3,g4⟩
theorem kH.mk {w wx:World} {s s':Sc} {x:Byte} {o:Option Pk} (hp:s.push x=(s',o)) (hb:Below w.heap.size w wx) (a:Option Addr) (c:Nat) (r:Pk) (f:Bool) (ra:Option Addr) (rc:Nat) (ho:o=(if f then some r else none)) (hr:f=false->r=Pk.zero)
  {i:Bool} {d:List Byte} {b:Int} (hi:i=s'.inside) (hd:d=s'.data) (hbb:b=(s'.bad:Int)) (h1:(By w (.slice a d.length c) d/\d=[])\/Nb wx (w.heap.size+1+1+1) (.slice a d.length c) d) (h2:Nb wx (w.heap.size+1+1+1) (.slice ra r.pay.length rc) r.pay) (u0 u1 u2 v0 v1 v2 v3 v4:Value) :
  kH w s x (.returned (.tuple #[.agg #[.bool i,.slice a d.length c,.int .i64 b],.agg #[.int .u8 (U r.kind),.int .i64 r.cls,.int .i64 r.number,.int .i64 r.value,.slice ra r.pay.length rc],.bool f])) (AX wx (w.heap.size+1) (w.heap.size+1+1) u0 u1 u2 v0 v1 v2 v3 v4):=by
 subst hi;subst hd;subst hbb;have hbf:=EX hb (Nat.le_succ _) (show w.heap.size<=w.heap.size+1+1 by omega) u0 u1 u2 v0 v1 v2 v3 v4
 have hk:∀ {v:Value} {bs:List Byte},Nb wx (w.heap.size+1+1+1) v bs->fE (AX wx (w.heap.size+1) (w.heap.size+1+1) u0 u1 u2 v0 v1 v2 v3 v4) (fun k=>w.heap.size<=k) v bs:=fun h=>by
  have h':Nb (AX wx (w.heap.size+1) (w.heap.size+1+1) u0 u1 u2 v0 v1 v2 v3 v4) (w.heap.size+1+1+1) _ _:=Sl.keep h fun k hk _=>EW (by have hk':w.heap.size+1+1+1<=k:=hk;omega) (by have hk':w.heap.size+1+1+1<=k:=hk;omega) _ _ _ _ _ _ _ _
  exact ⟨h'.by,fun _ b hb=>by have:=h'.own b hb;show w.heap.size<=b;omega⟩
 refine ⟨a,c,r,f,ra,rc,by rw [hp],?_,hk h2,by rw [hp];exact ho,hr,hbf⟩;rw [hp];exact h1.elim (fun h=>⟨h.1.below hbf,fun h0=>by rw [h.2] at h0;simp at h0⟩) hk
theorem kH.drew {w w':World} {s:Sc} {x:Byte} {e:Ending} (h:kH w s x e w'):kH w s x e w'.drew:=by
 obtain ⟨a,c,r,f,ra,rc,h1,h2,h3,h4,h5,h6⟩:=h;exact ⟨a,c,r,f,ra,rc,h1,h2.below (bS _ 1),h3.below (bS _ 1),h4,h5,Bw.drew h6⟩
section
variable {s:Sc} {w:World} {a:Option Addr} {c:Nat}
theorem Ew (hs:By w (.slice a s.data.length c) s.data) (hb:s.bad < 900000) :
  Calls Vs 40 #[.agg #[.bool s.inside,.slice a s.data.length c,.int .i64 (s.bad:Int)],.int .u8 (U (49:Byte))] w (kH w s 49):=by
 have HP:=aQ (zq s);have HV:=aQ hs;clear hs;obtain ⟨si,sd,ib⟩:=s;dsimp only at HV hb HP ⊢
 cases si
 ·go_enter Tryz.func40,Tryz.ntmps40;go_wp2_with fail;obtain ⟨w1,hw1,h3,hb1⟩:=lX w (QG false a sd.length c ib);rw [<-hw1];clear hw1;(refine (eY 49 w1).mono ?_);rintro e w2 ⟨rfl,hb⟩;obtain ⟨hs2,hr2,hq2⟩:=h3.below hb (lt_of_block h3.2.2);have HS2:=aQ hs2;have HR2:=aQ hr2;have fA:=aQ hq2;have HB2:=aQ (hb1.trans (hb.mono hb1.size));clear hb h3 hb1 hs2 hr2 hq2;obtain ⟨s0,s1,s2⟩:=Δ HS2.out;have sf:=fun i=>aD HS2.out i;obtain ⟨r0,r1,r2⟩:=Δ HR2.out;have rf:=fun i=>aD HR2.out i;obtain ⟨q0,q1,q2,q3,q4⟩:=aO fA.out;have qf:=fun i=>aD fA.out i;have hsl:=lt_of_block HS2.out;have hrl:=lt_of_block HR2.out;have uy:=lt_of_block fA.out
  go_wp2_with fail;have hrx:(w2).heap[w.heap.size+1]? = some Ap:=(by first|exact HR2.out|((refine aS (fe HR2.out) ?_);rfl));have pY:(w2).heap[w.heap.size+1+1]? = some C9:=(by first|exact fA.out|((refine aS (fe fA.out) ?_);rfl));have hf:=iU hrx pY (.bool true) (.slice none ([]:List Byte).length 0) (.int .i64 ((ib:Nat):Int)) (.int .u8 0) (.int .i64 0) (.int .i64 0) (.int .i64 0) (.slice none 0 0) _ rfl;(try simp only [Vx] at hf);(try simp only [VZ] at hf);(try simp only [Ws] at hf);(try simp only [V5] at hf);obtain ⟨f0,f1,f2,g0,g1,g2,g3,g4⟩:=hf;exact bodyPost_ret (v:=.tuple #[.agg #[.bool true,.slice none ([]:List Byte).length 0,.int .i64 ((ib:Nat):Int)],.agg #[.int .u8 0,.int .i64 0,.int .i64 0,.int .i64 0,.slice none 0 0],.bool false]) (by simp [results,Tryz.results40,go_sem,f0,f1,f2,g0,g1,g2,g3,g4]) rfl (kH.mk HP.out (w:=w) (wx:=w2) HB2.out none 0 Pk.zero false none 0 rfl (fun _=>rfl) (d:=[]) rfl rfl rfl (.inl ⟨By.of_nil w,rfl⟩) (Nb.nil _ _) _ _ _ _ _ _ _ _)
 ·go_enter Tryz.func40,Tryz.ntmps40;go_wp2_with fail;obtain ⟨w1,hw1,h3,hb1⟩:=lX w (QG true a sd.length c ib);rw [<-hw1];clear hw1;(refine (eY 49 w1).mono ?_);rintro e w2 ⟨rfl,hb⟩;obtain ⟨hs2,hr2,hq2⟩:=h3.below hb (lt_of_block h3.2.2);have HS2:=aQ hs2;have HR2:=aQ hr2;have fA:=aQ hq2;have HB2:=aQ (hb1.trans (hb.mono hb1.size));clear hb h3 hb1 hs2 hr2 hq2;obtain ⟨s0,s1,s2⟩:=Δ HS2.out;have sf:=fun i=>aD HS2.out i;obtain ⟨r0,r1,r2⟩:=Δ HR2.out;have rf:=fun i=>aD HR2.out i;obtain ⟨q0,q1,q2,q3,q4⟩:=aO fA.out;have qf:=fun i=>aD fA.out i;have hsl:=lt_of_block HS2.out;have hrl:=lt_of_block HR2.out;have uy:=lt_of_block fA.out
  go_wp2_with fail;have hrx:((w2.setCell ⟨w.heap.size,2,none⟩ (.int .i64 ((ib:Int)+1)))).heap[w.heap.size+1]? = some Ap:=(by first|exact HR2.out|((refine aS (fe HR2.out) ?_);rfl));have pY:((w2.setCell ⟨w.heap.size,2,none⟩ (.int .i64 ((ib:Int)+1)))).heap[w.heap.size+1+1]? = some C9:=(by first|exact fA.out|((refine aS (fe fA.out) ?_);rfl));have hf:=iU hrx pY (.bool true) (.slice none ([]:List Byte).length 0) (.int .i64 ((ib:Int)+1)) (.int .u8 0) (.int .i64 0) (.int .i64 0) (.int .i64 0) (.slice none 0 0) _ rfl;(try simp only [Vx] at hf);(try simp only [VZ] at hf);(try simp only [Ws] at hf);(try simp only [V5] at hf);obtain ⟨f0,f1,f2,g0,g1,g2,g3,g4⟩:=hf;exact bodyPost_ret (v:=.tuple #[.agg #[.bool true,.slice none ([]:List Byte).length 0,.int .i64 ((ib:Int)+1)],.agg #[.int .u8 0,.int .i64 0,.int .i64 0,.int .i64 0,.slice none 0 0],.bool false]) (by simp [results,Tryz.results40,go_sem,f0,f1,f2,g0,g1,g2,g3,g4]) rfl (kH.mk HP.out (w:=w) (wx:=(w2.setCell ⟨w.heap.size,2,none⟩ (.int .i64 ((ib:Int)+1)))) (HB2.out.setCell (Vu _) _) none 0 Pk.zero false none 0 rfl (fun _=>rfl) (d:=[]) rfl rfl (by show (ib:Int)+1=((ib+1:Nat):Int);omega) (.inl ⟨By.of_nil w,rfl⟩) (Nb.nil _ _) _ _ _ _ _ _ _ _)
theorem L_ {x : Byte} (hx : x ≠ 49) (hi : s.inside = false) (hd0 : s.data = []) (hs : By w (.slice a s.data.length c) s.data) (hb : s.bad < 900000) :
    Calls Vs 40 #[.agg #[.bool s.inside, .slice a s.data.length c, .int .i64 (s.bad : Int)], .int .u8 (U x)] w (kH w s x) := by
  have HP := aQ (Bz hx hi);have HV := aQ hs;have HD0 := aQ hd0;clear hs hd0;obtain ⟨si, sd, ib⟩ := s;dsimp only at HV hb HP hi HD0 ⊢;subst hi
  have hne : (U x == 49) = false := by
    rw [XH]; intro h; exact hx (by have h2 : U x = 49 := by simpa using h
                                   apply Wz; have h3 : ((x.toNat : Nat) : Int) = 49 := h2; show x.toNat = 49; omega)
  clear hx;go_enter Tryz.func40, Tryz.ntmps40; go_wp2_with fail; obtain ⟨w1, hw1, h3, hb1⟩ := lX w (QG false a sd.length c ib); rw [← hw1]; clear hw1; (refine (eY x w1).mono ?_); rintro e w2 ⟨rfl, hb⟩; obtain ⟨hs2, hr2, hq2⟩ := h3.below hb (lt_of_block h3.2.2); have HS2 := aQ hs2; have HR2 := aQ hr2; have fA := aQ hq2; have HB2 := aQ (hb1.trans (hb.mono hb1.size)); clear hb h3 hb1 hs2 hr2 hq2; obtain ⟨s0, s1, s2⟩ := Δ HS2.out; have sf := fun i => aD HS2.out i; obtain ⟨r0, r1, r2⟩ := Δ HR2.out; have rf := fun i => aD HR2.out i; obtain ⟨q0, q1, q2, q3, q4⟩ := aO fA.out; have qf := fun i => aD fA.out i; have hsl := lt_of_block HS2.out; have hrl := lt_of_block HR2.out; have uy := lt_of_block fA.out
  go_wp2_with fail;have hrx : (w2).heap[w.heap.size + 1]? = some Ap := (by first | exact HR2.out | ((refine aS (fe HR2.out) ?_); rfl)); have pY : (w2).heap[w.heap.size + 1 + 1]? = some C9 := (by first | exact fA.out | ((refine aS (fe fA.out) ?_); rfl)); have hf := iU hrx pY (.bool false) (.slice a (sd : List Byte).length c) (.int .i64 ((ib : Nat) : Int)) (.int .u8 0) (.int .i64 0) (.int .i64 0) (.int .i64 0) (.slice none 0 0) _ rfl; (try simp only [Vx] at hf); (try simp only [VZ] at hf); (try simp only [Ws] at hf); (try simp only [V5] at hf); obtain ⟨f0, f1, f2, g0, g1, g2, g3, g4⟩ := hf; exact bodyPost_ret (v := .tuple #[.agg #[.bool false, .slice a (sd : List Byte).length c, .int .i64 ((ib : Nat) : Int)], .agg #[.int .u8 0, .int .i64 0, .int .i64 0, .int .i64 0, .slice none 0 0], .bool false]) (by simp [results, Tryz.results40, go_sem, f0, f1, f2, g0, g1, g2, g3, g4]) rfl (kH.mk HP.out (w := w) (wx := w2) HB2.out a c Pk.zero false none 0 rfl (fun _ => rfl) (d := sd) rfl rfl rfl (.inl ⟨HV.out, HD0.out⟩) (Nb.nil _ _) _ _ _ _ _ _ _ _)
theorem Oa {x y:Byte} (h:x≠y) (n:Int) (hn:U y=n):(U x == n)=false:=by
 rw [XH];intro h2;have h3:U x=U y:=by rw [hn];simpa using h2
 apply h;apply Wz;have h4:((x.toNat:Nat):Int)=((y.toNat:Nat):Int):=h3;omega
theorem Iu {x:Byte} (hx:au x=true) (hi:s.inside=true) (hl:s.data.length < 162) (hs:By w (.slice a s.data.length c) s.data) (hb:s.bad < 900000) :
  Calls Vs 40 #[.agg #[.bool s.inside,.slice a s.data.length c,.int .i64 (s.bad:Int)],.int .u8 (U x)] w (kH w s x):=by
 have HP:=aQ (xV hx hi hl);have HV:=aQ hs;clear hs;obtain ⟨si,sd,ib⟩:=s;dsimp only at HV hb HP hi hl ⊢;subst hi;have hne:(U x == 49)=false:=Oa (lu x hx).1 49 rfl;have hne2:(U x == 50)=false:=Oa (lu x hx).2 50 rfl;obtain ⟨hix,aad⟩:=mD hx;have Uv:=aQ hix;clear hx hix;go_enter Tryz.func40,Tryz.ntmps40;go_wp2_with fail;obtain ⟨w1,hw1,h3,hb1⟩:=lX w (QG true a sd.length c ib);rw [<-hw1];clear hw1;(refine (eY x w1).mono ?_);rintro e w2 ⟨rfl,hb⟩;obtain ⟨hs2,hr2,hq2⟩:=h3.below hb (lt_of_block h3.2.2);have HS2:=aQ hs2;have HR2:=aQ hr2;have fA:=aQ hq2;have HB2:=aQ (hb1.trans (hb.mono hb1.size));clear hb h3 hb1 hs2 hr2 hq2;obtain ⟨s0,s1,s2⟩:=Δ HS2.out;have sf:=fun i=>aD HS2.out i;obtain ⟨r0,r1,r2⟩:=Δ HR2.out;have rf:=fun i=>aD HR2.out i;obtain ⟨q0,q1,q2,q3,q4⟩:=aO fA.out;have qf:=fun i=>aD fA.out i;have hsl:=lt_of_block HS2.out;have hrl:=lt_of_block HR2.out;have uy:=lt_of_block fA.out
 rw [Uv.out];generalize idx x=n at *;have hn0:(0:Int)<=(n:Int)/\(n:Int)<=15:=by omega
 have UN:=HB2.out.size;have iN:=aQ uy;have UE:True:=trivial
 go_wp2_with (first
  |(at_builtin;have _t:=UE;refine ai rfl _ _ rfl w2.heap.size (.slice (some ⟨w2.heap.size,0,none⟩) 0 0) [] rfl (Nb.lit w2 w2.heap.size [] #[] 0 rfl (Vu _) rfl rfl (by decide)) (.slice a sd.length c) sd rfl (HV.out.below (HB2.out.trans ((aK w2 _).mono UN))) (by show 0+_<=_;omega) (by simp) ?_;intro xa xc w3 lN hb3;simp only [Ws,V5,WT] at lN ⊢;clear UE;have Rt:=(aK w2 (.cells #[] 5)).trans hb3;have yJ:=aQ lN;have HB3:=aQ Rt;(obtain ⟨Fz,hrr,yH⟩:=Ny.below ⟨HS2.out,HR2.out,fA.out⟩ Rt (by have:=iN.out;omega);clear HS2 HR2 fA;clear s0 s1 s2 sf r0 r1 r2 rf q0 q1 q2 q3 q4 qf hsl hrl uy;have HS2:=aQ Fz;have HR2:=aQ hrr;have fA:=aQ yH;clear Fz hrr yH;obtain ⟨s0,s1,s2⟩:=Δ HS2.out;have sf:=fun i=>aD HS2.out i;obtain ⟨r0,r1,r2⟩:=Δ HR2.out;have rf:=fun i=>aD HR2.out i;obtain ⟨q0,q1,q2,q3,q4⟩:=aO fA.out;have qf:=fun i=>aD fA.out i;have hsl:=lt_of_block HS2.out;have hrl:=lt_of_block HR2.out;have uy:=lt_of_block fA.out);clear lN hb3 Rt)
  |(at_builtin;refine ai rfl _ _ rfl w2.heap.size (.slice xa sd.length xc) sd rfl (yJ.out.below (aK w3 _)) (.slice (some ⟨w3.heap.size,0,none⟩) 1 1) [x] rfl (eX _ _ _ _ [x] 1 1 rfl rfl rfl (Vu _) (by decide)) (by show sd.length+1<=_;omega) (by simp;have:=HB3.out.size;omega) ?_;intro ya yc w4 nI hb4;have AR:=((aK w3 (.cells #[.int .u8 (U x)] 5)).mono HB3.out.size).trans hb4;have FK:=aQ nI;have ui:=aQ (HB3.out.trans AR);(obtain ⟨Fz,hrr,yH⟩:=Ny.below ⟨HS2.out,HR2.out,fA.out⟩ AR (by have:=iN.out;omega);clear HS2 HR2 fA;clear s0 s1 s2 sf r0 r1 r2 rf q0 q1 q2 q3 q4 qf hsl hrl uy;have HS2:=aQ Fz;have HR2:=aQ hrr;have fA:=aQ yH;clear Fz hrr yH;obtain ⟨s0,s1,s2⟩:=Δ HS2.out;have sf:=fun i=>aD HS2.out i;obtain ⟨r0,r1,r2⟩:=Δ HR2.out;have rf:=fun i=>aD HR2.out i;obtain ⟨q0,q1,q2,q3,q4⟩:=aO fA.out;have qf:=fun i=>aD fA.out i;have hsl:=lt_of_block HS2.out;have hrl:=lt_of_block HR2.out;have uy:=lt_of_block fA.out);clear nI hb4 AR))
 have HBF:=aQ (HB2.out.trans (ui.out.mono UN))
 have HNF:=aQ (show Nb (w4.setCell ⟨w.heap.size,1,none⟩ (.slice ya (sd.length+1) yc)) (w.heap.size+1+1+1) (.slice ya (sd++[x]).length yc) (sd++[x]) by
  rw [Vx];exact Nb.lower (B:=w2.heap.size) (Sl.keep FK.out fun k hk _=>Wy _ _ _ _ (by show k≠w.heap.size;have hk':w2.heap.size<=k:=hk;have:=iN.out;omega)) (by have:=iN.out;omega))
 have hrx:((w4.setCell ⟨w.heap.size,1,none⟩ (.slice ya (sd.length+1) yc))).heap[w.heap.size+1]? = some Ap:=(by first|exact HR2.out|((refine aS (fe HR2.out) ?_);rfl));have pY:((w4.setCell ⟨w.heap.size,1,none⟩ (.slice ya (sd.length+1) yc))).heap[w.heap.size+1+1]? = some C9:=(by first|exact fA.out|((refine aS (fe fA.out) ?_);rfl));have hf:=iU hrx pY (.bool true) (.slice ya ((sd++[x]):List Byte).length yc) (.int .i64 ((ib:Nat):Int)) (.int .u8 0) (.int .i64 0) (.int .i64 0) (.int .i64 0) (.slice none 0 0) _ rfl;(try simp only [Vx] at hf);(try simp only [VZ] at hf);(try simp only [Ws] at hf);(try simp only [V5] at hf);obtain ⟨f0,f1,f2,g0,g1,g2,g3,g4⟩:=hf;exact bodyPost_ret (v:=.tuple #[.agg #[.bool true,.slice ya ((sd++[x]):List Byte).length yc,.int .i64 ((ib:Nat):Int)],.agg #[.int .u8 0,.int .i64 0,.int .i64 0,.int .i64 0,.slice none 0 0],.bool false]) (by simp [results,Tryz.results40,go_sem,f0,f1,f2,g0,g1,g2,g3,g4]) rfl (kH.mk HP.out (w:=w) (wx:=(w4.setCell ⟨w.heap.size,1,none⟩ (.slice ya (sd.length+1) yc))) (HBF.out.setCell (Vu _) _) ya yc Pk.zero false none 0 rfl (fun _=>rfl) (d:=(sd++[x])) rfl rfl rfl (.inr HNF.out) (Nb.nil _ _) _ _ _ _ _ _ _ _)
theorem Mc {x:Byte} (hx:x≠49) (hx2:x≠50) (hi:s.inside=true) (hl:¬(au x=true/\s.data.length < 162)) (hs:By w (.slice a s.data.length c) s.data) (hb:s.bad < 900000) :
  Calls Vs 40 #[.agg #[.bool s.inside,.slice a s.data.length c,.int .i64 (s.bad:Int)],.int .u8 (U x)] w (kH w s x):=by
 have HP:=aQ (og hx hi hl (fun hh=>hx2 hh.1));have HV:=aQ hs;clear hs;obtain ⟨si,sd,ib⟩:=s;dsimp only at HV hb HP hi hl ⊢;subst hi;have hne:(U x == 49)=false:=Oa hx 49 rfl;have hne2:(U x == 50)=false:=Oa hx2 50 rfl
 have hcase:(0<=nM x/\nM x<=15/\162<=sd.length)\/nM x < 0\/(0<=nM x/\15 < nM x):=by
  cases hd:au x with
  |true=>
   obtain ⟨h1,h2⟩:=mD hd;exact .inl ⟨by omega,by omega,by rw [hd] at hl;have:¬sd.length < 162:=fun h=>hl ⟨rfl,h⟩;omega⟩
  |false=>
   rcases BQ hd with h|h
   ·exact .inr (.inl h)
   ·exact .inr (.inr ⟨by omega,h⟩)
 clear hx hx2 hl
 rcases hcase with ⟨h1,h2,h3⟩|h1|⟨h1,h2⟩
 all_goals
  go_enter Tryz.func40,Tryz.ntmps40;go_wp2_with fail;obtain ⟨w1,hw1,h3,hb1⟩:=lX w (QG true a sd.length c ib);rw [<-hw1];clear hw1;(refine (eY x w1).mono ?_);rintro e w2 ⟨rfl,hb⟩;obtain ⟨hs2,hr2,hq2⟩:=h3.below hb (lt_of_block h3.2.2);have HS2:=aQ hs2;have HR2:=aQ hr2;have fA:=aQ hq2;have HB2:=aQ (hb1.trans (hb.mono hb1.size));clear hb h3 hb1 hs2 hr2 hq2;obtain ⟨s0,s1,s2⟩:=Δ HS2.out;have sf:=fun i=>aD HS2.out i;obtain ⟨r0,r1,r2⟩:=Δ HR2.out;have rf:=fun i=>aD HR2.out i;obtain ⟨q0,q1,q2,q3,q4⟩:=aO fA.out;have qf:=fun i=>aD fA.out i;have hsl:=lt_of_block HS2.out;have hrl:=lt_of_block HR2.out;have uy:=lt_of_block fA.out
  generalize nM x=n at *;go_wp2_with fail;have hrx:(w2).heap[w.heap.size+1]? = some Ap:=(by first|exact HR2.out|((refine aS (fe HR2.out) ?_);rfl));have pY:(w2).heap[w.heap.size+1+1]? = some C9:=(by first|exact fA.out|((refine aS (fe fA.out) ?_);rfl));have hf:=iU hrx pY (.bool false) (.slice none ([]:List Byte).length 0) (.int .i64 ((ib:Int)+1)) (.int .u8 0) (.int .i64 0) (.int .i64 0) (.int .i64 0) (.slice none 0 0) _ rfl;(try simp only [Vx] at hf);(try simp only [VZ] at hf);(try simp only [Ws] at hf);(try simp only [V5] at hf);obtain ⟨f0,f1,f2,g0,g1,g2,g3,g4⟩:=hf;exact bodyPost_ret (v:=.tuple #[.agg #[.bool false,.slice none ([]:List Byte).length 0,.int .i64 ((ib:Int)+1)],.agg #[.int .u8 0,.int .i64 0,.int .i64 0,.int .i64 0,.slice none 0 0],.bool false]) (by simp [results,Tryz.results40,go_sem,f0,f1,f2,g0,g1,g2,g3,g4]) rfl (kH.mk HP.out (w:=w) (wx:=w2) HB2.out none 0 Pk.zero false none 0 rfl (fun _=>rfl) (d:=[]) rfl rfl (by show (ib:Int)+1=((ib+1:Nat):Int);omega) (.inl ⟨By.of_nil w,rfl⟩) (Nb.nil _ _) _ _ _ _ _ _ _ _)
theorem Ma (hi:s.inside=true) (hs:By w (.slice a s.data.length c) s.data) (hb:s.bad < 900000) (hlen:s.data.length<=1000) :
  Calls Vs 40 #[.agg #[.bool s.inside,.slice a s.data.length c,.int .i64 (s.bad:Int)],.int .u8 (U (50:Byte))] w (kH w s 50):=by
 have QX:=aQ (fun p he hp=>BB (p:=p) hi he hp);have QY:=aQ (fun he=>og (x:=50) (by decide) hi (fun hh=>absurd hh.1 (by decide)) he);have HV:=aQ hs;clear hs;obtain ⟨si,sd,ib⟩:=s;dsimp only at HV hb QX QY hi hlen ⊢;subst hi;have Uv:Hid (nM 50=17):=aQ (by decide);go_enter Tryz.func40,Tryz.ntmps40;go_wp2_with fail;obtain ⟨w1,hw1,h3,hb1⟩:=lX w (QG true a sd.length c ib);rw [<-hw1];clear hw1;(refine (eY 50 w1).mono ?_);rintro e w2 ⟨rfl,hb⟩;obtain ⟨hs2,hr2,hq2⟩:=h3.below hb (lt_of_block h3.2.2);have HS2:=aQ hs2;have HR2:=aQ hr2;have fA:=aQ hq2;have HB2:=aQ (hb1.trans (hb.mono hb1.size));clear hb h3 hb1 hs2 hr2 hq2;obtain ⟨s0,s1,s2⟩:=Δ HS2.out;have sf:=fun i=>aD HS2.out i;obtain ⟨r0,r1,r2⟩:=Δ HR2.out;have rf:=fun i=>aD HR2.out i;obtain ⟨q0,q1,q2,q3,q4⟩:=aO fA.out;have qf:=fun i=>aD fA.out i;have hsl:=lt_of_block HS2.out;have hrl:=lt_of_block HR2.out;have uy:=lt_of_block fA.out
 rw [Uv.out];have iN:=aQ uy;go_wp2_with fail;refine (CE _ sd w2 (HV.out.below HB2.out) (by omega)).mono ?_;rintro e w3 ⟨bv,rfl,lN,hb3⟩;have hbn:=lN.by;obtain ⟨ba,bc,rfl⟩:=hbn.slice;have yJ:=aQ hbn
 have gK:=aQ (show (ik sd).1.length<=1000 by
  unfold ik;split
  ·simp
  ·split
   ·show (jZ sd).length<=_;rw [jO];omega
   ·simp)
 (obtain ⟨Fz,hrr,yH⟩:=Ny.below ⟨HS2.out,HR2.out,fA.out⟩ hb3 (by have:=iN.out;omega);clear HS2 HR2 fA;clear s0 s1 s2 sf r0 r1 r2 rf q0 q1 q2 q3 q4 qf hsl hrl uy;have HS2:=aQ Fz;have HR2:=aQ hrr;have fA:=aQ yH;clear Fz hrr yH;obtain ⟨s0,s1,s2⟩:=Δ HS2.out;have sf:=fun i=>aD HS2.out i;obtain ⟨r0,r1,r2⟩:=Δ HR2.out;have rf:=fun i=>aD HR2.out i;obtain ⟨q0,q1,q2,q3,q4⟩:=aO fA.out;have qf:=fun i=>aD fA.out i;have hsl:=lt_of_block HS2.out;have hrl:=lt_of_block HR2.out;have uy:=lt_of_block fA.out)
 have HB3:=aQ (HB2.out.trans (hb3.mono HB2.out.size));have HL3:=aQ (VX iN.out hb3.size);clear lN hb3 hbn;obtain ⟨r,hr⟩:∃r,r=ik sd:=⟨_,rfl⟩;rw [<-hr] at yJ gK ⊢;have HR:=aQ hr;clear hr;obtain ⟨bs,n2,e2⟩:=r;dsimp only at yJ gK ⊢;go_wp2_with fail;refine (MQ _ bs w3 yJ.out (by have:=gK.out;omega)).mono ?_;rintro e w4 ⟨ra,rc,rfl,nI,hb4⟩;clear iN;have iN:=HL3
 (obtain ⟨Fz,hrr,yH⟩:=Ny.below ⟨HS2.out,HR2.out,fA.out⟩ hb4 (by have:=iN.out;omega);clear HS2 HR2 fA;clear s0 s1 s2 sf r0 r1 r2 rf q0 q1 q2 q3 q4 qf hsl hrl uy;have HS2:=aQ Fz;have HR2:=aQ hrr;have fA:=aQ yH;clear Fz hrr yH;obtain ⟨s0,s1,s2⟩:=Δ HS2.out;have sf:=fun i=>aD HS2.out i;obtain ⟨r0,r1,r2⟩:=Δ HR2.out;have rf:=fun i=>aD HR2.out i;obtain ⟨q0,q1,q2,q3,q4⟩:=aO fA.out;have qf:=fun i=>aD fA.out i;have hsl:=lt_of_block HS2.out;have hrl:=lt_of_block HR2.out;have uy:=lt_of_block fA.out)
 have ui:=aQ (HB3.out.trans (hb4.mono HB3.out.size));have FK:=aQ nI;clear nI hb4;obtain ⟨q,hq⟩:∃q,q=gL bs:=⟨_,rfl⟩;rw [<-hq] at FK ⊢;have HPQ:=aQ hq;clear hq;obtain ⟨q,qf'⟩:=q;dsimp only at FK ⊢;go_upto_region 14 with (fail)
 obtain ⟨w5,wL⟩:∃w5,w5=w4.alloc (.cells #[.int .u8 (U q.kind),.int .i64 q.cls,.int .i64 q.number,.int .i64 q.value,.slice ra q.pay.length rc] 103):=⟨_,rfl⟩;rw [<-wL];have hb5:Below w4.heap.size w4 w5:=by rw [wL];exact aK w4 _
 have Tn:=aQ (show w5.heap[w4.heap.size]? = some (.cells #[.int .u8 (U q.kind),.int .i64 q.cls,.int .i64 q.number,.int .i64 q.value,.slice ra q.pay.length rc] 103) by rw [wL];exact heap_alloc_new w4 _);have h45:w4.heap.size < w5.heap.size:=lt_of_block Tn.out;clear wL;have HL4:=aQ uy;clear iN;have iN:=HL4
 (obtain ⟨Fz,hrr,yH⟩:=Ny.below ⟨HS2.out,HR2.out,fA.out⟩ hb5 (by have:=iN.out;omega);clear HS2 HR2 fA;clear s0 s1 s2 sf r0 r1 r2 rf q0 q1 q2 q3 q4 qf hsl hrl uy;have HS2:=aQ Fz;have HR2:=aQ hrr;have fA:=aQ yH;clear Fz hrr yH;obtain ⟨s0,s1,s2⟩:=Δ HS2.out;have sf:=fun i=>aD HS2.out i;obtain ⟨r0,r1,r2⟩:=Δ HR2.out;have rf:=fun i=>aD HR2.out i;obtain ⟨q0,q1,q2,q3,q4⟩:=aO fA.out;have qf:=fun i=>aD fA.out i;have hsl:=lt_of_block HS2.out;have hrl:=lt_of_block HR2.out;have uy:=lt_of_block fA.out)
 have rH:=aQ (ui.out.trans (hb5.mono ui.out.size));have wN:=aQ (FK.out.below hb5);clear hb5;obtain ⟨y0,y1,y2,y3,y4⟩:=aO Tn.out;by_cases hok:e2=0/\qf'=0
 ·obtain ⟨rfl,rfl⟩:=hok
  have HP:=aQ (QX.out q (by rw [<-HR.out]) (by rw [<-HR.out];exact HPQ.out.symm));clear QX QY;go_wp2_with fail;refine wp_region_held_drew (S:=fun w'=>w'.heap[w.heap.size]? = some (.cells #[.bool true,.slice a sd.length c,.int .i64 (ib:Int)] 65)/\w'.heap[w4.heap.size]? = some (.cells #[.int .u8 (U q.kind),.int .i64 q.cls,.int .i64 q.number,.int .i64 q.value,.slice ra q.pay.length rc] 103)) (by kernel_rfl) ⟨HS2.out,Tn.out⟩ (fun hS0=>?_);refine Φ 0 4 hS0 ?_
  iterate 4 (refine aR (v:=?_) (by rfl) ?_ ?_;rotate_left 1;(focus ((intro w' hS';obtain ⟨k0,k1,k2⟩:=Δ hS'.1;obtain ⟨l0,l1,l2,l3,l4⟩:=aO hS'.2;clear hS';go_simp);try with_reducible rfl));simp only [VF,ag,Ψ,ae])
  refine aT ?_;refine ah 4 (fun K hK=>?_);go_simp;have hne1:w.heap.size≠w.heap.size+1:=by omega
  have hne2:w4.heap.size≠w.heap.size+1:=by have:=iN.out;omega
  have aaL:w4.heap.size≠w.heap.size+1+1:=by have:=iN.out;omega
  obtain ⟨w6,yG⟩:∃w6,w6=(((w5.setCell ⟨w.heap.size+1,0,none⟩ (.bool false)).setCell ⟨w.heap.size+1,1,none⟩ (.slice none 0 0)).setCell ⟨w.heap.size+1,2,none⟩ (.int .i64 (ib:Int))):=⟨_,rfl⟩;have HS6:=aQ (show w6.heap[w.heap.size]? = some (.cells #[.bool true,.slice a sd.length c,.int .i64 (ib:Int)] 65) by rw [yG];exact (kQ hne1 _ _ _).trans HS2.out);have HY6:=aQ (show w6.heap[w4.heap.size]? = some (.cells #[.int .u8 (U q.kind),.int .i64 q.cls,.int .i64 q.number,.int .i64 q.value,.slice ra q.pay.length rc] 103) by rw [yG];exact (kQ hne2 _ _ _).trans Tn.out);have NB:=aQ (show w6.heap[w.heap.size+1+1]? = some (.cells #[.int .u8 0,.int .i64 0,.int .i64 0,.int .i64 0,.slice none 0 0] 103) by rw [yG];exact (kQ (by omega) _ _ _).trans fA.out);have HW6:=aQ yG;rw [<-yG];clear yG;refine hK.out _ _ ⟨HS6.out,HY6.out⟩ ?_;clear hK K;clear s0 s1 s2 sf r0 r1 r2 rf q0 q1 q2 q3 q4 qf hsl hrl uy;clear y0 y1 y2 y3 y4;obtain ⟨q0,q1,q2,q3,q4⟩:=aO NB.out;have qf:=fun i=>aD NB.out i
  have uy:=lt_of_block NB.out;refine ah 5 (fun K hK=>?_);go_simp;obtain ⟨w7,hw7⟩:∃w7,w7=((((w6.setCell ⟨w.heap.size+1+1,0,none⟩ (.int .u8 (U q.kind))).setCell ⟨w.heap.size+1+1,1,none⟩ (.int .i64 q.cls)).setCell ⟨w.heap.size+1+1,2,none⟩ (.int .i64 q.number)).setCell ⟨w.heap.size+1+1,3,none⟩ (.int .i64 q.value)).setCell ⟨w.heap.size+1+1,4,none⟩ (.slice ra q.pay.length rc):=⟨_,rfl⟩;have Tt:=aQ (show w7.heap[w.heap.size]? = some (.cells #[.bool true,.slice a sd.length c,.int .i64 (ib:Int)] 65) by rw [hw7];exact (fC (by omega) _ _ _ _ _).trans HS6.out);have HY7:=aQ (show w7.heap[w4.heap.size]? = some (.cells #[.int .u8 (U q.kind),.int .i64 q.cls,.int .i64 q.number,.int .i64 q.value,.slice ra q.pay.length rc] 103) by rw [hw7];exact (fC aaL _ _ _ _ _).trans HY6.out);have HW7:=aQ hw7;rw [<-hw7];clear hw7;refine hK.out _ _ ⟨Tt.out,HY7.out⟩ ?_;clear hK K;clear q0 q1 q2 q3 q4 qf uy;refine ah 6 (fun K hK=>?_);go_simp;refine hK.out _ _ ⟨Tt.out,HY7.out⟩ ?_;clear hK K;refine fZ ?_;go_wp2_with fail;have hfin:AX w5 (w.heap.size+1) (w.heap.size+1+1) (.bool false) (.slice none 0 0) (.int .i64 (ib:Int)) (.int .u8 (U q.kind)) (.int .i64 q.cls) (.int .i64 q.number) (.int .i64 q.value) (.slice ra q.pay.length rc)=w7:=by rw [HW7.out,HW6.out];rfl
  have Ar:=kH.mk HP.out (w:=w) (wx:=w5) rH.out none 0 q true ra rc rfl (fun h=>by cases h) (d:=[]) rfl rfl rfl (.inl ⟨By.of_nil w,rfl⟩) (wN.out.lower (by have:=HL3.out;omega)) (.bool false) (.slice none 0 0) (.int .i64 (ib:Int)) (.int .u8 (U q.kind)) (.int .i64 q.cls) (.int .i64 q.number) (.int .i64 q.value) (.slice ra q.pay.length rc);have hg1:=Le (show w.heap.size+1≠w.heap.size+1+1 by omega) HR2.out (.bool false) (.slice none 0 0) (.int .i64 (ib:Int)) (.int .u8 (U q.kind)) (.int .i64 q.cls) (.int .i64 q.number) (.int .i64 q.value) (.slice ra q.pay.length rc);have hg2:=Ld (show w.heap.size+1≠w.heap.size+1+1 by omega) fA.out (.bool false) (.slice none 0 0) (.int .i64 (ib:Int)) (.int .u8 (U q.kind)) (.int .i64 q.cls) (.int .i64 q.number) (.int .i64 q.value) (.slice ra q.pay.length rc);rw [hfin] at Ar hg1 hg2;clear hfin;obtain ⟨f0,f1,f2⟩:=Δ hg1;obtain ⟨g0,g1,g2,g3,g4⟩:=aO hg2;exact bodyPost_ret (v:=.tuple #[.agg #[.bool false,.slice none 0 0,.int .i64 (ib:Int)],.agg #[.int .u8 (U q.kind),.int .i64 q.cls,.int .i64 q.number,.int .i64 q.value,.slice ra q.pay.length rc],.bool true]) (by simp [results,Tryz.results40,go_sem,f0,f1,f2,g0,g1,g2,g3,g4]) rfl Ar.drew
 ·have HP:=aQ (QY.out (fun hh=>hok (by have h1:=hh.2.1;have h2:=hh.2.2;rw [<-HR.out] at h1 h2;dsimp only at h1 h2;rw [<-HPQ.out] at h2;exact ⟨h1,h2⟩)))
  clear QX QY;by_cases he2:e2=0
  ·have hf2:(qf' == 0)=false:=by simpa using fun h=>hok ⟨he2,h⟩
   subst he2;clear hok;go_wp2_with fail;have hrx:(w5).heap[w.heap.size+1]? = some Ap:=(by first|exact HR2.out|((refine aS (fe HR2.out) ?_);rfl));have pY:(w5).heap[w.heap.size+1+1]? = some C9:=(by first|exact fA.out|((refine aS (fe fA.out) ?_);rfl));have hf:=iU hrx pY (.bool false) (.slice none ([]:List Byte).length 0) (.int .i64 ((ib:Int)+1)) (.int .u8 0) (.int .i64 0) (.int .i64 0) (.int .i64 0) (.slice none 0 0) _ rfl;(try simp only [Vx] at hf);(try simp only [VZ] at hf);(try simp only [Ws] at hf);(try simp only [V5] at hf);obtain ⟨f0,f1,f2,g0,g1,g2,g3,g4⟩:=hf;exact bodyPost_ret (v:=.tuple #[.agg #[.bool false,.slice none ([]:List Byte).length 0,.int .i64 ((ib:Int)+1)],.agg #[.int .u8 0,.int .i64 0,.int .i64 0,.int .i64 0,.slice none 0 0],.bool false]) (by simp [results,Tryz.results40,go_sem,f0,f1,f2,g0,g1,g2,g3,g4]) rfl (kH.mk HP.out (w:=w) (wx:=w5) rH.out none 0 Pk.zero false none 0 rfl (fun _=>rfl) (d:=[]) rfl rfl (by show (ib:Int)+1=((ib+1:Nat):Int);omega) (.inl ⟨By.of_nil w,rfl⟩) (Nb.nil _ _) _ _ _ _ _ _ _ _)
  ·have hf2:(e2 == 0)=false:=by simpa using he2
   clear hok he2;go_wp2_with fail;have hrx:(w5).heap[w.heap.size+1]? = some Ap:=(by first|exact HR2.out|((refine aS (fe HR2.out) ?_);rfl));have pY:(w5).heap[w.heap.size+1+1]? = some C9:=(by first|exact fA.out|((refine aS (fe fA.out) ?_);rfl));have hf:=iU hrx pY (.bool false) (.slice none ([]:List Byte).length 0) (.int .i64 ((ib:Int)+1)) (.int .u8 0) (.int .i64 0) (.int .i64 0) (.int .i64 0) (.slice none 0 0) _ rfl;(try simp only [Vx] at hf);(try simp only [VZ] at hf);(try simp only [Ws] at hf);(try simp only [V5] at hf);obtain ⟨f0,f1,f2,g0,g1,g2,g3,g4⟩:=hf;exact bodyPost_ret (v:=.tuple #[.agg #[.bool false,.slice none ([]:List Byte).length 0,.int .i64 ((ib:Int)+1)],.agg #[.int .u8 0,.int .i64 0,.int .i64 0,.int .i64 0,.slice none 0 0],.bool false]) (by simp [results,Tryz.results40,go_sem,f0,f1,f2,g0,g1,g2,g3,g4]) rfl (kH.mk HP.out (w:=w) (wx:=w5) rH.out none 0 Pk.zero false none 0 rfl (fun _=>rfl) (d:=[]) rfl rfl (by show (ib:Int)+1=((ib+1:Nat):Int);omega) (.inl ⟨By.of_nil w,rfl⟩) (Nb.nil _ _) _ _ _ _ _ _ _ _)
theorem n_ (x:Byte) (hd:s.inside=false->s.data=[]) (hl:s.data.length<=162) (hs:By w (.slice a s.data.length c) s.data) (hb:s.bad < 900000) :
  Calls Vs 40 #[.agg #[.bool s.inside,.slice a s.data.length c,.int .i64 (s.bad:Int)],.int .u8 (U x)] w (kH w s x):=by
 by_cases hx:x=49
 ·subst hx;exact Ew hs hb
 ·cases hi:s.inside with
  |false=>have:=L_ hx hi (hd hi) hs hb;rwa [hi] at this
  |true=>
   by_cases hx2:x=50
   ·subst hx2;have:=Ma hi hs hb (by omega);rwa [hi] at this
   ·by_cases hl2:au x=true/\s.data.length < 162
    ·have:=Iu hl2.1 hi hl2.2 hs hb;rwa [hi] at this
    ·have:=Mc hx hx2 hi hl2 hs hb;rwa [hi] at this
theorem kH.held {F Z:BS} {W w':World} {ts:List Th} {x:Byte} {e:Ending} (h:dY F Z W ts w) (hr:kH w s x e w'):∃(a:Option Addr) (c:Nat) (r:Pk) (f:Bool) (ra:Option Addr) (rc:Nat),e=.returned (.tuple #[.agg #[.bool (s.push x).1.inside,.slice a (s.push x).1.data.length c,.int .i64 ((s.push x).1.bad:Int)],.agg #[.int .u8 (U r.kind),.int .i64 r.cls,.int .i64 r.number,.int .i64 r.value,.slice ra r.pay.length rc],.bool f]) /\
  (s.push x).2=(if f then some r else none)/\(f=false->r=Pk.zero)/\dY F Z W (ts++[dD (.slice a (s.push x).1.data.length c) (s.push x).1.data,dD (.slice ra r.pay.length rc) r.pay]) w':=by
 obtain ⟨a,c,r,f,ra,rc,h1,h2,h3,h4,h5,h6⟩:=hr;refine ⟨a,c,r,f,ra,rc,h1,h4,h5,h.adds ⟨Fr.of_below (Fr.refl _ w) h6,fun k=>w.heap.size<=k,fun k hk=>.inr (.inr hk),Star.two (G:=fun _=>False) (H:=fun _=>False) h2 h3 (fun _ f=>f.elim) (fun _ f=>f.elim) fun _ f=>f.elim⟩⟩
end

end Go.Proofs.YtjnbanjjoomecaaGreatDoor
