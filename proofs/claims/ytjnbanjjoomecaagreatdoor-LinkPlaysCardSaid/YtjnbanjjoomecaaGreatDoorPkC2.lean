/- Lemmas; no condition on the program. -/
import Derived.Test.YtjnbanjjoomecaaGreatDoorPkC1
import Derived.Test.YtjnbanjjoomecaaGreatDoorPkA1
import Derived.Test.YtjnbanjjoomecaaGreatDoorPkB1
namespace Go.Proofs.YtjnbanjjoomecaaGreatDoor
open Go.RowKit
open _root_.Go.Proofs.Tryz renaming prog→Vs
open Nat renaming le_refl→Vu, lt_of_lt_of_le→VX, le_succ→Yb
open List renaming length_append→Vx, length_cons→VZ
open World renaming size_alloc→WW
set_option maxRecDepth 100000
set_option maxHeartbeats 64000000
def rX (sb:Nat) (s:Sc) (w:World) (F _Z:BS):Prop:=F sb/\∃(K:BS) (a:Option Addr) (bs:List Byte) (c:Nat),(∀k,K k->F k/\k≠sb/\k < w.heap.size)/\w.heap[sb]? = some (kJ s.inside (.slice a bs.length c) s.bad) /\
 Sl w K 5 1 (.slice a bs.length c) bs.length (cu bs)/\(s.inside=true->bs=s.data)/\(s.inside=false->s.data=[])/\(s.inside=true->bs.length<=162)
theorem rX.keep {sb:Nat} {s:Sc} {w w':World} {F Z:BS} (h:rX sb s w F Z) (hs:w.heap.size<=w'.heap.size) (hk:∀k,F k\/Z k->k < w.heap.size->w'.heap[k]? = w.heap[k]?):rX sb s w' (fun k=>F k/\k < w.heap.size) (fun k=>Z k/\k < w.heap.size):=by
 obtain ⟨h0,K,a,bs,c,h1,h2,h3,h4,h5,h6⟩:=h;have hl:=lt_of_block h2;exact ⟨⟨h0,hl⟩,K,a,bs,c,fun k hK=>⟨⟨(h1 k hK).1,(h1 k hK).2.2⟩,(h1 k hK).2.1,VX (h1 k hK).2.2 hs⟩,(hk sb (.inl h0) hl).trans h2,h3.keep fun k hK hl=>hk k (.inl (h1 k hK).1) hl,h4,h5,h6⟩
theorem rX.mono {sb:Nat} {s:Sc} {w:World} {F Z G Y:BS} (h:rX sb s w F Z) (hF:∀k,F k->G k) (_:∀k,Z k->Y k):rX sb s w G Y:=by
 obtain ⟨h0,K,a,bs,c,h1,h2⟩:=h;exact ⟨hF sb h0,K,a,bs,c,fun k hK=>⟨hF k (h1 k hK).1,(h1 k hK).2⟩,h2⟩
def kW (sb:Nat) (s:Sc):Th:=⟨rX sb s,rX.keep,rX.mono⟩
theorem IU (w:World):Calls Vs 50 #[] w fun e w'=>∃sb,e=.returned (.pointer (some ⟨sb,0,none⟩))/\Made w (kW sb Sc.new) w':=by
 refine (vI w).mono ?_;rintro e w' ⟨rfl,rfl⟩;exact ⟨w.heap.size,rfl,aK w _,fun k=>w.heap.size<=k,fun _=>False,fun k h=>h,fun _ f=>f.elim,fun _ _ f=>f,Vu _,fun _=>False,none,[],0,fun _ f=>f.elim,heap_alloc_new w _,Sl.nil _ _ _ _,(fun h=>by cases h),(fun _=>rfl),(fun h=>by cases h)⟩
def gW (sb:Nat) (s:Sc) (x:Byte) (w:World) (F Z:BS) (e:Ending) (w':World):Prop:=∃(r:Pk) (f:Bool) (a:Option Addr) (c:Nat),e=.returned (.tuple #[.agg #[.int .u8 (U r.kind),.int .i64 r.cls,.int .i64 r.number,.int .i64 r.value,.slice a r.pay.length c],.bool f])/\(s.push x).2=(if f then some r else none)/\(f=false->r=Pk.zero)/\lS w F Z [kW sb (s.push x).1,dD (.slice a r.pay.length c) r.pay] w'
theorem gW.no {sb:Nat} {s s':Sc} {x:Byte} {w w':World} {F Z:BS} (hp:s.push x=(s',none)) (hd:Dj F Z) (hz:∀k,Z k->k < w.heap.size) (hf:Fr F w w') (h:rX sb s' w' (fun k=>F k\/w.heap.size<=k) (fun _=>False)) :
  gW sb s x w F Z (.returned (.tuple #[.agg #[.int .u8 0,.int .i64 0,.int .i64 0,.int .i64 0,.slice none 0 0],.bool false])) w':=by
 refine ⟨Pk.zero,false,none,0,rfl,by rw [hp];rfl,fun _=>rfl,?_⟩;rw [hp];have hdj:∀k,(F k\/w.heap.size<=k)->¬Z k:=fun k hk z=>hk.elim (fun f=>hd k f z) fun l=>by have:=hz k z;omega
 exact ⟨hf,Z,fun k h=>.inl h,Star.two (G:=fun k=>F k\/w.heap.size<=k) (H:=fun _=>False) (rX.mono (Y:=Z) h (fun _ h=>h) fun _ f=>f.elim) (fE.nil w' Z) (fun _ _ f=>f) (fun k hk=>⟨hk,hdj k hk⟩) fun _ f=>f.elim⟩
theorem gW.found {sb:Nat} {s s':Sc} {x:Byte} {w w':World} {F Z:BS} {r:Pk} {a:Option Addr} {c:Nat} (hp:s.push x=(s',some r)) (hd:Dj F Z) (hf:Fr F w w') (h:rX sb s' w' (fun k=>F k/\k < w.heap.size) (fun _=>False)) (hn:Nb w' w.heap.size (.slice a r.pay.length c) r.pay) :
  gW sb s x w F Z (.returned (.tuple #[.agg #[.int .u8 (U r.kind),.int .i64 r.cls,.int .i64 r.number,.int .i64 r.value,.slice a r.pay.length c],.bool true])) w':=by
 refine ⟨r,true,a,c,rfl,by rw [hp];rfl,(fun h=>by cases h),?_⟩;rw [hp];refine ⟨hf,fun k=>Z k\/w.heap.size<=k,fun k h=>h.elim .inl fun h=>.inr (.inr h),Star.two (G:=fun k=>F k/\k < w.heap.size) (H:=fun _=>False) (rX.mono (Y:=fun k=>Z k\/w.heap.size<=k) h (fun _ h=>h) fun _ f=>f.elim) ⟨hn.by,fun _ b hb=>.inr (hn.own b hb)⟩ (fun _ _ f=>f) (fun k hk=>⟨.inl hk.1,fun y=>y.elim (hd k hk.1) fun l=>by have:=hk.2;omega⟩) fun _ f=>f.elim⟩
theorem Sl.zero {w:World} {K:BS} {T:TypeId} {a:Option Addr} {n c:Nat} {us:List Value} (h:Sl w K T 1 (.slice a n c) n us):Sl w K T 1 (.slice a 0 c) 0 []:=by
 obtain ⟨_,⟨e,h0⟩|⟨g,off,cap,cur,e,hF,hg,h1,h2,h3,_⟩⟩:=h
 ·obtain ⟨rfl,_,rfl⟩:a=none/\n=0/\c=0:=by simpa using e
  exact Sl.nil _ _ _ _
 ·obtain ⟨rfl,_,rfl⟩:a=some ⟨g,off,none⟩/\n=n/\c=cap:=by simpa using e
  exact ⟨rfl,.inr ⟨g,off,c,cur,rfl,hF,hg,Nat.zero_le _,h2,h3,rfl⟩⟩
theorem gW.fin {sb:Nat} {s s':Sc} {x:Byte} {w wx:World} {F Z:BS} {K:BS} {a:Option Addr} {bs:List Byte} {c:Nat} (hp:s.push x=(s',none)) (hd:Dj F Z) (hz:∀k,Z k->k < w.heap.size) (h0:F sb) (hsw:sb < w.heap.size) (hf:Fr F w wx) (hq:w.heap.size < wx.heap.size)
  (hK:∀k,K k->(F k\/w.heap.size<=k)/\k≠sb/\k≠w.heap.size) (hs:wx.heap[sb]? = some (kJ s'.inside (.slice a bs.length c) s'.bad)) (hSl:Sl wx K 5 1 (.slice a bs.length c) bs.length (cu bs)) (h4:s'.inside=true->bs=s'.data) (h5:s'.inside=false->s'.data=[]) (h6:s'.inside=true->bs.length<=162) (u0 u1 u2 u3 u4:Value) :
  gW sb s x w F Z (.returned (.tuple #[.agg #[.int .u8 0,.int .i64 0,.int .i64 0,.int .i64 0,.slice none 0 0],.bool false])) (((((wx.setCell ⟨w.heap.size,0,none⟩ u0).setCell ⟨w.heap.size,1,none⟩ u1).setCell ⟨w.heap.size,2,none⟩ u2).setCell ⟨w.heap.size,3,none⟩ u3).setCell ⟨w.heap.size,4,none⟩ u4):=by
 have hfr:Fr (fun k=>k=w.heap.size) wx (((((wx.setCell ⟨w.heap.size,0,none⟩ u0).setCell ⟨w.heap.size,1,none⟩ u1).setCell ⟨w.heap.size,2,none⟩ u2).setCell ⟨w.heap.size,3,none⟩ u3).setCell ⟨w.heap.size,4,none⟩ u4):=by exact eZ
 refine gW.no hp hd hz (hf.trans hfr fun k hk=>.inr (by have hk':k=w.heap.size:=hk;omega)) ⟨.inl h0,fun k=>K k/\k < wx.heap.size,a,bs,c,fun k hk=>⟨(hK k hk.1).1,(hK k hk.1).2.1,VX hk.2 hfr.size⟩,(hfr.block sb (by omega) (by show ¬_=_;omega)).trans hs,hSl.bound.keep fun k hk hl=>hfr.block k hl (by show ¬_=_;exact (hK k hk.1).2.2),h4,h5,h6⟩
theorem gW.I9 {sb:Nat} {s s':Sc} {x:Byte} {w wx:World} {F Z:BS} {K:BS} {a:Option Addr} {bs:List Byte} {c:Nat} {r:Pk} {ra:Option Addr} {rc B:Nat} (hp:s.push x=(s',some r)) (hd:Dj F Z) (h0:F sb) (hsw:sb < w.heap.size) (hf:Fr F w wx) (hq:w.heap.size < wx.heap.size) (hB:w.heap.size < B)
  (hK:∀k,K k->F k/\k≠sb/\k < w.heap.size) (hs:wx.heap[sb]? = some (kJ s'.inside (.slice a bs.length c) s'.bad)) (hSl:Sl wx K 5 1 (.slice a bs.length c) bs.length (cu bs)) (h4:s'.inside=true->bs=s'.data) (h5:s'.inside=false->s'.data=[]) (h6:s'.inside=true->bs.length<=162) (hn:Nb wx B (.slice ra r.pay.length rc) r.pay) (u0 u1 u2 u3 u4:Value) :
  gW sb s x w F Z (.returned (.tuple #[.agg #[.int .u8 (U r.kind),.int .i64 r.cls,.int .i64 r.number,.int .i64 r.value,.slice ra r.pay.length rc],.bool true])) (((((wx.setCell ⟨w.heap.size,0,none⟩ u0).setCell ⟨w.heap.size,1,none⟩ u1).setCell ⟨w.heap.size,2,none⟩ u2).setCell ⟨w.heap.size,3,none⟩ u3).setCell ⟨w.heap.size,4,none⟩ u4):=by
 have hfr:Fr (fun k=>k=w.heap.size) wx (((((wx.setCell ⟨w.heap.size,0,none⟩ u0).setCell ⟨w.heap.size,1,none⟩ u1).setCell ⟨w.heap.size,2,none⟩ u2).setCell ⟨w.heap.size,3,none⟩ u3).setCell ⟨w.heap.size,4,none⟩ u4):=by exact eZ
 refine gW.found hp hd (hf.trans hfr fun k hk=>.inr (by have hk':k=w.heap.size:=hk;omega)) ⟨⟨h0,hsw⟩,K,a,bs,c,fun k hk=>⟨⟨(hK k hk).1,(hK k hk).2.2⟩,(hK k hk).2.1,by have:=(hK k hk).2.2;have:=hfr.size;omega⟩,(hfr.block sb (by omega) (by show ¬_=_;omega)).trans hs,hSl.keep fun k hk hl=>hfr.block k hl (by show ¬_=_;have:=(hK k hk).2.2;omega),h4,h5,h6⟩
  (Nb.lower (B:=B) (Sl.keep hn fun k hk hl=>hfr.block k hl (by show ¬_=_;have hk':B<=k:=hk;omega)) (by omega))
theorem FQ {F:BS} {w w1 wx:World} {sb:Nat} (h0:F sb) (hb:Below w.heap.size w w1) (hf:Fr (fun k=>k=sb) w1 wx):Fr F w wx:=
 ((Fr.of_below (Fr.refl F w) hb).trans hf fun k hk=>.inl (by have hk':k=sb:=hk;rw [hk'];exact h0))
theorem zq (s:Sc):s.push 49=(⟨true,[],if s.inside then s.bad+1 else s.bad⟩,none):=by unfold Sc.push;rw [if_pos rfl]
theorem Bz {s:Sc} {x:Byte} (hx:x≠49) (hi:s.inside=false):s.push x=(s,none):=by unfold Sc.push;rw [if_neg hx,if_pos hi]
theorem xV {s:Sc} {x:Byte} (hx:au x=true) (hi:s.inside=true) (hl:s.data.length < 162):s.push x=(⟨true,s.data++[x],s.bad⟩,none):=by
 unfold Sc.push;rw [if_neg (lu x hx).1,if_neg (by rw [hi];simp),if_pos ⟨hx,hl⟩]
theorem og {s:Sc} {x:Byte} (hx:x≠49) (hi:s.inside=true) (hl:¬(au x=true/\s.data.length < 162)) (he:¬(x=50/\(ik s.data).2.2=0/\(gL (ik s.data).1).2=0)):s.push x=(⟨false,[],s.bad+1⟩,none):=by
 unfold Sc.push;rw [if_neg hx,if_neg (by rw [hi];simp),if_neg hl,if_neg he]
theorem BB {s:Sc} {p:Pk} (hi:s.inside=true) (he:(ik s.data).2.2=0) (hp:gL (ik s.data).1=(p,0)):s.push 50=(⟨false,[],s.bad⟩,some p):=by
 unfold Sc.push;rw [if_neg (by decide),if_neg (by rw [hi];simp),if_neg (fun h=>absurd h.1 (by decide)),if_pos ⟨rfl,he,by rw [hp]⟩,hp]
theorem vR (x:Byte):(jS x=.tuple #[.int .i64 (idx x:Int),.bool false,.int .i64 0]/\idx x < 16)\/(jS x=.tuple #[.int .i64 ((idx x:Int) - 16),.bool true,.int .i64 0]/\16<=idx x/\idx x < 20)\/(jS x=.tuple #[.int .i64 0,.bool false,.int .i64 3]/\20<=idx x):=by
 unfold jS;by_cases h:idx x < 16
 ·rw [if_pos h];exact .inl ⟨rfl,h⟩
 ·rw [if_neg h]
  by_cases h2:idx x < 20
  ·rw [if_pos h2];exact .inr (.inl ⟨rfl,by omega,h2⟩)
  ·rw [if_neg h2];exact .inr (.inr ⟨rfl,by omega⟩)
theorem K9:∀x:Byte,idx x=16->x=49:=by decide +kernel
theorem Su:∀x:Byte,idx x=17->x=50:=by decide +kernel
section
variable {sb:Nat} {s:Sc} {w:World} {F Z:BS}
theorem CO (h:(kW sb s).on w F Z) (hd:Dj F Z) (hz:∀k,Z k->k < w.heap.size) (ht:lH w) (hb:s.bad < 900000) :
  Calls Vs 63 #[.pointer (some ⟨sb,0,none⟩),.int .u8 (U (49:Byte))] w (gW sb s 49 w F Z):=by
 have HP:=aQ (zq s);have HT:=aQ ht;obtain ⟨h0,K,a,bs,c,h1,h2,h3,_,_,h6⟩:=h;have HD:=aQ hd;have HZ:=aQ hz;have H1:=aQ h1;have H2:=aQ h2;have H3:=aQ h3;have H0:=aQ h0;have hlt:=lt_of_block h2;have HN:=aQ (show bs.length<=c/\c<=maxLen from by obtain ⟨_,_,_,e,h,h',_⟩:=h3.rd;cases e;exact ⟨h,h'⟩);have hn1:=HN.out.1;have hn2:c<=9223372036854775807:=HN.out.2;have uB:Hid (jS 49=.tuple #[.int .i64 0,.bool true,.int .i64 0]):=aQ (by unfold jS;rw [show idx 49=16 by decide];rfl);clear hd hz ht h0 h1 h2 h3;obtain ⟨si,sd,ib⟩:=s;dsimp only at H2 hb HP
 cases si
 all_goals
  go_enter Tryz.func63,Tryz.ntmps63;go_wp2_with fail;obtain ⟨w1,hw1⟩:∃w1,w1=w.alloc (.cells #[.int .u8 0,.int .i64 0,.int .i64 0,.int .i64 0,.slice none 0 0] 103):=⟨_,rfl⟩;rw [<-hw1];have nN:=aQ (show w1.heap[w.heap.size]? = some (.cells #[.int .u8 0,.int .i64 0,.int .i64 0,.int .i64 0,.slice none 0 0] 103) by rw [hw1];exact heap_alloc_new w _);have HB1:=aQ (show Below w.heap.size w w1 by rw [hw1];exact aK w _);clear hw1;have jU:=aQ ((HB1.out.block _ hlt).trans H2.out);have FL:=aQ (H3.out.keep fun k hK hl=>HB1.out.block k hl);(refine (iH 49 w1 (HT.out.below HB1.out).val).mono ?_);rintro e w' ⟨rfl,rfl⟩;rw [uB.out];obtain ⟨c0,c1,c2,cf⟩:=iC jU.out;have hlt1:=lt_of_block jU.out;obtain ⟨z0,z1,z2,z3,z4⟩:=aO nN.out;have zf:=fun i=>aD nN.out i;have hzl:=lt_of_block nN.out
  go_wp2_with fail
 ·have lQ:Fr (fun k=>k=sb) w1 ((w1.setCell ⟨sb,0,none⟩ (.bool true)).setCell ⟨sb,1,none⟩ (.slice a 0 c)):=(by exact eZ);have hsx:(((w1.setCell ⟨sb,0,none⟩ (.bool true)).setCell ⟨sb,1,none⟩ (.slice a 0 c))).heap[sb]? = some (kJ true (.slice a ([]:List Byte).length c) ib):=(by first|exact jU.out|(rw [show ((ib:Nat):Int)=((ib:Nat):Int)+1 by omega];(refine aS (Ξ jU.out) ?_);rfl)|((refine aS (Ξ jU.out) ?_);rfl));have pY:=lQ.keep nN.out (by show ¬_=_;omega);obtain ⟨q0,q1,q2,q3,q4⟩:=aO (mJ pY (.int .u8 0) (.int .i64 0) (.int .i64 0) (.int .i64 0) (.slice none 0 0));exact bodyPost_ret (v:=.tuple #[.agg #[.int .u8 0,.int .i64 0,.int .i64 0,.int .i64 0,.slice none 0 0],.bool false]) (by simp [results,Tryz.results63,go_sem,q0,q1,q2,q3,q4]) rfl (gW.fin (K:=K) (bs:=[]) (s':=⟨true,[],ib⟩) HP.out HD.out HZ.out H0.out hlt (FQ H0.out HB1.out lQ) (lt_of_block pY) (fun k hk=>⟨.inl (H1.out k hk).1,(H1.out k hk).2.1,by have:=(H1.out k hk).2.2;omega⟩) hsx ((Sl.zero FL.out).keep fun k hK hl=>lQ.block k hl (by show ¬_=_;exact (H1.out k hK).2.1)) (fun _=>rfl) (fun h=>by cases h) (fun _=>by simp) _ _ _ _ _)
 ·have lQ:Fr (fun k=>k=sb) w1 (((w1.setCell ⟨sb,2,none⟩ (.int .i64 ((ib:Int)+1))).setCell ⟨sb,0,none⟩ (.bool true)).setCell ⟨sb,1,none⟩ (.slice a 0 c)):=(by exact eZ);have hsx:((((w1.setCell ⟨sb,2,none⟩ (.int .i64 ((ib:Int)+1))).setCell ⟨sb,0,none⟩ (.bool true)).setCell ⟨sb,1,none⟩ (.slice a 0 c))).heap[sb]? = some (kJ true (.slice a ([]:List Byte).length c) (ib+1)):=(by first|exact jU.out|(rw [show (((ib+1):Nat):Int)=((ib:Nat):Int)+1 by omega];(refine aS (Ξ jU.out) ?_);rfl)|((refine aS (Ξ jU.out) ?_);rfl));have pY:=lQ.keep nN.out (by show ¬_=_;omega);obtain ⟨q0,q1,q2,q3,q4⟩:=aO (mJ pY (.int .u8 0) (.int .i64 0) (.int .i64 0) (.int .i64 0) (.slice none 0 0));exact bodyPost_ret (v:=.tuple #[.agg #[.int .u8 0,.int .i64 0,.int .i64 0,.int .i64 0,.slice none 0 0],.bool false]) (by simp [results,Tryz.results63,go_sem,q0,q1,q2,q3,q4]) rfl (gW.fin (K:=K) (bs:=[]) (s':=⟨true,[],ib+1⟩) HP.out HD.out HZ.out H0.out hlt (FQ H0.out HB1.out lQ) (lt_of_block pY) (fun k hk=>⟨.inl (H1.out k hk).1,(H1.out k hk).2.1,by have:=(H1.out k hk).2.2;omega⟩) hsx ((Sl.zero FL.out).keep fun k hK hl=>lQ.block k hl (by show ¬_=_;exact (H1.out k hK).2.1)) (fun _=>rfl) (fun h=>by cases h) (fun _=>by simp) _ _ _ _ _)
theorem IA {x:Byte} (hx:x≠49) (hi:s.inside=false) (h:(kW sb s).on w F Z) (hd:Dj F Z) (hz:∀k,Z k->k < w.heap.size) (ht:lH w) (hb:s.bad < 900000) :
  Calls Vs 63 #[.pointer (some ⟨sb,0,none⟩),.int .u8 (U x)] w (gW sb s x w F Z):=by
 have HP:=aQ (Bz hx hi);have HT:=aQ ht;obtain ⟨h0,K,a,bs,c,h1,h2,h3,h4,h5,h6⟩:=h;have HD:=aQ hd;have HZ:=aQ hz;have H1:=aQ h1;have H2:=aQ h2;have H3:=aQ h3;have H0:=aQ h0;have H4:=aQ h4;have H5:=aQ h5;have hlt:=lt_of_block h2;clear hd hz ht h0 h1 h2 h3 h4 h5;obtain ⟨si,sd,ib⟩:=s;dsimp only at H2 hb HP hi H4 H5;subst hi;have hn16:idx x≠16:=fun e=>hx (K9 x e)
 clear hx;have hv:=vR x;generalize idx x=n at *
 rcases hv with ⟨hv,NY⟩|⟨hv,NY,NW⟩|⟨hv,NW⟩
 all_goals
  have uB:=aQ hv;clear hv;have hne:((n:Int) - 16 == 0)=false:=by simp;omega
  go_enter Tryz.func63,Tryz.ntmps63;go_wp2_with fail;obtain ⟨w1,hw1⟩:∃w1,w1=w.alloc (.cells #[.int .u8 0,.int .i64 0,.int .i64 0,.int .i64 0,.slice none 0 0] 103):=⟨_,rfl⟩;rw [<-hw1];have nN:=aQ (show w1.heap[w.heap.size]? = some (.cells #[.int .u8 0,.int .i64 0,.int .i64 0,.int .i64 0,.slice none 0 0] 103) by rw [hw1];exact heap_alloc_new w _);have HB1:=aQ (show Below w.heap.size w w1 by rw [hw1];exact aK w _);clear hw1;have jU:=aQ ((HB1.out.block _ hlt).trans H2.out);have FL:=aQ (H3.out.keep fun k hK hl=>HB1.out.block k hl);(refine (iH x w1 (HT.out.below HB1.out).val).mono ?_);rintro e w' ⟨rfl,rfl⟩;rw [uB.out];obtain ⟨c0,c1,c2,cf⟩:=iC jU.out;have hlt1:=lt_of_block jU.out;obtain ⟨z0,z1,z2,z3,z4⟩:=aO nN.out;have zf:=fun i=>aD nN.out i;have hzl:=lt_of_block nN.out
  go_wp2_with fail;have lQ:Fr (fun k=>k=sb) w1 w1:=(by exact eZ);have hsx:(w1).heap[sb]? = some (kJ false (.slice a (bs:List Byte).length c) ib):=(by first|exact jU.out|(rw [show ((ib:Nat):Int)=((ib:Nat):Int)+1 by omega];(refine aS (Ξ jU.out) ?_);rfl)|((refine aS (Ξ jU.out) ?_);rfl));have pY:=lQ.keep nN.out (by show ¬_=_;omega);obtain ⟨q0,q1,q2,q3,q4⟩:=aO (mJ pY (.int .u8 0) (.int .i64 0) (.int .i64 0) (.int .i64 0) (.slice none 0 0));exact bodyPost_ret (v:=.tuple #[.agg #[.int .u8 0,.int .i64 0,.int .i64 0,.int .i64 0,.slice none 0 0],.bool false]) (by simp [results,Tryz.results63,go_sem,q0,q1,q2,q3,q4]) rfl (gW.fin (K:=K) (bs:=bs) (s':=⟨false,sd,ib⟩) HP.out HD.out HZ.out H0.out hlt (FQ H0.out HB1.out lQ) (lt_of_block pY) (fun k hk=>⟨.inl (H1.out k hk).1,(H1.out k hk).2.1,by have:=(H1.out k hk).2.2;omega⟩) hsx (FL.out.keep fun k hK hl=>lQ.block k hl (by show ¬_=_;exact (H1.out k hK).2.1)) (fun h=>by cases h) (fun _=>H5.out trivial) (fun h=>by cases h) _ _ _ _ _)
theorem EE {x:Byte} (hx:au x=true) (hi:s.inside=true) (hl:s.data.length < 162) (h:(kW sb s).on w F Z) (hd:Dj F Z) (hz:∀k,Z k->k < w.heap.size) (ht:lH w) (hb:s.bad < 900000) :
  Calls Vs 63 #[.pointer (some ⟨sb,0,none⟩),.int .u8 (U x)] w (gW sb s x w F Z):=by
 have HP:=aQ (xV hx hi hl);have HT:=aQ ht;obtain ⟨h0,K,a,bs,c,h1,h2,h3,h4,h5,h6⟩:=h;have HD:=aQ hd;have HZ:=aQ hz;have H1:=aQ h1;have H2:=aQ h2;have H3:=aQ h3;have H0:=aQ h0;have hlt:=lt_of_block h2;have HN:=aQ (show bs.length<=c/\c<=maxLen from by obtain ⟨_,_,_,e,h,h',_⟩:=h3.rd;cases e;exact ⟨h,h'⟩);have hn1:=HN.out.1;have hn2:c<=9223372036854775807:=HN.out.2;clear hd hz ht h0 h1 h2 h3 h5;obtain ⟨si,sd,ib⟩:=s;dsimp only at H2 hb HP hi h4;subst hi;obtain rfl:=h4 rfl;clear h4;have h6:=h6 rfl;dsimp only at hl;have hv:jS x=.tuple #[.int .i64 (idx x:Int),.bool false,.int .i64 0]:=by unfold jS;rw [if_pos (by simpa [au] using hx)]
 generalize idx x=n at *;have uB:=aQ hv;clear hv hx;go_enter Tryz.func63,Tryz.ntmps63;go_wp2_with fail;obtain ⟨w1,hw1⟩:∃w1,w1=w.alloc (.cells #[.int .u8 0,.int .i64 0,.int .i64 0,.int .i64 0,.slice none 0 0] 103):=⟨_,rfl⟩;rw [<-hw1];have nN:=aQ (show w1.heap[w.heap.size]? = some (.cells #[.int .u8 0,.int .i64 0,.int .i64 0,.int .i64 0,.slice none 0 0] 103) by rw [hw1];exact heap_alloc_new w _);have HB1:=aQ (show Below w.heap.size w w1 by rw [hw1];exact aK w _);clear hw1;have jU:=aQ ((HB1.out.block _ hlt).trans H2.out);have FL:=aQ (H3.out.keep fun k hK hl=>HB1.out.block k hl);(refine (iH x w1 (HT.out.below HB1.out).val).mono ?_);rintro e w' ⟨rfl,rfl⟩;rw [uB.out];obtain ⟨c0,c1,c2,cf⟩:=iC jU.out;have hlt1:=lt_of_block jU.out;obtain ⟨z0,z1,z2,z3,z4⟩:=aO nN.out;have zf:=fun i=>aD nN.out i;have hzl:=lt_of_block nN.out
 go_wp2_with (at_builtin;refine cQ Ao rfl _ _ rfl K (.slice a bs.length c) bs.length (cu bs) rfl (by exact FL.out.alloc _) _ 1 (cu [x]) rfl (eX _ _ _ _ [x] 1 1 rfl rfl rfl (Vu _) (by decide)) iM (by unfold maxLen;omega) (by omega) ?_;intro v2 w2 hs2 hf2;obtain ⟨xa,xc,rfl⟩:=hs2.shape;have iq:=aK w1 (.cells #[.int .u8 (U x)] 5);have HS2:=aQ (hf2.keep ((iq.block _ hlt1).trans jU.out) (fun hk=>(H1.out sb hk).2.1 rfl));have fA:=aQ (hf2.keep ((iq.block _ hzl).trans nN.out) (fun hk=>by have:=(H1.out _ hk).2.2;omega));have xE:=aQ (((Fr.of_below (Fr.refl F w) (HB1.out.trans (iq.mono HB1.out.size))).trans hf2 fun k hk=>.inl (H1.out k hk).1));have JS:=aQ (show ∀k,(K k\/(w1.alloc (.cells #[.int .u8 (U x)] 5)).heap.size<=k)->(F k\/w.heap.size<=k)/\k≠sb/\k≠w.heap.size from fun k hk=>hk.elim (fun hk=>⟨.inl (H1.out k hk).1,(H1.out k hk).2.1,by have:=(H1.out k hk).2.2;omega⟩) fun hk=>by rw [WW] at hk;exact ⟨.inr (by omega),by omega,by omega⟩);have HL2:=aQ (show Sl w2 (fun k=>K k\/(w1.alloc (.cells #[.int .u8 (U x)] 5)).heap.size<=k) 5 1 (.slice xa (bs++[x]).length xc) (bs++[x]).length (cu (bs++[x])) by rw [Vx,<-uY];exact hs2);clear hs2 hf2 iq c0 c1 c2 cf z0 z1 z2 z3 z4 zf;obtain ⟨c0,c1,c2,cf⟩:=iC HS2.out;have hlt2:=lt_of_block HS2.out;obtain ⟨z0,z1,z2,z3,z4⟩:=aO fA.out;have zf:=fun i=>aD fA.out i;have aaE:=lt_of_block fA.out);have lQ:Fr (fun k=>k=sb) w2 (w2.setCell ⟨sb,1,none⟩ (.slice xa (bs.length+1) xc)):=by exact eZ
 have hsx:(w2.setCell ⟨sb,1,none⟩ (.slice xa (bs.length+1) xc)).heap[sb]? = some (kJ true (.slice xa (bs++[x]).length xc) ib):=by rw [Vx];(refine aS (Ξ HS2.out) ?_);rfl
 have pY:=lQ.keep fA.out (by show ¬_=_;omega);obtain ⟨q0,q1,q2,q3,q4⟩:=aO (mJ pY (.int .u8 0) (.int .i64 0) (.int .i64 0) (.int .i64 0) (.slice none 0 0));exact bodyPost_ret (v:=.tuple #[.agg #[.int .u8 0,.int .i64 0,.int .i64 0,.int .i64 0,.slice none 0 0],.bool false]) (by simp [results,Tryz.results63,go_sem,q0,q1,q2,q3,q4]) rfl (gW.fin (bs:=(bs++[x])) (s':=⟨true,bs++[x],ib⟩) HP.out HD.out HZ.out H0.out hlt (xE.out.trans lQ fun k hk=>.inl (by have hk':k=sb:=hk;rw [hk'];exact H0.out)) (lt_of_block pY) JS.out hsx (HL2.out.keep fun k hK hl=>lQ.block k hl (by show ¬_=_;exact (JS.out k hK).2.1)) (fun _=>rfl) (fun h=>by cases h) (fun _=>by rw [Vx];show bs.length+1<=162;omega) _ _ _ _ _)
theorem ED {x:Byte} (hx:au x=true) (hi:s.inside=true) (hl:162<=s.data.length) (h:(kW sb s).on w F Z) (hd:Dj F Z) (hz:∀k,Z k->k < w.heap.size) (ht:lH w) (hb:s.bad < 900000) :
  Calls Vs 63 #[.pointer (some ⟨sb,0,none⟩),.int .u8 (U x)] w (gW sb s x w F Z):=by
 have HP:=aQ (og (lu x hx).1 hi (fun hh=>by omega) (fun hh=>(lu x hx).2 hh.1));have HT:=aQ ht;obtain ⟨h0,K,a,bs,c,h1,h2,h3,h4,h5,h6⟩:=h;have HD:=aQ hd;have HZ:=aQ hz;have H1:=aQ h1;have H2:=aQ h2;have H3:=aQ h3;have H0:=aQ h0;have hlt:=lt_of_block h2;have HN:=aQ (show bs.length<=c/\c<=maxLen from by obtain ⟨_,_,_,e,h,h',_⟩:=h3.rd;cases e;exact ⟨h,h'⟩);have hn1:=HN.out.1;have hn2:c<=9223372036854775807:=HN.out.2;clear hd hz ht h0 h1 h2 h3 h5;obtain ⟨si,sd,ib⟩:=s;dsimp only at H2 hb HP hi h4;subst hi;obtain rfl:=h4 rfl;clear h4;have h6:=h6 rfl;dsimp only at hl;have hv:jS x=.tuple #[.int .i64 (idx x:Int),.bool false,.int .i64 0]:=by unfold jS;rw [if_pos (by simpa [au] using hx)]
 generalize idx x=n at *;have uB:=aQ hv;clear hv hx;go_enter Tryz.func63,Tryz.ntmps63;go_wp2_with fail;obtain ⟨w1,hw1⟩:∃w1,w1=w.alloc (.cells #[.int .u8 0,.int .i64 0,.int .i64 0,.int .i64 0,.slice none 0 0] 103):=⟨_,rfl⟩;rw [<-hw1];have nN:=aQ (show w1.heap[w.heap.size]? = some (.cells #[.int .u8 0,.int .i64 0,.int .i64 0,.int .i64 0,.slice none 0 0] 103) by rw [hw1];exact heap_alloc_new w _);have HB1:=aQ (show Below w.heap.size w w1 by rw [hw1];exact aK w _);clear hw1;have jU:=aQ ((HB1.out.block _ hlt).trans H2.out);have FL:=aQ (H3.out.keep fun k hK hl=>HB1.out.block k hl);(refine (iH x w1 (HT.out.below HB1.out).val).mono ?_);rintro e w' ⟨rfl,rfl⟩;rw [uB.out];obtain ⟨c0,c1,c2,cf⟩:=iC jU.out;have hlt1:=lt_of_block jU.out;obtain ⟨z0,z1,z2,z3,z4⟩:=aO nN.out;have zf:=fun i=>aD nN.out i;have hzl:=lt_of_block nN.out
 go_wp2_with (at_builtin;refine cQ Ao rfl _ _ rfl K (.slice a bs.length c) bs.length (cu bs) rfl (by exact FL.out.alloc _) _ 1 (cu [x]) rfl (eX _ _ _ _ [x] 1 1 rfl rfl rfl (Vu _) (by decide)) iM (by unfold maxLen;omega) (by omega) ?_;intro v2 w2 hs2 hf2;obtain ⟨xa,xc,rfl⟩:=hs2.shape;have iq:=aK w1 (.cells #[.int .u8 (U x)] 5);have HS2:=aQ (hf2.keep ((iq.block _ hlt1).trans jU.out) (fun hk=>(H1.out sb hk).2.1 rfl));have fA:=aQ (hf2.keep ((iq.block _ hzl).trans nN.out) (fun hk=>by have:=(H1.out _ hk).2.2;omega));have xE:=aQ (((Fr.of_below (Fr.refl F w) (HB1.out.trans (iq.mono HB1.out.size))).trans hf2 fun k hk=>.inl (H1.out k hk).1));have JS:=aQ (show ∀k,(K k\/(w1.alloc (.cells #[.int .u8 (U x)] 5)).heap.size<=k)->(F k\/w.heap.size<=k)/\k≠sb/\k≠w.heap.size from fun k hk=>hk.elim (fun hk=>⟨.inl (H1.out k hk).1,(H1.out k hk).2.1,by have:=(H1.out k hk).2.2;omega⟩) fun hk=>by rw [WW] at hk;exact ⟨.inr (by omega),by omega,by omega⟩);have HL2:=aQ (show Sl w2 (fun k=>K k\/(w1.alloc (.cells #[.int .u8 (U x)] 5)).heap.size<=k) 5 1 (.slice xa (bs++[x]).length xc) (bs++[x]).length (cu (bs++[x])) by rw [Vx,<-uY];exact hs2);clear hs2 hf2 iq c0 c1 c2 cf z0 z1 z2 z3 z4 zf;obtain ⟨c0,c1,c2,cf⟩:=iC HS2.out;have hlt2:=lt_of_block HS2.out;obtain ⟨z0,z1,z2,z3,z4⟩:=aO fA.out;have zf:=fun i=>aD fA.out i;have aaE:=lt_of_block fA.out);have Va:Fr (fun k=>k=sb) w2 (w2.setCell ⟨sb,1,none⟩ (.slice xa (bs.length+1) xc)):=by exact eZ
 have HSX:=aQ (show (w2.setCell ⟨sb,1,none⟩ (.slice xa (bs.length+1) xc)).heap[sb]? = some (kJ true (.slice xa (bs++[x]).length xc) ib) by rw [Vx];(refine aS (Ξ HS2.out) ?_);rfl);have HFX:=aQ Va;clear Va;refine (lD sb true _ ib _ HSX.out (by omega)).mono ?_;rintro e w3 ⟨rfl,hsx,hf3⟩;have lQ:Fr (fun k=>k=sb) w2 w3:=HFX.out.trans hf3 fun k hk=>.inl hk
 have GH:=aQ (lQ.keep fA.out (by show ¬_=_;omega));clear c0 c1 c2 cf z0 z1 z2 z3 z4 zf;obtain ⟨z0,z1,z2,z3,z4⟩:=aO GH.out;have zf:=fun i=>aD GH.out i
 have NQ:=lt_of_block GH.out;have QV:=aQ hsx;have Tz:=aQ lQ;clear hsx lQ hf3;go_wp2_with fail;have hsx:=QV.out;have lQ:=Tz.out;have pY:=lQ.keep fA.out (by show ¬_=_;omega);obtain ⟨q0,q1,q2,q3,q4⟩:=aO (mJ pY (.int .u8 0) (.int .i64 0) (.int .i64 0) (.int .i64 0) (.slice none 0 0));exact bodyPost_ret (v:=.tuple #[.agg #[.int .u8 0,.int .i64 0,.int .i64 0,.int .i64 0,.slice none 0 0],.bool false]) (by simp [results,Tryz.results63,go_sem,q0,q1,q2,q3,q4]) rfl (gW.fin (bs:=(bs++[x])) (s':=⟨false,[],ib+1⟩) HP.out HD.out HZ.out H0.out hlt (xE.out.trans lQ fun k hk=>.inl (by have hk':k=sb:=hk;rw [hk'];exact H0.out)) (lt_of_block pY) JS.out hsx (HL2.out.keep fun k hK hl=>lQ.block k hl (by show ¬_=_;exact (JS.out k hK).2.1)) (fun h=>by cases h) (fun _=>rfl) (fun h=>by cases h) _ _ _ _ _)
theorem IC {x:Byte} (hx:x≠49) (hx2:x≠50) (hx3:au x=false) (hi:s.inside=true) (h:(kW sb s).on w F Z) (hd:Dj F Z) (hz:∀k,Z k->k < w.heap.size) (ht:lH w) (hb:s.bad < 900000) :
  Calls Vs 63 #[.pointer (some ⟨sb,0,none⟩),.int .u8 (U x)] w (gW sb s x w F Z):=by
 have HP:=aQ (og hx hi (fun hh=>by rw [hx3] at hh;cases hh.1) (fun hh=>hx2 hh.1));have HT:=aQ ht;obtain ⟨h0,K,a,bs,c,h1,h2,h3,h4,h5,h6⟩:=h;have HD:=aQ hd;have HZ:=aQ hz;have H1:=aQ h1;have H2:=aQ h2;have H3:=aQ h3;have H0:=aQ h0;have hlt:=lt_of_block h2;have HN:=aQ (show bs.length<=c/\c<=maxLen from by obtain ⟨_,_,_,e,h,h',_⟩:=h3.rd;cases e;exact ⟨h,h'⟩);have hn1:=HN.out.1;have hn2:c<=9223372036854775807:=HN.out.2;clear hd hz ht h0 h1 h2 h3 h5;obtain ⟨si,sd,ib⟩:=s;dsimp only at H2 hb HP hi h4;subst hi;obtain rfl:=h4 rfl;clear h4;have h6:=h6 rfl;have hn16:idx x≠16:=fun e=>hx (K9 x e)
 have abA:idx x≠17:=fun e=>hx2 (Su x e)
 have hnd:16<=idx x:=by unfold au at hx3;simpa using hx3
 clear hx hx2 hx3;have hv:=vR x;generalize idx x=n at *;have xE:=aQ (show True from trivial)
 rcases hv with ⟨hv,NY⟩|⟨hv,NY,NW⟩|⟨hv,NW⟩
 ·omega
 all_goals
  have uB:=aQ hv;clear hv;have hne:((n:Int) - 16 == 0)=false:=by simp;omega
  have hne2:((n:Int) - 16 == 1)=false:=by simp;omega
  go_enter Tryz.func63,Tryz.ntmps63;go_wp2_with fail;obtain ⟨w1,hw1⟩:∃w1,w1=w.alloc (.cells #[.int .u8 0,.int .i64 0,.int .i64 0,.int .i64 0,.slice none 0 0] 103):=⟨_,rfl⟩;rw [<-hw1];have nN:=aQ (show w1.heap[w.heap.size]? = some (.cells #[.int .u8 0,.int .i64 0,.int .i64 0,.int .i64 0,.slice none 0 0] 103) by rw [hw1];exact heap_alloc_new w _);have HB1:=aQ (show Below w.heap.size w w1 by rw [hw1];exact aK w _);clear hw1;have jU:=aQ ((HB1.out.block _ hlt).trans H2.out);have FL:=aQ (H3.out.keep fun k hK hl=>HB1.out.block k hl);(refine (iH x w1 (HT.out.below HB1.out).val).mono ?_);rintro e w' ⟨rfl,rfl⟩;rw [uB.out];obtain ⟨c0,c1,c2,cf⟩:=iC jU.out;have hlt1:=lt_of_block jU.out;obtain ⟨z0,z1,z2,z3,z4⟩:=aO nN.out;have zf:=fun i=>aD nN.out i;have hzl:=lt_of_block nN.out
  go_wp2_with fail;refine (lD sb true _ ib _ jU.out (by omega)).mono ?_;rintro e w3 ⟨rfl,hsx,lQ⟩;have GH:=aQ (lQ.keep nN.out (by show ¬_=_;omega));clear c0 c1 c2 cf z0 z1 z2 z3 z4 zf;obtain ⟨z0,z1,z2,z3,z4⟩:=aO GH.out;have zf:=fun i=>aD GH.out i
  have NQ:=lt_of_block GH.out;have QV:=aQ hsx;have Tz:=aQ lQ;clear hsx lQ;go_wp2_with fail;have hsx:=QV.out;have lQ:=Tz.out;have fA:=nN;have HL2:=FL;have xE:=aQ (Fr.of_below (Fr.refl F w) HB1.out);have JS:=aQ (show ∀k,K k->(F k\/w.heap.size<=k)/\k≠sb/\k≠w.heap.size from fun k hk=>⟨.inl (H1.out k hk).1,(H1.out k hk).2.1,by have:=(H1.out k hk).2.2;omega⟩);have pY:=lQ.keep fA.out (by show ¬_=_;omega);obtain ⟨q0,q1,q2,q3,q4⟩:=aO (mJ pY (.int .u8 0) (.int .i64 0) (.int .i64 0) (.int .i64 0) (.slice none 0 0));exact bodyPost_ret (v:=.tuple #[.agg #[.int .u8 0,.int .i64 0,.int .i64 0,.int .i64 0,.slice none 0 0],.bool false]) (by simp [results,Tryz.results63,go_sem,q0,q1,q2,q3,q4]) rfl (gW.fin (bs:=bs) (s':=⟨false,[],ib+1⟩) HP.out HD.out HZ.out H0.out hlt (xE.out.trans lQ fun k hk=>.inl (by have hk':k=sb:=hk;rw [hk'];exact H0.out)) (lt_of_block pY) JS.out hsx (HL2.out.keep fun k hK hl=>lQ.block k hl (by show ¬_=_;exact (JS.out k hK).2.1)) (fun h=>by cases h) (fun _=>rfl) (fun h=>by cases h) _ _ _ _ _)
theorem IB (hi:s.inside=true) (h:(kW sb s).on w F Z) (hd:Dj F Z) (hz:∀k,Z k->k < w.heap.size) (ht:lH w) (hb:s.bad < 900000) :
  Calls Vs 63 #[.pointer (some ⟨sb,0,none⟩),.int .u8 (U (50:Byte))] w (gW sb s 50 w F Z):=by
 have QX:=aQ (fun p he hp=>BB (p:=p) hi he hp);have QY:=aQ (fun he=>og (x:=50) (by decide) hi (fun hh=>absurd hh.1 (by decide)) he);have HP:=aQ (zq s);have HT:=aQ ht;obtain ⟨h0,K,a,bs,c,h1,h2,h3,h4,h5,h6⟩:=h;have HD:=aQ hd;have HZ:=aQ hz;have H1:=aQ h1;have H2:=aQ h2;have H3:=aQ h3;have H0:=aQ h0;have hlt:=lt_of_block h2;have HN:=aQ (show bs.length<=c/\c<=maxLen from by obtain ⟨_,_,_,e,h,h',_⟩:=h3.rd;cases e;exact ⟨h,h'⟩);have hn1:=HN.out.1;have hn2:c<=9223372036854775807:=HN.out.2;clear hd hz ht h0 h1 h2 h3 h5;obtain ⟨si,sd,ib⟩:=s;dsimp only at H2 hb HP hi h4;subst hi;obtain rfl:=h4 rfl;clear h4;have h6:=h6 rfl;clear HP;dsimp only at QX QY;have uB:Hid (jS 50=.tuple #[.int .i64 1,.bool true,.int .i64 0]):=aQ (by unfold jS;rw [show idx 50=17 by decide];rfl);go_enter Tryz.func63,Tryz.ntmps63;go_wp2_with fail;obtain ⟨w1,hw1⟩:∃w1,w1=w.alloc (.cells #[.int .u8 0,.int .i64 0,.int .i64 0,.int .i64 0,.slice none 0 0] 103):=⟨_,rfl⟩;rw [<-hw1];have nN:=aQ (show w1.heap[w.heap.size]? = some (.cells #[.int .u8 0,.int .i64 0,.int .i64 0,.int .i64 0,.slice none 0 0] 103) by rw [hw1];exact heap_alloc_new w _);have HB1:=aQ (show Below w.heap.size w w1 by rw [hw1];exact aK w _);clear hw1;have jU:=aQ ((HB1.out.block _ hlt).trans H2.out);have FL:=aQ (H3.out.keep fun k hK hl=>HB1.out.block k hl);(refine (iH 50 w1 (HT.out.below HB1.out).val).mono ?_);rintro e w' ⟨rfl,rfl⟩;rw [uB.out];obtain ⟨c0,c1,c2,cf⟩:=iC jU.out;have hlt1:=lt_of_block jU.out;obtain ⟨z0,z1,z2,z3,z4⟩:=aO nN.out;have zf:=fun i=>aD nN.out i;have hzl:=lt_of_block nN.out
 go_wp2_with fail;refine (O9 sb _ bs ib w1 jU.out FL.out.rd (HT.out.below HB1.out) (by omega) (by omega)).mono ?_;rintro e w3 ⟨r,f,ra,rc,rfl,hn,lQ,hres⟩;have GH:=aQ (lQ.keep nN.out (by show ¬_=_;omega));clear c0 c1 c2 cf z0 z1 z2 z3 z4 zf;obtain ⟨z0,z1,z2,z3,z4⟩:=aO GH.out;have zf:=fun i=>aD GH.out i
 have NQ:=lt_of_block GH.out;have Tz:=aQ lQ;have HNY:=aQ hn;clear lQ hn
 rcases hres with ⟨rfl,he,hp,hsx⟩|⟨rfl,rfl,rfl,rfl,he,hsx⟩
 ·have HP:=aQ (QX.out r he hp)
  have QV:=aQ hsx;clear hsx he hp;go_wp2_with fail;have hsx:=QV.out;have lQ:=Tz.out;obtain ⟨q0,q1,q2,q3,q4⟩:=aO (mJ GH.out (.int .u8 (U r.kind)) (.int .i64 r.cls) (.int .i64 r.number) (.int .i64 r.value) (.slice ra r.pay.length rc))
  exact bodyPost_ret (v:=.tuple #[.agg #[.int .u8 (U r.kind),.int .i64 r.cls,.int .i64 r.number,.int .i64 r.value,.slice ra r.pay.length rc],.bool true]) (by simp [results,Tryz.results63,go_sem,q0,q1,q2,q3,q4]) rfl
   (gW.I9 (K:=K) (bs:=bs) (s':=⟨false,[],ib⟩) HP.out HD.out H0.out hlt (FQ H0.out HB1.out lQ) NQ (B:=w1.heap.size) hzl H1.out hsx (FL.out.keep fun k hK hl=>lQ.block k hl (by show ¬_=_;exact (H1.out k hK).2.1)) (fun h=>by cases h) (fun _=>rfl) (fun h=>by cases h) HNY.out _ _ _ _ _)
 ·have HP:=aQ (QY.out (fun hh=>he ⟨hh.2.1,hh.2.2⟩))
  have QV:=aQ hsx;clear hsx he;have xE:=aQ (Fr.of_below (Fr.refl F w) HB1.out);have JS:=aQ (show ∀k,K k->(F k\/w.heap.size<=k)/\k≠sb/\k≠w.heap.size from fun k hk=>⟨.inl (H1.out k hk).1,(H1.out k hk).2.1,by have:=(H1.out k hk).2.2;omega⟩);have fA:=nN;have HL2:=FL;have hu0:U Pk.zero.kind=0:=rfl;rw [hu0];dsimp only [Pk.zero,List.length_nil];go_wp2_with fail;have hsx:=QV.out;have lQ:=Tz.out;obtain ⟨q0,q1,q2,q3,q4⟩:=aO (mJ GH.out (.int .u8 0) (.int .i64 0) (.int .i64 0) (.int .i64 0) (.slice none 0 0));exact bodyPost_ret (v:=.tuple #[.agg #[.int .u8 0,.int .i64 0,.int .i64 0,.int .i64 0,.slice none 0 0],.bool false]) (by simp [results,Tryz.results63,go_sem,q0,q1,q2,q3,q4]) rfl (gW.fin (bs:=bs) (s':=⟨false,[],ib+1⟩) HP.out HD.out HZ.out H0.out hlt (xE.out.trans lQ fun k hk=>.inl (by have hk':k=sb:=hk;rw [hk'];exact H0.out)) NQ JS.out hsx (HL2.out.keep fun k hK hl=>lQ.block k hl (by show ¬_=_;exact (JS.out k hK).2.1)) (fun h=>by cases h) (fun _=>rfl) (fun h=>by cases h) _ _ _ _ _)
theorem IE (x:Byte) (h:(kW sb s).on w F Z) (hd:Dj F Z) (hz:∀k,Z k->k < w.heap.size) (ht:lH w) (hb:s.bad < 900000) :
  Calls Vs 63 #[.pointer (some ⟨sb,0,none⟩),.int .u8 (U x)] w (gW sb s x w F Z):=by
 by_cases hx:x=49
 ·subst hx;exact CO h hd hz ht hb
 ·cases hi:s.inside with
  |false=>exact IA hx hi h hd hz ht hb
  |true=>
   by_cases hx2:x=50
   ·subst hx2;exact IB hi h hd hz ht hb
   ·cases hx3:au x with
    |false=>exact IC hx hx2 hx3 hi h hd hz ht hb
    |true=>
     by_cases hl:s.data.length < 162
     ·exact EE hx3 hi hl h hd hz ht hb
     ·exact ED hx3 hi (by omega) h hd hz ht hb
end

theorem dY.tabs {Z:BS} {W w:World} {ts:List Th} (h:dY (fun _=>False) Z W ts w) (ht:lH W):lH w:=ht.below h.below
theorem lS.widen {w w':World} {G Z Y:BS} {ts:List Th} (h:lS w G Z ts w') (hZ:∀k,Z k->Y k):lS w G Y ts w':=by
 obtain ⟨h1,X,h2,h3⟩:=h;exact ⟨h1,X,fun k hk=>(h2 k hk).imp (hZ k) id,h3⟩
section
variable {F Z:BS} {W w:World} {ts:List Th} {sb:Nat} {s:Sc}
theorem OZ (h:dY F Z W ts w):Calls Vs 50 #[] w fun e w'=>∃sb,e=.returned (.pointer (some ⟨sb,0,none⟩))/\dY F Z W (ts++[kW sb Sc.new]) w':=
 (IU w).mono fun _ _ ⟨p,he,hm⟩=>⟨p,he,h.made hm⟩
theorem R_ (h:dY F Z W ts w) (i:Nat) (hi:ts[i]? = some (kW sb s)) (x:Byte) (ht:lH w) (hb:s.bad < 900000) :
  Calls Vs 63 #[.pointer (some ⟨sb,0,none⟩),.int .u8 (U x)] w fun e w'=>∃(r:Pk) (f:Bool) (a:Option Addr) (c:Nat),e=.returned (.tuple #[.agg #[.int .u8 (U r.kind),.int .i64 r.cls,.int .i64 r.number,.int .i64 r.value,.slice a r.pay.length c],.bool f])/\(s.push x).2=(if f then some r else none)/\(f=false->r=Pk.zero) /\
   dY F Z W (ts.set i (kW sb (s.push x).1)++[dD (.slice a r.pay.length c) r.pay]) w':=by
 obtain ⟨G,Y,hq,hd,_,_,hback⟩:=h.use i hi;have hq':(kW sb s).on w G (fun k=>Y k/\k < w.heap.size):=hq;refine (IE x hq' (fun k g y=>hd k g y.1) (fun k y=>y.2) ht hb).mono ?_;rintro e w' ⟨r,f,a,c,he,h1,h2,h3⟩;exact ⟨r,f,a,c,he,h1,h2,hback w' _ _ (h3.widen fun k h=>h.1)⟩
end

theorem Bl (s:Sc):∀l:List Byte,(s.scan l).1.bad<=s.bad+l.length
 |[]=>Vu _
 |x::l=>by
  have h1:=Bl (s.push x).1 l
  have h2:(s.push x).1.bad<=s.bad+1:=by
   unfold Sc.push;split
   ·show (if s.inside then s.bad+1 else s.bad)<=_
    cases s.inside <;> simp
   ·split
    ·exact Yb _
    ·split
     ·exact Yb _
     ·split
      ·exact Yb _
      ·exact Vu _
  show ((s.push x).1.scan l).1.bad<=_;rw [VZ];omega
theorem pO (s:Sc):∀l:List Byte,(s.scan l).2.length<=l.length
 |[]=>Vu _
 |x::l=>by
  have h1:=pO (s.push x).1 l;show ((s.push x).2.toList++((s.push x).1.scan l).2).length<=_;rw [Vx,VZ];have:(s.push x).2.toList.length<=1:=by cases (s.push x).2 <;> simp
  omega

end Go.Proofs.YtjnbanjjoomecaaGreatDoor
