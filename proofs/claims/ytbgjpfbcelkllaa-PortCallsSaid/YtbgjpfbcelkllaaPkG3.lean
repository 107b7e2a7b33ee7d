/- Lemmas of this proof (texts PotD PotS Mkr PorU PorV PotW PotG). -/
import Derived.Test.YtbgjpfbcelkllaaPkG2
import Derived.Test.YtbgjpfbcelkllaaPkA1
import Derived.Test.YtbgjpfbcelkllaaPkG1
import Derived.Great.BuildSlice
namespace Go.Proofs.Ytbgjpfbcelkllaa
set_option maxHeartbeats 64000000
section
open Go.RowKit
theorem tick_some {s s':Snd} (hok:s.Ok) {n:Nat} {d:dV} (h:s.cR=(some (n,d),s')):n < 256/\(n+256 - s'.aG % 256) % 256 < s.cT.length:=by
 have hk:=hok.cT;have hw:=hok.w2
 unfold Snd.cR at h
 split at h
 ·cases h
 ·split at h
  ·split at h
   ·cases h
   ·unfold Snd.send at h
    dsimp only at h
    have h1:=congrArg Prod.fst h
    have h2:=congrArg Prod.snd h
    dsimp only at h1 h2
    subst h2
    obtain ⟨rfl,_⟩:(s.aG+0) % 256=n/\_:=by simpa using h1
    dsimp only
    omega
  ·unfold Snd.send at h
   dsimp only at h
   have h1:=congrArg Prod.fst h
   have h2:=congrArg Prod.snd h
   dsimp only at h1 h2
   subst h2
   obtain ⟨rfl,_⟩:(s.aG+s.pos) % 256=n/\_:=by simpa using h1
   dsimp only
   omega
def Prt.Min (p:Prt):Prop:=p.cS.mine=p.inc
theorem receive_mine (s:Side) (m y:Int):(s.cO m y).mine=s.mine:=by unfold Side.cO;split <;> rfl
theorem sideTick_mine (s:Side):s.cR.mine=s.mine:=by unfold Side.cR;split;rfl;split <;> rfl
theorem Prt.Min.cU {p:Prt} (h:p.Min) (x:Pt):(p.cU x).Min:=by
 unfold Prt.cU
 split
 ·unfold Prt.greet
  dsimp only
  split
  ·show (p.cS.cO x.number x.value).mine=p.inc
   rw [receive_mine];exact h
  ·show (p.cS.cO x.number x.value).mine=p.inc
   rw [receive_mine];exact h
 ·split
  ·exact h
  ·split
   ·unfold Prt.cO;split
    ·exact h
    ·dsimp only;split <;> exact h
   ·split
    ·exact h
    ·split
     ·unfold Prt.raise;split <;> exact h
     ·exact h
theorem Prt.Min.handles {p:Prt} (h:p.Min):∀l:List Pt,(l.foldl Prt.cU p).Min
 |[]=>h
 |x::l=>by rw [List.foldl_cons];exact (h.cU x).handles l
abbrev Prt.hail (p:Prt):Pt:=⟨1#8,0,p.inc,p.cS.cR.cM,[]⟩
abbrev Prt.ackn (p:Prt):Pt:=⟨3#8,0,(p.rcv % 256:Nat),p.inc,[]⟩
abbrev Prt.cred (p:Prt) (c:Nat):Pt:=⟨4#8,(c:Int),((p.giv.getD c ⟨0,0,0⟩).cE:Int) - ((p.base.getD c 0:Nat):Int),p.inc,[]⟩
theorem Prt.cX {a a1:Prt} {l:List Pt} (h:a1=l.foldl Prt.cU a) (hs:a1.cS.cR.state≠2):a.cR l=([a1.hail],{ a1 with cS:=a1.cS.cR }):=by
 unfold Prt.cR;rw [<-h];exact if_pos hs
theorem Prt.tick_up {a a1:Prt} {l:List Pt} (h:a1=l.foldl Prt.cU a) (hs:a1.cS.cR.state=2):a.cR l =
  (match (Prt.choose { a1 with cS:=a1.cS.cR }).snd.cR with
  |(some (n,d),s)=>(a1.hail::a1.ackn::(List.range a1.base.length).map a1.cred++[⟨2#8,(Prt.classOf { Prt.choose { a1 with cS:=a1.cS.cR } with snd:=s } n:Nat),n,(Prt.choose { a1 with cS:=a1.cS.cR }).inc,d⟩],{ Prt.choose { a1 with cS:=a1.cS.cR } with snd:=s })
  |(none,s)=>(a1.hail::a1.ackn::(List.range a1.base.length).map a1.cred,{ Prt.choose { a1 with cS:=a1.cS.cR } with snd:=s })):=by
 unfold Prt.cR;rw [<-h];exact if_neg (fun h=>h hs)
def TickPost (F Z:BS) (W:World) (ts:List Th) (p:Nat) (r:List Pt × Prt) (e:Ending) (w':World):Prop:=
 ∃(sa:Option Addr) (sc:Nat),e=.returned (.slice sa r.1.length sc)/\dY F Z W (tSq ePt 32 (.slice sa r.1.length sc) r.1::bP p r.2::ts) w'
section
variable {F Z:BS} {W w:World} {ts:List Th} {p N:Nat} {a:Prt}
theorem sideTick_h {sp:Nat} {s:Side} (h:dY F Z W ts w) (i:Nat) (hi:ts[i]? = some (tSide sp s)) (hok:s.Ok) :
  Calls Try.prog 34 #[.pointer (some ⟨sp,0,none⟩)] w fun e w'=>e=.returned (.agg #[.int .i64 (s.cR.mine:Int),.int .i64 (s.cR.cM:Int)])/\dY F Z W (ts.set i (tSide sp s.cR)) w':=
 h.act i hi fun G Y hd hon=>(sideTick_any sp s w hon.2 hok).mono fun e w' ⟨he,h1,h2⟩=>⟨he,Did.same (T:=tSide sp s.cR) (h2.mono fun k hk=>by subst hk;exact hon.1) ⟨hon.1,h1⟩ hd⟩
set_option maxRecDepth 100000 in
theorem tick_c (bV:List Pt) (av:Value) (hok:a.Ok N) (hmi:a.Min) (hN:N+200*bV.length+1000<=1000000000) (harr:∀x ∈ bV,x.pay.length<=1000) (h:dY F Z W (bP p a::ts) w) (j:Nat) (hj:ts[j]? = some (tRd ePt av bV)) :
  Calls Try.prog 10 #[.pointer (some ⟨p,0,none⟩),av] w (TickPost F Z W ts p (a.cR bV)):=by
 obtain ⟨_,_,hrd⟩:=h.get (j+1) (T:=tRd ePt av bV) (by simpa using hj)
 obtain ⟨aa,ac,rfl,m1,m2⟩:=RdS.shape hrd
 have HH:=aQ h
 have HOK:=aQ hok
 have HARR:=aQ harr
 have HJ:=aQ hj
 have HMI:=aQ (hmi.handles bV)
 clear hrd h hok harr hj hmi
 go_enter Try.func10,Try.ntmps10
 go_wp2_with fail
 go_loopw [19,6] (fun i _ wr=>∃k:Nat,k<=bV.length/\i=.int .i64 (k:Int)/\Hid (dY F Z W (bP p ((bV.take k).foldl Prt.cU a)::ts) wr)) (fun i _ _=>bV.length - (intOf i).toNat)
 case atStart=>exact ⟨0,Nat.zero_le _,rfl,HH⟩
 case round=>
  clear HH
  obtain ⟨k,hk,rfl,HK⟩:=hrel
  by_cases hlt:k < bV.length
  ·obtain ⟨x,hx⟩:∃x,bV[k]? = some x:=⟨_,List.getElem?_eq_getElem hlt⟩
   obtain ⟨_,_,hrd⟩:=HK.out.get (j+1) (T:=tRd ePt (.slice aa bV.length ac) bV) (by simpa using HJ.out)
   obtain ⟨b,off,pa,pc,e1,_,k0,k1,k2,k3,k4⟩:=pt_at hrd hx
   subst e1
   have HW:=aQ (HK.out.weak (j+1) (A:=tRd ePt (.slice (some ⟨b,off,none⟩) bV.length ac) bV) (T:=tBy (.slice pa x.pay.length pc) x.pay) (by simpa using HJ.out) fun G Y hon=>by
    obtain ⟨b',off',pa',pc',e',hby,_,_,_,_,k4'⟩:=pt_at (show RdS ePt wr Y _ _ from hon) hx
    obtain ⟨rfl,rfl⟩:b=b'/\off=off':=by simpa using e'
    rw [k4] at k4'
    obtain ⟨rfl,rfl⟩:pa=pa'/\pc=pc':=by simpa using k4'
    exact hby)
   have hokk:=HOK.out.handles (bV.take k) fun y hy=>HARR.out y (List.mem_of_mem_take hy)
   have hlk:(bV.take k).length<=bV.length:=by rw [List.length_take];omega
   have hbx:=aK wr (bW x (.slice pa x.pay.length pc))
   have HQ:=aQ (handle_c (ts:=ts++[tBy (.slice pa x.pay.length pc) x.pay]) x (.slice pa x.pay.length pc) hokk (by omega) (show dY F Z W (bP p ((bV.take k).foldl Prt.cU a)::(ts++[tBy (.slice pa x.pay.length pc) x.pay])) (wr.alloc (bW x (.slice pa x.pay.length pc))) from HW.out.own hbx) ts.length (by simp) (HARR.out x (List.mem_of_getElem? hx)))
   have HT:=aQ (show (bV.take (k+1)).foldl Prt.cU a=((bV.take k).foldl Prt.cU a).cU x by rw [List.take_add_one,hx,List.foldl_append];rfl)
   clear hrd hx hokk hbx hlk
   go_wp2_with fail
   refine HQ.out.mono ?_
   rintro e w' ⟨rfl,hh⟩
   have H2:=aQ (show dY F Z W (bP p ((bV.take (k+1)).foldl Prt.cU a)::ts) w' by
    rw [HT.out]
    exact dY.dropLast (us:=[bP p (((bV.take k).foldl Prt.cU a).cU x)]) hh)
   clear hh HQ HW k0 k1 k2 k3 k4
   go_wp2_with fail
   go_roundw
   case rel=>exact ⟨k+1,by omega,by go_num,H2⟩
   case measure=>simp [intOf];omega
  ·obtain rfl:bV.length=k:=by omega
   rw [List.take_length] at HK
   have HOK1:=aQ (HOK.out.handles bV HARR.out)
   obtain ⟨a1,ha1⟩:∃a1,a1=bV.foldl Prt.cU a:=⟨_,rfl⟩
   rw [<-ha1] at HK HOK1 HMI
   have HA1:=aQ ha1
   obtain ⟨y,hst⟩:=HK.out.port'
   obtain ⟨rv,sp,ap,wv,bv,snp,rcp,tkp,gvp,bsv,kv,acv,rev,tav⟩:=y
   have hrow:=hst.blk 0 rfl
   obtain ⟨c0,_,_,_,_,c5,_⟩:=aB hrow
   dsimp only at c0 c5
   have H1:=aQ hst
   have HSD:=aQ (sideTick_h hst 2 rfl HOK1.out.cS)
   clear hst hrow ha1 HK HOK HARR
   go_wp2_with fail
   refine HSD.out.mono ?_
   rintro e w2 ⟨rfl,hh⟩
   have H2:=aQ (show dY F Z W (bX p { a1 with cS:=a1.cS.cR } ⟨rv,sp,ap,wv,bv,snp,rcp,tkp,gvp,bsv,kv,acv,rev,tav⟩++ts) w2 from hh)
   rw [show a1.cS.cR.mine=a1.inc by rw [sideTick_mine];exact HMI.out]
   clear hh HSD H1 c0 c5
   go_upto_region 11 with fail
   have h4:=(H2.out.alloc (.cells #[.int .i64 (a1.inc:Int),.int .i64 (a1.cS.cR.cM:Int)] 91)).lit_pt (x:=a1.hail) (v:=.slice none 0 0) fun Y=>ByZ.nil _ Y
   rw [World.size_alloc] at h4
   change dY F Z W _ ((w2.alloc (.cells #[.int .i64 (a1.inc:Int),.int .i64 (a1.cS.cR.cM:Int)] 91)).alloc (.cells #[.int .u8 1,.int .i64 0,.int .i64 (a1.inc:Int),.int .i64 (a1.cS.cR.cM:Int),.slice none 0 0] 32)) at h4
   generalize (w2.alloc (.cells #[.int .i64 (a1.inc:Int),.int .i64 (a1.cS.cR.cM:Int)] 91)).alloc (.cells #[.int .u8 1,.int .i64 0,.int .i64 (a1.inc:Int),.int .i64 (a1.cS.cR.cM:Int),.slice none 0 0] 32)=w4 at h4 ⊢
   generalize w2.heap.size+1=lb at h4 ⊢
   have H4:=aQ (show dY F Z W (tSq ePt 32 (.slice (some ⟨lb,0,none⟩) 1 1) [a1.hail]::(bX p { a1 with cS:=a1.cS.cR } ⟨rv,sp,ap,wv,bv,snp,rcp,tkp,gvp,bsv,kv,acv,rev,tav⟩++ts)) w4 from h4)
   have hrow:=h4.blk 1 rfl
   have c5:=(aB hrow).2.2.2.2.2.1
   have c11:=(aB hrow).2.2.2.2.2.2.2.2.2.2.2.1
   dsimp only at c5 c11
   obtain ⟨_,_,hsd⟩:=h4.get 3 rfl
   have HST:=aQ (state_any sp a1.cS.cR w4 hsd.2)
   obtain ⟨_,_,hrc⟩:=h4.get 8 rfl
   obtain ⟨rx,hrx⟩:∃rx:Nat,rx=a1.rcv % 256:=⟨_,rfl⟩
   have HRX:=aQ hrx
   have hrxi:(a1.rcv:Int) % 256=(rx:Int):=by omega
   have hex:=expected_any rcp a1.rcv w4 hrc.1
   rw [hrxi] at hex
   have HEX:=aQ hex
   clear hrx hrxi hex
   clear h4 hrow hsd hrc H2
   by_cases hup:a1.cS.cR.state=2
   ·have b1:((a1.cS.cR.state:Int) != 2)=false:=by rw [hup];rfl
    have HUP:=aQ hup
    clear hup
    go_upto_region 13 with (go_at_call 35;refine HST.out.mono ?_;rintro e w' ⟨rfl,rfl⟩)
    go_upto_region 14 with (first
     |(go_at_call 36;refine HEX.out.mono ?_;rintro e w' ⟨rfl,rfl⟩)
     |(at_builtin;refine wpList_app_pt (xs:=[a1.hail]) (x:=⟨3#8,0,(rx:Int),a1.inc,[]⟩) (pa:=none) (pn:=0) (pc:=0) rfl _ _ rfl H4.out 0 rfl (fun Y _=>ByZ.nil _ Y) (aK w4 _) (by simp) rfl w4.heap.size rfl (heap_alloc_new w4 _) ?_;intro sa sc w5 h5;have H5:=aQ h5;clear h5))
    have HL2:=aQ (show [a1.hail]++[(⟨3#8,0,(rx:Int),a1.inc,[]⟩:Pt)]=a1.hail::a1.ackn::(List.range 0).map a1.cred by rw [HRX.out];rfl)
    rw [HL2.out] at H5
    obtain ⟨_,_,hbs⟩:=H5.out.get 11 rfl
    obtain ⟨sb,so,sk,e6,r1,r2⟩:=bR (show Sq dK 3 w5 _ _ bsv a1.base from hbs) (by rw [HOK1.out.sl];exact HOK1.out.n1)
    subst e6
    have hrow:=H5.out.blk 1 rfl
    have c14:=(aB hrow).2.2.2.2.2.2.2.2.2.2.2.2.2.2.1
    dsimp only at c14
    rw [HOK1.out.sl] at c14
    have H6:=aQ (show dY F Z W (tSq ePt 32 (.slice sa (a1.hail::a1.ackn::(List.range 0).map a1.cred).length sc) (a1.hail::a1.ackn::(List.range 0).map a1.cred)::(bX p { a1 with cS:=a1.cS.cR } ⟨rv,sp,ap,wv,bv,snp,rcp,tkp,gvp,.slice (some ⟨sb,so,none⟩) a1.base.length sk,kv,acv,rev,tav⟩++ts)) w5 from H5.out)
    have hbl:a1.aZ.length<=4:=HOK1.out.n4
    clear hbs hrow H5 H4 HST HEX c5 c11 HL2
    go_wp2_with fail
    go_loopw [65,9,10,11] (fun i u9 _ _ wr=>∃(k:Nat) (l:List Pt) (sa:Option Addr) (sc:Nat),k<=a1.aZ.length/\i=.int .i64 (k:Int)/\u9=.slice sa l.length sc/\Hid (l=a1.hail::a1.ackn::(List.range k).map a1.cred)/\l.length<=6/\Hid (dY F Z W (tSq ePt 32 (.slice sa l.length sc) l::(bX p { a1 with cS:=a1.cS.cR } ⟨rv,sp,ap,wv,bv,snp,rcp,tkp,gvp,.slice (some ⟨sb,so,none⟩) a1.base.length sk,kv,acv,rev,tav⟩++ts)) wr)) (fun i _ _ _ _=>a1.aZ.length - (intOf i).toNat)
    case atStart=>exact ⟨0,_,sa,sc,Nat.zero_le _,rfl,rfl,aQ rfl,by simp,H6⟩
    case round=>
     clear H6 c14
     obtain ⟨k,l,ua,uc,hk,rfl,rfl,HLL,hl6,HK⟩:=hrel
     by_cases hlt:k < a1.aZ.length
     ·have hrow:=HK.out.blk 1 rfl
      have c13:=(aB hrow).2.2.2.2.2.2.2.2.2.2.2.2.2.1
      dsimp only at c13
      obtain ⟨_,_,hbs⟩:=HK.out.get 11 rfl
      have hz:=bT (d:=0) (show k < a1.base.length by rw [HOK1.out.sl];exact hlt)
      have hzb:=HOK1.out.bas _ (List.mem_of_getElem? hz)
      have hzc:=nat_cell (show Sq dK 3 wr _ _ (.slice (some ⟨sb,so,none⟩) a1.base.length sk) a1.base from hbs) hz
      obtain ⟨_,_,hgv⟩:=HK.out.get 10 rfl
      have hg:=bT (d:=(⟨0,0,0⟩:Giv)) (show k < a1.giv.length by rw [HOK1.out.gl];exact hlt)
      have hgb:=HOK1.out.giv _ (List.mem_of_getElem? hg)
      have HLM:=aQ (limit_any hgv (by rw [HOK1.out.gl];exact hbl) hg (by omega) (by omega))
      obtain ⟨z,hzz⟩:∃z,z=a1.base.getD k 0:=⟨_,rfl⟩
      obtain ⟨g,hgg⟩:∃g,g=a1.giv.getD k ⟨0,0,0⟩:=⟨_,rfl⟩
      have HZ:=aQ hzz
      have HGG:=aQ hgg
      rw [<-hzz] at hzb hzc
      rw [<-hgg] at hgb HLM
      obtain ⟨g1,g2,g3⟩:=hgb
      clear hrow hbs hz hgv hg hzz hgg
      go_wp2_with fail
      refine HLM.out.mono ?_
      rintro e w6 ⟨rfl,hb6⟩
      have HCR:=aQ (show (⟨4#8,(k:Int),(g.room:Int)+(g.cI:Int) - (z:Int),a1.inc,[]⟩:Pt)=a1.cred k by
       unfold Prt.cred
       rw [<-HGG.out,<-HZ.out]
       unfold Giv.cE
       rw [Int.natCast_add])
      have HB6:=aQ hb6
      clear hb6 HLM
      have hgm:(g.room:Int)+(g.cI:Int)<=2000000000:=by omega
      have hgm2:0<=(g.room:Int)+(g.cI:Int):=by omega
      have hzi:(z:Int)<=1000000000:=by omega
      go_upto_region 18 with (at_builtin;refine wpList_app_pt (xs:=l) (x:=⟨4#8,(k:Int),(g.room:Int)+(g.cI:Int) - (z:Int),a1.inc,[]⟩) (pa:=none) (pn:=0) (pc:=0) rfl _ _ rfl HK.out 0 rfl (fun Y _=>ByZ.nil _ Y) (HB6.out.trans ((aK w6 _).mono HB6.out.size)) (by omega) rfl w6.heap.size rfl (heap_alloc_new w6 _) ?_;intro va vc w7 h7;have H7:=aQ h7;clear h7)
      have HL7:=aQ (show l++[(⟨4#8,(k:Int),(g.room:Int)+(g.cI:Int) - (z:Int),a1.inc,[]⟩:Pt)]=a1.hail::a1.ackn::(List.range (k+1)).map a1.cred by
       rw [HLL.out,HCR.out,List.range_succ,List.map_append];rfl)
      have h7:=H7.out
      rw [HL7.out] at h7
      obtain ⟨l',hl'⟩:∃l',l'=a1.hail::a1.ackn::(List.range (k+1)).map a1.cred:=⟨_,rfl⟩
      have hlen:l.length+1=l'.length:=by rw [hl',<-HL7.out];simp
      have hl6':l'.length<=6:=by rw [hl'];simp;omega
      rw [<-hl'] at h7
      have H8:=aQ h7
      have HLL':=aQ hl'
      rw [hlen]
      clear h7 hl' H7 HL7 c13 hzc HB6 hlen
      go_wp2_with fail
      go_roundw
      case rel=>exact ⟨k+1,l',va,vc,by omega,by go_num,rfl,HLL',hl6',H8⟩
      case measure=>simp [intOf];omega
     ·obtain rfl:a1.aZ.length=k:=by omega
      have hA:=(dY.bO (ts:=ts++[tSq ePt 32 (.slice ua l.length uc) l]) (show dY F Z W (bX p { a1 with cS:=a1.cS.cR } ⟨rv,sp,ap,wv,bv,snp,rcp,tkp,gvp,.slice (some ⟨sb,so,none⟩) a1.base.length sk,kv,acv,rev,tav⟩++(ts++[tSq ePt 32 (.slice ua l.length uc) l])) wr by rw [<-List.append_assoc];exact dY.rear HK.out))
      obtain ⟨M,hM⟩:∃M,M=N+200*bV.length:=⟨_,rfl⟩
      have hokA:Prt.Ok M { a1 with cS:=a1.cS.cR }:=by rw [hM];exact HOK1.out.sideTick
      have HCH:=aQ (choose_c hokA (by omega) hA)
      have HTU:=aQ (Prt.tick_up HA1.out HUP.out)
      have hok2:=hokA.choose
      have hinc:(Prt.choose { a1 with cS:=a1.cS.cR }).inc=a1.inc:=by
       unfold Prt.choose
       split
       ·rfl
       ·split <;> rfl
      obtain ⟨a2,ha2⟩:∃a2,a2=Prt.choose { a1 with cS:=a1.cS.cR }:=⟨_,rfl⟩
      rw [<-ha2] at HCH HTU hok2 hinc
      have HOK2:=aQ hok2
      have HINC:=aQ hinc
      have HLB:=aQ (show l=a1.hail::a1.ackn::(List.range a1.base.length).map a1.cred by rw [HLL.out,HOK1.out.sl])
      clear hA hokA hok2 hinc ha2
      go_wp2_with fail
      refine HCH.out.mono ?_
      rintro e w3 ⟨rfl,hh⟩
      obtain ⟨y',hst⟩:=hh.port'
      obtain ⟨rv',sp',ap',wv',bv',snp',rcp',tkp',gvp',bsv',kv',acv',rev',tav'⟩:=y'
      have c10:=(aB (hst.blk 0 rfl)).2.2.2.2.2.2.2.2.2.2.1
      dsimp only at c10
      have HTS:=aQ (stick_h hst 6 rfl HOK2.out.snd (by have:=HOK2.out.tot;omega))
      clear hh hst HCH HK
      go_wp2_with fail
      cases ht:a2.snd.cR with
      |mk o s'=>
      rw [ht] at HTS HTU
      have HTT:=aQ ht
      clear ht
      cases o with
      |none=>
       refine HTS.out.mono ?_
       rintro e w5 ⟨v,rfl,hh⟩
       have h5:dY F Z W (bX p { a2 with snd:=s' } ⟨rv',sp',ap',wv',bv',snp',rcp',tkp',gvp',bsv',kv',acv',rev',tav'⟩++(ts++[tSq ePt 32 (.slice ua l.length uc) l])) w5:=dY.tail (dY.front hh)
       have H5:=aQ h5
       clear hh h5 HTS
       go_wp2_with fail
       go_ret
       refine ⟨ua,uc,by rw [HTU.out];dsimp only;rw [<-HLB.out];rfl,?_⟩
       rw [HTU.out,<-HLB.out]
       exact dY.front (ts:=bP p { a2 with snd:=s' }::ts) (dY.bO (ts:=ts++[tSq ePt 32 (.slice ua l.length uc) l]) H5.out)
      |some nd=>
       obtain ⟨n,d⟩:=nd
       have hts:=tick_some HOK2.out.snd HTT.out
       have hkk:=HOK2.out.keptl
       have hok3:=HOK2.out.sndTick
       rw [HTT.out] at hok3
       refine HTS.out.mono ?_
       rintro e w5 ⟨v,rfl,hh⟩
       obtain ⟨_,_,hby⟩:=(dY.front hh).get 0 rfl
       obtain ⟨va,vc,rfl⟩:=ByZ.slice hby
       have h5:dY F Z W (bP p { a2 with snd:=s' }::(ts++[tSq ePt 32 (.slice ua l.length uc) l]++[tBy (.slice va d.length vc) d])) w5:=dY.bO (x:=⟨rv',sp',ap',wv',bv',snp',rcp',tkp',gvp',bsv',kv',acv',rev',tav'⟩) (by rw [<-List.append_assoc];exact hh)
       have HCL:=aQ (class_c (a:={ a2 with snd:=s' }) n hok3 (by omega) hts.1 (by show _ < a2.cT.length;rw [hkk];exact hts.2) h5)
       clear hh h5 HTS hts hkk hok3 hby
       dsimp only [Option.elim,Option.isSome]
       go_wp2_with fail
       refine HCL.out.mono ?_
       rintro e w6 ⟨rfl,hh⟩
       have H6:=aQ (show dY F Z W (tSq ePt 32 (.slice ua l.length uc) l::tBy (.slice va d.length vc) d::bP p { a2 with snd:=s' }::ts) w6 from
        dY.front (ts:=tBy (.slice va d.length vc) d::bP p { a2 with snd:=s' }::ts) (dY.front (ts:=bP p { a2 with snd:=s' }::(ts++[tSq ePt 32 (.slice ua l.length uc) l])) hh))
       obtain ⟨cl,hcl⟩:∃cl,cl=Prt.classOf { a2 with snd:=s' } n:=⟨_,rfl⟩
       rw [<-hcl] at HTU ⊢
       clear hh HCL hcl
       go_upto_region 23 with (at_builtin;refine wpList_app_pt (xs:=l) (x:=⟨2#8,(cl:Int),(n:Int),a1.inc,d⟩) (pa:=va) (pn:=d.length) (pc:=vc) rfl _ _ rfl H6.out 0 rfl (fun Y hO=>by obtain ⟨_,_,hb⟩:=hO 1 _ (by decide) rfl;exact hb) (aK w6 _) (by omega) rfl w6.heap.size rfl (heap_alloc_new w6 _) ?_;intro xa xc w7 h7;have H7:=aQ h7;clear h7)
       go_wp2_with fail
       go_ret
       have HF:=HTU.out
       rw [<-HLB.out,HINC.out] at HF
       refine ⟨xa,xc,by rw [HF];dsimp only;rw [List.length_append];rfl,?_⟩
       rw [HF]
       have h7:=H7.out
       rw [<-HINC.out] at h7 ⊢
       exact dY.pickL (us:=[tSq ePt 32 (.slice xa (l++[(⟨2#8,(cl:Int),(n:Int),a2.inc,d⟩:Pt)]).length xc) (l++[(⟨2#8,(cl:Int),(n:Int),a2.inc,d⟩:Pt)]),tBy (.slice va d.length vc) d,bP p { a2 with snd:=s' }]) (vs:=[tSq ePt 32 (.slice xa (l++[(⟨2#8,(cl:Int),(n:Int),a2.inc,d⟩:Pt)]).length xc) (l++[(⟨2#8,(cl:Int),(n:Int),a2.inc,d⟩:Pt)]),bP p { a2 with snd:=s' }]) h7 [0,2] (by decide) rfl
   ·have b1:((a1.cS.cR.state:Int) != 2)=true:=by rw [bne_iff_ne];omega
    have HG:=aQ (Prt.cX HA1.out hup)
    clear hup
    go_wp2_with (go_at_call 35;refine HST.out.mono ?_;rintro e w' ⟨rfl,rfl⟩)
    go_ret
    refine ⟨some ⟨lb,0,none⟩,1,?_,?_⟩
    ·rw [HG.out];rfl
    ·rw [HG.out]
     exact dY.front (ts:=[bP p { a1 with cS:=a1.cS.cR }]++ts) (by
      rw [List.append_assoc]
      exact dY.bO (ts:=ts++[tSq ePt 32 (.slice (some ⟨lb,0,none⟩) 1 1) [a1.hail]]) (by rw [<-List.append_assoc];exact dY.rear H4.out))
end
end

section
open Go.RowKit
set_option maxRecDepth 100000 in
theorem sameP_refl (x:Pt) (pa qa:Option Addr) (pc qc:Nat) (w:World) (h1:By w (.slice pa x.pay.length pc) x.pay) (h2:By w (.slice qa x.pay.length qc) x.pay) :
  Calls Try.prog 12 #[dH x (.slice pa x.pay.length pc),dH x (.slice qa x.pay.length qc)] w fun e w'=>e=.returned (.bool true)/\Below w.heap.size w w':=by
 obtain ⟨hm,h1⟩:=h1.cases
 obtain ⟨_,h2⟩:=h2.cases
 have hm2:x.pay.length<=9223372036854775807:=hm
 have hb:=(show Below w.heap.size w ((w.alloc (bW x (.slice pa x.pay.length pc))).alloc (bW x (.slice qa x.pay.length qc))) by (with_reducible (repeat (first|exact Below.refl _ _|refine Bw.alloc ?_ _|refine Bw.drewN ?_ _|refine Bw.drew ?_))))
 have HB:=aQ hb
 have H1:=aQ h1
 have H2:=aQ h2
 have r1:=(Below.heap_alloc (w.alloc (bW x (.slice pa x.pay.length pc))) (bW x (.slice qa x.pay.length qc)) w.heap.size (by simp)).trans (heap_alloc_new w (bW x (.slice pa x.pay.length pc)))
 have r2:=heap_alloc_new (w.alloc (bW x (.slice pa x.pay.length pc))) (bW x (.slice qa x.pay.length qc))
 rw [World.size_alloc] at r2
 have k4:=(pt_cells r1).2.2.2.2
 have l4:=(pt_cells r2).2.2.2.2
 clear hb h1 h2 hm r1 r2
 go_enter Try.func12,Try.ntmps12
 go_wp2_with fail
 generalize (w.alloc (bW x (.slice pa x.pay.length pc))).alloc (bW x (.slice qa x.pay.length qc))=w1 at *
 go_loopw [5] (fun i wr=>∃k:Nat,k<=x.pay.length/\i=.int .i64 (k:Int)/\∃n,wr=w1.drewN n) (fun i _=>x.pay.length - (intOf i).toNat)
 case atStart=>exact ⟨0,Nat.zero_le _,rfl,0,rfl⟩
 case round=>
  obtain ⟨k,hk,rfl,n,rfl⟩:=hrel
  by_cases hlt:k < x.pay.length
  ·obtain ⟨b,off,c,e,_,_,_,hc⟩:=H1.out.resolve_left (fun h=>by have h0:=hlt;rw [h.1] at h0;simp at h0)
   obtain ⟨b',off',c',e',_,_,_,hc'⟩:=H2.out.resolve_left (fun h=>by have h0:=hlt;rw [h.1] at h0;simp at h0)
   obtain ⟨rfl,rfl⟩:pa=some ⟨b,off,none⟩/\pc=c:=by simpa using e
   obtain ⟨rfl,rfl⟩:qa=some ⟨b',off',none⟩/\qc=c':=by simpa using e'
   have e1:=hc k hlt
   have e2:=hc' k hlt
   have d1:=(World.cell?_of_block (HB.out.block b (World.block_lt_of_cell? w _ e1))).trans e1
   have d2:=(World.cell?_of_block (HB.out.block b' (World.block_lt_of_cell? w _ e2))).trans e2
   generalize x.pay.getD k 0=y at d1 d2
   clear hc hc' e e' e1 e2
   go_wp2_with fail
   go_quiet (fail)
   go_wp2_with fail
   go_roundw
   case rel=>exact ⟨k+1,by omega,by go_num,_,rfl⟩
   case measure=>simp [intOf];omega
  ·obtain rfl:x.pay.length=k:=by omega
   go_wp2_with fail
   go_ret
   exact ⟨rfl,Bw.drewN HB.out n⟩
end

section
open Go.RowKit
section
variable {P:Program} {ops:Array Oper} {Q:Exit->Act->World->Prop} {md:Region.Mode} {S:World->Prop}
def readies (md:Region.Mode) (ops:Array Oper):Nat->List Nat->Array Bool->Bool
 |0,_,_=>true
 |m+1,js,listed=>decide (Region.ready md ops listed=js) && js.all fun j=>readies md ops m (js.erase j) (listed.setIfInBounds j true)
theorem foldl_cong {α β : Type} {f g : β -> α -> β}:∀ {l:List α} {b : β},(∀x ∈ l,∀c,f c x=g c x)->l.foldl f b=l.foldl g b
 |[],_,_=>rfl
 |x::l,b,h=>by
  rw [List.foldl_cons,List.foldl_cons,h x List.mem_cons_self b]
  exact foldl_cong fun y hy c=>h y (List.mem_cons_of_mem _ hy) c
theorem foldl_perm {α β : Type} {f : β -> α -> β} (hf:∀c x y,f (f c x) y=f (f c y) x) {l l':List α} (h:l.Perm l'):∀b,l.foldl f b=l'.foldl f b:=by
 induction h with
 |nil=>intro b;rfl
 |cons x _ ih=>intro b;exact ih (f b x)
 |swap x y l=>intro b;simp only [List.foldl_cons,hf b y x]
 |trans _ _ h1 h2=>intro b;rw [h1 b,h2 b]
theorem eval_put {a:Act} {d x:Nat} {v:Value} (h:d≠x):(a.put (some d) v).eval (.tmp x)=a.eval (.tmp x):=by
 unfold Act.eval Act.put
 dsimp only
 rw [Array.getD_eq_getD_getElem?,Array.getD_eq_getD_getElem?,Array.getElem?_setIfInBounds_ne h]
def Mks (P:Program) (ops:Array Oper) (n:Nat) (D:Nat->Nat) (Ty:Nat->TypeId) (Zv:Nat->Value) (js:List Nat) (a:Act) (j:Nat):Prop:=
 ∃o t x bytes,ops[j]? = some o/\o.guard=none/\o.dst=some (D j)/\o.op=Op.makeSlice t (.tmp x) (.tmp x)/\(∀i ∈ js,D i≠x)/\a.eval (.tmp x)=.int .i64 (n:Int)/\SlT P t (Ty j) (Zv j) 1 bytes/\(Zv j).cells = #[Zv j]/\bytes*n<=281474976710656
theorem wpAnyH_makes (n:Nat) (hn:n<=maxLen) (D:Nat->Nat) (hD:∀i j,D i=D j->i=j) (Ty:Nat->TypeId) (Zv:Nat->Value) (fuel:Nat) :
  ∀(m:Nat) (js:List Nat) (listed:Array Bool) (a:Act) (w:World),js.length=m->js.Nodup->readies md ops m js listed=true->(∀w',Below w.heap.size w w'->S w')->(∀j ∈ js,Mks P ops n D Ty Zv js a j) ->
   (∀(B:Nat->Nat) (w':World),Below w.heap.size w w'->(∀j ∈ js,w.heap.size<=B j/\Sl w' (fun k=>k=B j) (Ty j) 1 (.slice (some ⟨B j,0,none⟩) n n) n (List.replicate n (Zv j)))->(∀i ∈ js,∀j ∈ js,B i=B j->i=j) ->
    wpAnyH P md ops Q S fuel (js.foldl (fun l j=>l.setIfInBounds j true) listed) (js.foldl (fun a j=>a.put (some (D j)) (.slice (some ⟨B j,0,none⟩) n n)) a) w') ->
   wpAnyH P md ops Q S (fuel+m) listed a w:=by
 intro m
 induction m with
 |zero=>
  intro js listed a w hl _ _ _ _ H
  obtain rfl:=List.length_eq_zero_iff.1 hl
  exact H (fun _=>0) w (Below.refl _ _) (fun j hj=>by cases hj) fun i hi=>by cases hi
 |succ m ih=>
  intro js listed a w hl hnd hok hS hops H
  simp only [readies,Bool.and_eq_true,decide_eq_true_eq,List.all_eq_true] at hok
  refine wpAnyH_all hok.1 (fun e=>by rw [e] at hl;cases hl) fun k hk=>?_
  obtain ⟨o,t,x,bytes,h1,h2,h3,h4,h5,h6,h7,h8,h9⟩:=hops k hk
  obtain ⟨i,hi,hz,hsz,hby⟩:=h7.info
  obtain ⟨w1,hrun,hown,hgr⟩:=run_make_full (P:=P) (w:=w) w.heap.size t (Ty k) i (Zv k) 1 h7.under hi hz hsz .i64 .i64 n (by rw [hby];exact h9) hn (Nat.le_refl _)
  have hb1:Below w.heap.size w w1:=(Below.refl w.heap.size w).grown hgr (Nat.le_refl _) (fun k e=>by cases e)
  rw [h8,Nat.mul_one,toList_madeCells_one] at hown
  have hsl:Sl w1 (fun k=>k=w.heap.size) (Ty k) 1 (.slice (some ⟨w.heap.size,0,none⟩) n n) n (List.replicate n (Zv k)):=by
   obtain ⟨hl,⟨h,_⟩|⟨g,cap,cur,e,hb,hg,h10,h11,h12,h13⟩⟩:=hown
   ·cases h
   ·obtain ⟨rfl,rfl⟩:w.heap.size=g/\n=cap:=by simpa using e
    exact ⟨hl,.inr ⟨_,0,_,cur,rfl,rfl,hg,h10,h11,by omega,by simpa using h13⟩⟩
  have hkl:w.heap.size < w1.heap.size:=by
   obtain ⟨_,⟨h,_⟩|⟨g,off,cap,cur,e,rfl,hg,_⟩⟩:=hsl
   ·cases h
   ·exact lt_of_block hg
  refine wpOp_step h1 fun K hK=>?_
  refine step_val (v:=.slice (some ⟨w.heap.size,0,none⟩) n n) (w':=w1) (by simp [Region.wanted,h2]) (by simp [execOp,h4,h6,hrun,Result.andThen]) ?_
  refine hK _ _ ⟨hS w1 hb1,?_⟩
  rw [h3]
  have hmem:∀j,j ∈ js.erase k->j ∈ js/\j≠k:=fun j hj=>⟨List.mem_of_mem_erase hj,fun e=>by subst e;exact (List.Nodup.not_mem_erase hnd) hj⟩
  refine ih (js.erase k) _ _ w1 (by rw [List.length_erase_of_mem hk,hl];rfl) (hnd.erase k) (hok.2 k hk) (fun w' hb=>hS w' (hb1.trans (hb.mono hb1.size))) (fun j hj=>?_) fun B' w' hb' hall hinj=>?_
  ·obtain ⟨o',t',x',bytes',q1,q2,q3,q4,q5,q6,q7⟩:=hops j (hmem j hj).1
   exact ⟨o',t',x',bytes',q1,q2,q3,q4,fun i hi=>q5 i (hmem i hi).1,by rw [eval_put (q5 k hk)];exact q6,q7⟩
  ·have hperm:js.Perm (k::js.erase k):=List.perm_cons_erase hk
   have:=H (fun j=>if j=k then w.heap.size else B' j) w' (hb1.trans (hb'.mono hb1.size)) (fun j hj=>?_) (fun i hi j hj e=>?_)
   ·have e1:js.foldl (fun (l:Array Bool) j=>l.setIfInBounds j true) listed=(js.erase k).foldl (fun (l:Array Bool) j=>l.setIfInBounds j true) (listed.setIfInBounds k true):=
     foldl_perm (f:=fun (l:Array Bool) j=>l.setIfInBounds j true) (fun c x y=>by
      by_cases hxy:x=y
      ·subst hxy;rfl
      ·exact Array.setIfInBounds_comm _ _ hxy) hperm listed
    have e2:js.foldl (fun (a:Act) j=>a.put (some (D j)) (.slice (some ⟨if j=k then w.heap.size else B' j,0,none⟩) n n)) a=(js.erase k).foldl (fun (a:Act) j=>a.put (some (D j)) (.slice (some ⟨B' j,0,none⟩) n n)) (a.put (some (D k)) (.slice (some ⟨w.heap.size,0,none⟩) n n)):=by
     rw [foldl_perm (f:=fun (a:Act) j=>a.put (some (D j)) (.slice (some ⟨if j=k then w.heap.size else B' j,0,none⟩) n n)) (fun c x y=>?_) hperm a]
     ·rw [List.foldl_cons,if_pos rfl]
      exact foldl_cong fun j hj c=>by rw [if_neg (hmem j hj).2]
     ·by_cases hxy:x=y
      ·subst hxy;rfl
      ·exact Act.put_comm c _ _ fun d e e'=>hxy (hD _ _ (by cases e;exact (Option.some.inj e').symm))
    rw [e1,e2] at this
    exact this
   ·by_cases hjk:j=k
    ·subst hjk
     rw [if_pos rfl]
     exact ⟨Nat.le_refl _,hsl.keep fun x hx hl=>hb'.block x hl⟩
    ·rw [if_neg hjk]
     have hj':j ∈ js.erase k:=(List.mem_erase_of_ne hjk).2 hj
     exact ⟨Nat.le_trans hb1.size (hall j hj').1,(hall j hj').2⟩
   ·by_cases hik:i=k
    ·by_cases hjk:j=k
     ·rw [hik,hjk]
     ·rw [if_pos hik,if_neg hjk] at e
      have:=(hall j ((List.mem_erase_of_ne hjk).2 hj)).1
      omega
    ·by_cases hjk:j=k
     ·rw [if_neg hik,if_pos hjk] at e
      have:=(hall i ((List.mem_erase_of_ne hik).2 hi)).1
      omega
     ·rw [if_neg hik,if_neg hjk] at e
      exact hinj i ((List.mem_erase_of_ne hik).2 hi) j ((List.mem_erase_of_ne hjk).2 hj) e
end
end

section
open Go.RowKit
abbrev cfgV (inc:Int) (ra:Option Addr) (n rc:Nat) (wi ti de:Int):Value:=.agg #[.int .i64 inc,.slice ra n rc,.int .i64 wi,.int .i64 ti,.int .i64 de]
def Nums (w:World) (ra:Option Addr) (aZ:List Int):Prop:=∀(k:Nat) (x:Int),aZ[k]? = some x->∃b o,ra=some ⟨b,o,none⟩/\w.cell? ⟨b,o+k,none⟩=some (.int .i64 x)
theorem Nums.below {w w':World} {ra:Option Addr} {aZ:List Int} (h:Nums w ra aZ) (hb:Below w.heap.size w w'):Nums w' ra aZ:=fun k x hk=>by
 obtain ⟨b,o,e,hc⟩:=h k x hk
 exact ⟨b,o,e,(World.cell?_of_block (hb.block b (World.block_lt_of_cell? w _ hc))).trans hc⟩
structure CfgOk (inc:Int) (aZ:List Int) (wi ti de:Int):Prop where
 n1:1<=aZ.length
 n4:aZ.length<=4
 rm:∀x ∈ aZ,1<=x/\x<=64
 i1:1<=inc
 i2:inc<=1099511627775
 w1:1<=wi
 w2:wi<=128
 t1:1<=ti
 t2:ti<=1000
 d1:1<=de
 d2:de<=1000
set_option maxRecDepth 100000 in
theorem valid_yes {inc wi ti de:Int} {aZ:List Int} {ra:Option Addr} {rc:Nat} (w:World) (hok:CfgOk inc aZ wi ti de) (hr:Nums w ra aZ) :
  Calls Try.prog 23 #[cfgV inc ra aZ.length rc wi ti de] w fun e w'=>e=.returned (.bool true)/\Below w.heap.size w w':=by
 obtain ⟨n1,n4,rm,i1,i2,w1,w2,t1,t2,d1,d2⟩:=hok
 have HR:=aQ hr;have HM:=aQ rm
 clear hr rm
 go_enter Try.func23,Try.ntmps23
 go_wp2_with fail
 generalize hwx:w.alloc _=wx
 have HB:=aQ (show Below w.heap.size w wx by rw [<-hwx];exact aK w _)
 have hrow:wx.heap[w.heap.size]? = some (.cells #[.int .i64 inc,.slice ra aZ.length rc,.int .i64 wi,.int .i64 ti,.int .i64 de] 24):=by rw [<-hwx];exact heap_alloc_new w _
 have c0:=aJ (i:=0) hrow rfl;have c1:=aJ (i:=1) hrow rfl;have c2:=aJ (i:=2) hrow rfl;have c3:=aJ (i:=3) hrow rfl;have c4:=aJ (i:=4) hrow rfl
 clear hwx hrow
 go_loop [18,4] (fun i _=>∃k:Nat,k<=aZ.length/\i=.int .i64 (k:Int)) (fun i _=>aZ.length - (intOf i).toNat)
 case atStart=>exact ⟨0,Nat.zero_le _,rfl⟩
 case round=>
  obtain ⟨k,hk,rfl⟩:=hrel
  by_cases hlt:k < aZ.length
  ·have hx:aZ[k]? = some (aZ.getD k 0):=bT hlt
   obtain ⟨b,o,e,hc⟩:=HR.out.below HB.out k _ hx
   subst e
   obtain ⟨m1,m2⟩:=HM.out _ (List.mem_of_getElem? hx)
   generalize aZ.getD k 0=x at hc m1 m2 hx
   clear hx
   go_wp2_with fail
   go_round
   case rel=>exact ⟨k+1,by omega,by go_num⟩
   case measure=>simp [intOf];omega
  ·obtain rfl:aZ.length=k:=by omega
   go_wp2_with fail
   go_ret
   exact ⟨rfl,HB.out⟩
set_option maxRecDepth 100000 in
theorem valid_no {inc wi ti de:Int} {aZ:List Int} {ra:Option Addr} {rc:Nat} (w:World) (hl:aZ.length<=1000000) (hok:¬CfgOk inc aZ wi ti de) (hr:Nums w ra aZ) :
  Calls Try.prog 23 #[cfgV inc ra aZ.length rc wi ti de] w fun e w'=>e=.returned (.bool false)/\Below w.heap.size w w':=by
 by_cases hn:aZ.length < 1\/(1<=aZ.length/\4 < aZ.length)
 ·clear hok hr
  rcases hn with h1|⟨h1,h2⟩
  all_goals
   go_enter Try.func23,Try.ntmps23
   go_wp2_with fail
   go_ret
   exact ⟨rfl,by (with_reducible (repeat (first|exact Below.refl _ _|refine Bw.alloc ?_ _|refine Bw.drewN ?_ _|refine Bw.drew ?_)))⟩
 ·have n1:1<=aZ.length:=by omega
  have n4:aZ.length<=4:=by omega
  have HR:=aQ hr
  have HBAD:=aQ (fun (hm:∀x ∈ aZ,1<=x/\x<=64)=>show inc < 1\/(1<=inc/\1099511627775 < inc)\/(1<=inc/\inc<=1099511627775/\wi < 1)\/(1<=inc/\inc<=1099511627775/\1<=wi/\128 < wi)\/(1<=inc/\inc<=1099511627775/\1<=wi/\wi<=128/\ti < 1) \/
    (1<=inc/\inc<=1099511627775/\1<=wi/\wi<=128/\1<=ti/\1000 < ti)\/(1<=inc/\inc<=1099511627775/\1<=wi/\wi<=128/\1<=ti/\ti<=1000/\de < 1)\/(1<=inc/\inc<=1099511627775/\1<=wi/\wi<=128/\1<=ti/\ti<=1000/\1<=de/\1000 < de) from
   Decidable.byContradiction fun hc=>hok ⟨n1,n4,hm,by omega,by omega,by omega,by omega,by omega,by omega,by omega,by omega⟩)
  clear hr hn hok
  go_enter Try.func23,Try.ntmps23
  go_wp2_with fail
  generalize hwx:w.alloc _=wx
  have HB:=aQ (show Below w.heap.size w wx by rw [<-hwx];exact aK w _)
  have hrow:wx.heap[w.heap.size]? = some (.cells #[.int .i64 inc,.slice ra aZ.length rc,.int .i64 wi,.int .i64 ti,.int .i64 de] 24):=by rw [<-hwx];exact heap_alloc_new w _
  have c0:=aJ (i:=0) hrow rfl;have c1:=aJ (i:=1) hrow rfl;have c2:=aJ (i:=2) hrow rfl;have c3:=aJ (i:=3) hrow rfl;have c4:=aJ (i:=4) hrow rfl
  clear hwx hrow
  go_loop [18,4] (fun i _=>∃k:Nat,k<=aZ.length/\i=.int .i64 (k:Int)/\Hid (∀x ∈ aZ.take k,1<=x/\x<=64)) (fun i _=>aZ.length - (intOf i).toNat)
  case atStart=>exact ⟨0,Nat.zero_le _,rfl,aQ (by simp)⟩
  case round=>
   obtain ⟨k,hk,rfl,HM⟩:=hrel
   by_cases hlt:k < aZ.length
   ·have hx:aZ[k]? = some (aZ.getD k 0):=bT hlt
    obtain ⟨b,o,e,hc⟩:=HR.out.below HB.out k _ hx
    subst e
    have HX:=aQ (show aZ.take (k+1)=aZ.take k++[aZ.getD k 0] by rw [List.take_add_one,hx];rfl)
    generalize aZ.getD k 0=x at hc hx HX
    clear hx
    by_cases hb:x < 1\/(1<=x/\64 < x)
    ·rcases hb with m1|⟨m1,m2⟩
     all_goals
      go_wp2_with fail
      go_ret
      exact ⟨rfl,HB.out⟩
    ·have m1:1<=x:=by omega
     have m2:x<=64:=by omega
     clear hb
     go_wp2_with fail
     go_round
     case rel=>exact ⟨k+1,by omega,by go_num,aQ fun y hy=>by
       rw [HX.out] at hy
       rcases List.mem_append.1 hy with hy|hy
       ·exact HM.out y hy
       ·obtain rfl:=List.mem_singleton.1 hy;exact ⟨m1,m2⟩⟩
     case measure=>simp [intOf];omega
   ·obtain rfl:aZ.length=k:=by omega
    have hbad:=HBAD.out (by have:=HM.out;rwa [List.take_length] at this)
    rcases hbad with h|⟨h,h2⟩|⟨h,h2,h3⟩|⟨h,h2,h3,h4⟩|⟨h,h2,h3,h4,h5⟩|⟨h,h2,h3,h4,h5,h6⟩|⟨h,h2,h3,h4,h5,h6,h7⟩|⟨h,h2,h3,h4,h5,h6,h7,h8⟩
    all_goals
     go_wp2_with fail
     go_ret
     exact ⟨by first|rfl|simp;try omega,HB.out⟩
end

section
open Go.RowKit
theorem cloneN_any {w:World} {ra:Option Addr} {rc:Nat} {aZ:List Nat} (h0:1<=aZ.length) (h4:aZ.length<=4) (hrc:aZ.length<=rc) (hrm:rc<=maxLen) (hr:∀(k x:Nat),aZ[k]? = some x->∃b o,ra=some ⟨b,o,none⟩/\w.cell? ⟨b,o+k,none⟩=some (.int .i64 (x:Int))) :
  Calls Try.prog 24 #[.slice ra aZ.length rc] w fun e w'=>∃v',e=.returned v'/\Sq dK 3 w' (fun k=>w.heap.size<=k) (fun _=>False) v' aZ/\Below w.heap.size w w':=by
 obtain ⟨b,o,rfl⟩:∃b o,ra=some ⟨b,o,none⟩:=by
  obtain ⟨b,o,e,_⟩:=hr 0 _ (List.getElem?_eq_getElem h0);exact ⟨b,o,e⟩
 have hsn:=fun a n c n' c'=>Lib.run_eql_slice_nil (P:=Try.prog) w 22 3 a n c n' c' Try.underlying22
 have HRD:=aQ (show Rd w 1 (.slice (some ⟨b,o,none⟩) aZ.length rc) aZ.length (aZ.map fun (x:Nat)=>Value.int .i64 (x:Int)) from ⟨by simp,_,rc,rfl,hrc,hrm,(fun e=>by cases e),fun b' hb j u hj=>by
  obtain rfl:=Option.some.inj hb
  rw [List.getElem?_map] at hj
  cases hx:aZ[j]? with
  |none=>rw [hx] at hj;cases hj
  |some x=>
   rw [hx] at hj
   obtain rfl:=Option.some.inj hj
   obtain ⟨b',o',e,hc⟩:=hr j x hx
   obtain ⟨rfl,rfl⟩:b=b'/\o=o':=by simpa using e
   exact ⟨rfl,hc⟩⟩)
 clear hr
 go_enter Try.func24,Try.ntmps24
 go_wp2_with (at_builtin;refine wpList_app slInt rfl _ _ rfl w.heap.size _ 0 [] rfl (World.ownsRow_made _ _ 0 (Nat.le_refl _) (Nat.zero_le _) rfl) _ aZ.length (aZ.map fun (x:Nat)=>Value.int .i64 (x:Int)) rfl (HRD.out.keep fun k _ hk=>Below.heap_alloc _ _ k hk) (by intro u hu;obtain ⟨x,_,rfl⟩:=List.mem_map.1 hu;rfl) (by unfold maxLen;omega) (by omega) (by simp) ?_;intro v2 w2 hown2 hg2 hiff;clear hiff;have HB2:=aQ (((Below.refl w.heap.size w).alloc (Nat.le_refl _) _).grown hg2 (by simp) (fun k e=>by cases e;exact Nat.le_refl _));have HO2:=aQ hown2;clear hown2 hg2)
 go_ret
 have ho:=HO2.out
 rw [Nat.zero_add,List.nil_append] at ho
 refine ⟨_,rfl,⟨fun k=>w.heap.size<=k/\k < w2.heap.size,fun _=>False,_,fun k hk=>hk.elim (·.1) False.elim,fun _ _ f=>f,fun k hk=>hk.2,(Sl.of_own ho fun _ h=>h).bound,?_⟩,HB2.out⟩
 have:=pure_nat.of (w:=w2) (Z:=fun _=>False) (fun _=>False) aZ
 rw [List.map_eq_flatMap];exact this
theorem slBBB:SlT Try.prog 53 54 (.slice none 0 0) 1 24:=⟨Try.underlying53,info_parts (by kernel_rfl),rfl,by decide⟩
theorem pnew_no {inc wi ti de:Int} {aZ:List Int} {ra:Option Addr} {rc:Nat} (w:World) (hl:aZ.length<=1000000) (hok:¬CfgOk inc aZ wi ti de) (hr:Nums w ra aZ) :
  Calls Try.prog 5 #[cfgV inc ra aZ.length rc wi ti de] w fun e w'=>e=.returned (.tuple #[.pointer none,.int .i64 2])/\Below w.heap.size w w':=by
 have hb0:=aK w (.cells #[.int .i64 inc,.slice ra aZ.length rc,.int .i64 wi,.int .i64 ti,.int .i64 de] 24)
 have HQ:=aQ (valid_no (rc:=rc) (w.alloc (.cells #[.int .i64 inc,.slice ra aZ.length rc,.int .i64 wi,.int .i64 ti,.int .i64 de] 24)) hl hok (hr.below hb0))
 have HB0:=aQ hb0
 clear hok hr hb0
 go_enter Try.func5,Try.ntmps5
 go_wp2_with fail
 refine HQ.out.mono ?_
 rintro e w' ⟨rfl,hb⟩
 have HB:=aQ (HB0.out.trans (hb.mono HB0.out.size))
 clear hb
 go_wp2_with fail
 go_ret2
 exact ⟨rfl,HB.out⟩
theorem star_of {w:World} {Z:BS}:∀(l:List (Nat × Th)),(l.map (·.1)).Nodup->(∀x ∈ l,x.2.on w (fun k=>k=x.1) Z)->Star (l.map (·.2)) w (fun k=>k ∈ l.map (·.1)) Z
 |[],_,_=>Star.nil w _ Z
 |x::l,hn,h=>by
  rw [List.map_cons,List.nodup_cons] at hn
  refine Star.cons (h x List.mem_cons_self) (star_of l hn.2 fun y hy=>h y (List.mem_cons_of_mem _ hy)) (fun k a b=>?_) (fun k hk=>?_) fun k hk=>List.mem_cons_of_mem _ hk
  ·have hk:k=x.1:=a
   subst hk
   exact hn.1 b
  ·have hk':k=x.1:=hk
   subst hk'
   exact List.mem_cons_self
theorem sq_zero {α : Type} {E:El α} {T:TypeId} {w:World} {b n:Nat} {z:Value} {a0 : α} (hsz:E.size=1) (he:∀w Z,E.rd w (fun _=>False) Z [z] a0) (h:Sl w (fun k=>k=b) T 1 (.slice (some ⟨b,0,none⟩) n n) n (List.replicate n z)) (hb:b < w.heap.size) :
  Sq E T w (fun k=>k=b) (fun _=>False) (.slice (some ⟨b,0,none⟩) n n) (List.replicate n a0):=by
 refine ⟨fun k=>k=b,fun _=>False,List.replicate n z,fun k hk=>hk.elim id False.elim,fun _ _ f=>f,fun k hk=>by subst hk;exact hb,by rw [List.length_replicate,hsz];exact h,?_⟩
 have:=Els.zero (E:=E) (Z:=fun _=>False) (he w _) n
 rwa [show (List.replicate n [z]).flatten=List.replicate n z by rw [List.flatten_replicate_singleton]] at this
set_option maxRecDepth 100000 in
theorem pnew_any {inc wi ti de:Nat} {aZ:List Nat} {rb ro rc:Nat} (w:World) (hok:CfgOk (inc:Int) (aZ.map fun (x:Nat)=>(x:Int)) wi ti de) (hrc:aZ.length<=rc) (hrm:rc<=maxLen) (hr:∀(k x:Nat),aZ[k]? = some x->w.cell? ⟨rb,ro+k,none⟩=some (.int .i64 (x:Int))) :
  Calls Try.prog 5 #[cfgV inc (some ⟨rb,ro,none⟩) aZ.length rc wi ti de] w fun e w'=>∃p,e=.returned (.tuple #[.pointer (some ⟨p,0,none⟩),.int .i64 0])/\Made w (bP p (dG inc aZ wi ti de)) w':=by
 have hN:Nums w (some ⟨rb,ro,none⟩) (aZ.map fun (x:Nat)=>(x:Int)):=fun k x hk=>by
  rw [List.getElem?_map] at hk
  cases hx:aZ[k]? with
  |none=>rw [hx] at hk;cases hk
  |some y=>
   rw [hx] at hk
   obtain rfl:=Option.some.inj hk
   exact ⟨rb,ro,rfl,hr k y hx⟩
 have hb0:=aK w (.cells #[.int .i64 (inc:Int),.slice (some ⟨rb,ro,none⟩) aZ.length rc,.int .i64 (wi:Int),.int .i64 (ti:Int),.int .i64 (de:Int)] 24)
 have hq:=valid_yes (rc:=rc) (w.alloc (.cells #[.int .i64 (inc:Int),.slice (some ⟨rb,ro,none⟩) aZ.length rc,.int .i64 (wi:Int),.int .i64 (ti:Int),.int .i64 (de:Int)] 24)) hok (hN.below hb0)
 rw [List.length_map] at hq
 have HQ:=aQ hq
 have HB0:=aQ hb0
 have HR:=aQ hr
 have HOK:=aQ hok
 have n1:1<=aZ.length:=by have:=hok.n1;rwa [List.length_map] at this
 have n4:aZ.length<=4:=by have:=hok.n4;rwa [List.length_map] at this
 clear hok hr hb0 hq hN
 go_enter Try.func5,Try.ntmps5
 go_wp2_with fail
 refine HQ.out.mono ?_
 rintro e w2 ⟨rfl,hb⟩
 have hr2:=(hb.block _ (lt_of_block (heap_alloc_new w _))).trans (heap_alloc_new w (.cells #[.int .i64 (inc:Int),.slice (some ⟨rb,ro,none⟩) aZ.length rc,.int .i64 (wi:Int),.int .i64 (ti:Int),.int .i64 (de:Int)] 24))
 have HB2:=aQ (HB0.out.trans (hb.mono HB0.out.size))
 have H2:=aQ (((dY.start0 (fun _=>False) (fun _=>False) (fun _ f=>f.elim) w).new (.cells #[.int .i64 (inc:Int),.slice (some ⟨rb,ro,none⟩) aZ.length rc,.int .i64 (wi:Int),.int .i64 (ti:Int),.int .i64 (de:Int)] 24)).own hb)
 have c1:=aJ (i:=1) hr2 rfl
 clear hb hr2
 go_wp2_with fail
 refine (cloneN_any (w:=w2) (aZ:=aZ) n1 n4 hrc hrm fun k x hk=>⟨rb,ro,rfl,(World.cell?_of_block (HB2.out.block rb (World.block_lt_of_cell? w _ (HR.out k x hk)))).trans (HR.out k x hk)⟩).mono ?_
 rintro e w3 ⟨rv,rfl,hsq,hb⟩
 obtain ⟨b1,o1,k1,rfl,m1,m1'⟩:=bR hsq n1
 have H3:=aQ (H2.out.add hb (T:=tSq dK 3 (.slice (some ⟨b1,o1,none⟩) aZ.length k1) aZ) hsq)
 have hr3:=H3.out.blk 0 rfl
 have d1:=aJ (i:=1) hr3 rfl
 have cf:=fun i=>aD hr3 i
 have h4:=H3.out.set 0 rfl (.cells #[.int .i64 (inc:Int),.slice (some ⟨b1,o1,none⟩) aZ.length k1,.int .i64 (wi:Int),.int .i64 (ti:Int),.int .i64 (de:Int)] 24) (w':=w3.setCell ⟨w.heap.size,1,none⟩ (.slice (some ⟨b1,o1,none⟩) aZ.length k1)) (by (repeat (first|(with_reducible (first|exact Fr.refl _ _|refine Fr.setCell ?_ ?_ _|refine Fr.drewN ?_ _|refine Fr.drew ?_))|exact Or.inl rfl))) (by (apply aS;focus (with_reducible (repeat (first|exact hr3|apply aU|apply aP|apply aF))));rfl)
 clear hb hsq hr3 c1 H2
 go_upto_region 4 with fail
 generalize w3.setCell ⟨w.heap.size,1,none⟩ (.slice (some ⟨b1,o1,none⟩) aZ.length k1)=w4 at h4 ⊢
 have H4:=aQ (show dY (fun _=>False) (fun _=>False) w [dJ w.heap.size (.cells #[.int .i64 (inc:Int),.slice (some ⟨b1,o1,none⟩) aZ.length k1,.int .i64 (wi:Int),.int .i64 (ti:Int),.int .i64 (de:Int)] 24),tSq dK 3 (.slice (some ⟨b1,o1,none⟩) aZ.length k1) aZ] w4 from h4)
 clear h4 H3 cf d1
 have HROW:=aQ (H4.out.blk 0 rfl)
 have d1:=aJ (i:=1) HROW.out rfl
 have hwl:w.heap.size < w4.heap.size:=lt_of_block HROW.out
 go_upto_region 5 with fail
 clear d1
 refine wp_region_held_drew (S:=fun w'=>w'.heap[w.heap.size]? = some (.cells #[.int .i64 (inc:Int),.slice (some ⟨b1,o1,none⟩) aZ.length k1,.int .i64 (wi:Int),.int .i64 (ti:Int),.int .i64 (de:Int)] 24)) (by kernel_rfl) HROW.out (fun hS0=>?_)
 change wpAnyH _ _ _ _ _ (14+2) _ _ _
 refine aH 0 2 (by kernel_rfl) hS0 (fun _ _ _ _ _ h=>h) ?_
 simp only [List.drop_zero,List.take_succ_cons,List.take_zero]
 (refine aR (v:=?_) (by rfl) ?_ ?_;rotate_left 1;(focus ((intro w' hS';have l0:=aJ (i:=0) hS' rfl;have l1:=aJ (i:=1) hS' rfl;have l2:=aJ (i:=2) hS' rfl;have l3:=aJ (i:=3) hS' rfl;have l4:=aJ (i:=4) hS' rfl;clear hS';go_simp);try with_reducible rfl));simp only [Act.put,List.setIfInBounds_toArray,List.set_cons_zero,List.set_cons_succ])
 (refine aR (v:=?_) (by rfl) ?_ ?_;rotate_left 1;(focus ((intro w' hS';go_simp);try with_reducible rfl));simp only [Act.put,List.setIfInBounds_toArray,List.set_cons_zero,List.set_cons_succ])
 refine aT ?_
 change wpAnyH _ _ _ _ _ (13+1) _ _ _
 refine aH 3 1 (by kernel_rfl) hS0 (fun _ _ _ _ _ h=>h) ?_
 simp only [List.drop_succ_cons,List.drop_zero,List.take_succ_cons,List.take_zero]
 (refine aR (v:=?_) (by rfl) ?_ ?_;rotate_left 1;(focus ((intro w' hS';go_simp);try with_reducible rfl));simp only [Act.put,List.setIfInBounds_toArray,List.set_cons_zero,List.set_cons_succ])
 refine aT ?_
 change wpAnyH _ _ _ _ _ (12+1) _ _ _
 refine aH 5 1 (by kernel_rfl) hS0 (fun _ _ _ _ _ h=>h) ?_
 simp only [List.drop_succ_cons,List.drop_zero,List.take_succ_cons,List.take_zero]
 (refine aR (v:=?_) (by rfl) ?_ ?_;rotate_left 1;(focus ((intro w' hS';go_simp);try with_reducible rfl));simp only [Act.put,List.setIfInBounds_toArray,List.set_cons_zero,List.set_cons_succ])
 refine aT ?_
 change wpAnyH _ _ _ _ _ (11+1) _ _ _
 refine aH 7 1 (by kernel_rfl) hS0 (fun _ _ _ _ _ h=>h) ?_
 simp only [List.drop_succ_cons,List.drop_zero,List.take_succ_cons,List.take_zero]
 (refine aR (v:=?_) (by rfl) ?_ ?_;rotate_left 1;(focus ((intro w' hS';go_simp);try with_reducible rfl));simp only [Act.put,List.setIfInBounds_toArray,List.set_cons_zero,List.set_cons_succ])
 refine aT ?_
 change wpAnyH _ _ _ _ _ (10+1) _ _ _
 refine aH 9 1 (by kernel_rfl) hS0 (fun _ _ _ _ _ h=>h) ?_
 simp only [List.drop_succ_cons,List.drop_zero,List.take_succ_cons,List.take_zero]
 (refine aR (v:=?_) (by rfl) ?_ ?_;rotate_left 1;(focus ((intro w' hS';go_simp);try with_reducible rfl));simp only [Act.put,List.setIfInBounds_toArray,List.set_cons_zero,List.set_cons_succ])
 refine aT ?_
 change wpAnyH _ _ _ _ _ (9+1) _ _ _
 refine aH 11 1 (by kernel_rfl) hS0 (fun _ _ _ _ _ h=>h) ?_
 simp only [List.drop_succ_cons,List.drop_zero,List.take_succ_cons,List.take_zero]
 (refine aR (v:=?_) (by rfl) ?_ ?_;rotate_left 1;(focus ((intro w' hS';go_simp);try with_reducible rfl));simp only [Act.put,List.setIfInBounds_toArray,List.set_cons_zero,List.set_cons_succ])
 refine aT ?_
 change wpAnyH _ _ _ _ _ (3+6) _ _ _
 refine wpAnyH_makes aZ.length (by unfold maxLen;omega) (fun j=>j+16) (fun i j h=>by omega) (fun j=>if j<=4 then 54 else 3) (fun j=>if j<=4 then .slice none 0 0 else .int .i64 0) 3 6 [2,4,6,8,10,12] _ _ _ rfl (by decide) (by kernel_rfl) (fun w' hb=>(hb.block _ hwl).trans HROW.out) (fun j hj=>?_) (fun B w5 hb hall hinj=>?_)
 ·simp only [List.mem_cons,List.not_mem_nil,or_false] at hj
  rcases hj with rfl|rfl|rfl|rfl|rfl|rfl
  ·exact ⟨_,_,_,_,rfl,rfl,rfl,rfl,by decide,rfl,slBBB,rfl,by omega⟩
  ·exact ⟨_,_,_,_,rfl,rfl,rfl,rfl,by decide,rfl,slBBB,rfl,by omega⟩
  ·exact ⟨_,_,_,_,rfl,rfl,rfl,rfl,by decide,rfl,slInt,rfl,by omega⟩
  ·exact ⟨_,_,_,_,rfl,rfl,rfl,rfl,by decide,rfl,slInt,rfl,by omega⟩
  ·exact ⟨_,_,_,_,rfl,rfl,rfl,rfl,by decide,rfl,slInt,rfl,by omega⟩
  ·exact ⟨_,_,_,_,rfl,rfl,rfl,rfl,by decide,rfl,slInt,rfl,by omega⟩
 ·simp only [List.foldl_cons,List.foldl_nil,Act.put,List.setIfInBounds_toArray,Nat.reduceAdd,List.set_cons_zero,List.set_cons_succ]
  have hS5:=(hb.block _ hwl).trans HROW.out
  change wpAnyH _ _ _ _ _ (2+1) _ _ _
  refine aH 13 1 (by kernel_rfl) hS5 (fun _ _ _ _ _ h=>h) ?_
  simp only [List.drop_succ_cons,List.drop_zero,List.take_succ_cons,List.take_zero]
  refine aR (v:=.agg #[.int .i64 (inc:Int),.slice (some ⟨b1,o1,none⟩) aZ.length k1,.int .i64 (wi:Int),.int .i64 (ti:Int),.int .i64 (de:Int),.pointer none,.pointer none,.slice (some ⟨B 2,0,none⟩) aZ.length aZ.length,.slice (some ⟨B 4,0,none⟩) aZ.length aZ.length,.int .i64 0,.pointer none,.pointer none,.pointer none,.pointer none,.slice (some ⟨B 6,0,none⟩) aZ.length aZ.length,.slice none 0 0,.slice (some ⟨B 8,0,none⟩) aZ.length aZ.length,.slice (some ⟨B 10,0,none⟩) aZ.length aZ.length,.slice (some ⟨B 12,0,none⟩) aZ.length aZ.length,.int .i64 0]) (by rfl) (fun w' _=>by kernel_rfl) ?_
  simp only [Act.put,List.setIfInBounds_toArray,List.set_cons_zero,List.set_cons_succ]
  refine aT ?_
  refine aM 14 (by kernel_rfl) rfl (fun K hK=>?_)
  refine step_val (v:=.pointer (some ⟨w5.heap.size,0,none⟩)) (w':=w5.alloc (.cells #[.int .i64 (inc:Int),.slice (some ⟨b1,o1,none⟩) aZ.length k1,.int .i64 (wi:Int),.int .i64 (ti:Int),.int .i64 (de:Int),.pointer none,.pointer none,.slice (some ⟨B 2,0,none⟩) aZ.length aZ.length,.slice (some ⟨B 4,0,none⟩) aZ.length aZ.length,.int .i64 0,.pointer none,.pointer none,.pointer none,.pointer none,.slice (some ⟨B 6,0,none⟩) aZ.length aZ.length,.slice none 0 0,.slice (some ⟨B 8,0,none⟩) aZ.length aZ.length,.slice (some ⟨B 10,0,none⟩) aZ.length aZ.length,.slice (some ⟨B 12,0,none⟩) aZ.length aZ.length,.int .i64 0] 80)) (by rfl) (by kernel_rfl) ?_
  simp only [Act.put,List.setIfInBounds_toArray,List.set_cons_zero,List.set_cons_succ]
  refine hK.out _ _ ((Below.heap_alloc _ _ _ (Nat.lt_of_lt_of_le hwl hb.size)).trans hS5) ?_
  clear hK K
  refine aM 15 (by kernel_rfl) rfl (fun K hK=>?_)
  go_simp
  refine hK.out _ _ ((Below.heap_alloc _ _ _ (Nat.lt_of_lt_of_le hwl hb.size)).trans hS5) ?_
  clear hK K
  refine wpAnyH_done (by kernel_rfl) ?_ _
  have hB:∀j ∈ [2,4,6,8,10,12],B j < w5.heap.size:=fun j hj=>by
   have:=(hall j hj).2
   exact this.free.2.1
  have hnd:([2,4,6,8,10,12].map B).Nodup:=by
   rw [List.Nodup,List.pairwise_map]
   exact (show ([2,4,6,8,10,12]:List Nat).Nodup by decide).imp_of_mem fun hi hj hne e=>hne (hinj _ hi _ hj e)
  have hstar:=star_of (w:=w5) (Z:=fun _=>False) [(B 2,tSq (eSq eBy 27) 54 (.slice (some ⟨B 2,0,none⟩) aZ.length aZ.length) (List.replicate aZ.length ([]:List dV))),(B 4,tSq (eSq eBy 27) 54 (.slice (some ⟨B 4,0,none⟩) aZ.length aZ.length) (List.replicate aZ.length ([]:List dV))),(B 6,tSq dK 3 (.slice (some ⟨B 6,0,none⟩) aZ.length aZ.length) (List.replicate aZ.length 0)),(B 8,tSq dK 3 (.slice (some ⟨B 8,0,none⟩) aZ.length aZ.length) (List.replicate aZ.length 0)),(B 10,tSq dK 3 (.slice (some ⟨B 10,0,none⟩) aZ.length aZ.length) (List.replicate aZ.length 0)),(B 12,tSq dK 3 (.slice (some ⟨B 12,0,none⟩) aZ.length aZ.length) (List.replicate aZ.length 0))] hnd (fun x hx=>by
   simp only [List.mem_cons,List.not_mem_nil,or_false] at hx
   rcases hx with rfl|rfl|rfl|rfl|rfl|rfl
   ·exact sq_zero rfl (fun w Z=>⟨_,rfl,Sq.nil _ _ _ _ _⟩) (hall 2 (by decide)).2 (hB 2 (by decide))
   ·exact sq_zero rfl (fun w Z=>⟨_,rfl,Sq.nil _ _ _ _ _⟩) (hall 4 (by decide)).2 (hB 4 (by decide))
   ·exact sq_zero rfl (fun _ _=>rfl) (hall 6 (by decide)).2 (hB 6 (by decide))
   ·exact sq_zero rfl (fun _ _=>rfl) (hall 8 (by decide)).2 (hB 8 (by decide))
   ·exact sq_zero rfl (fun _ _=>rfl) (hall 10 (by decide)).2 (hB 10 (by decide))
   ·exact sq_zero rfl (fun _ _=>rfl) (hall 12 (by decide)).2 (hB 12 (by decide)))
  have h5:=H4.out.drew.adds (rest:=[tSq (eSq eBy 27) 54 (.slice (some ⟨B 2,0,none⟩) aZ.length aZ.length) (List.replicate aZ.length ([]:List dV)),tSq (eSq eBy 27) 54 (.slice (some ⟨B 4,0,none⟩) aZ.length aZ.length) (List.replicate aZ.length ([]:List dV)),tSq dK 3 (.slice (some ⟨B 6,0,none⟩) aZ.length aZ.length) (List.replicate aZ.length 0),tSq dK 3 (.slice (some ⟨B 8,0,none⟩) aZ.length aZ.length) (List.replicate aZ.length 0),tSq dK 3 (.slice (some ⟨B 10,0,none⟩) aZ.length aZ.length) (List.replicate aZ.length 0),tSq dK 3 (.slice (some ⟨B 12,0,none⟩) aZ.length aZ.length) (List.replicate aZ.length 0)]) (Did.news (Z:=fun k=>k < w.heap.size/\False/\¬False) hb (hstar.mono (fun k hk=>by
   obtain ⟨x,hx,rfl⟩:=List.mem_map.1 hk
   simp only [List.mem_cons,List.not_mem_nil,or_false] at hx
   rcases hx with rfl|rfl|rfl|rfl|rfl|rfl
   ·exact (hall 2 (by decide)).1
   ·exact (hall 4 (by decide)).1
   ·exact (hall 6 (by decide)).1
   ·exact (hall 8 (by decide)).1
   ·exact (hall 10 (by decide)).1
   ·exact (hall 12 (by decide)).1) fun _ f=>f.elim) fun k h=>h.2.1.elim)
  have h6:=(h5.new (.cells #[.int .i64 (inc:Int),.slice (some ⟨b1,o1,none⟩) aZ.length k1,.int .i64 (wi:Int),.int .i64 (ti:Int),.int .i64 (de:Int),.pointer none,.pointer none,.slice (some ⟨B 2,0,none⟩) aZ.length aZ.length,.slice (some ⟨B 4,0,none⟩) aZ.length aZ.length,.int .i64 0,.pointer none,.pointer none,.pointer none,.pointer none,.slice (some ⟨B 6,0,none⟩) aZ.length aZ.length,.slice none 0 0,.slice (some ⟨B 8,0,none⟩) aZ.length aZ.length,.slice (some ⟨B 10,0,none⟩) aZ.length aZ.length,.slice (some ⟨B 12,0,none⟩) aZ.length aZ.length,.int .i64 0] 80)).front
  clear hstar hnd hall hinj hB h5
  generalize w5.alloc (.cells #[.int .i64 (inc:Int),.slice (some ⟨b1,o1,none⟩) aZ.length k1,.int .i64 (wi:Int),.int .i64 (ti:Int),.int .i64 (de:Int),.pointer none,.pointer none,.slice (some ⟨B 2,0,none⟩) aZ.length aZ.length,.slice (some ⟨B 4,0,none⟩) aZ.length aZ.length,.int .i64 0,.pointer none,.pointer none,.pointer none,.pointer none,.slice (some ⟨B 6,0,none⟩) aZ.length aZ.length,.slice none 0 0,.slice (some ⟨B 8,0,none⟩) aZ.length aZ.length,.slice (some ⟨B 10,0,none⟩) aZ.length aZ.length,.slice (some ⟨B 12,0,none⟩) aZ.length aZ.length,.int .i64 0] 80)=w6 at h6 ⊢
  generalize w5.heap.size=p at h6 ⊢
  have H6:=aQ (show dY (fun _=>False) (fun _=>False) w [dJ p (.cells #[.int .i64 (inc:Int),.slice (some ⟨b1,o1,none⟩) aZ.length k1,.int .i64 (wi:Int),.int .i64 (ti:Int),.int .i64 (de:Int),.pointer none,.pointer none,.slice (some ⟨B 2,0,none⟩) aZ.length aZ.length,.slice (some ⟨B 4,0,none⟩) aZ.length aZ.length,.int .i64 0,.pointer none,.pointer none,.pointer none,.pointer none,.slice (some ⟨B 6,0,none⟩) aZ.length aZ.length,.slice none 0 0,.slice (some ⟨B 8,0,none⟩) aZ.length aZ.length,.slice (some ⟨B 10,0,none⟩) aZ.length aZ.length,.slice (some ⟨B 12,0,none⟩) aZ.length aZ.length,.int .i64 0] 80),dJ w.heap.size (.cells #[.int .i64 (inc:Int),.slice (some ⟨b1,o1,none⟩) aZ.length k1,.int .i64 (wi:Int),.int .i64 (ti:Int),.int .i64 (de:Int)] 24),tSq dK 3 (.slice (some ⟨b1,o1,none⟩) aZ.length k1) aZ,tSq (eSq eBy 27) 54 (.slice (some ⟨B 2,0,none⟩) aZ.length aZ.length) (List.replicate aZ.length ([]:List dV)),tSq (eSq eBy 27) 54 (.slice (some ⟨B 4,0,none⟩) aZ.length aZ.length) (List.replicate aZ.length ([]:List dV)),tSq dK 3 (.slice (some ⟨B 6,0,none⟩) aZ.length aZ.length) (List.replicate aZ.length 0),tSq dK 3 (.slice (some ⟨B 8,0,none⟩) aZ.length aZ.length) (List.replicate aZ.length 0),tSq dK 3 (.slice (some ⟨B 10,0,none⟩) aZ.length aZ.length) (List.replicate aZ.length 0),tSq dK 3 (.slice (some ⟨B 12,0,none⟩) aZ.length aZ.length) (List.replicate aZ.length 0)] w6 from h6)
  clear h6 hb H4 HROW hwl hS5
  go_upto_region 6 with fail
  have hrow:=H6.out.blk 1 rfl
  have d0:=aJ (i:=0) hrow rfl
  have d4:=aJ (i:=4) hrow rfl
  clear hrow
  have hok:=HOK.out
  obtain ⟨_,_,_,i1,i2,_,_,_,_,e1,e2⟩:=hok
  go_wp2_with fail
  refine (newSide_any inc de w6 (by omega) (by omega) (by omega) (by omega)).mono ?_
  rintro e w7 ⟨rfl,hside,hb7⟩
  have H7:=aQ (H6.out.add hb7 (T:=tSide w6.heap.size (newSide inc de)) ⟨Nat.le_refl _,hside⟩).front
  have hrow:=H7.out.blk 1 rfl
  have c5:=aJ (i:=5) hrow rfl
  have cf:=fun i=>aD hrow i
  generalize w6.heap.size=sq at H7 ⊢
  have h8:=H7.out.set 1 rfl (.cells #[.int .i64 (inc:Int),.slice (some ⟨b1,o1,none⟩) aZ.length k1,.int .i64 (wi:Int),.int .i64 (ti:Int),.int .i64 (de:Int),.pointer (some ⟨sq,0,none⟩),.pointer none,.slice (some ⟨B 2,0,none⟩) aZ.length aZ.length,.slice (some ⟨B 4,0,none⟩) aZ.length aZ.length,.int .i64 0,.pointer none,.pointer none,.pointer none,.pointer none,.slice (some ⟨B 6,0,none⟩) aZ.length aZ.length,.slice none 0 0,.slice (some ⟨B 8,0,none⟩) aZ.length aZ.length,.slice (some ⟨B 10,0,none⟩) aZ.length aZ.length,.slice (some ⟨B 12,0,none⟩) aZ.length aZ.length,.int .i64 0] 80) (w':=w7.setCell ⟨p,5,none⟩ (.pointer (some ⟨sq,0,none⟩))) (by (repeat (first|(with_reducible (first|exact Fr.refl _ _|refine Fr.setCell ?_ ?_ _|refine Fr.drewN ?_ _|refine Fr.drew ?_))|exact Or.inl rfl))) (by (apply aS;focus (with_reducible (repeat (first|exact hrow|apply aU|apply aP|apply aF))));rfl)
  clear hrow hside hb7 H6 d0 d4 i1 i2 e1 e2
  go_upto_region 7 with fail
  generalize w7.setCell ⟨p,5,none⟩ (.pointer (some ⟨sq,0,none⟩))=w8 at h8 ⊢
  have H8:=aQ (show dY (fun _=>False) (fun _=>False) w [tSide sq (newSide inc de),dJ p (.cells #[.int .i64 (inc:Int),.slice (some ⟨b1,o1,none⟩) aZ.length k1,.int .i64 (wi:Int),.int .i64 (ti:Int),.int .i64 (de:Int),.pointer (some ⟨sq,0,none⟩),.pointer none,.slice (some ⟨B 2,0,none⟩) aZ.length aZ.length,.slice (some ⟨B 4,0,none⟩) aZ.length aZ.length,.int .i64 0,.pointer none,.pointer none,.pointer none,.pointer none,.slice (some ⟨B 6,0,none⟩) aZ.length aZ.length,.slice none 0 0,.slice (some ⟨B 8,0,none⟩) aZ.length aZ.length,.slice (some ⟨B 10,0,none⟩) aZ.length aZ.length,.slice (some ⟨B 12,0,none⟩) aZ.length aZ.length,.int .i64 0] 80),dJ w.heap.size (.cells #[.int .i64 (inc:Int),.slice (some ⟨b1,o1,none⟩) aZ.length k1,.int .i64 (wi:Int),.int .i64 (ti:Int),.int .i64 (de:Int)] 24),tSq dK 3 (.slice (some ⟨b1,o1,none⟩) aZ.length k1) aZ,tSq (eSq eBy 27) 54 (.slice (some ⟨B 2,0,none⟩) aZ.length aZ.length) (List.replicate aZ.length ([]:List dV)),tSq (eSq eBy 27) 54 (.slice (some ⟨B 4,0,none⟩) aZ.length aZ.length) (List.replicate aZ.length ([]:List dV)),tSq dK 3 (.slice (some ⟨B 6,0,none⟩) aZ.length aZ.length) (List.replicate aZ.length 0),tSq dK 3 (.slice (some ⟨B 8,0,none⟩) aZ.length aZ.length) (List.replicate aZ.length 0),tSq dK 3 (.slice (some ⟨B 10,0,none⟩) aZ.length aZ.length) (List.replicate aZ.length 0),tSq dK 3 (.slice (some ⟨B 12,0,none⟩) aZ.length aZ.length) (List.replicate aZ.length 0)] w8 from h8)
  clear h8 H7 c5 cf
  go_wp2_with fail
  refine (newArb_any aZ.length w8 n1 (by omega)).mono ?_
  rintro e w9 ⟨aq,rfl,hm⟩
  have H9:=aQ (H8.out.made hm).front
  have hrow:=H9.out.blk 2 rfl
  have c6:=aJ (i:=6) hrow rfl
  have cf:=fun i=>aD hrow i
  have h10:=H9.out.set 2 rfl (portRowG ⟨inc,aZ,wi,ti,de,newSide inc de,newArb aZ.length,List.replicate aZ.length [],List.replicate aZ.length [],0,newSnd wi ti,0,[],[],List.replicate aZ.length 0,[],List.replicate aZ.length 0,List.replicate aZ.length 0,List.replicate aZ.length 0,0⟩ ⟨.slice (some ⟨b1,o1,none⟩) aZ.length k1,sq,aq,.slice (some ⟨B 2,0,none⟩) aZ.length aZ.length,.slice (some ⟨B 4,0,none⟩) aZ.length aZ.length,0,0,0,0,.slice (some ⟨B 6,0,none⟩) aZ.length aZ.length,.slice none 0 0,.slice (some ⟨B 8,0,none⟩) aZ.length aZ.length,.slice (some ⟨B 10,0,none⟩) aZ.length aZ.length,.slice (some ⟨B 12,0,none⟩) aZ.length aZ.length⟩ (.pointer none) (.pointer none) (.pointer none) (.pointer none)) (w':=w9.setCell ⟨p,6,none⟩ (.pointer (some ⟨aq,0,none⟩))) (by (repeat (first|(with_reducible (first|exact Fr.refl _ _|refine Fr.setCell ?_ ?_ _|refine Fr.drewN ?_ _|refine Fr.drew ?_))|exact Or.inl rfl))) (by (apply aS;focus (with_reducible (repeat (first|exact hrow|apply aU|apply aP|apply aF))));rfl)
  clear hrow hm H8
  go_upto_region 8 with fail
  generalize w9.setCell ⟨p,6,none⟩ (.pointer (some ⟨aq,0,none⟩))=w10 at h10 ⊢
  have H10:=aQ (h10.add (Below.refl _ _) (T:=tSq eKept 114 (.slice none 0 0) []) (Sq.nil _ _ _ _ _))
  clear h10 H9 c6 cf
  have H11:=aQ (show dY (fun _=>False) (fun _=>False) w (begThs p ⟨inc,aZ,wi,ti,de,newSide inc de,newArb aZ.length,List.replicate aZ.length [],List.replicate aZ.length [],0,newSnd wi ti,0,[],[],List.replicate aZ.length 0,[],List.replicate aZ.length 0,List.replicate aZ.length 0,List.replicate aZ.length 0,0⟩ ⟨.slice (some ⟨b1,o1,none⟩) aZ.length k1,sq,aq,.slice (some ⟨B 2,0,none⟩) aZ.length aZ.length,.slice (some ⟨B 4,0,none⟩) aZ.length aZ.length,0,0,0,0,.slice (some ⟨B 6,0,none⟩) aZ.length aZ.length,.slice none 0 0,.slice (some ⟨B 8,0,none⟩) aZ.length aZ.length,.slice (some ⟨B 10,0,none⟩) aZ.length aZ.length,.slice (some ⟨B 12,0,none⟩) aZ.length aZ.length⟩ (.pointer none) (.pointer none) (.pointer none) (.pointer none)++[tSide sq (newSide inc de),tArb aq (newArb aZ.length),tSq dK 3 (.slice (some ⟨B 8,0,none⟩) aZ.length aZ.length) (List.replicate aZ.length 0),tSq dK 3 (.slice (some ⟨B 10,0,none⟩) aZ.length aZ.length) (List.replicate aZ.length 0),tSq dK 3 (.slice (some ⟨B 12,0,none⟩) aZ.length aZ.length) (List.replicate aZ.length 0)]) w10 from
   H10.out.pick [2,4,5,6,7,11,1,0,8,9,10] _ (by decide) (by simp))
  go_wp2_with fail
  refine (begin_h (N:=0) ?_ (by omega) 0 H11.out).mono ?_
  ·have hok:=HOK.out
   exact ⟨n1,n4,fun x hx=>by have:=hok.rm _ (List.mem_map.2 ⟨x,hx,rfl⟩);omega,by have:=hok.w1;dsimp only;omega,by have:=hok.w2;dsimp only;omega,by have:=hok.t1;dsimp only;omega,by have:=hok.t2;dsimp only;omega,
    by simp,by simp,by simp,by simp,fun l hl=>by rw [(List.mem_replicate.1 hl).2];exact Nat.le_refl _,fun l hl=>by rw [(List.mem_replicate.1 hl).2];exact Nat.le_refl _⟩
  rintro e w12 ⟨rfl,snp,rcp,tkp,gvp,hh⟩
  have HH:=aQ hh
  clear hh H11 H10
  go_wp2_with fail
  go_ret2
  refine ⟨p,rfl,Made.of ?_⟩
  exact dY.shut (f:=bX p (dG inc aZ wi ti de)) (i:=⟨.slice (some ⟨b1,o1,none⟩) aZ.length k1,sq,aq,.slice (some ⟨B 2,0,none⟩) aZ.length aZ.length,.slice (some ⟨B 4,0,none⟩) aZ.length aZ.length,snp,rcp,tkp,gvp,.slice (some ⟨B 6,0,none⟩) aZ.length aZ.length,.slice none 0 0,.slice (some ⟨B 8,0,none⟩) aZ.length aZ.length,.slice (some ⟨B 10,0,none⟩) aZ.length aZ.length,.slice (some ⟨B 12,0,none⟩) aZ.length aZ.length⟩) (ts:=[]) (by
   rw [List.append_nil]
   exact HH.out.pick [0,1,10,11,2,3,6,7,8,9,4,5,12,13,14] _ (by decide) rfl)
end

section
open Go.RowKit
theorem dY.freeze {F Z:BS} {W w:World} {ts:List Th} {α : Type} {E:El α} {T:TypeId} {v:Value} {xs:List α} (h:dY F Z W ts w) (i:Nat) (hi:ts[i]? = some (tSq E T v xs)) (hc:∀ {w A B cs a},E.rd w A B cs a->E.rd w (fun _=>False) (fun k=>A k\/B k) cs a) :
  dY F Z W (ts.set i (tRd E v xs)) w:=by
 obtain ⟨G,Y,hon,_,_,_,hback⟩:=h.use i hi
 have:=hback w (tRd E v xs) [] ⟨Fr.refl _ _,fun k=>G k\/Y k,fun k hk=>hk.elim (fun g=>.inr (.inl g)) .inl,Star.one (F:=fun k=>(G k\/w.heap.size<=k)/\¬(G k\/Y k)) (T:=tRd E v xs) (RdS.mono (Sq.rd (show Sq E T w G Y v xs from hon) hc) fun _ h=>h)⟩
 rwa [List.append_nil] at this
abbrev awk0:Prt:=dG 5 [2,1] 4 3 5
theorem awk_1:(awk0.cR []).1=[⟨1#8,0,5,0,[]⟩]:=by rfl
theorem awk_2:((awk0.cR []).2.cR [⟨1#8,0,9,5,[]⟩]).1=[⟨1#8,0,5,9,[]⟩,⟨3#8,0,0,5,[]⟩,⟨4#8,0,2,5,[]⟩,⟨4#8,1,1,5,[]⟩]:=by rfl
theorem awk_3:((awk0.cR []).2.cR [⟨1#8,0,9,5,[]⟩]).2.cS.state=2:=by rfl
theorem awk_ok:awk0.Ok 200:=newPrt_ok (by decide) (by decide) (by decide) (by decide) (by decide) (by decide) (by decide) (by decide) (by decide) (by decide) (by decide)
set_option maxRecDepth 100000 in
theorem awake_any (w : World) : Calls Try.prog 4 #[] w fun e w' => e = .returned (.bool true) ∧ Below w.heap.size w w' := by
  go_enter Try.func4, Try.ntmps4
  go_wp2_with fail
  have hrow := heap_alloc_new w (.cells #[.int .i64 2, .int .i64 1] 3)
  refine (pnew_any (inc := 5) (wi := 4) (ti := 3) (de := 5) (aZ := [2, 1]) (rb := w.heap.size) (ro := 0) (rc := 2) (w.alloc (.cells #[.int .i64 2, .int .i64 1] 3)) ⟨by decide, by decide, by decide, by decide, by decide, by decide, by decide, by decide, by decide, by decide, by decide⟩ (by decide) (by decide) (fun k x hk => by
    match k, hk with
    | 0, hk => obtain rfl : 2 = x := by simpa using hk
               exact aJ (i := 0) hrow rfl
    | 1, hk => obtain rfl : 1 = x := by simpa using hk
               exact aJ (i := 1) hrow rfl
    | k + 2, hk => simp at hk)).mono ?_
  rintro e w1 ⟨p, rfl, hm⟩
  have h1 := ((dY.start0 (fun _ => False) (fun _ => False) (fun _ f => f.elim) w).alloc (.cells #[.int .i64 2, .int .i64 1] 3)).made hm
  have H1 := aQ (show dY (fun _ => False) (fun _ => False) w (bP p awk0 :: [tRd ePt (.slice none 0 0) []]) w1 from h1.add (Below.refl _ _) (T := tRd ePt (.slice none 0 0) []) (RdS.nil _ _ _))
  clear hm h1 hrow
  go_wp2_with fail
  refine (tick_c [] (.slice none 0 0) awk_ok rfl (by decide) (by simp) H1.out 0 rfl).mono ?_
  rintro e w2 ⟨sa, sc, rfl, hh⟩
  rw [awk_1] at hh ⊢
  have H2 := aQ hh
  clear hh H1
  have H3 := aQ (show dY (fun _ => False) (fun _ => False) w (bP p (awk0.cR []).2 :: [tRd ePt (.slice (some ⟨w2.heap.size, 0, none⟩) 1 1) [(⟨1#8, 0, 9, 5, []⟩ : Pt)], tRd ePt (.slice sa 1 sc) [(⟨1#8, 0, 5, 0, []⟩ : Pt)]]) (w2.alloc (bW (⟨1#8, 0, 9, 5, []⟩ : Pt) (.slice none 0 0))) from
    ((((H2.out.lit_pt (x := (⟨1#8, 0, 9, 5, []⟩ : Pt)) (v := .slice none 0 0) fun Y => ByZ.nil _ Y).freeze 0 rfl ePt_rd).freeze 1 rfl ePt_rd).pick [2, 0, 1] _ (by decide) rfl))
  rw [show [(⟨1#8, 0, 5, 0, []⟩ : Pt)].length = 1 from rfl]
  clear H2
  go_wp2_with fail
  refine (tick_c [(⟨1#8, 0, 9, 5, []⟩ : Pt)] (.slice (some ⟨w2.heap.size, 0, none⟩) 1 1) (awk_ok.cR (l := []) (by simp)) (by rfl) (by decide) (by simp) H3.out 0 rfl).mono ?_
  rintro e w3 ⟨ta, tc, rfl, hh⟩
  rw [awk_2] at hh ⊢
  have hh' := hh.freeze 0 rfl ePt_rd
  have H4 := aQ hh'
  obtain ⟨_, _, hA⟩ := hh'.get 3 rfl
  obtain ⟨_, _, hB⟩ := hh'.get 0 rfl
  have hA' := show RdS ePt w3 _ (.slice sa 1 sc) [(⟨1#8, 0, 5, 0, []⟩ : Pt)] from hA
  have hB' := show RdS ePt w3 _ (.slice ta 4 tc) [(⟨1#8, 0, 5, 9, []⟩ : Pt), ⟨3#8, 0, 0, 5, []⟩, ⟨4#8, 0, 2, 5, []⟩, ⟨4#8, 1, 1, 5, []⟩] from hB
  obtain ⟨ab, ao, pa, pc, q1, hy1, a0, a1, a2, a3, a4⟩ := pt_at hA' (i := 0) rfl
  obtain ⟨bb, bo, ea, ec, q2, hy2, e0, e1, e2, e3, e4⟩ := pt_at hB' (i := 0) rfl
  obtain ⟨bb1, bo1, fa, fc, q3, hy3, f0, f1, f2, f3, f4⟩ := pt_at hB' (i := 1) rfl
  obtain ⟨bb2, bo2, ga, gc, q4, hy4, g0, g1, g2, g3, g4⟩ := pt_at hB' (i := 3) rfl
  subst q1 q2
  obtain ⟨rfl, rfl⟩ : bb = bb1 ∧ bo = bo1 := by simpa using q3
  obtain ⟨rfl, rfl⟩ : bb = bb2 ∧ bo = bo2 := by simpa using q4
  have hab := World.block_lt_of_cell? w3 _ a0
  have hbb := World.block_lt_of_cell? w3 _ e0
  have CE := aQ (fun (w' : World) (hb : Below w3.heap.size w3 w') => show (w'.cell? ⟨ab, ao, none⟩ = some (.int .u8 1) ∧ w'.cell? ⟨ab, ao + 1, none⟩ = some (.int .i64 0) ∧ w'.cell? ⟨ab, ao + 2, none⟩ = some (.int .i64 5) ∧ w'.cell? ⟨ab, ao + 3, none⟩ = some (.int .i64 0) ∧ w'.cell? ⟨ab, ao + 4, none⟩ = some (.slice pa 0 pc)) ∧ (w'.cell? ⟨bb, bo, none⟩ = some (.int .u8 1) ∧ w'.cell? ⟨bb, bo + 1, none⟩ = some (.int .i64 0) ∧ w'.cell? ⟨bb, bo + 2, none⟩ = some (.int .i64 5) ∧ w'.cell? ⟨bb, bo + 3, none⟩ = some (.int .i64 9) ∧ w'.cell? ⟨bb, bo + 4, none⟩ = some (.slice ea 0 ec)) ∧ (w'.cell? ⟨bb, bo + 5, none⟩ = some (.int .u8 3) ∧ w'.cell? ⟨bb, bo + 6, none⟩ = some (.int .i64 0) ∧ w'.cell? ⟨bb, bo + 7, none⟩ = some (.int .i64 0) ∧ w'.cell? ⟨bb, bo + 8, none⟩ = some (.int .i64 5) ∧ w'.cell? ⟨bb, bo + 9, none⟩ = some (.slice fa 0 fc)) ∧ (w'.cell? ⟨bb, bo + 15, none⟩ = some (.int .u8 4) ∧ w'.cell? ⟨bb, bo + 16, none⟩ = some (.int .i64 1) ∧ w'.cell? ⟨bb, bo + 17, none⟩ = some (.int .i64 1) ∧ w'.cell? ⟨bb, bo + 18, none⟩ = some (.int .i64 5) ∧ w'.cell? ⟨bb, bo + 19, none⟩ = some (.slice ga 0 gc)) from
    have ka := fun {o : Nat} {v : Value} (h : w3.cell? ⟨ab, o, none⟩ = some v) => (World.cell?_of_block (hb.block ab hab)).trans h
    have kb := fun {o : Nat} {v : Value} (h : w3.cell? ⟨bb, o, none⟩ = some v) => (World.cell?_of_block (hb.block bb hbb)).trans h
    ⟨⟨ka a0, ka a1, ka a2, ka a3, ka a4⟩, ⟨kb e0, kb e1, kb e2, kb e3, kb e4⟩, ⟨kb f0, kb f1, kb f2, kb f3, kb f4⟩, kb g0, kb g1, kb g2, kb g3, kb g4⟩)
  have BYS := aQ (fun (w' : World) (hb : Below w3.heap.size w3 w') => show By w' (.slice pa 0 pc) [] ∧ By w' (.slice ea 0 ec) [] ∧ By w' (.slice fa 0 fc) [] ∧ By w' (.slice ga 0 gc) [] from
    ⟨hy1.1.below hb, hy2.1.below hb, hy3.1.below hb, hy4.1.below hb⟩)
  have HB := aQ (Below.refl w3.heap.size w3)
  have HUP := aQ awk_3
  clear hh hh' hA hB hA' hB' hy1 hy2 hy3 hy4 q3 q4 H3
  rw [show [(⟨1#8, 0, 5, 9, []⟩ : Pt), ⟨3#8, 0, 0, 5, []⟩, ⟨4#8, 0, 2, 5, []⟩, ⟨4#8, 1, 1, 5, []⟩].length = 4 from rfl]
  clear a0 a1 a2 a3 a4 e0 e1 e2 e3 e4 f0 f1 f2 f3 f4 g0 g1 g2 g3 g4
  obtain ⟨⟨a0, a1, a2, a3, a4⟩, ⟨e0, e1, e2, e3, e4⟩, ⟨f0, f1, f2, f3, f4⟩, g0, g1, g2, g3, g4⟩ := CE.out _ HB.out
  go_wp2_with fail
  refine (sameP_refl ⟨1#8, 0, 5, 0, []⟩ pa none pc 0 _ (BYS.out _ HB.out).1 (By.of_nil _)).mono ?_
  rintro e w' ⟨rfl, hb⟩
  have HB' := aQ (HB.out.trans (hb.mono HB.out.size))
  clear HB hb; have HB := HB'; clear HB'
  clear a0 a1 a2 a3 a4 e0 e1 e2 e3 e4 f0 f1 f2 f3 f4 g0 g1 g2 g3 g4; obtain ⟨⟨a0, a1, a2, a3, a4⟩, ⟨e0, e1, e2, e3, e4⟩, ⟨f0, f1, f2, f3, f4⟩, g0, g1, g2, g3, g4⟩ := CE.out _ HB.out
  go_wp2_with fail
  refine (up_any (H4.out.own HB.out) 1 rfl).mono ?_
  rintro e w' ⟨rfl, rfl⟩
  rw [decide_eq_true HUP.out]
  go_wp2_with fail
  refine (sameP_refl ⟨1#8, 0, 5, 9, []⟩ ea none ec 0 _ (BYS.out _ HB.out).2.1 (By.of_nil _)).mono ?_
  rintro e w' ⟨rfl, hb⟩
  have HB' := aQ (HB.out.trans (hb.mono HB.out.size))
  clear HB hb; have HB := HB'; clear HB'
  clear a0 a1 a2 a3 a4 e0 e1 e2 e3 e4 f0 f1 f2 f3 f4 g0 g1 g2 g3 g4; obtain ⟨⟨a0, a1, a2, a3, a4⟩, ⟨e0, e1, e2, e3, e4⟩, ⟨f0, f1, f2, f3, f4⟩, g0, g1, g2, g3, g4⟩ := CE.out _ HB.out
  go_wp2_with fail
  refine (sameP_refl ⟨3#8, 0, 0, 5, []⟩ fa none fc 0 _ (BYS.out _ HB.out).2.2.1 (By.of_nil _)).mono ?_
  rintro e w' ⟨rfl, hb⟩
  have HB' := aQ (HB.out.trans (hb.mono HB.out.size))
  clear HB hb; have HB := HB'; clear HB'
  clear a0 a1 a2 a3 a4 e0 e1 e2 e3 e4 f0 f1 f2 f3 f4 g0 g1 g2 g3 g4; obtain ⟨⟨a0, a1, a2, a3, a4⟩, ⟨e0, e1, e2, e3, e4⟩, ⟨f0, f1, f2, f3, f4⟩, g0, g1, g2, g3, g4⟩ := CE.out _ HB.out
  go_wp2_with fail
  refine (sameP_refl ⟨4#8, 1, 1, 5, []⟩ ga none gc 0 _ (BYS.out _ HB.out).2.2.2 (By.of_nil _)).mono ?_
  rintro e w' ⟨rfl, hb⟩
  have HB' := aQ (HB.out.trans (hb.mono HB.out.size))
  clear HB hb; have HB := HB'; clear HB'
  clear a0 a1 a2 a3 a4 e0 e1 e2 e3 e4 f0 f1 f2 f3 f4 g0 g1 g2 g3 g4; obtain ⟨⟨a0, a1, a2, a3, a4⟩, ⟨e0, e1, e2, e3, e4⟩, ⟨f0, f1, f2, f3, f4⟩, g0, g1, g2, g3, g4⟩ := CE.out _ HB.out
  go_wp2_with fail
  go_ret
  exact ⟨rfl, H4.out.below.trans (HB.out.mono H4.out.below.size)⟩
end

section
open Go.RowKit
section
variable {F Z:BS} {W w:World} {ts:List Th} {p N:Nat} {a:Prt}
theorem restart_low (h:dY F Z W ts w) (i:Nat) (hi:ts[i]? = some (bP p a)) (c:Int) (hc:c<=a.inc) :
  Calls Try.prog 17 #[.pointer (some ⟨p,0,none⟩),.int .i64 c] w fun e w'=>e=.returned (.int .i64 2)/\w=w':=by
 obtain ⟨G,Y,x,hst⟩:=h.get i hi
 have c0:=(aB (hst.get (i:=0) rfl).1).1
 clear hst hi h
 go_enter Try.func17,Try.ntmps17
 go_wp2_with fail
 go_ret
 exact ⟨rfl,rfl⟩
theorem nat_at {w:World} {F Z:BS} {T:TypeId} {a:Option Addr} {n c:Nat} {l:List Nat} (h:Sq dK T w F Z (.slice a n c) l) {i:Nat} {x:Nat} (hi:l[i]? = some x):∃b off,a=some ⟨b,off,none⟩/\w.cell? ⟨b,off+i,none⟩=some (.int .i64 (x:Int)):=by
 obtain ⟨b,off,cs,A,e,_,hr,_,hc⟩:=h.at (by decide) hi
 have h1:cs=[.int .i64 (x:Int)]:=hr
 subst h1
 refine ⟨b,off,e,?_⟩
 have:=hc 0 _ rfl
 rw [show off+i*dK.size+0=off+i by show off+i*1+0=_;omega] at this
 exact this
theorem rooms_nums {T:TypeId} {w:World} {F Z:BS} {b off n cap:Nat} {l:List Nat} (h:Sq dK T w F Z (.slice (some ⟨b,off,none⟩) n cap) l):∀(k x:Nat),l[k]? = some x->w.cell? ⟨b,off+k,none⟩=some (.int .i64 (x:Int)):=fun k x hk=>by
 obtain ⟨b',off',e,hc⟩:=nat_at h hk
 obtain ⟨rfl,rfl⟩:b=b'/\off=off':=by simpa using e
 exact hc
theorem Prt.Ok.cfg (h:a.Ok N) {c:Int} (h1:(a.inc:Int) < c) (h2:c<=1099511627775):CfgOk c (a.aZ.map fun (x:Nat)=>(x:Int)) a.cA a.aN a.dead:=by
 have i1:=h.i1;have w1:=h.w1;have w2:=h.w2;have t1:=h.t1;have t2:=h.t2;have d1:=h.d1;have d2:=h.d2
 refine ⟨by rw [List.length_map];exact h.n1,by rw [List.length_map];exact h.n4,fun x hx=>?_,by omega,h2,by omega,by omega,by omega,by omega,by omega,by omega⟩
 obtain ⟨y,hy,rfl⟩:=List.mem_map.1 hx
 have:=h.rm y hy
 omega
set_option maxRecDepth 100000 in
theorem restart_yes (h : dY F Z W ts w) (i : Nat) (hi : ts[i]? = some (bP p a)) (hok : a.Ok N) (c : Nat) (h1 : a.inc < c) (h2 : c ≤ 1099511627775) :
    Calls Try.prog 17 #[.pointer (some ⟨p, 0, none⟩), .int .i64 (c : Int)] w fun e w' => e = .returned (.int .i64 0) ∧ dY F Z W (ts.set i (bP p (dG c a.aZ a.cA a.aN a.dead))) w' := by
  have HCF := aQ (hok.cfg (c := (c : Int)) (by omega) (by omega))
  obtain ⟨G, Y, hon, hd, _, _, hback⟩ := h.use i hi
  suffices hs : Calls Try.prog 17 #[.pointer (some ⟨p, 0, none⟩), .int .i64 (c : Int)] w fun e w' => e = .returned (.int .i64 0) ∧ dY G Y w [bP p (dG c a.aZ a.cA a.aN a.dead)] w' by
    refine hs.mono fun e w' ⟨he, hh⟩ => ⟨he, ?_⟩
    have := hback w' _ [] hh.did
    rwa [List.append_nil] at this
  clear hback h
  obtain ⟨x, hst⟩ := dY.port hon hd
  obtain ⟨rv, sp, ap, wv, bv, snp, rcp, tkp, gvp, bsv, kv, acv, rev, tav⟩ := x
  have n1 := hok.n1
  obtain ⟨_, _, hr⟩ := hst.get 1 rfl
  obtain ⟨rb, ro, rc, rfl, m1, m1'⟩ := bR (show Sq dK 3 w _ _ rv a.aZ from hr) n1
  have hrow := hst.blk 0 rfl
  obtain ⟨c0, c1, c2, c3, c4, _⟩ := aB hrow
  dsimp only at c0 c1 c2 c3 c4
  have HN := aQ (rooms_nums (show Sq dK 3 w _ _ (.slice (some ⟨rb, ro, none⟩) a.aZ.length rc) a.aZ from hr))
  have HST := aQ (hst.new (.cells #[.int .i64 (c : Int), .slice (some ⟨rb, ro, none⟩) a.aZ.length rc, .int .i64 (a.cA : Int), .int .i64 (a.aN : Int), .int .i64 (a.dead : Int)] 24))
  clear hst hrow hr hon hd hi hok
  go_enter Try.func17, Try.ntmps17
  go_wp2_with fail
  refine (pnew_any (inc := c) (aZ := a.aZ) (wi := a.cA) (ti := a.aN) (de := a.dead) (rb := rb) (ro := ro) (rc := rc) _ HCF.out m1 m1' (fun k x hk => ?_)).mono ?_
  · have := HN.out k x hk
    exact (World.cell?_of_block ((aK w _).block rb (World.block_lt_of_cell? w _ this))).trans this
  rintro e w2 ⟨fp, rfl, hm⟩
  obtain ⟨q, hq⟩ : ∃ q, q = dG c a.aZ a.cA a.aN a.dead := ⟨_, rfl⟩
  have HQ := aQ hq
  rw [← hq] at hm
  clear hq
  obtain ⟨y, h2⟩ := ((HST.out.made hm).pick [16, 0] [bP fp q, dJ p (portRow a ⟨.slice (some ⟨rb, ro, none⟩) a.aZ.length rc, sp, ap, wv, bv, snp, rcp, tkp, gvp, bsv, kv, acv, rev, tav⟩)] (by decide) rfl).port'
  obtain ⟨rv', sp', ap', wv', bv', snp', rcp', tkp', gvp', bsv', kv', acv', rev', tav'⟩ := y
  obtain ⟨_, _, g1⟩ := h2.get 1 rfl
  obtain ⟨_, _, g2⟩ := h2.get 4 rfl
  obtain ⟨_, _, g3⟩ := h2.get 5 rfl
  obtain ⟨_, _, g4⟩ := h2.get 10 rfl
  obtain ⟨_, _, g5⟩ := h2.get 11 rfl
  obtain ⟨_, _, g6⟩ := h2.get 12 rfl
  obtain ⟨_, _, g7⟩ := h2.get 13 rfl
  obtain ⟨_, _, g8⟩ := h2.get 14 rfl
  obtain ⟨u1, k1, e1⟩ := Sq.shape (show Sq dK 3 _ _ _ rv' q.aZ from g1)
  obtain ⟨u2, k2, e2⟩ := Sq.shape (show Sq (eSq eBy 27) 54 _ _ _ wv' q.aX from g2)
  obtain ⟨u3, k3, e3⟩ := Sq.shape (show Sq (eSq eBy 27) 54 _ _ _ bv' q.aY from g3)
  obtain ⟨u4, k4, e4⟩ := Sq.shape (show Sq dK 3 _ _ _ bsv' q.base from g4)
  obtain ⟨u5, k5, e5⟩ := Sq.shape (show Sq eKept 114 _ _ _ kv' q.cT from g5)
  obtain ⟨u6, k6, e6⟩ := Sq.shape (show Sq dK 3 _ _ _ acv' q.aG from g6)
  obtain ⟨u7, k7, e7⟩ := Sq.shape (show Sq dK 3 _ _ _ rev' q.aW from g7)
  obtain ⟨u8, k8, e8⟩ := Sq.shape (show Sq dK 3 _ _ _ tav' q.cF from g8)
  have HC1 := aQ (show #[Value.int .i64 (q.inc : Int), rv', .int .i64 (q.cA : Int), .int .i64 (q.aN : Int), .int .i64 (q.dead : Int), .pointer (some ⟨sp', 0, none⟩), .pointer (some ⟨ap', 0, none⟩), wv', bv', .int .i64 (q.cM : Int),
        .pointer (some ⟨snp', 0, none⟩), .pointer (some ⟨rcp', 0, none⟩), .pointer (some ⟨tkp', 0, none⟩), .pointer (some ⟨gvp', 0, none⟩), bsv', kv', acv', rev', tav', .int .i64 (q.bL : Int)].all (·.oneCell') = true by
    rw [e1, e2, e3, e4, e5, e6, e7, e8]; simp [Value.oneCell'])
  clear g1 g2 g3 g4 g5 g6 g7 g8 e1 e2 e3 e4 e5 e6 e7 e8
  have hrow := h2.blk 0 rfl
  have hrow2 := h2.blk 15 rfl
  have H2 := aQ h2
  have HF := aQ hrow
  have HR := aQ hrow2
  clear HST HN HCF hm h2 hrow hrow2 c0 c1 c2 c3 c4
  go_wp2_with (first
    | (refine wpList_load_row rfl 80 _ rfl fp (by rfl) 80 _ (0, 0) _ HF.out Try.underlying80 rfl (by kernel_rfl) ?_)
    | (refine wpList_store_rowTo rfl 80 _ _ rfl rfl p #[.int .i64 (q.inc : Int), rv', .int .i64 (q.cA : Int), .int .i64 (q.aN : Int), .int .i64 (q.dead : Int), .pointer (some ⟨sp', 0, none⟩), .pointer (some ⟨ap', 0, none⟩), wv', bv', .int .i64 (q.cM : Int),
        .pointer (some ⟨snp', 0, none⟩), .pointer (some ⟨rcp', 0, none⟩), .pointer (some ⟨tkp', 0, none⟩), .pointer (some ⟨gvp', 0, none⟩), bsv', kv', acv', rev', tav', .int .i64 (q.bL : Int)] (by rfl) (by rfl) 80 _ HR.out (by kernel_rfl) (by rfl) HC1.out ?_))
  go_ret
  refine ⟨rfl, ?_⟩
  have hfr : Fr (fun k => k = p) w2 (w2.setRow p #[.int .i64 (q.inc : Int), rv', .int .i64 (q.cA : Int), .int .i64 (q.aN : Int), .int .i64 (q.dead : Int), .pointer (some ⟨sp', 0, none⟩), .pointer (some ⟨ap', 0, none⟩), wv', bv', .int .i64 (q.cM : Int),
        .pointer (some ⟨snp', 0, none⟩), .pointer (some ⟨rcp', 0, none⟩), .pointer (some ⟨tkp', 0, none⟩), .pointer (some ⟨gvp', 0, none⟩), bsv', kv', acv', rev', tav', .int .i64 (q.bL : Int)]) := ⟨rfl, rfl, rfl, by simp, fun k _ hk => setRow_other w2 p k _ hk⟩
  have h3 := H2.out.set 15 rfl (portRow q ⟨rv', sp', ap', wv', bv', snp', rcp', tkp', gvp', bsv', kv', acv', rev', tav'⟩) hfr (setRow_heap w2 p _ _ _ _ HR.out)
  rw [← HQ.out]
  exact dY.shut (f := bX p q) (ts := []) (h3.pick [15, 1, 2, 3, 4, 5, 6, 7, 8, 9, 10, 11, 12, 13, 14] (bX p q ⟨rv', sp', ap', wv', bv', snp', rcp', tkp', gvp', bsv', kv', acv', rev', tav'⟩) (by decide) rfl)
end
end

end Go.Proofs.Ytbgjpfbcelkllaa
