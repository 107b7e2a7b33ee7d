/- Lemmas; no condition on the program. -/
import Derived.Test.YtjnbanjjoomecaaGreatDoorPkB1
import Derived.Test.YtjnbanjjoomecaaGreatDoorPkA1
import Derived.Deep.QuietTactic
import Derived.BigQuiet
import Derived.Test.YtjnbanjjoomecaaGreatDoorRows
import Derived.WalkLawsBesides
import Derived.BigRegion
import Derived.Deep.RegionWith
import Derived.Deep.RegionLaw
import Derived.Deep.RegionHeld3
import Derived.Deep.CutRange
import Derived.Laws.BytesArg
namespace Go.Proofs.YtjnbanjjoomecaaGreatDoor
open Go.RowKit
open List renaming replicate→Vr, getElem?_eq_getElem→Vw, append_assoc→VE, getElem?_map→VG, length_map→VL, length_take→VW, length_drop→V9, eq_nil_of_length_eq_zero→Wh, append_nil→Wp, replicate_succ'→XC, map_map→XR, size_toArray→XW, length_modify→Yg
open _root_.Go.Proofs.Tryz renaming prog→Vs
open Nat renaming le_refl→Vu, zero_le→VJ, zero_add→V5, lt_or_ge→WV, mul_le_mul_right→Xn, min_eq_left→Zy
open _root_.Go.RowKit.Below renaming setCell→VK, refl→VQ, heap_alloc→WA
open Option.some renaming inj→VM
open IntWalk renaming i64_in→V6
open Value renaming slice→WS, ownBlock→YM
open World.ownsRow renaming lt→Xv, frozenAt→Zg, cellAt→Zh, stored→ZI
open World renaming ownsRow_made→XM
open Lib renaming run_eql_slice_nil→X0
open Lit renaming int→Yq
open Int renaming emod_nonneg→YR
open UInt8 renaming toBitVec→Zn, ofBitVec→Zo, ofNat→ZF
open _root_.Go.ByteArray renaming toList_eq→Z0
set_option maxRecDepth 100000
set_option maxHeartbeats 64000000
def dO:El jV where
 size:=3
 rd _ _ _ cs f:=cs=[.int .i64 f.at',.int .i64 f.kind,.int .i64 f.arg]/\(Yq .i64 f.at').wf=true/\(Yq .i64 f.kind).wf=true/\(Yq .i64 f.arg).wf=true
 len h:=by rw [h.1];rfl
 keep h _ _:=h
 mono h _ _:=h
 one h u hu:=by
  rw [h.1] at hu;simp at hu
  rcases hu with rfl|rfl|rfl <;> rfl
def J7:R jV:=J6 (ll (nP .i64) (ll (nP .i64) (nP .i64))) fun a=>⟨a.1,a.2.1,a.2.2⟩
theorem Pd {W:World} {F Z:BS} {cs:List Value} {f:jV} (h:J7.rd W cs f):dO.rd W F Z cs f:=by
 obtain ⟨⟨k,n,d⟩,⟨c1,c2,rfl,⟨rfl,h1⟩,c3,c4,rfl,⟨rfl,h2⟩,rfl,h3⟩,rfl⟩:=h;exact ⟨rfl,h1,h2,h3⟩
theorem xZ {H:Type} {enc:TypeId × Value->H} {W:World}:jv enc Vs W 25 (gZ J7):=
 jM Tryz.underlying25 (by kernel_rfl) (oN (kz Tryz.underlying144 (by kernel_rfl)
  (.cons (cN Tryz.underlying3 (by kernel_rfl)) rfl (.cons (cN Tryz.underlying3 (by kernel_rfl)) rfl (.one (cN Tryz.underlying3 (by kernel_rfl)) rfl)))) _) (by decide)
theorem Gd {W:World} {v:Value} {fs:List jV} (h:(gZ J7).rd W [v] fs):dh dO W (Old W) v fs:=y_ rfl (by decide) (fun _ _ h=>Pd h) h
theorem nV {w:World} {Z:BS} {a:Option Addr} {n c:Nat} {fs:List jV} (h:dh dO w Z (.slice a n c) fs) {i:Nat} {f:jV} (hi:fs[i]? = some f) :
  ∃b off,a=some ⟨b,off,none⟩/\w.cell? ⟨b,off+i*3,none⟩=some (.int .i64 f.at')/\w.cell? ⟨b,off+i*3+1,none⟩=some (.int .i64 f.kind)/\w.cell? ⟨b,off+i*3+2,none⟩=some (.int .i64 f.arg) /\
   (Yq .i64 f.at').wf=true/\(Yq .i64 f.kind).wf=true/\(Yq .i64 f.arg).wf=true:=by
 obtain ⟨b,off,cs,e,_,⟨rfl,h1⟩,h2⟩:=h.at (by decide) hi;exact ⟨b,off,e,h2 0 _ rfl,h2 1 _ rfl,h2 2 _ rfl,h1⟩
def oW (a b:Int):Int:=if a < b then -1 else if b < a then 1 else 0
theorem IY (a:Int) (w:World):Calls Vs 150 #[.int .i64 a] w fun e w'=>e=.returned (.bool false)/\w=w':=by
 go_enter Tryz.func150,Tryz.ntmps150
 go_wp2
 go_ret;exact ⟨rfl,rfl⟩
theorem CY (a b:Int) (w:World):Calls Vs 112 #[.int .i64 a,.int .i64 b] w fun e w'=>e=.returned (.int .i64 (oW a b))/\w=w':=by
 have hc:(a < b/\oW a b = -1)\/(b < a/\oW a b=1)\/(a=b/\oW a b=0):=by unfold oW;split <;> (try split) <;> simp <;> omega
 generalize oW a b=z at *
 rcases hc with ⟨h,rfl⟩|⟨h,rfl⟩|⟨rfl,rfl⟩
 all_goals
  go_enter Tryz.func112,Tryz.ntmps112;go_wp2_with (go_at_call 150;refine (IY _ _).mono ?_;rintro e w' ⟨rfl,rfl⟩);go_ret;exact ⟨rfl,rfl⟩
theorem qU (f:jV) (t:Int) (w:World):Calls Vs 111 #[.agg #[.int .i64 f.at',.int .i64 f.kind,.int .i64 f.arg],.int .i64 t] w fun e w'=>e=.returned (.int .i64 (oW f.at' t))/\Below w.heap.size w w':=by
 go_enter Tryz.func111,Tryz.ntmps111;go_wp2_with (go_at_call 112;refine (CY _ _ _).mono ?_;rintro e w' ⟨rfl,rfl⟩);go_ret;exact ⟨rfl,aK _ _⟩
def Low (fs:List jV) (t:Int) (i:Nat) (b:Bool):Prop:=i<=fs.length/\(∀(k:Nat) f,k < i->fs[k]? = some f->f.at' < t)/\(∀(k:Nat) f,i<=k->fs[k]? = some f->t<=f.at')/\(b=true->∃f,fs[i]? = some f/\f.at'=t)/\(b=false->∀f,fs[i]? = some f->f.at'≠t)
def PD (w:World) (fs:List jV) (t:Int) (e:Ending) (w':World):Prop:=∃(i:Nat) (b:Bool),e=.returned (.tuple #[.int .i64 (i:Int),.bool b])/\Low fs t i b/\Below w.heap.size w w'
theorem Ep (w:World) (Z:BS) (v:Value) (fs:List jV) (h:dh dO w Z v fs) (ha:Asc fs) (hl:fs.length<=1000000) (t:Int) :
  Calls Vs 110 #[v,.int .i64 t,.func (.func 111) #[] #[]] w (PD w fs t):=by
 obtain ⟨a,c,rfl,hc1,hc2⟩:=h.shape;have H:=aQ h;have HA:=aQ ha;clear h ha;unfold maxLen at hc2;go_enter Tryz.func110,Tryz.ntmps110;go_wp2_with fail;go_loopw [9,10] (fun x y wr=>∃i j:Nat,x=.int .i64 i/\y=.int .i64 j/\i<=j/\j<=fs.length/\Hid (∀(k:Nat) f,k < i->fs[k]? = some f->f.at' < t)/\Hid (∀(k:Nat) f,j<=k->fs[k]? = some f->t<=f.at')/\Hid (Below w.heap.size w wr)) (fun x y _=>(intOf y - intOf x).toNat)
 case atStart=>exact ⟨0,fs.length,rfl,rfl,by omega,by omega,aQ fun k f hk=>by omega,aQ fun k f hk hf=>by have:=aA hf;omega,aQ (VQ _ _)⟩
 case round=>
  obtain ⟨i,j,rfl,rfl,hij,hj,H1,H2,HB⟩:=hrel;have hz:=HB.out.size;by_cases hlt:i < j
  ·have hsh:((i:Int)+(j:Int)).toNat >>> 1=(i+j) / 2:=by rw [Nat.shiftRight_eq_div_pow];omega
   have hu:IntKind.u64.wrap ((i:Int)+(j:Int))=((i+j:Nat):Int):=by unfold IntKind.wrap;simp [IntKind.bits,IntKind.signed];omega
   obtain ⟨f,hf⟩:∃f,fs[(i+j) / 2]? = some f:=⟨fs[(i+j) / 2],Vw (by omega)⟩;obtain ⟨b,off,rfl,c0,c1,c2,w0,w1,w2⟩:=nV (H.out.below HB.out) hf;have HF:=aQ hf;clear hf;have H1':=aQ H1.out;have H2':=aQ H2.out;clear H1 H2;have iN:f.at' < t\/t<=f.at':=by omega
   rcases iN with hft|hft
   ·have hc:oW f.at' t = -1:=if_pos hft
    go_wp2_with fail;refine (qU f t wr).mono ?_;rintro e w1 ⟨rfl,hb⟩;have HB1:=aQ (HB.out.trans (hb.mono hz));clear hb;go_wp2_with fail;go_roundw
    case rel=>exact ⟨(i+j) / 2+1,j,by go_num,rfl,by omega,hj,aQ fun k g hk hg=>by
      rcases WV k ((i+j) / 2) with h|h
      ·exact Int.lt_trans (HA.out k _ g f h hg HF.out) hft
      ·obtain rfl:k=(i+j) / 2:=by omega
       obtain rfl:=VM (HF.out.symm.trans hg);exact hft,H2',HB1⟩
    case measure=>simp [intOf];omega
   ·have hc:oW f.at' t=0\/oW f.at' t=1:=by unfold oW;rw [if_neg (by omega)];split <;> simp
    have hc0:0<=oW f.at' t:=by omega
    clear hc;go_wp2_with fail;refine (qU f t wr).mono ?_;rintro e w1 ⟨rfl,hb⟩;have HB1:=aQ (HB.out.trans (hb.mono hz));clear hb;go_wp2_with fail;go_roundw
    case rel=>exact ⟨i,(i+j) / 2,rfl,by go_num,by omega,by omega,H1',aQ fun k g hk hg=>by
      rcases WV ((i+j) / 2) k with h|h
      ·exact Int.le_of_lt (Int.lt_of_le_of_lt hft (HA.out _ k f g h HF.out hg))
      ·obtain rfl:k=(i+j) / 2:=by omega
       obtain rfl:=VM (HF.out.symm.trans hg);exact hft,HB1⟩
    case measure=>simp [intOf];omega
  ·obtain rfl:i=j:=by omega
   by_cases hin:i < fs.length
   ·obtain ⟨f,hf⟩:∃f,fs[i]? = some f:=⟨fs[i],Vw hin⟩
    obtain ⟨b,off,rfl,c0,c1,c2,w0,w1,w2⟩:=nV (H.out.below HB.out) hf;have hge:=H2.out i f (Vu _) hf;have HF:=aQ hf;clear hf;by_cases heq:f.at'=t
    ·have hc:oW f.at' t=0:=by unfold oW;rw [if_neg (by omega),if_neg (by omega)]
     have HEQ:=aQ heq;clear heq;go_wp2_with fail;refine (qU f t wr).mono ?_;rintro e w1 ⟨rfl,hb⟩;have HB1:=aQ (HB.out.trans (hb.mono hz));clear hb;go_wp2_with fail;go_ret2;exact ⟨i,true,rfl,⟨by omega,H1.out,H2.out,fun _=>⟨f,HF.out,HEQ.out⟩,fun h=>by cases h⟩,HB1.out⟩
    ·have hc:oW f.at' t=1:=by unfold oW;rw [if_neg (by omega),if_pos (by omega)]
     go_wp2_with fail;refine (qU f t wr).mono ?_;rintro e w1 ⟨rfl,hb⟩;have HB1:=aQ (HB.out.trans (hb.mono hz));clear hb;go_wp2_with fail;go_ret2;exact ⟨i,false,rfl,⟨by omega,H1.out,H2.out,(fun h=>by cases h),fun _ g hg=>by obtain rfl:=VM (HF.out.symm.trans hg);exact heq⟩,HB1.out⟩
   ·go_wp2_with fail
    go_ret2;exact ⟨i,false,rfl,⟨by omega,H1.out,H2.out,(fun h=>by cases h),fun _ g hg=>by have:=aA hg;omega⟩,HB.out⟩

theorem Ao:o8 Vs 40 5 (.int .u8 0) 1 1:=⟨Tryz.underlying40,info_parts (by kernel_rfl),rfl,by decide⟩
theorem By.slice {w:World} {v:Value} {bs:List (BitVec 8)} (h:By w v bs):∃a cap,v=.slice a bs.length cap:=by
 obtain ⟨_,a,cap,rfl,_⟩:=h;exact ⟨a,cap,rfl⟩
theorem By.parts {w:World} {a:Option Addr} {l c:Nat} {bs:List (BitVec 8)} (h:By w (.slice a l c) bs):l=bs.length/\l<=c/\c<=maxLen/\(a=none->l=0/\c=0):=by
 obtain ⟨_,a',c',e,h1,h2,h3,_⟩:=h;obtain ⟨rfl,rfl,rfl⟩:a=a'/\l=bs.length/\c=c':=by simpa using e
 exact ⟨rfl,h1,h2,h3⟩
theorem By.alloc {w:World} {v:Value} {bs:List (BitVec 8)} (h:By w v bs) (o:Obj):By (w.alloc o) v bs:=h.below ((VQ _ _).alloc (Vu _) _)
theorem By.drewN {w:World} {v:Value} {bs:List (BitVec 8)} (h:By w v bs) (n:Nat):By (w.drewN n) v bs:=Rd.keep h fun _ _ _=>rfl
theorem Jk (w:World):Calls Vs 69 #[.slice none 0 0] w fun e w'=>e=.returned (.slice none 0 0)/\w=w':=by
 have hn:=fun a n c n' c'=>X0 (P:=Vs) w 40 5 a n c n' c' Tryz.underlying40
 go_enter Tryz.func69,Tryz.ntmps69
 go_wp2
 go_ret;exact ⟨rfl,rfl⟩
theorem E9 (ad:Addr) (cap:Nat) (bs:List (BitVec 8)) (w:World) (hv:By w (.slice (some ad) bs.length cap) bs) (hm:bs.length<=1048576) :
  Calls Vs 69 #[.slice (some ad) bs.length cap] w fun e w'=>∃v',e=.returned v'/\Ow 5 w' w.heap.size v' bs/\Below w.heap.size w w':=by
 have HV:=aQ hv;clear hv;have hn:=fun a n c n' c'=>X0 (P:=Vs) w 40 5 a n c n' c' Tryz.underlying40
 go_enter Tryz.func69,Tryz.ntmps69;go_wp2_with (at_builtin;refine gQ Ao rfl _ _ rfl w.heap.size _ 0 [] rfl (XM _ _ 0 (Vu _) (VJ _) rfl) _ bs.length (cu bs) rfl (By.alloc HV.out _) iM (by unfold maxLen;omega) (by omega) (by simp) ?_;intro v2 w2 hown2 hg2 hiff;clear hiff;have HB2:=aQ (((VQ w.heap.size w).alloc (Vu _) _).grown hg2 (by simp) (fun k e=>by cases e;exact Vu _));have Di:=aQ (show Ow _ w2 w.heap.size v2 bs by simpa [Ow] using hown2);clear hown2 hg2);go_ret;exact ⟨_,rfl,Di.out,HB2.out⟩
theorem cV (v:Value) (bs:List (BitVec 8)) (w:World) (hv:By w v bs) (hm:bs.length<=1048576) :
  Calls Vs 69 #[v] w fun e w'=>∃v',e=.returned v'/\Ow 5 w' w.heap.size v' bs/\Below w.heap.size w w':=by
 obtain ⟨a,cap,rfl⟩:=hv.slice
 cases a with
 |some ad=>exact E9 ad cap bs w hv hm
 |none=>
  have hp:=hv.parts.2.2.2 rfl;have:bs=[]:=Wh hp.1;subst this;obtain ⟨_,rfl⟩:=hp;refine (Jk w).mono fun e w' ⟨he,hw⟩=>?_
  subst hw;exact ⟨_,he,World.ownsRow_nil _ _ _ _,VQ _ _⟩
theorem gX {w:World} {e:TypeId} {base:Nat} {v:Value} {bs:List (BitVec 8)} (h:Ow e w base v bs):∃a cap,v=.slice a bs.length cap:=by
 obtain ⟨_,⟨rfl,h0⟩|⟨g,cap,cur,rfl,_⟩⟩:=h
 ·exact ⟨none,0,by rw [h0]⟩
 ·exact ⟨_,cap,rfl⟩

def iG:El (Nat × iw) where
 size:=2
 rd w _ Z cs x:=∃v,cs=[.int .i64 (x.1:Int),v]/\fE w Z v x.2
 len h:=by obtain ⟨v,h,_⟩:=h;rw [h];rfl
 keep h _ hk:=by obtain ⟨v,e,h⟩:=h;exact ⟨v,e,h.stay fun k hz=>hk k (.inr hz)⟩
 mono h _ hZ:=by obtain ⟨v,e,h⟩:=h;exact ⟨v,e,h.mono hZ⟩
 one h u hu:=by
  obtain ⟨v,rfl,h⟩:=h;obtain ⟨a,c,rfl⟩:=h.slice;simp at hu
  rcases hu with rfl|rfl <;> rfl
def bF (c:az) (fv lv:Value):Array Value := #[.int .i64 (c.cB:Int),fv,.bool c.up,.int .i64 (c.cC:Int),.int .i64 (c.cP:Int),.int .i64 (c.lost:Int),lv]
def aas (p:Nat) (c:az) (w:World) (F Z:BS):Prop:=F p/\∃fv lv,w.heap[p]? = some (.cells (bF c fv lv) 157 (0,0))/\dh dO w Z fv c.bZ/\Sq iG 159 w (fun k=>F k/\k≠p) Z lv c.aL
def dm (p:Nat) (c:az):Th where
 on:=aas p c
 keep:=fun ⟨h0,fv,lv,h1,h2,h3⟩ hs hk=>⟨⟨h0,lt_of_block h1⟩,fv,lv,(hk p (.inl h0) (lt_of_block h1)).trans h1,h2.stay hs fun k hz=>hk k (.inr hz),(h3.keep hs fun k hh=>hk k (hh.imp (·.1) id)).mono (fun _ h=>⟨⟨h.1.1,h.2⟩,h.1.2⟩) fun _ h=>h⟩
 mono:=fun ⟨h0,fv,lv,h1,h2,h3⟩ hF hZ=>⟨hF p h0,fv,lv,h1,h2.mono hZ,h3.mono (fun k h=>⟨hF k h.1,h.2⟩) hZ⟩
theorem bD {w:World} {p:Nat} {c:az} {fv lv:Value} (h:w.heap[p]? = some (.cells (bF c fv lv) 157 (0,0))) :
  w.cell? ⟨p,0,none⟩=some (.int .i64 (c.cB:Int))/\w.cell? ⟨p,1,none⟩=some fv/\w.cell? ⟨p,2,none⟩=some (.bool c.up)/\w.cell? ⟨p,3,none⟩=some (.int .i64 (c.cC:Int))/\w.cell? ⟨p,4,none⟩=some (.int .i64 (c.cP:Int)) /\
  w.cell? ⟨p,5,none⟩=some (.int .i64 (c.lost:Int))/\w.cell? ⟨p,6,none⟩=some lv:=
 ⟨aJ h rfl,aJ h rfl,aJ h rfl,aJ h rfl,aJ h rfl,aJ h rfl,aJ h rfl⟩
theorem dz {w:World} {p:Nat} {c:az} {fv lv:Value} (h:w.heap[p]? = some (.cells (bF c fv lv) 157 (0,0))) :
  w.frozen? ⟨p,2,none⟩=false/\w.frozen? ⟨p,3,none⟩=false/\w.frozen? ⟨p,4,none⟩=false/\w.frozen? ⟨p,5,none⟩=false/\w.frozen? ⟨p,6,none⟩=false:=
 ⟨aD h _,aD h _,aD h _,aD h _,aD h _⟩
theorem sM (p:Nat) (c:az) (hok:c.Ok) (hl:c.bZ.length<=1000000) (w:World) (F Z:BS) (h:(dm p c).on w F Z) :
  Calls Vs 68 #[.pointer (some ⟨p,0,none⟩),.int .i64 (c.cP:Int)] w fun e w'=>e=.returned (.agg #[.int .i64 c.fault.at',.int .i64 c.fault.kind,.int .i64 c.fault.arg])/\Below w.heap.size w w':=by
 obtain ⟨h0,fv,lv,hrow,hf,hs⟩:=h;obtain ⟨_,c1,_,_,c4,_,_⟩:=bD hrow;have HF:=aQ hf;obtain ⟨fa,fc,rfl,fl,fm⟩:=hf.shape;have RL:=aQ hok.FD;have hbl:=lt_of_block hrow;clear hf hs hrow hok h0;unfold maxLen at fm;go_enter Tryz.func68,Tryz.ntmps68;go_wp2_with fail;refine (Ep _ Z _ _ (HF.out.below (aK _ _)) RL.out hl _).mono ?_;rintro e w1 ⟨i,b,rfl,hlow,hb⟩;have HB:=aQ hb;have k1:=cell_later hb (aI w (.cells #[.int .i64 0,.int .i64 0,.int .i64 0] 144) c1);have hz:=hb.size;have HR:=aQ ((hb.block w.heap.size (by simp)).trans (heap_alloc_new w _));clear hb;have g0:=aJ (i:=0) HR.out rfl;have g1:=aJ (i:=1) HR.out rfl;have g2:=aJ (i:=2) HR.out rfl;have fr:=fun i=>aD HR.out i
 cases b with
 |true=>
  obtain ⟨f,hfi,hft⟩:=hlow.2.2.2.1 rfl;have hfo:c.fault=f:=EY RL.out hfi hft;have hil:=aA hfi;obtain ⟨b,off,rfl,d0,d1,d2,_⟩:=nV HF.out hfi;have HFO:=aQ hfo;clear hfo hlow hfi hft;have m0:=cell_later HB.out (aI w (.cells #[.int .i64 0,.int .i64 0,.int .i64 0] 144) d0);have m1:=cell_later HB.out (aI w (.cells #[.int .i64 0,.int .i64 0,.int .i64 0] 144) d1);have m2:=cell_later HB.out (aI w (.cells #[.int .i64 0,.int .i64 0,.int .i64 0] 144) d2);have hbb:=World.block_lt_of_cell? _ _ d0;clear d0 d1 d2;go_wp2_with fail;exact bodyPost_ret (v:=.agg #[.int .i64 f.at',.int .i64 f.kind,.int .i64 f.arg]) (by simp [results,Tryz.results68,go_sem,g0,g1,g2]) rfl ⟨by rw [HFO.out],by (repeat (first|(with_reducible exact VQ _ _)|(with_reducible exact aK _ _)|(with_reducible exact ((aK _ _).trans (HB.out.mono (by simp))))|(with_reducible refine VK ?_ (by simp) _)))⟩
 |false=>
  have hfo:c.fault=jV.zero:=Ad fun k g hg e=>by
   rcases Nat.lt_trichotomy k i with h|h|h
   ·have:=hlow.2.1 k g h hg;omega
   ·subst h;exact hlow.2.2.2.2 rfl g hg e
   ·have hil:=aA hg
    obtain ⟨g0,hg0⟩:∃g0,c.bZ[i]? = some g0:=⟨c.bZ[i],Vw (by omega)⟩;have h1:=hlow.2.2.1 i g0 (Vu _) hg0;have h2:=RL.out i k g0 g h hg0 hg;omega
  have HFO:=aQ hfo;clear hfo hlow;go_wp2_with fail;exact bodyPost_ret (v:=.agg #[.int .i64 0,.int .i64 0,.int .i64 0]) (by simp [results,Tryz.results68,go_sem,g0,g1,g2]) rfl ⟨by rw [HFO.out];rfl,by (repeat (first|(with_reducible exact VQ _ _)|(with_reducible exact aK _ _)|(with_reducible exact ((aK _ _).trans (HB.out.mono (by simp))))|(with_reducible refine VK ?_ (by simp) _)))⟩

theorem AB:o8 Vs 155 159 (.agg #[.int .i64 0,.slice none 0 0]) 2 32:=⟨Tryz.underlying155,info_parts (by kernel_rfl),rfl,by decide⟩
theorem UD (w:World):(zeroValue 159).run Vs w=.ok (.agg #[.int .i64 0,.slice none 0 0]) w:=by kernel_rfl
theorem Qc:∀u ∈ (Value.agg #[.int .i64 0,.slice none 0 0]).cells,u.oneCell'=true:=by
 intro u hu;simp [Value.cells] at hu;rcases hu with rfl|rfl <;> rfl
theorem Cb {α : Type} {E:El α} {T:TypeId} {w:World} {F Z K D:BS} {g off c k:Nat} {cur:Array Value} {xs:List α} {us zs:List Value} (hd:Dj F Z) (q1:∀k,K k\/D k->F k) (q2:Dj K D) (q3:∀k,K k->k < w.heap.size) (hg:K g) (hrow:w.heap[g]? = some (.cells cur T (0,0)))
  (hel:fK E w D Z us xs) (hk:k<=xs.length) (h1:xs.length<=c) (h2:c<=maxLen) (h3:off+c*E.size<=cur.size) (hz:zs.length=k*E.size) :
  Sq E T (jr (jr w.drew g cur off (us.drop (k*E.size))) g (over cur.toList off (us.drop (k*E.size))).toArray (off+(xs.length - k)*E.size) zs) F Z (.slice (some ⟨g,off,none⟩) (xs.length - k) c) (xs.drop k) /\
   Fr F w (jr (jr w.drew g cur off (us.drop (k*E.size))) g (over cur.toList off (us.drop (k*E.size))).toArray (off+(xs.length - k)*E.size) zs):=by
 have Jw:=hel.length;have hm:(xs.length - k)*E.size=xs.length*E.size - k*E.size:=Nat.sub_mul _ _ _;have hle:k*E.size<=xs.length*E.size:=Xn _ hk;have hle2:xs.length*E.size<=c*E.size:=Xn _ h1;have hnl:(us.drop (k*E.size)).length=(xs.length - k)*E.size:=by rw [V9,Jw,hm]
 have hcl:cur.toList.length=cur.size:=by simp
 have hf1:off+(us.drop (k*E.size)).length<=cur.toList.length:=by rw [hnl,hcl];omega
 have hcs:(over cur.toList off (us.drop (k*E.size))).length=cur.size:=by rw [jL hf1,hcl]
 have hf2:off+(xs.length - k)*E.size+zs.length<=(over cur.toList off (us.drop (k*E.size))).length:=by rw [hcs,hz,hm];omega
 have hr1:=om (w:=w.drew) (show w.drew.heap[g]? = _ from hrow) off (us.drop (k*E.size));have hr2:=om hr1 (off+(xs.length - k)*E.size) zs;have hF:=(((Fr.refl (fun k=>k=g) w).drew.trans (uF (w:=w.drew) cur off (us.drop (k*E.size))) fun x h=>.inl h).trans (uF (w:=jr w.drew g cur off (us.drop (k*E.size))) (over cur.toList off (us.drop (k*E.size))).toArray (off+(xs.length - k)*E.size) zs) fun x h=>.inl h);refine ⟨⟨K,D,us.drop (k*E.size),q1,q2,fun k hk=>Nat.lt_of_lt_of_le (q3 k hk) hF.size,?_,?_⟩,hF.mono fun x hx=>by subst hx;exact q1 _ (.inl hg)⟩
 ·rw [V9]
  refine ⟨hnl,.inr ⟨g,off,c,_,rfl,hg,hr2,by omega,h2,?_,?_⟩⟩
  ·rw [XW,jL hf2,hcs];exact h3
  ·show ((over _ _ zs).drop off).take _=_
   rw [EF hf2 (.inl (by omega)),<-hnl];exact xY hf1
 ·exact ((hel.keep hF.size fun x hx hl=>hF.block x hl fun e=>by subst e;exact hx.elim (q2 _ hg) (hd _ (q1 _ (.inl hg)))).mono (fun _ h=>h.1) fun _ h=>h.1).drop k
theorem Af (w:World) (F Z:BS) (hd:Dj F Z) (v:Value) (xs:List (Nat × iw)) (h:Sq iG 159 w F Z v xs) (k:Nat) (hk:k<=xs.length) (hl:xs.length<=1000000) :
  Calls Vs 95 #[v,.int .i64 0,.int .i64 (k:Int)] w fun e w'=>∃v',e=.returned v'/\Sq iG 159 w' F Z v' (xs.drop k)/\Fr F w w':=by
 obtain ⟨a,c,rfl,hc1,hc2,hc3⟩:=h.le;have H:=aQ h;unfold maxLen at hc2;by_cases h0:k=0
 ·subst h0
  clear h hc3;go_enter Tryz.func95,Tryz.ntmps95;go_wp2_with fail
  all_goals go_ret
  all_goals exact ⟨_,rfl,by simpa using H.out,Fr.refl _ _⟩
 ·obtain ⟨K,D,us,q1,q2,q3,hsl,hel⟩:=h
  obtain ⟨g,off,cap,e1,hg,_⟩:=hsl.head (by omega);obtain ⟨rfl,rfl⟩:a=some ⟨g,off,none⟩/\c=cap:=by simpa using e1
  obtain ⟨ad,had,hrd⟩:∃ad,(if c=k then some (⟨g,off,none⟩:Addr) else some ⟨g,off+k*2,none⟩)=some ad/\Rd w 2 (.slice (some ad) (xs.length - k) (c - k)) (xs.length - k) (us.drop (k*2)):=by
   have:=(hsl.Qr hk).rd;by_cases hck:c=k
   ·rw [if_pos hck] at this ⊢;exact ⟨_,rfl,this⟩
   ·rw [if_neg hck] at this ⊢;exact ⟨_,rfl,this⟩
  obtain ⟨Jw,⟨e2,_⟩|⟨g',off',cap',cur,e2,hF,hrow,h1,h2,h3,h4⟩⟩:=hsl
  ·cases e2
  obtain ⟨⟨rfl,rfl⟩,rfl⟩:(g=g'/\off=off')/\c=cap':=by simpa using e2
  have Dq:=aQ hrd;have θ:=aQ hrow;have HEL:=aQ hel;have hone:Hid (∀u ∈ us.drop (k*2),u.oneCell'=true):=aQ fun u hu=>hel.one u (List.mem_of_mem_drop hu)
  have hnl:(us.drop (k*2)).length=(xs.length - k)*2:=by rw [V9,Jw];show xs.length*2 - _=_;omega
  have H3:off+c*2<=cur.size:=h3;have HAD:=aQ had;clear hrd hrow hel had e1 e2 hc3 Jw;have hF':K g:=hF;clear hF;by_cases hck:c=k
  ·have aaU:=hck.symm;subst aaU
   have hnk:xs.length=k:=by omega
   rw [if_pos rfl] at HAD;obtain rfl:=VM HAD.out;rw [Nat.sub_self,show xs.length - k=0 by omega] at Dq;rw [show xs.length - k=0 by omega] at hnl;clear HAD;go_enter Tryz.func95,Tryz.ntmps95;go_wp2_with fail
   go_region_held3 (fun w'=>w'.heap.size=w.heap.size) (first|rfl|simp [jr]) ((refine pM AB rfl _ _ (by rfl) g off 0 _ (by rfl) cur θ.out _ (0) _ (us.drop (k*2)) (by rfl) (Dq.out.keep fun _ _ _=>rfl) hone.out (by omega) (by omega) ?_))
   have hr1:=om (w:=w.drew) (show w.drew.heap[g]? = _ from θ.out) (off+0*2) (us.drop (k*2))
   have hcs:(over cur.toList (off+0*2) (us.drop (k*2))).length=cur.size:=by
    have hcl:cur.toList.length=cur.size:=by simp
    rw [jL (by rw [hnl,hcl];omega),hcl]
   have HR1:=aQ hr1;have HCS:=aQ hcs;clear hr1 hcs;go_wp2_with (refine lF AB UD Qc rfl _ rfl g (off) k _ (by omega) (by rfl) _ HR1.out (by rw [XW,HCS.out];omega) ?_;intro zs hz);go_ret;have hd2:=Cb (zs:=zs) hd q1 q2 q3 hF' θ.out HEL.out (show k<=xs.length by omega) h1 h2 h3 (by rw [hz];rfl);rw [show xs.length - k=0 by omega] at hd2;simp only [show iG.size=2 from rfl] at hd2;exact ⟨_,rfl,by simpa using hd2.1,by simpa using hd2.2⟩
  ·rw [if_neg hck] at HAD
   obtain rfl:=VM HAD.out;have i1:(0:Int)<=(k:Int):=by omega
   have i2:(k:Int)<=(xs.length:Int):=by omega
   have i3:(xs.length:Int)<=(c:Int):=by omega
   have i4:(0:Int)<=(c:Int):=by omega
   clear HAD;go_enter Tryz.func95,Tryz.ntmps95;go_wp2_with fail
   go_region_held3 (fun w'=>w'.heap.size=w.heap.size) (first|rfl|simp [jr]) ((refine pM AB rfl _ _ (by rfl) g off 0 _ (by rfl) cur θ.out _ (xs.length - k) _ (us.drop (k*2)) (by rfl) (Dq.out.keep fun _ _ _=>rfl) hone.out (by omega) (by omega) ?_))
   have hr1:=om (w:=w.drew) (show w.drew.heap[g]? = _ from θ.out) (off+0*2) (us.drop (k*2))
   have hcs:(over cur.toList (off+0*2) (us.drop (k*2))).length=cur.size:=by
    have hcl:cur.toList.length=cur.size:=by simp
    rw [jL (by rw [hnl,hcl];omega),hcl]
   have HR1:=aQ hr1;have HCS:=aQ hcs;clear hr1 hcs;go_wp2_with (refine lF AB UD Qc rfl _ rfl g (off+(xs.length - k)*2) (xs.length - (xs.length - k)) _ (by omega) (by rfl) _ HR1.out (by rw [XW,HCS.out];omega) ?_;intro zs hz);go_ret;have hd2:=Cb (zs:=zs) hd q1 q2 q3 hF' θ.out HEL.out (show k<=xs.length by omega) h1 h2 h3 (by rw [hz,show xs.length - (xs.length - k)=k by omega];rfl);simp only [show iG.size=2 from rfl] at hd2;exact ⟨_,rfl,by simpa using hd2.1,by simpa using hd2.2⟩

theorem Vk:o8 Vs 25 144 (.agg #[.int .i64 0,.int .i64 0,.int .i64 0]) 3 24:=⟨Tryz.underlying25,info_parts (by kernel_rfl),rfl,by decide⟩
theorem OI {α : Type} {E:El α} {w1:World} {base:Nat} {e:TypeId} {v:Value} {us:List Value} {xs:List α} {Z:BS} (h:w1.ownsRow base e E.size v xs.length us) (hel:fK E w1 (fun _=>False) Z us xs):dh E w1 (fun k=>Z k\/base<=k) v xs:=
 ⟨us,Rd.mQ h,hel.mono (fun _ h=>h) fun _ h=>.inl h,fun h0 b hb=>by
  obtain ⟨_,⟨rfl,_⟩|⟨g,cap,cur,rfl,h1,_⟩⟩:=h
  ·cases hb
  ·obtain rfl:g=b:=by simpa [YM] using hb
   exact .inr h1⟩
theorem Gg {w w':World} {Z Y:BS}:∀ {us:List Value} {fs:List jV},fK dO w (fun _=>False) Z us fs->fK dO w' (fun _=>False) Y us fs
 |_,[],h=>h
 |_,_::_,⟨cs,rest,_,_,e,_,g2,_,h1,h2⟩=>⟨cs,rest,fun _=>False,fun _=>False,e,fun _ f=>f,fun _ f=>f,fun _ f=>f.elim,h1,Gg (fK.mono h2 (fun k b=>(g2 k b).elim) fun _ h=>h)⟩
theorem Fa (w:World) (Z:BS) (v:Value) (fs:List jV) (h:dh dO w Z v fs) (hl:fs.length<=1000000) :
  Calls Vs 91 #[v] w fun e w'=>∃v',e=.returned v'/\dh dO w' (fun k=>w.heap.size<=k) v' fs/\Below w.heap.size w w':=by
 obtain ⟨us,hr,he,_⟩:=h;obtain ⟨a,c,rfl,h3⟩:∃a c,v=.slice a fs.length c/\(a=none->fs.length=0/\c=0):=by obtain ⟨_,a,c,e,_,_,h3,_⟩:=hr;exact ⟨a,c,e,h3⟩
 have HR:=aQ hr;have HE:=aQ he;have hn:=fun a n c n' c'=>X0 (P:=Vs) w 25 144 a n c n' c' Tryz.underlying25
 clear hr he
 cases a with
 |none=>
  obtain ⟨h4,h5⟩:=h3 rfl;have h6:fs=[]:=Wh h4;subst h6;clear h3 h4;go_enter Tryz.func91,Tryz.ntmps91
  go_wp2
  go_ret;exact ⟨_,rfl,dh.nil _ _ _,VQ _ _⟩
 |some ad=>
  clear h3;have uP:=aQ HE.out.one;go_enter Tryz.func91,Tryz.ntmps91;go_wp2_with (at_builtin;refine gQ Vk rfl _ _ rfl w.heap.size _ 0 [] rfl (XM _ _ 0 (Vu _) (VJ _) rfl) _ fs.length us rfl (HR.out.keep fun k _ hk=>WA _ _ k hk) uP.out (by unfold maxLen;omega) (by omega) (by simp) ?_;intro v2 w2 hown2 hg2 hiff;clear hiff;have HB2:=aQ (((VQ w.heap.size w).alloc (Vu _) _).grown hg2 (by simp) (fun k e=>by cases e;exact Vu _));have Di:=aQ hown2;clear hown2 hg2);go_ret;have ho:=Di.out;rw [V5,List.nil_append] at ho;exact ⟨_,rfl,(OI (Z:=fun _=>False) ho (Gg (w:=w) (Z:=Z) HE.out)).mono fun k h=>h.resolve_left id,HB2.out⟩
def Pz (w:World) (d:Nat) (fs:List jV) (e:Ending) (w':World):Prop:=
 (okF (-1) fs=false/\e=.returned (.tuple #[.pointer none,.int .i64 1])/\Below w.heap.size w w')\/(okF (-1) fs=true/\∃p,e=.returned (.tuple #[.pointer (some ⟨p,0,none⟩),.int .i64 0])/\Made w (dm p (az.new d fs)) w')
theorem yz (w:World) (Z:BS) (v:Value) (fs:List jV) (h:dh dO w Z v fs) (hl:fs.length<=1000000) (d:Nat) (h1:1<=d) (h2:d<=100) :
  Calls Vs 51 #[.int .i64 (d:Int),v] w (Pz w d fs):=by
 obtain ⟨a,c,rfl,hc1,hc2⟩:=h.shape;have H:=aQ h;have b1:decide ((d:Int) < 1)=false:=by simp;omega
 have b2:decide (100 < (d:Int))=false:=by simp;omega
 clear h;go_enter Tryz.func51,Tryz.ntmps51;go_wp2_with fail;go_loopw [17,6] (fun i l wr=>∃(j:Nat) (last:Int),j<=fs.length/\i=.int .i64 j/\l=.int .i64 last/\Hid (okF last (fs.drop j)=okF (-1) fs)/\Hid (Below w.heap.size w wr)) (fun i _ _=>fs.length - (intOf i).toNat)
 case atStart=>exact ⟨0,-1,by omega,rfl,rfl,aQ rfl,aQ (VQ _ _)⟩
 case round=>
  obtain ⟨j,last,hj,rfl,rfl,bz,HB⟩:=hrel;have hz:=HB.out.size;by_cases hlt:j < fs.length
  ·obtain ⟨f,hf⟩:∃f,fs[j]? = some f:=⟨fs[j],Vw hlt⟩
   obtain ⟨b,off,rfl,c0,c1,c2,w0,w1,w2⟩:=nV (H.out.below HB.out) hf
   have hd:fs.drop j=f::fs.drop (j+1):=by
    have:=Vw hlt;rw [this] at hf;obtain rfl:=VM hf;exact List.drop_eq_getElem_cons hlt
   have HB1:=aQ (HB.out.trans ((aK wr (.cells #[.int .i64 f.at',.int .i64 f.kind,.int .i64 f.arg] 144)).mono hz));have gz:Hid (okF (-1) fs=(decide (last < f.at') && decide (1<=f.kind) && decide (f.kind<=3) && decide (0<=f.arg) && okF f.at' (fs.drop (j+1)))):=aQ (by rw [<-bz.out,hd];rfl);clear hf hd bz HB;by_cases hg:last < f.at'/\1<=f.kind/\f.kind<=3/\0<=f.arg
   ·obtain ⟨g1,g2,g3,g4⟩:=hg
    go_wp2_with fail;go_roundw
    case rel=>exact ⟨j+1,f.at',by omega,by go_num,rfl,aQ (by rw [gz.out];simp [g1,g2,g3,g4]),HB1⟩
    case measure=>simp [intOf];omega
   ·have HN:Hid (okF (-1) fs=false):=aQ (by
     rw [gz.out];by_cases g1:last < f.at'
     ·by_cases g2:1<=f.kind
      ·by_cases g3:f.kind<=3
       ·by_cases g4:0<=f.arg
        ·exact absurd ⟨g1,g2,g3,g4⟩ hg
        ·simp [g4]
       ·simp [g3]
      ·simp [g2]
     ·simp [g1])
    have hg':f.at'<=last\/(last < f.at'/\f.kind < 1)\/(last < f.at'/\1<=f.kind/\3 < f.kind)\/(last < f.at'/\1<=f.kind/\f.kind<=3/\f.arg < 0):=by omega
    clear hg
    rcases hg' with g|⟨g1,g⟩|⟨g1,g2,g⟩|⟨g1,g2,g3,g⟩
    all_goals
     go_wp2_with fail;go_ret2;exact .inl ⟨HN.out,rfl,HB1.out⟩
  ·obtain rfl:j=fs.length:=by omega
   have HT:Hid (okF (-1) fs=true):=aQ (by rw [<-bz.out,List.drop_length];rfl);clear bz;go_wp2_with fail;refine (Fa wr Z _ fs (H.out.below HB.out) hl).mono ?_;rintro e w1 ⟨v',rfl,hr,hb⟩;obtain ⟨va,vc,rfl,_⟩:=hr.shape;have HR:=aQ hr;have HB1:=aQ (HB.out.trans (hb.mono hz));have hz1:=hb.size;clear hr hb;go_wp2_with fail;go_ret2;refine .inr ⟨HT.out,w1.heap.size,rfl,HB1.out.trans ((aK _ _).mono (by omega)),fun k=>k=w1.heap.size,fun k=>w.heap.size<=k/\k < w1.heap.size,fun k hk=>by omega,fun k hk=>hk.1,fun k a b=>by omega,rfl,.slice va fs.length vc,.slice none 0 0,heap_alloc_new w1 _,?_,Sq.nil _ _ _ _ _⟩;have:=(HR.out.stay (w':=w1.alloc (.cells (bF (az.new d fs) (.slice va fs.length vc) (.slice none 0 0)) 157)) (by simp) fun k _ hl=>WA w1 _ k hl);exact this.mono fun k hk=>⟨by omega,hk.2⟩
section
variable {p:Nat} {c:az} {w:World} {F Z:BS} (h:(dm p c).on w F Z)
include h
end
theorem Gl {p:Nat} {c':az} {w w':World} {F Z:BS} {fv lv:Value} (h0:F p) (hd:Dj F Z) (hf:dh dO w Z fv c'.bZ) (hs:Sq iG 159 w (fun k=>F k/\k≠p) Z lv c'.aL) (hF:Fr (fun k=>k=p) w w')
  (hrow:w'.heap[p]? = some (.cells (bF c' fv lv) 157 (0,0))):(dm p c').on w' F Z/\Fr F w w':=
 ⟨⟨h0,fv,lv,hrow,hf.keep hF.size fun k hz hl=>hF.block k hl fun e=>by subst e;exact hd _ h0 hz,hs.stay hF.size fun k hh hl=>hF.block k hl fun e=>by subst e;exact hh.elim (fun h=>h.2 rfl) (hd _ h0)⟩,hF.mono fun k hk=>by subst hk;exact h0⟩
theorem Ph {p:Nat} {c:az} {w:World} {F Z:BS} (h:(dm p c).on w F Z) (hd:Dj F Z) (hl:c.lost < 1000000000) (hk:c.aL.length<=1000000) :
  Calls Vs 57 #[.pointer (some ⟨p,0,none⟩)] w fun e w'=>e=.returned (.tuple #[])/\(dm p c.cut).on w' F Z/\Fr F w w':=by
 obtain ⟨h0,fv,lv,hrow,hf,hs⟩:=h;obtain ⟨a,cap,rfl⟩:=hs.shape;obtain ⟨_,_,c2,_,_,c5,c6⟩:=bD hrow;obtain ⟨f2,_,_,f5,f6⟩:=dz hrow;have HF:=aQ hf;have HS:=aQ hs;have θ:=aQ hrow;clear hf hs hrow;go_enter Tryz.func57,Tryz.ntmps57;go_wp2_with fail
 go_region
 all_goals go_wp2_with fail
 all_goals go_end0
 all_goals (refine ⟨rfl,?_⟩;exact Gl h0 hd HF.out (Sq.nil _ _ _ _ _) (by exact eZ) (by (refine aS (Ξ θ.out) ?_);simp [bF,az.cut]))
theorem Mt {p:Nat} {c:az} {w:World} {F Z:BS} (h:(dm p c).on w F Z) (hd:Dj F Z) :
  Calls Vs 58 #[.pointer (some ⟨p,0,none⟩)] w fun e w'=>e=.returned (.tuple #[])/\(dm p c.mend).on w' F Z/\Fr F w w':=by
 obtain ⟨h0,fv,lv,hrow,hf,hs⟩:=h;obtain ⟨_,_,c2,_,_,_,_⟩:=bD hrow;obtain ⟨f2,_⟩:=dz hrow;have HF:=aQ hf;have HS:=aQ hs;have θ:=aQ hrow;clear hf hs hrow;go_enter Tryz.func58,Tryz.ntmps58;go_wp2_with fail;go_end0;refine ⟨rfl,?_⟩;exact Gl h0 hd HF.out HS.out (by exact eZ) (by (refine aS (Ξ θ.out) ?_);simp [bF,az.mend])

theorem Qa:o8 Vs 51 40 (.slice none 0 0) 1 24:=⟨Tryz.underlying51,info_parts (by kernel_rfl),rfl,by decide⟩
theorem P7 {w:World} {F Z:BS} {a:Option Addr} {n c:Nat} {l:List (Nat × iw)} (h:Sq iG 159 w F Z (.slice a n c) l) {j:Nat} {x:Nat × iw} (hj:l[j]? = some x) :
  ∃b o va vc,a=some ⟨b,o,none⟩/\F b/\w.cell? ⟨b,o+j*2,none⟩=some (.int .i64 (x.1:Int))/\w.cell? ⟨b,o+j*2+1,none⟩=some (.slice va x.2.length vc)/\fE w Z (.slice va x.2.length vc) x.2:=by
 obtain ⟨b,o,cs,A,e,hb,⟨v,rfl,hv⟩,_,hc⟩:=h.at (by decide) hj;obtain ⟨va,vc,rfl⟩:=hv.slice;exact ⟨b,o,va,vc,e,hb,hc 0 _ rfl,hc 1 _ rfl,hv⟩
theorem Vh {w:World} {F Z:BS} {b o n c:Nat} {l:List (Nat × iw)} (h:Sq iG 159 w F Z (.slice (some ⟨b,o,none⟩) n c) l) {j:Nat} {x:Nat × iw} (hj:l[j]? = some x) {u:Value} (hc:w.cell? ⟨b,o+j*2+1,none⟩=some u):fE w Z u x.2:=by
 obtain ⟨b',o',va,vc,e,_,_,h1,h2⟩:=P7 h hj;obtain ⟨rfl,rfl⟩:b=b'/\o=o':=by simpa using e
 obtain rfl:=VM (hc.symm.trans h1);exact h2
theorem lK {α : Type} {p : α -> Bool}:∀ {l:List α} {j:Nat},(∀(i:Nat) x,i < j->l[i]? = some x->p x=true)->j<=l.length->(l[j]? = none\/∃x,l[j]? = some x/\p x=false)->l.takeWhile p=l.take j
 |[],j,_,hj,_=>by simp
 |a::l,0,_,_,h=>by
  rcases h with h|⟨x,h,hp⟩
  ·simp at h
  ·obtain rfl:a=x:=by simpa using h
   simp [hp]
 |a::l,j+1,hall,hj,h=>by
  have ha:=hall 0 a (by omega) rfl;rw [List.takeWhile_cons,if_pos ha,List.take_succ_cons];congr 1;exact lK (fun i x hi hx=>hall (i+1) x (by omega) (by simpa using hx)) (by simpa using hj) (by simpa using h)
theorem tY {F Z:BS} {W w:World} {ts:List Th} {v:Value} {xs:List (Nat × iw)} (h:dY F Z W ts w) (i:Nat) (hi:ts[i]? = some (ζ iG 159 v xs)) (k:Nat) (hk:k<=xs.length) (hl:xs.length<=1000000) :
  Calls Vs 95 #[v,.int .i64 0,.int .i64 (k:Int)] w fun e w'=>∃(a:Option Addr) (c:Nat),e=.returned (.slice a (xs.length - k) c)/\dY F Z W (ts.set i (ζ iG 159 (.slice a (xs.length - k) c) (xs.drop k))) w':=by
 obtain ⟨G,Y,hs,hd,_,_,hb⟩:=h.use i hi;refine (Af _ G Y hd _ xs hs k hk hl).mono fun e w' ⟨v',he,hs',hf⟩=>?_
 obtain ⟨a,c,rfl⟩:=hs'.shape;rw [V9] at he hs';refine ⟨a,c,he,?_⟩;have:=hb w' (ζ iG 159 (.slice a (xs.length - k) c) (xs.drop k)) [] (lS.same hf hs' hd);rwa [Wp] at this
theorem qV {p:Nat} {c:az} {w:World} {F Z:BS} (h:(dm p c).on w F Z):∃fv lv,Star [dJ p (.cells (bF c fv lv) 157 (0,0)),a_ dO fv c.bZ,ζ iG 159 lv c.aL] w F Z:=by
 obtain ⟨h0,fv,lv,h1,h2,h3⟩:=h;refine ⟨fv,lv,Star.cons (T:=dJ p _) (F:=fun k=>k=p) (G:=fun k=>F k/\k≠p) ⟨h1,rfl⟩ (Star.cons (T:=a_ dO fv c.bZ) (F:=fun _=>False) (G:=fun k=>F k/\k≠p) h2 (Star.one (T:=ζ iG _ lv c.aL) h3) (fun _ f=>f.elim) (fun _ f=>f.elim) fun _ h=>h) (fun k a b=>b.2 a) (fun k e=>by subst e;exact h0) fun _ h=>h.1⟩
theorem jA {p:Nat} {c:az} {w:World} {F Z:BS} {fv lv:Value} (h:Star [dJ p (.cells (bF c fv lv) 157 (0,0)),a_ dO fv c.bZ,ζ iG 159 lv c.aL] w F Z):(dm p c).on w F Z:=by
 obtain ⟨A,B,h1,h2,hd,hA,hB⟩:=h.yY;obtain ⟨A',B',h3,h4,_,_,hB'⟩:=h2.yY;obtain ⟨A2,B2,h5,_,_,hA2,_⟩:=h4.yY;have h1':_/\A p:=h1;exact ⟨hA p h1'.2,fv,lv,h1'.1,h3,Sq.mono h5 (fun k hk=>⟨hB k (hB' k (hA2 k hk)),fun e=>by subst e;exact hd _ h1'.2 (hB' _ (hA2 _ hk))⟩) fun _ h=>h⟩
def Ff (p:Nat) (c:az) (w:World) (F Z:BS) (e:Ending) (w':World):Prop:=
 ∃v,e=.returned v/\lS w F Z [dm p c.cR.2,ζ ψ 40 v c.cR.1] w'
theorem Fe (p:Nat) (c:az) (hl:c.aL.length<=1000000) (ht:c.cC < 1000000000) (w:World) (F Z:BS) (hd:Dj F Z) (h:(dm p c).on w F Z) :
  Calls Vs 62 #[.pointer (some ⟨p,0,none⟩)] w (Ff p c w F Z):=by
 obtain ⟨fv,lv,hst⟩:=qV h;have hh:=dY.start hst hd;obtain ⟨G2,Y2,hs⟩:=hh.get 2 rfl;have hs':Sq iG 159 w G2 Y2 lv c.aL:=hs;have hrow:=hh.blk 0 rfl;obtain ⟨la,lc,rfl,lc1,lc2,_⟩:=hs'.le;obtain ⟨_,_,_,c3,_,_,c6⟩:=bD hrow;obtain ⟨_,f3,_,_,f6⟩:=dz hrow;have hlt:=lt_of_block hrow;have θ:=aQ hrow;have HH:=aQ hh;clear hst hh hs hs' hrow h;go_enter Tryz.func62,Tryz.ntmps62;go_wp2_with fail;have HH1:=aQ ((HH.out.set 0 rfl (.cells (bF { c with cC:=c.cC+1 } fv (.slice la c.aL.length lc)) 157 (0,0)) (w':=w.setCell ⟨p,3,none⟩ (.int .i64 ((c.cC:Int)+1))) (by exact eZ) (by (refine aS (Ξ θ.out) ?_);simp [bF])).add (T:=ζ ψ 40 (.slice none 0 0) []) (VQ _ _) (Sq.nil _ _ _ _ _))
 go_loopw [20,3] (fun i l wr=>∃(j:Nat) (aa:Option Addr) (ac:Nat),j<=c.aL.length/\i=.int .i64 j/\l=.slice aa j ac/\Hid (∀(i:Nat) x,i < j->c.aL[i]? = some x->x.1<=c.cC+1) /\
  Hid (dY F Z w [dJ p (.cells (bF { c with cC:=c.cC+1 } fv (.slice la c.aL.length lc)) 157 (0,0)),a_ dO fv c.bZ,ζ iG 159 (.slice la c.aL.length lc) c.aL,ζ ψ 40 (.slice aa j ac) ((c.aL.take j).map (·.2))] wr)) (fun i _ _=>c.aL.length - (intOf i).toNat)
 case atStart=>exact ⟨0,none,0,by omega,rfl,rfl,aQ fun i x h=>by omega,HH1⟩
 case round=>
  clear HH HH1;obtain ⟨j,aa,ac,hj,rfl,rfl,HA,HH⟩:=hrel;have hrow:=HH.out.blk 0 rfl;obtain ⟨_,_,_,e3,_,_,e6⟩:=bD hrow;obtain ⟨_,_,_,_,g6⟩:=dz hrow;have AO:=lt_of_block hrow;clear hrow;by_cases hjl:j < c.aL.length
  ·obtain ⟨x,hx⟩:∃x,c.aL[j]? = some x:=⟨c.aL[j],Vw hjl⟩
   obtain ⟨G2,Y2,hs⟩:=HH.out.get 2 rfl;obtain ⟨b,o,va,vc,rfl,_,d0,d1,hby⟩:=P7 (show Sq iG 159 wr G2 Y2 _ _ from hs) hx;have HX:=aQ hx;clear hs hby hx;by_cases AQ:x.1<=c.cC+1
   ·have hdb:decide ((c.cC:Int)+1 < (x.1:Int))=false:=by simp;omega
    obtain ⟨K,us,hsl,_,hback⟩:=HH.out.app 3 rfl;have gK:=aQ (show Sl wr K 40 1 _ ((c.aL.take j).map (·.2)).length us from hsl);have Ay:=aQ hback;have D1:=aQ d1;clear hsl hback;have htl:((c.aL.take j).map (·.2)).length=j:=by rw [VL,VW];omega
    have HTL:=aQ htl;rw [htl] at gK;clear htl;go_wp2_with fail;go_quiet (fail);go_wp2_with (at_builtin;refine cQ Qa rfl _ _ rfl K (.slice aa j ac) j us (by rfl) (by (with_reducible (repeat (first|exact gK.out|refine Sl.alloc ?_ _|refine Sl.drewN ?_ _|refine Sl.drew ?_)))) _ 1 [.slice va x.2.length vc] rfl (iA _ _ _ _ (by first|rfl|simp)) (by intro u hu;simp at hu;subst hu;rfl) (by unfold maxLen;omega) (by omega) ?_;intro v2 w3 hsl2 hf2;obtain ⟨Nr,Nq,rfl⟩:=hsl2.shape;have H3:=aQ (Ay.out _ w3 _ [x.2] _ (by exact dC) (by rw [HTL.out];exact hsl2) hf2 (fun Y ho=>⟨fun _=>False,Y,fun _ f=>f.elim,fun _ h=>.inl h,fun _ f=>f.elim,by obtain ⟨H,_,h2⟩:=ho 2 _ (by decide) rfl;exact fK.single (E:=ψ) ⟨_,rfl,(Vh h2 HX.out D1.out).below (by exact dC)⟩⟩));clear hsl2 hf2);go_roundw
    case rel=>exact ⟨j+1,_,_,by omega,by go_num,rfl,aQ fun i y hi hy=>by
      rcases WV i j with h|h
      ·exact HA.out i y h hy
      ·obtain rfl:i=j:=by omega
       obtain rfl:=VM (HX.out.symm.trans hy)
       exact AQ,aQ (by
        have htk:(c.aL.take (j+1)).map (·.2)=(c.aL.take j).map (·.2)++[x.2]:=by rw [List.take_add_one,HX.out];simp
        rw [htk];exact H3.out)⟩
    case measure=>simp [intOf];omega
   ·have hdb:decide ((c.cC:Int)+1 < (x.1:Int))=true:=by simp;omega
    have HT:Hid (c.bV=c.aL.take j):=aQ (lK (fun i y hi hy=>by simpa using HA.out i y hi hy) hj (.inr ⟨x,HX.out,by simp;omega⟩));go_wp2_with fail;go_quiet (fail);go_wp2_with fail;refine (tY (HH.out.own (by exact dC)) 2 rfl j (by omega) hl).mono ?_;rintro e w4 ⟨Np,Nn,rfl,h4⟩;have H4:=aQ h4;clear h4;have hrow:=H4.out.blk 0 rfl;obtain ⟨_,_,_,_,k6⟩:=dz hrow;have TS:=(bD hrow).2.2.2.2.2.2;have kK:=aQ hrow;clear hrow;go_wp2_with fail;go_ret;refine ⟨_,rfl,?_⟩;have h5:=H4.out.set 0 rfl (.cells (bF c.cR.2 fv (.slice Np (c.aL.length - j) Nn)) 157 (0,0)) (w':=w4.setCell ⟨p,6,none⟩ (.slice Np (c.aL.length - j) Nn)) (by exact eZ) (by (refine aS (Ξ kK.out) ?_);simp [bF,az.cR]);have hm:c.cR.1=(c.aL.take j).map (·.2):=by unfold az.cR;rw [HT.out]
    have hf:c.cR.2.aL=c.aL.drop j:=by unfold az.cR;rw [HT.out];show c.aL.drop (c.aL.take j).length=_;rw [VW,Zy hj]
    rw [hm];refine (dY.fold (T:=dm p c.cR.2) (show dY F Z w ([dJ p (.cells (bF c.cR.2 fv (.slice Np (c.aL.length - j) Nn)) 157 (0,0)),a_ dO fv c.bZ,ζ iG 159 (.slice Np (c.aL.length - j) Nn) (c.aL.drop j)]++[_]) _ from h5) fun G Y _ hst=>?_).did;rw [<-hf] at hst;exact jA hst
  ·have HT:Hid (c.bV=c.aL.take j):=aQ (lK (fun i y hi hy=>by simpa using HA.out i y hi hy) hj (.inl (List.getElem?_eq_none (by omega))))
   go_wp2_with fail;refine (tY (HH.out.own (by exact dC)) 2 rfl j (by omega) hl).mono ?_;rintro e w4 ⟨Np,Nn,rfl,h4⟩;have H4:=aQ h4;clear h4;have hrow:=H4.out.blk 0 rfl;obtain ⟨_,_,_,_,k6⟩:=dz hrow;have TS:=(bD hrow).2.2.2.2.2.2;have kK:=aQ hrow;clear hrow;go_wp2_with fail;go_ret;refine ⟨_,rfl,?_⟩;have h5:=H4.out.set 0 rfl (.cells (bF c.cR.2 fv (.slice Np (c.aL.length - j) Nn)) 157 (0,0)) (w':=w4.setCell ⟨p,6,none⟩ (.slice Np (c.aL.length - j) Nn)) (by exact eZ) (by (refine aS (Ξ kK.out) ?_);simp [bF,az.cR]);have hm:c.cR.1=(c.aL.take j).map (·.2):=by unfold az.cR;rw [HT.out]
   have hf:c.cR.2.aL=c.aL.drop j:=by unfold az.cR;rw [HT.out];show c.aL.drop (c.aL.take j).length=_;rw [VW,Zy hj]
   rw [hm];refine (dY.fold (T:=dm p c.cR.2) (show dY F Z w ([dJ p (.cells (bF c.cR.2 fv (.slice Np (c.aL.length - j) Nn)) 157 (0,0)),a_ dO fv c.bZ,ζ iG 159 (.slice Np (c.aL.length - j) Nn) (c.aL.drop j)]++[_]) _ from h5) fun G Y _ hst=>?_).did;rw [<-hf] at hst;exact jA hst

def kP (p:Nat) (c:az) (d:iw) (w:World) (F Z:BS) (e:Ending) (w':World):Prop:=
 e=.returned (.int .i64 ((c.send d).1:Int))/\lS w F Z [dm p (c.send d).2] w'
theorem Cg {p:Nat} {c:az} {w w1 w':World} {F Z:BS} {fv lv:Value} {o:Array Value} (hh:dY F Z w [dJ p (.cells o 157 (0,0)),a_ dO fv c.bZ,ζ iG 159 lv c.aL] w1) (c':az) (hf:c'.bZ=c.bZ) (hl:c'.aL=c.aL)
  (hF:Fr (fun k=>k=p) w1 w') (hrow:w'.heap[p]? = some (.cells (bF c' fv lv) 157 (0,0))):lS w F Z [dm p c'] w':=by
 have h:=hh.set 0 rfl (.cells (bF c' fv lv) 157 (0,0)) hF hrow;rw [<-hf,<-hl] at h;exact (dY.fold (T:=dm p c') (show dY F Z w ([dJ p (.cells (bF c' fv lv) 157 (0,0)),a_ dO fv c'.bZ,ζ iG 159 lv c'.aL]++[]) w' from h) fun G Y _ hst=>jA hst).did
theorem Hy (p:Nat) (c:az) (hok:c.Ok) (hfl:c.bZ.length<=1000000) (hls:c.lost < 1000000000) (hse:c.cP < 1000000000) (a:Option Addr) (n cap:Nat) (d:iw) (w:World) (F Z:BS) (hd:Dj F Z) (h:(dm p c).on w F Z) (hx:c.up=false\/c.fault.kind=1) :
  Calls Vs 34 #[.pointer (some ⟨p,0,none⟩),.slice a n cap] w (kP p c d w F Z):=by
 have PZ:=aQ (sM p c hok hfl w F Z h);have hs:c.send d=(0,{ c with cP:=c.cP+1,lost:=c.lost+1 }):=if_pos hx;unfold kP;rw [hs];clear hs;obtain ⟨fv,lv,hst⟩:=qV h;have hh:=dY.start hst hd;have hrow:=hh.blk 0 rfl;obtain ⟨_,_,c2,_,c4,c5,_⟩:=bD hrow;have hlt:=lt_of_block hrow;have θ:=aQ hrow;have HH:=aQ hh
 have hx':c.up=false\/(c.up=true/\c.fault.kind=1):=by
  rcases hx with hx|hx
  ·exact .inl hx
  ·cases hu:c.up
   ·exact .inl rfl
   ·exact .inr ⟨rfl,hx⟩
 clear hst hh hrow h hok hx;have HX:=aQ hx';clear hx';go_enter Tryz.func34,Tryz.ntmps34;go_wp2_with fail;refine PZ.out.mono ?_;rintro e w1 ⟨rfl,hb⟩;have HB:=aQ hb;have hz:=hb.size;have hlt1:p < w1.heap.size:=by omega
 have ξ:=aQ ((hb.block p hlt).trans θ.out);obtain ⟨_,_,d2,_,d4,d5,_⟩:=bD ξ.out;obtain ⟨_,_,f4,f5,_⟩:=dz ξ.out;clear hb c2 c4 c5 PZ
 rcases HX.out with hu|⟨hu,hk⟩
 all_goals
  rw [hu] at d2
  first|(have hkb:(c.fault.kind == 1)=true:=by simp [hk])|skip
  go_wp2_with fail;go_ret;refine ⟨rfl,Cg (w1:=w1) (HH.out.own HB.out) _ rfl rfl ?_ ?_⟩
  ·(repeat (first|(with_reducible exact Fr.refl _ _)|exact Or.inl rfl|(exact Or.inr (by simp <;> omega))|(with_reducible refine Fr.setCell ?_ ?_ _)|(with_reducible refine Fr.drewN ?_ _)|(with_reducible refine Fr.drew ?_)|(with_reducible refine Fr.alloc ?_ _)))
  ·(refine aS (fe ξ.out) ?_);simp [bF]
theorem Hw (p:Nat) (c:az) (hok:c.Ok) (hfl:c.bZ.length<=1000000) (hls:c.lost < 1000000000) (hse:c.cP < 1000000000) (a:Option Addr) (n cap:Nat) (d:iw) (w:World) (F Z:BS) (hd:Dj F Z) (h:(dm p c).on w F Z) (hu:c.up=true) (hx:c.fault.kind≠1) (hfull:64 < c.aL.length+c.copies) :
  Calls Vs 34 #[.pointer (some ⟨p,0,none⟩),.slice a n cap] w (kP p c d w F Z):=by
 have PZ:=aQ (sM p c hok hfl w F Z h)
 have hs:c.send d=(5,{ c with cP:=c.cP+1,lost:=c.lost+1 }):=by
  unfold az.send;rw [if_neg (by rw [hu];simp [hx]),if_pos hfull]
 unfold kP;rw [hs];clear hs;obtain ⟨fv,lv,hst⟩:=qV h;have hh:=dY.start hst hd;have hrow:=hh.blk 0 rfl;obtain ⟨_,_,c2,_,c4,c5,_⟩:=bD hrow;have hlt:=lt_of_block hrow;have θ:=aQ hrow;have HH:=aQ hh;have abL:=hok.Ai
 have U1:(c.fault.kind=3/\62 < c.aL.length)\/(c.fault.kind≠3/\63 < c.aL.length):=by
  unfold az.copies at hfull;split at hfull
  ·exact .inl ⟨‹_›,by omega⟩
  ·exact .inr ⟨‹_›,by omega⟩
 have HC:=aQ U1;obtain ⟨G2,Y2,hs2⟩:=hh.get 2 rfl;obtain ⟨la,lc,rfl⟩:=Sq.shape (show Sq iG 159 w G2 Y2 lv c.aL from hs2);have hkb:(c.fault.kind == 1)=false:=by simpa using hx
 clear hst hh hrow h hok hx U1 hfull hs2;go_enter Tryz.func34,Tryz.ntmps34;go_wp2_with fail;refine PZ.out.mono ?_;rintro e w1 ⟨rfl,hb⟩;have HB:=aQ hb;have hz:=hb.size;have hlt1:p < w1.heap.size:=by omega
 have ξ:=aQ ((hb.block p hlt).trans θ.out);obtain ⟨_,_,d2,_,d4,d5,d6⟩:=bD ξ.out;obtain ⟨_,_,f4,f5,_⟩:=dz ξ.out;clear hb c2 c4 c5 PZ;rw [hu] at d2
 rcases HC.out with ⟨hk,Ro⟩|⟨hk,Ro⟩
 all_goals
  first|(have hk3:(c.fault.kind == 3)=true:=by simp [hk])|(have hk3:(c.fault.kind == 3)=false:=by simpa using hk)
  clear hk;go_wp2_with fail;go_ret;refine ⟨rfl,Cg (w1:=w1) (HH.out.own HB.out) _ rfl rfl ?_ ?_⟩
  ·(repeat (first|(with_reducible exact Fr.refl _ _)|exact Or.inl rfl|(exact Or.inr (by simp <;> omega))|(with_reducible refine Fr.setCell ?_ ?_ _)|(with_reducible refine Fr.drewN ?_ _)|(with_reducible refine Fr.drew ?_)|(with_reducible refine Fr.alloc ?_ _)))
  ·(refine aS (fe ξ.out) ?_);simp [bF]

theorem Bi (yk:IntKind) (m:Nat) (h:m < 6):Op.shift .shl .u8 1 yk ((m:Nat):Int)=pure (.int .u8 (U ((1#8) <<< m))):=by
 match m,h with
 |0,_=>rfl
 |1,_=>rfl
 |2,_=>rfl
 |3,_=>rfl
 |4,_=>rfl
 |5,_=>rfl
theorem Qn (x:BitVec 8) (m:Nat) (h:m < 6):bits BinOp.xor IntKind.u8 (U x) (2 ^ m % 256)=U (x ^^^ (1#8 <<< m)):=by
 have e:((2:Int) ^ m % 256)=U ((1#8) <<< m):=by
  match m,h with
  |0,_=>rfl
  |1,_=>rfl
  |2,_=>rfl
  |3,_=>rfl
  |4,_=>rfl
  |5,_=>rfl
 rw [e];exact GV _ _
theorem Ow.z {T:TypeId} {w:World} {base:Nat} {v:Value} {bs:List (BitVec 8)} (h:Ow T w base v bs):fE w (fun k=>base<=k) v bs:=
 ⟨h.by,fun _ b hb=>(Xv h b hb).1⟩
theorem xX {w:World} {e:TypeId} {base:Nat} {v:Value} {bs:List (BitVec 8)} (h:Ow e w base v bs) (h0:0 < bs.length):∃g cap,v=.slice (some ⟨g,0,none⟩) bs.length cap/\base<=g/\g < w.heap.size:=by
 obtain ⟨_,⟨rfl,h1⟩|⟨g,cap,cur,rfl,hb,hg,_⟩⟩:=h
 ·omega
 ·exact ⟨g,cap,rfl,hb,lt_of_block hg⟩
theorem Ow.put {T:TypeId} {w:World} {base g n cap:Nat} {bs:List (BitVec 8)} (h:Ow T w base (.slice (some ⟨g,0,none⟩) n cap) bs) (j:Nat) (f:BitVec 8->BitVec 8) (x:BitVec 8) (hx:bs[j]? = some x) :
  Ow T (w.setCell ⟨g,j,none⟩ (.int .u8 (U (f x)))) base (.slice (some ⟨g,0,none⟩) n cap) (bs.modify j f):=by
 have hn:n=bs.length:=by obtain ⟨_,a,c,e,_⟩:=h.by;simpa using (congrArg (fun v=>match v with|WS _ n _=>n|_=>0) e)
 subst hn;have:=(ZI h j (.int .u8 (U (f x)))).1
 have e:(cu bs).set j (.int .u8 (U (f x)))=cu (bs.modify j f):=by
  unfold cu;apply List.ext_getElem?;intro i;rw [List.getElem?_set,VG,VG,List.getElem?_modify];by_cases hi:j=i
  ·subst hi
   rw [if_pos rfl,hx,if_pos (by rw [VL];exact aA hx)];simp
  ·rw [if_neg hi];simp [hi]
 rw [e] at this;unfold Ow;rw [Yg];exact this
theorem FM {w:World} (x:Nat) (va:Option Addr) (n vc g:Nat) (hg:g=w.heap.size):Rd (w.alloc (.cells #[.int .i64 (x:Int),.slice va n vc] 159)) 2 (.slice (some ⟨g,0,none⟩) 1 1) 1 [.int .i64 (x:Int),.slice va n vc]:=by
 subst hg;refine ⟨rfl,_,1,rfl,Vu _,by decide,(fun e=>by cases e),fun b hb j v hj=>?_⟩;obtain rfl:=VM hb;refine ⟨rfl,?_⟩;have h0:(w.alloc (.cells #[.int .i64 (x:Int),.slice va n vc] 159)).heap[w.heap.size]? = some (.cells #[.int .i64 (x:Int),.slice va n vc] 159):=heap_alloc_new w _;simp only [World.cell?,h0,V5]
 match j,hj with
 |0,hj=>simpa using hj
 |1,hj=>simpa using hj
theorem oQ {w:World} {p b i j:Nat} {u v:Value} (hne:p≠b) (h:w.cell? ⟨p,j,none⟩=some v):(w.setCell ⟨b,i,none⟩ u).cell? ⟨p,j,none⟩=some v:=
 (World.cell?_of_block (heap_setCell_other w ⟨b,i,none⟩ p u hne)).trans h
structure lU (wr:World) (due:Nat) (ya:Option Addr) (yc:Nat) (d:iw) (xb:Nat) (wc:World):Prop where
 oU:Below wr.heap.size wr wc
 new:wr.heap.size<=xb
 row:wc.heap[xb]? = some (.cells #[.int .i64 (due:Int),.slice ya d.length yc] 159 (0,0))
 ow:Ow 5 wc wr.heap.size (.slice ya d.length yc) d
 ne:∀b,(WS ya d.length yc).ownBlock=some b->b≠xb
theorem Ow.lower {T:TypeId} {w:World} {base b:Nat} {v:Value} {bs:List (BitVec 8)} (h:Ow T w b v bs) (hb:base<=b):Ow T w base v bs:=by
 obtain ⟨hl,h|⟨g,cap,cur,rfl,h1,h2⟩⟩:=h
 ·exact ⟨hl,.inl h⟩
 ·exact ⟨hl,.inr ⟨g,cap,cur,rfl,by omega,h2⟩⟩
theorem Ow.keep {T:TypeId} {w w':World} {base:Nat} {v:Value} {bs:List (BitVec 8)} (h:Ow T w base v bs) (hk:∀k,v.ownBlock=some k->k < w.heap.size->w'.heap[k]? = w.heap[k]?):Ow T w' base v bs:=by
 obtain ⟨hl,h|⟨g,cap,cur,rfl,h1,h2,h3⟩⟩:=h
 ·exact ⟨hl,.inl h⟩
 ·exact ⟨hl,.inr ⟨g,cap,cur,rfl,h1,(hk g rfl (lt_of_block h2)).trans h2,h3⟩⟩
theorem lU.late {wr w2:World} {due:Nat} {ya:Option Addr} {yc:Nat} {d:iw} (hB:Below wr.drew.heap.size wr.drew w2) (hO:Ow 5 w2 wr.drew.heap.size (.slice ya d.length yc) d) :
  lU wr due ya yc d w2.heap.size (w2.alloc (.cells #[.int .i64 (due:Int),.slice ya d.length yc] 159)):=
 ⟨Bw.alloc (show Below wr.heap.size wr w2 from ⟨hB.os,hB.tape,hB.output,hB.size,hB.block⟩) _,hB.size,heap_alloc_new w2 _,hO.keep fun k _ hl=>WA w2 _ k hl,fun b hb e=>by have:=(Xv hO b hb).2;omega⟩
theorem lU.early {wr w2:World} {due:Nat} {ya:Option Addr} {yc:Nat} {d:iw} {o:Array Value} (hs:o.size=2) (hB:Below (wr.alloc (.cells o 159)).drew.heap.size (wr.alloc (.cells o 159)).drew w2) (hO:Ow 5 w2 (wr.alloc (.cells o 159)).drew.heap.size (.slice ya d.length yc) d) :
  lU wr due ya yc d wr.heap.size ((w2.setCell ⟨wr.heap.size,0,none⟩ (.int .i64 (due:Int))).setCell ⟨wr.heap.size,1,none⟩ (.slice ya d.length yc)):=by
 have hz:(wr.alloc (.cells o 159)).drew.heap.size=wr.heap.size+1:=by simp [World.drew]
 have hr:=(hB.block wr.heap.size (by rw [hz];omega)).trans (heap_alloc_new wr _);have hb1:Below wr.heap.size wr w2:=⟨hB.os,hB.tape,hB.output,by have:=hB.size;rw [hz] at this;omega,fun k hk=>(hB.block k (by rw [hz];omega)).trans (WA wr _ k hk)⟩;have hne:∀b,(WS ya d.length yc).ownBlock=some b->b≠wr.heap.size:=fun b hb e=>by have:=(Xv hO b hb).1;rw [hz] at this;omega
 refine ⟨(hb1.setCell (Vu _) _).setCell (Vu _) _,Vu _,?_,(hO.lower (by rw [hz];omega)).keep fun k hk _=>?_,hne⟩
 ·have h1:=aU (u:=.slice ya d.length yc) (i:=1) (aU (u:=.int .i64 (due:Int)) (i:=0) hr)
  refine aS h1 ?_
  match o,hs with
  |⟨[a,b]⟩,_=>rfl
 ·exact (heap_setCell_other _ ⟨wr.heap.size,1,none⟩ k _ (hne k hk)).trans (heap_setCell_other _ ⟨wr.heap.size,0,none⟩ k _ (hne k hk))
theorem lU.flip {wr wc:World} {due:Nat} {g yc:Nat} {d:iw} {xb:Nat} (h:lU wr due (some ⟨g,0,none⟩) yc d xb wc) (i:Nat) (f:BitVec 8->BitVec 8) (x:BitVec 8) (hx:d[i]? = some x) :
  lU wr due (some ⟨g,0,none⟩) yc (d.modify i f) xb (wc.setCell ⟨g,i,none⟩ (.int .u8 (U (f x)))):=by
 have hg:=Xv h.ow g rfl;have hne:=h.ne g rfl;refine ⟨h.oU.setCell hg.1 _,h.new,?_,?_,fun b hb=>?_⟩
 ·rw [Yg];exact (heap_setCell_other _ ⟨g,i,none⟩ xb _ (fun e=>hne e.symm)).trans h.row
 ·have:=Ow.put h.ow i f x hx
  rw [Yg];exact this
 ·exact h.ne b (by simpa [YM] using hb)
def bU (c:az) (fv:Value) (la:Option Addr) (n lc:Nat):Array Value:=bF { c with cP:=c.cP+1 } fv (.slice la n lc)
theorem Oz (p:Nat) (c:az) (hok:c.Ok) (hfl:c.bZ.length<=1000000) (htk:c.cC < 1000000000) (hse:c.cP < 1000000000) (v:Value) (d:iw) (w:World) (F Z N:BS) (hd:Dj F Z) (hz:∀k,N k->¬F k) (hv:fE w N v d) (hdl:d.length<=1000000) (h:(dm p c).on w F Z) (hu:c.up=true) (hx:c.fault.kind≠1) (hfull:c.aL.length+c.copies<=64) (CP:Nat) (hcp:c.copies=CP) (hkc:(c.fault.kind=3/\CP=2)\/(c.fault.kind≠3/\CP=1)) :
  Calls Vs 34 #[.pointer (some ⟨p,0,none⟩),v] w (kP p c d w F Z):=by
 have PZ:=aQ (sM p c hok hfl w F Z h)
 have hs:c.send d=(0,{ c with cP:=c.cP+1,aL:=c.aL++Vr c.copies (c.cC+c.cB,c.what d) }):=by
  unfold az.send;rw [if_neg (by rw [hu];simp [hx]),if_neg (by omega)]
 unfold kP;rw [hs];clear hs;obtain ⟨fv,lv,hst⟩:=qV h;have hh:=dY.start hst hd;have hrow:=hh.blk 0 rfl;obtain ⟨G2,Y2,hs2⟩:=hh.get 2 rfl;obtain ⟨la,lc,rfl⟩:=Sq.shape (show Sq iG 159 w G2 Y2 lv c.aL from hs2);obtain ⟨va,vc,rfl⟩:=hv.slice;obtain ⟨_,_,c2,_,c4,c5,_⟩:=bD hrow;have hlt:=lt_of_block hrow;have θ:=aQ hrow;have HH:=aQ hh;have HV:=aQ hv;have hkb:(c.fault.kind == 1)=false:=by simpa using hx
 have hd1:=hok.d1;have hd2:=hok.d2;rw [hcp] at hfull;have TD:=aQ hcp;have aa9:=aQ hok.fault;have HU:=aQ hu;clear hst hh hrow h hok hx hs2 hv hcp hu;go_enter Tryz.func34,Tryz.ntmps34;go_wp2_with fail;refine PZ.out.mono ?_;rintro e w1 ⟨rfl,hb⟩;have hz1:=hb.size;have hlt1:p < w1.heap.size:=by omega
 have ξ:=aQ ((hb.block p hlt).trans θ.out);have HH1:=aQ (HH.out.own hb);obtain ⟨_,_,d2,_,d4,d5,d6⟩:=bD ξ.out;obtain ⟨_,_,f4,f5,_⟩:=dz ξ.out;have HB:=aQ hb;clear hb c2 c4 c5 PZ HH θ;rw [HU.out] at d2
 have PY:Hid (dY F Z w [dJ p (.cells (bU c fv la (c.aL.length+0) lc) 157 (0,0)),a_ dO fv c.bZ,ζ iG 159 (.slice la (c.aL.length+0) lc) (c.aL++Vr 0 (c.cC+c.cB,c.what d)),dJ w1.heap.size (.cells #[.int .i64 c.fault.at',.int .i64 c.fault.kind,.int .i64 c.fault.arg] 144 (0,0))]
   ((w1.setCell ⟨p,4,none⟩ (.int .i64 ((c.cP:Int)+1))).alloc (.cells #[.int .i64 c.fault.at',.int .i64 c.fault.kind,.int .i64 c.fault.arg] 144))):=aQ (by
  have h1:=HH1.out.set 0 rfl (.cells (bU c fv la c.aL.length lc) 157 (0,0)) (w':=w1.setCell ⟨p,4,none⟩ (.int .i64 ((c.cP:Int)+1))) (by (repeat (first|(with_reducible exact Fr.refl _ _)|exact Or.inl rfl|(exact Or.inr (by simp <;> omega))|(with_reducible refine Fr.setCell ?_ ?_ _)|(with_reducible refine Fr.drewN ?_ _)|(with_reducible refine Fr.drew ?_)|(with_reducible refine Fr.alloc ?_ _)))) (by (refine aS (fe ξ.out) ?_);simp [bF,bU]);have h2:=h1.new (.cells #[.int .i64 c.fault.at',.int .i64 c.fault.kind,.int .i64 c.fault.arg] 144);have e:(w1.setCell ⟨p,4,none⟩ (.int .i64 ((c.cP:Int)+1))).heap.size=w1.heap.size:=by simp
  rw [e] at h2;simpa using h2)
 obtain ⟨abN,abM,hfa⟩:=aa9.out
 have hcase:(CP=2/\(c.fault.kind == 3)=true/\(c.fault.kind == 2)=false/\Hid (c.what d=d))\/(CP=1/\(c.fault.kind == 3)=false/\(c.fault.kind == 2)=false/\Hid (c.what d=d))\/(CP=1/\(c.fault.kind == 3)=false/\(c.fault.kind == 2)=true/\d.length < 1/\Hid (c.what d=d))\/(CP=1/\(c.fault.kind == 3)=false/\(c.fault.kind == 2)=true/\0 < d.length/\Hid (c.what d=lq d c.fault.arg)):=by
  unfold az.what
  rcases hkc with ⟨h1,h2⟩|⟨h1,h2⟩
  ·exact .inl ⟨h2,by simp [h1],by simp [h1],aQ (by rw [if_neg (by omega)])⟩
  ·by_cases h3:c.fault.kind=2
   ·by_cases h4:d.length=0
    ·exact .inr (.inr (.inl ⟨h2,by simpa using h1,by simp [h3],by omega,aQ (by rw [if_pos h3];unfold lq;rw [if_pos (Wh h4)])⟩))
    ·exact .inr (.inr (.inr ⟨h2,by simpa using h1,by simp [h3],by omega,aQ (by rw [if_pos h3])⟩))
   ·exact .inr (.inl ⟨h2,by simpa using h1,by simpa using h3,aQ (by rw [if_neg h3])⟩)
 clear hkc
 rcases hcase with ⟨rfl,hk3,hk2,HW⟩|⟨rfl,hk3,hk2,HW⟩|⟨rfl,hk3,hk2,hd0,HW⟩|⟨rfl,hk3,hk2,hd0,HW⟩
 ·skip
  go_wp2_with fail;go_loopw [60] (fun i wr=>∃(j:Nat) (la':Option Addr) (pX:Nat),j<=2/\i=.int .i64 (j:Int)/\Hid (dY F Z w [dJ p (.cells (bU c fv la' (c.aL.length+j) pX) 157 (0,0)),a_ dO fv c.bZ,ζ iG 159 (.slice la' (c.aL.length+j) pX) (c.aL++Vr j (c.cC+c.cB,c.what d)),dJ w1.heap.size (.cells #[.int .i64 c.fault.at',.int .i64 c.fault.kind,.int .i64 c.fault.arg] 144 (0,0))] wr)) (fun i _=>2 - (intOf i).toNat)
  case atStart=>exact ⟨0,la,lc,by omega,rfl,PY⟩
  case round=>
   clear PY;obtain ⟨j,la',pX,hj,rfl,HH⟩:=hrel;have hrow:=HH.out.blk 0 rfl;obtain ⟨k0,_,_,k3,_,_,k6⟩:=bD hrow;obtain ⟨_,_,_,_,QP⟩:=dz hrow;have AO:=lt_of_block hrow;have uT:=aQ hrow;have eT:=HH.out.blk 3 rfl;have g1:=aJ (i:=1) eT rfl;have g2:=aJ (i:=2) eT rfl;have Rl:=lt_of_block eT;have RJ:=aQ eT;have JO:Hid (By wr (.slice va d.length vc) d):=aQ (Rd.stay HV.out.1 fun h0 k e hl=>HH.out.fr.block k hl (hz k (HV.out.2 (by rwa [di] at h0) k e)));clear hrow eT;by_cases hjl:j < 2
   ·go_upto_region 16 with fail
    go_cut [7,60] from 60 to 109 (fun u7 u60 wc=>u60=.int .i64 (j:Int)/\∃(xb:Nat) (ya:Option Addr) (yc:Nat),u7=.pointer (some ⟨xb,0,none⟩)/\Hid (lU wr (c.cC+c.cB) ya yc d xb wc))
    case first=>
     have hne:p≠wr.heap.size:=by omega
     have hsum:IntKind.i64.wrap ((c.cC:Int)+(c.cB:Int))=((c.cC+c.cB:Nat):Int):=by rw [V6 _ (by omega)];omega
     go_region_held3 (fun w'=>w'.cell? ⟨p,3,none⟩=some (.int .i64 (c.cC:Int))/\w'.cell? ⟨p,0,none⟩=some (.int .i64 (c.cB:Int))) (first|exact ⟨k3,k0⟩|exact ⟨aI _ _ k3,aI _ _ k0⟩|exact HS2.out|exact ⟨aI _ _ HS2.out.1,aI _ _ HS2.out.2⟩|(refine ⟨?_,?_⟩ <;> (repeat (first|exact HS2.out.1|exact HS2.out.2|refine oQ hne ?_))))
      ((go_at_call 69;refine (cV _ d _ (by first|exact Rd.keep JO.out (fun _ _ _=>rfl)|exact (By.alloc JO.out _).keep (fun _ _ _=>rfl)) (by omega)).mono ?_;rintro e w2 ⟨v1,rfl,hO,hB⟩;obtain ⟨jQ,jP,rfl⟩:=gX hO;have hz2:=hB.size;have HS2:=aQ (show w2.cell? ⟨p,3,none⟩=some (.int .i64 (c.cC:Int))/\w2.cell? ⟨p,0,none⟩=some (.int .i64 (c.cB:Int)) from ⟨cell_later hB (by first|exact k3|exact aI _ _ k3),cell_later hB (by first|exact k0|exact aI _ _ k0)⟩);(try (have hR2:=(hB.block wr.heap.size (by simp)).trans (heap_alloc_new wr _);have r0:=aJ (i:=0) hR2 rfl;have r1:=aJ (i:=1) hR2 rfl;have fr0:=aD hR2 0;have fr1:=aD hR2 1;have HR2:=aQ hR2;clear hR2));have HO:=aQ hO;have JV:=aQ hB;clear hO hB))
     all_goals go_wp2_with fail
     all_goals go_meet
     all_goals (case rel=>exact ⟨rfl,_,_,_,rfl,by first|exact aQ (lU.late JV.out HO.out)|exact aQ (lU.early rfl JV.out HO.out)⟩)
    case rest=>
     obtain ⟨rfl,xb,ya,yc,rfl,HX⟩:=hcut;have x0:=aJ (i:=0) HX.out.row rfl;have x1:=aJ (i:=1) HX.out.row rfl;have g1':=cell_later HX.out.oU g1;have g2':=cell_later HX.out.oU g2;clear g1 g2 k0 k3;go_wp2_with fail;obtain ⟨K,us,hsl,hKn,hback⟩:=HH.out.app 2 rfl;have QL:¬K p:=hKn p 0 _ (by decide) rfl fun H Y h=>.inl h.2
     have hxl:(c.aL++Vr j (c.cC+c.cB,c.what d)).length=c.aL.length+j:=by simp
     rw [hxl] at hsl;have gK:=aQ (show Sl wc K 159 2 (.slice la' (c.aL.length+j) pX) (c.aL.length+j) us from hsl.keep fun k hk hl=>HX.out.oU.block k hl);have Ay:=aQ hback;have QU:=aQ hxl;have jh:=aQ ((HX.out.oU.block p AO).trans uT.out);have TS:=(bD jh.out).2.2.2.2.2.2;have Rx:=(dz jh.out).2.2.2.2;have Rk:=lt_of_block jh.out;have Rj:=lt_of_block HX.out.row;clear hsl hback hKn hxl k6 QP x0 x1 g1' g2';have x0:=aJ (i:=0) HX.out.row rfl;have x1:=aJ (i:=1) HX.out.row rfl
     go_region_law (refine υ AB rfl _ _ (by rfl) K (.slice la' (c.aL.length+j) pX) (c.aL.length+j) us (by rfl) (by (with_reducible (repeat (first|exact gK.out|refine Sl.alloc ?_ _|refine Sl.drewN ?_ _|refine Sl.drew ?_)))) _ 1 [.int .i64 ((c.cC+c.cB:Nat):Int),.slice ya d.length yc] (by rfl) (FM _ _ _ _ _ (by first|rfl|simp)) (by intro u hu;simp at hu;rcases hu with rfl|rfl <;> rfl) (by unfold maxLen;omega) (by omega) ?_;intro v2 w3 hsl2 hf2;obtain ⟨g2,cz,cap2,rfl,_⟩:=Sl.head hsl2 (by omega);have H3:=aQ (Ay.out _ w3 _ [(c.cC+c.cB,d)] _ (HX.out.oU.trans ((show Below wc.heap.size wc _ by exact dC).mono HX.out.oU.size)) (by rw [QU.out];exact hsl2) hf2 (fun Y _=>⟨fun _=>False,fun k=>wr.heap.size<=k,fun _ f=>f.elim,fun _ h=>.inr h,fun _ f=>f.elim,fK.single (E:=iG) ⟨_,rfl,HX.out.ow.z.below (by exact dC)⟩⟩));have dF:=aQ (hf2.keep (show _=some (.cells (bU c fv la' (c.aL.length+j) pX) 157 (0,0)) by exact FN jh.out) QL);have Rc:=(bD dF.out).2.2.2.2.2.2;have KG:=(dz dF.out).2.2.2.2;clear hsl2 hf2)
     all_goals go_wp2_with fail
     all_goals
      go_roundw
      case rel=>exact ⟨j+1,some ⟨g2,cz,none⟩,cap2,by omega,by go_num,aQ (by
       have h:=H3.out.set 0 rfl (.cells (bU c fv (some ⟨g2,cz,none⟩) (c.aL.length+(j+1)) cap2) 157 (0,0)) (w':=w3.setCell ⟨p,6,none⟩ (.slice (some ⟨g2,cz,none⟩) (c.aL.length+j+1) cap2)) (by (repeat (first|(with_reducible exact Fr.refl _ _)|exact Or.inl rfl|(exact Or.inr (by simp <;> omega))|(with_reducible refine Fr.setCell ?_ ?_ _)|(with_reducible refine Fr.drewN ?_ _)|(with_reducible refine Fr.drew ?_)|(with_reducible refine Fr.alloc ?_ _)))) (by (refine aS (fe dF.out) ?_);simp [bF,bU];omega);rw [XC,<-VE,HW.out];rw [HW.out] at h;exact h)⟩
      case measure=>simp [intOf];omega
   ·obtain rfl:j=2:=by omega
    go_wp2_with fail;go_ret;refine ⟨rfl,?_⟩;rw [TD.out];have h:=HH.out;refine (dY.fold (T:=dm p { c with cP:=c.cP+1,aL:=c.aL++Vr 2 (c.cC+c.cB,c.what d) }) (show dY F Z w ([_,_,_]++[_]) wr from h) fun G Y _ hst=>jA (c:={ c with cP:=c.cP+1,aL:=c.aL++Vr 2 (c.cC+c.cB,c.what d) }) (fv:=fv) (lv:=.slice la' (c.aL.length+2) pX) hst).Ko
 ·skip
  go_wp2_with fail;go_loopw [60] (fun i wr=>∃(j:Nat) (la':Option Addr) (pX:Nat),j<=1/\i=.int .i64 (j:Int)/\Hid (dY F Z w [dJ p (.cells (bU c fv la' (c.aL.length+j) pX) 157 (0,0)),a_ dO fv c.bZ,ζ iG 159 (.slice la' (c.aL.length+j) pX) (c.aL++Vr j (c.cC+c.cB,c.what d)),dJ w1.heap.size (.cells #[.int .i64 c.fault.at',.int .i64 c.fault.kind,.int .i64 c.fault.arg] 144 (0,0))] wr)) (fun i _=>1 - (intOf i).toNat)
  case atStart=>exact ⟨0,la,lc,by omega,rfl,PY⟩
  case round=>
   clear PY;obtain ⟨j,la',pX,hj,rfl,HH⟩:=hrel;have hrow:=HH.out.blk 0 rfl;obtain ⟨k0,_,_,k3,_,_,k6⟩:=bD hrow;obtain ⟨_,_,_,_,QP⟩:=dz hrow;have AO:=lt_of_block hrow;have uT:=aQ hrow;have eT:=HH.out.blk 3 rfl;have g1:=aJ (i:=1) eT rfl;have g2:=aJ (i:=2) eT rfl;have Rl:=lt_of_block eT;have RJ:=aQ eT;have JO:Hid (By wr (.slice va d.length vc) d):=aQ (Rd.stay HV.out.1 fun h0 k e hl=>HH.out.fr.block k hl (hz k (HV.out.2 (by rwa [di] at h0) k e)));clear hrow eT;by_cases hjl:j < 1
   ·go_upto_region 16 with fail
    go_cut [7,60] from 60 to 109 (fun u7 u60 wc=>u60=.int .i64 (j:Int)/\∃(xb:Nat) (ya:Option Addr) (yc:Nat),u7=.pointer (some ⟨xb,0,none⟩)/\Hid (lU wr (c.cC+c.cB) ya yc d xb wc))
    case first=>
     have hne:p≠wr.heap.size:=by omega
     have hsum:IntKind.i64.wrap ((c.cC:Int)+(c.cB:Int))=((c.cC+c.cB:Nat):Int):=by rw [V6 _ (by omega)];omega
     go_region_held3 (fun w'=>w'.cell? ⟨p,3,none⟩=some (.int .i64 (c.cC:Int))/\w'.cell? ⟨p,0,none⟩=some (.int .i64 (c.cB:Int))) (first|exact ⟨k3,k0⟩|exact ⟨aI _ _ k3,aI _ _ k0⟩|exact HS2.out|exact ⟨aI _ _ HS2.out.1,aI _ _ HS2.out.2⟩|(refine ⟨?_,?_⟩ <;> (repeat (first|exact HS2.out.1|exact HS2.out.2|refine oQ hne ?_))))
      ((go_at_call 69;refine (cV _ d _ (by first|exact Rd.keep JO.out (fun _ _ _=>rfl)|exact (By.alloc JO.out _).keep (fun _ _ _=>rfl)) (by omega)).mono ?_;rintro e w2 ⟨v1,rfl,hO,hB⟩;obtain ⟨jQ,jP,rfl⟩:=gX hO;have hz2:=hB.size;have HS2:=aQ (show w2.cell? ⟨p,3,none⟩=some (.int .i64 (c.cC:Int))/\w2.cell? ⟨p,0,none⟩=some (.int .i64 (c.cB:Int)) from ⟨cell_later hB (by first|exact k3|exact aI _ _ k3),cell_later hB (by first|exact k0|exact aI _ _ k0)⟩);(try (have hR2:=(hB.block wr.heap.size (by simp)).trans (heap_alloc_new wr _);have r0:=aJ (i:=0) hR2 rfl;have r1:=aJ (i:=1) hR2 rfl;have fr0:=aD hR2 0;have fr1:=aD hR2 1;have HR2:=aQ hR2;clear hR2));have HO:=aQ hO;have JV:=aQ hB;clear hO hB))
     all_goals go_wp2_with fail
     all_goals go_meet
     all_goals (case rel=>exact ⟨rfl,_,_,_,rfl,by first|exact aQ (lU.late JV.out HO.out)|exact aQ (lU.early rfl JV.out HO.out)⟩)
    case rest=>
     obtain ⟨rfl,xb,ya,yc,rfl,HX⟩:=hcut;have x0:=aJ (i:=0) HX.out.row rfl;have x1:=aJ (i:=1) HX.out.row rfl;have g1':=cell_later HX.out.oU g1;have g2':=cell_later HX.out.oU g2;clear g1 g2 k0 k3;go_wp2_with fail;obtain ⟨K,us,hsl,hKn,hback⟩:=HH.out.app 2 rfl;have QL:¬K p:=hKn p 0 _ (by decide) rfl fun H Y h=>.inl h.2
     have hxl:(c.aL++Vr j (c.cC+c.cB,c.what d)).length=c.aL.length+j:=by simp
     rw [hxl] at hsl;have gK:=aQ (show Sl wc K 159 2 (.slice la' (c.aL.length+j) pX) (c.aL.length+j) us from hsl.keep fun k hk hl=>HX.out.oU.block k hl);have Ay:=aQ hback;have QU:=aQ hxl;have jh:=aQ ((HX.out.oU.block p AO).trans uT.out);have TS:=(bD jh.out).2.2.2.2.2.2;have Rx:=(dz jh.out).2.2.2.2;have Rk:=lt_of_block jh.out;have Rj:=lt_of_block HX.out.row;clear hsl hback hKn hxl k6 QP x0 x1 g1' g2';have x0:=aJ (i:=0) HX.out.row rfl;have x1:=aJ (i:=1) HX.out.row rfl
     go_region_law (refine υ AB rfl _ _ (by rfl) K (.slice la' (c.aL.length+j) pX) (c.aL.length+j) us (by rfl) (by (with_reducible (repeat (first|exact gK.out|refine Sl.alloc ?_ _|refine Sl.drewN ?_ _|refine Sl.drew ?_)))) _ 1 [.int .i64 ((c.cC+c.cB:Nat):Int),.slice ya d.length yc] (by rfl) (FM _ _ _ _ _ (by first|rfl|simp)) (by intro u hu;simp at hu;rcases hu with rfl|rfl <;> rfl) (by unfold maxLen;omega) (by omega) ?_;intro v2 w3 hsl2 hf2;obtain ⟨g2,cz,cap2,rfl,_⟩:=Sl.head hsl2 (by omega);have H3:=aQ (Ay.out _ w3 _ [(c.cC+c.cB,d)] _ (HX.out.oU.trans ((show Below wc.heap.size wc _ by exact dC).mono HX.out.oU.size)) (by rw [QU.out];exact hsl2) hf2 (fun Y _=>⟨fun _=>False,fun k=>wr.heap.size<=k,fun _ f=>f.elim,fun _ h=>.inr h,fun _ f=>f.elim,fK.single (E:=iG) ⟨_,rfl,HX.out.ow.z.below (by exact dC)⟩⟩));have dF:=aQ (hf2.keep (show _=some (.cells (bU c fv la' (c.aL.length+j) pX) 157 (0,0)) by exact FN jh.out) QL);have Rc:=(bD dF.out).2.2.2.2.2.2;have KG:=(dz dF.out).2.2.2.2;clear hsl2 hf2)
     all_goals go_wp2_with fail
     all_goals
      go_roundw
      case rel=>exact ⟨j+1,some ⟨g2,cz,none⟩,cap2,by omega,by go_num,aQ (by
       have h:=H3.out.set 0 rfl (.cells (bU c fv (some ⟨g2,cz,none⟩) (c.aL.length+(j+1)) cap2) 157 (0,0)) (w':=w3.setCell ⟨p,6,none⟩ (.slice (some ⟨g2,cz,none⟩) (c.aL.length+j+1) cap2)) (by (repeat (first|(with_reducible exact Fr.refl _ _)|exact Or.inl rfl|(exact Or.inr (by simp <;> omega))|(with_reducible refine Fr.setCell ?_ ?_ _)|(with_reducible refine Fr.drewN ?_ _)|(with_reducible refine Fr.drew ?_)|(with_reducible refine Fr.alloc ?_ _)))) (by (refine aS (fe dF.out) ?_);simp [bF,bU];omega);rw [XC,<-VE,HW.out];rw [HW.out] at h;exact h)⟩
      case measure=>simp [intOf];omega
   ·obtain rfl:j=1:=by omega
    go_wp2_with fail;go_ret;refine ⟨rfl,?_⟩;rw [TD.out];have h:=HH.out;refine (dY.fold (T:=dm p { c with cP:=c.cP+1,aL:=c.aL++Vr 1 (c.cC+c.cB,c.what d) }) (show dY F Z w ([_,_,_]++[_]) wr from h) fun G Y _ hst=>jA (c:={ c with cP:=c.cP+1,aL:=c.aL++Vr 1 (c.cC+c.cB,c.what d) }) (fv:=fv) (lv:=.slice la' (c.aL.length+1) pX) hst).Ko
 ·skip
  go_wp2_with fail;go_loopw [60] (fun i wr=>∃(j:Nat) (la':Option Addr) (pX:Nat),j<=1/\i=.int .i64 (j:Int)/\Hid (dY F Z w [dJ p (.cells (bU c fv la' (c.aL.length+j) pX) 157 (0,0)),a_ dO fv c.bZ,ζ iG 159 (.slice la' (c.aL.length+j) pX) (c.aL++Vr j (c.cC+c.cB,c.what d)),dJ w1.heap.size (.cells #[.int .i64 c.fault.at',.int .i64 c.fault.kind,.int .i64 c.fault.arg] 144 (0,0))] wr)) (fun i _=>1 - (intOf i).toNat)
  case atStart=>exact ⟨0,la,lc,by omega,rfl,PY⟩
  case round=>
   clear PY;obtain ⟨j,la',pX,hj,rfl,HH⟩:=hrel;have hrow:=HH.out.blk 0 rfl;obtain ⟨k0,_,_,k3,_,_,k6⟩:=bD hrow;obtain ⟨_,_,_,_,QP⟩:=dz hrow;have AO:=lt_of_block hrow;have uT:=aQ hrow;have eT:=HH.out.blk 3 rfl;have g1:=aJ (i:=1) eT rfl;have g2:=aJ (i:=2) eT rfl;have Rl:=lt_of_block eT;have RJ:=aQ eT;have JO:Hid (By wr (.slice va d.length vc) d):=aQ (Rd.stay HV.out.1 fun h0 k e hl=>HH.out.fr.block k hl (hz k (HV.out.2 (by rwa [di] at h0) k e)));clear hrow eT;by_cases hjl:j < 1
   ·go_upto_region 16 with fail
    go_cut [7,60] from 60 to 109 (fun u7 u60 wc=>u60=.int .i64 (j:Int)/\∃(xb:Nat) (ya:Option Addr) (yc:Nat),u7=.pointer (some ⟨xb,0,none⟩)/\Hid (lU wr (c.cC+c.cB) ya yc d xb wc))
    case first=>
     have hne:p≠wr.heap.size:=by omega
     have hsum:IntKind.i64.wrap ((c.cC:Int)+(c.cB:Int))=((c.cC+c.cB:Nat):Int):=by rw [V6 _ (by omega)];omega
     go_region_held3 (fun w'=>w'.cell? ⟨p,3,none⟩=some (.int .i64 (c.cC:Int))/\w'.cell? ⟨p,0,none⟩=some (.int .i64 (c.cB:Int))) (first|exact ⟨k3,k0⟩|exact ⟨aI _ _ k3,aI _ _ k0⟩|exact HS2.out|exact ⟨aI _ _ HS2.out.1,aI _ _ HS2.out.2⟩|(refine ⟨?_,?_⟩ <;> (repeat (first|exact HS2.out.1|exact HS2.out.2|refine oQ hne ?_))))
      ((go_at_call 69;refine (cV _ d _ (by first|exact Rd.keep JO.out (fun _ _ _=>rfl)|exact (By.alloc JO.out _).keep (fun _ _ _=>rfl)) (by omega)).mono ?_;rintro e w2 ⟨v1,rfl,hO,hB⟩;obtain ⟨jQ,jP,rfl⟩:=gX hO;have hz2:=hB.size;have HS2:=aQ (show w2.cell? ⟨p,3,none⟩=some (.int .i64 (c.cC:Int))/\w2.cell? ⟨p,0,none⟩=some (.int .i64 (c.cB:Int)) from ⟨cell_later hB (by first|exact k3|exact aI _ _ k3),cell_later hB (by first|exact k0|exact aI _ _ k0)⟩);(try (have hR2:=(hB.block wr.heap.size (by simp)).trans (heap_alloc_new wr _);have r0:=aJ (i:=0) hR2 rfl;have r1:=aJ (i:=1) hR2 rfl;have fr0:=aD hR2 0;have fr1:=aD hR2 1;have HR2:=aQ hR2;clear hR2));have HO:=aQ hO;have JV:=aQ hB;clear hO hB))
     all_goals go_wp2_with fail
     all_goals go_meet
     all_goals (case rel=>exact ⟨rfl,_,_,_,rfl,by first|exact aQ (lU.late JV.out HO.out)|exact aQ (lU.early rfl JV.out HO.out)⟩)
    case rest=>
     obtain ⟨rfl,xb,ya,yc,rfl,HX⟩:=hcut;have x0:=aJ (i:=0) HX.out.row rfl;have x1:=aJ (i:=1) HX.out.row rfl;have g1':=cell_later HX.out.oU g1;have g2':=cell_later HX.out.oU g2;clear g1 g2 k0 k3;go_wp2_with fail;obtain ⟨K,us,hsl,hKn,hback⟩:=HH.out.app 2 rfl;have QL:¬K p:=hKn p 0 _ (by decide) rfl fun H Y h=>.inl h.2
     have hxl:(c.aL++Vr j (c.cC+c.cB,c.what d)).length=c.aL.length+j:=by simp
     rw [hxl] at hsl;have gK:=aQ (show Sl wc K 159 2 (.slice la' (c.aL.length+j) pX) (c.aL.length+j) us from hsl.keep fun k hk hl=>HX.out.oU.block k hl);have Ay:=aQ hback;have QU:=aQ hxl;have jh:=aQ ((HX.out.oU.block p AO).trans uT.out);have TS:=(bD jh.out).2.2.2.2.2.2;have Rx:=(dz jh.out).2.2.2.2;have Rk:=lt_of_block jh.out;have Rj:=lt_of_block HX.out.row;clear hsl hback hKn hxl k6 QP x0 x1 g1' g2';have x0:=aJ (i:=0) HX.out.row rfl;have x1:=aJ (i:=1) HX.out.row rfl
     go_region_law (refine υ AB rfl _ _ (by rfl) K (.slice la' (c.aL.length+j) pX) (c.aL.length+j) us (by rfl) (by (with_reducible (repeat (first|exact gK.out|refine Sl.alloc ?_ _|refine Sl.drewN ?_ _|refine Sl.drew ?_)))) _ 1 [.int .i64 ((c.cC+c.cB:Nat):Int),.slice ya d.length yc] (by rfl) (FM _ _ _ _ _ (by first|rfl|simp)) (by intro u hu;simp at hu;rcases hu with rfl|rfl <;> rfl) (by unfold maxLen;omega) (by omega) ?_;intro v2 w3 hsl2 hf2;obtain ⟨g2,cz,cap2,rfl,_⟩:=Sl.head hsl2 (by omega);have H3:=aQ (Ay.out _ w3 _ [(c.cC+c.cB,d)] _ (HX.out.oU.trans ((show Below wc.heap.size wc _ by exact dC).mono HX.out.oU.size)) (by rw [QU.out];exact hsl2) hf2 (fun Y _=>⟨fun _=>False,fun k=>wr.heap.size<=k,fun _ f=>f.elim,fun _ h=>.inr h,fun _ f=>f.elim,fK.single (E:=iG) ⟨_,rfl,HX.out.ow.z.below (by exact dC)⟩⟩));have dF:=aQ (hf2.keep (show _=some (.cells (bU c fv la' (c.aL.length+j) pX) 157 (0,0)) by exact FN jh.out) QL);have Rc:=(bD dF.out).2.2.2.2.2.2;have KG:=(dz dF.out).2.2.2.2;clear hsl2 hf2)
     all_goals go_wp2_with fail
     all_goals
      go_roundw
      case rel=>exact ⟨j+1,some ⟨g2,cz,none⟩,cap2,by omega,by go_num,aQ (by
       have h:=H3.out.set 0 rfl (.cells (bU c fv (some ⟨g2,cz,none⟩) (c.aL.length+(j+1)) cap2) 157 (0,0)) (w':=w3.setCell ⟨p,6,none⟩ (.slice (some ⟨g2,cz,none⟩) (c.aL.length+j+1) cap2)) (by (repeat (first|(with_reducible exact Fr.refl _ _)|exact Or.inl rfl|(exact Or.inr (by simp <;> omega))|(with_reducible refine Fr.setCell ?_ ?_ _)|(with_reducible refine Fr.drewN ?_ _)|(with_reducible refine Fr.drew ?_)|(with_reducible refine Fr.alloc ?_ _)))) (by (refine aS (fe dF.out) ?_);simp [bF,bU];omega);rw [XC,<-VE,HW.out];rw [HW.out] at h;exact h)⟩
      case measure=>simp [intOf];omega
   ·obtain rfl:j=1:=by omega
    go_wp2_with fail;go_ret;refine ⟨rfl,?_⟩;rw [TD.out];have h:=HH.out;refine (dY.fold (T:=dm p { c with cP:=c.cP+1,aL:=c.aL++Vr 1 (c.cC+c.cB,c.what d) }) (show dY F Z w ([_,_,_]++[_]) wr from h) fun G Y _ hst=>jA (c:={ c with cP:=c.cP+1,aL:=c.aL++Vr 1 (c.cC+c.cB,c.what d) }) (fv:=fv) (lv:=.slice la' (c.aL.length+1) pX) hst).Ko
 ·skip
  go_wp2_with fail;go_loopw [60] (fun i wr=>∃(j:Nat) (la':Option Addr) (pX:Nat),j<=1/\i=.int .i64 (j:Int)/\Hid (dY F Z w [dJ p (.cells (bU c fv la' (c.aL.length+j) pX) 157 (0,0)),a_ dO fv c.bZ,ζ iG 159 (.slice la' (c.aL.length+j) pX) (c.aL++Vr j (c.cC+c.cB,c.what d)),dJ w1.heap.size (.cells #[.int .i64 c.fault.at',.int .i64 c.fault.kind,.int .i64 c.fault.arg] 144 (0,0))] wr)) (fun i _=>1 - (intOf i).toNat)
  case atStart=>exact ⟨0,la,lc,by omega,rfl,PY⟩
  case round=>
   clear PY;obtain ⟨j,la',pX,hj,rfl,HH⟩:=hrel;have hrow:=HH.out.blk 0 rfl;obtain ⟨k0,_,_,k3,_,_,k6⟩:=bD hrow;obtain ⟨_,_,_,_,QP⟩:=dz hrow;have AO:=lt_of_block hrow;have uT:=aQ hrow;have eT:=HH.out.blk 3 rfl;have g1:=aJ (i:=1) eT rfl;have g2:=aJ (i:=2) eT rfl;have Rl:=lt_of_block eT;have RJ:=aQ eT;have JO:Hid (By wr (.slice va d.length vc) d):=aQ (Rd.stay HV.out.1 fun h0 k e hl=>HH.out.fr.block k hl (hz k (HV.out.2 (by rwa [di] at h0) k e)));clear hrow eT;by_cases hjl:j < 1
   ·go_upto_region 16 with fail
    go_cut [7,60] from 60 to 109 (fun u7 u60 wc=>u60=.int .i64 (j:Int)/\∃(xb:Nat) (ya:Option Addr) (yc:Nat),u7=.pointer (some ⟨xb,0,none⟩)/\Hid (lU wr (c.cC+c.cB) ya yc d xb wc))
    case first=>
     have hne:p≠wr.heap.size:=by omega
     have hsum:IntKind.i64.wrap ((c.cC:Int)+(c.cB:Int))=((c.cC+c.cB:Nat):Int):=by rw [V6 _ (by omega)];omega
     go_region_held3 (fun w'=>w'.cell? ⟨p,3,none⟩=some (.int .i64 (c.cC:Int))/\w'.cell? ⟨p,0,none⟩=some (.int .i64 (c.cB:Int))) (first|exact ⟨k3,k0⟩|exact ⟨aI _ _ k3,aI _ _ k0⟩|exact HS2.out|exact ⟨aI _ _ HS2.out.1,aI _ _ HS2.out.2⟩|(refine ⟨?_,?_⟩ <;> (repeat (first|exact HS2.out.1|exact HS2.out.2|refine oQ hne ?_))))
      ((go_at_call 69;refine (cV _ d _ (by first|exact Rd.keep JO.out (fun _ _ _=>rfl)|exact (By.alloc JO.out _).keep (fun _ _ _=>rfl)) (by omega)).mono ?_;rintro e w2 ⟨v1,rfl,hO,hB⟩;obtain ⟨jQ,jP,rfl⟩:=gX hO;have hz2:=hB.size;have HS2:=aQ (show w2.cell? ⟨p,3,none⟩=some (.int .i64 (c.cC:Int))/\w2.cell? ⟨p,0,none⟩=some (.int .i64 (c.cB:Int)) from ⟨cell_later hB (by first|exact k3|exact aI _ _ k3),cell_later hB (by first|exact k0|exact aI _ _ k0)⟩);(try (have hR2:=(hB.block wr.heap.size (by simp)).trans (heap_alloc_new wr _);have r0:=aJ (i:=0) hR2 rfl;have r1:=aJ (i:=1) hR2 rfl;have fr0:=aD hR2 0;have fr1:=aD hR2 1;have HR2:=aQ hR2;clear hR2));have HO:=aQ hO;have JV:=aQ hB;clear hO hB))
     all_goals go_wp2_with fail
     all_goals go_meet
     all_goals (case rel=>exact ⟨rfl,_,_,_,rfl,by first|exact aQ (lU.late JV.out HO.out)|exact aQ (lU.early rfl JV.out HO.out)⟩)
    case rest=>
     obtain ⟨rfl,xb,ya,yc,rfl,HX⟩:=hcut;have x0:=aJ (i:=0) HX.out.row rfl;have x1:=aJ (i:=1) HX.out.row rfl;have g1':=cell_later HX.out.oU g1;have g2':=cell_later HX.out.oU g2;clear g1 g2 k0 k3;obtain ⟨g,cap,e,hg1,hg2⟩:=xX HX.out.ow hd0;obtain ⟨rfl,rfl⟩:ya=some ⟨g,0,none⟩/\yc=cap:=by simpa using e
     have hdp:(0:Int) < 6*(d.length:Int):=by omega
     obtain ⟨B,hB,hBlt⟩:∃B:Nat,c.fault.arg % (6*(d.length:Int))=(B:Int)/\B < 6*d.length:=⟨(c.fault.arg % (6*(d.length:Int))).toNat,by have:=YR c.fault.arg (b:=6*(d.length:Int)) (by omega);omega,by have:=Int.emod_lt_of_pos c.fault.arg hdp;have:=YR c.fault.arg (b:=6*(d.length:Int)) (by omega);omega⟩;obtain ⟨x,hx⟩:∃x,d[B / 6]? = some x:=⟨d[B / 6],Vw (by omega)⟩
     have cx:wc.cell? ⟨g,B / 6,none⟩=some (.int .u8 (U x)):=by
      have:=Zh HX.out.ow (B / 6) (by omega);rw [this];unfold cu;rw [VG,hx];rfl
     have fx:=Zg HX.out.ow (B / 6);have hsh:=Bi .i64 (B % 6) (by omega)
     have Tq:Hid (c.what d=d.modify (B / 6) (fun x=>x ^^^ (1#8 <<< (B % 6)))):=aQ (by
      rw [HW.out];unfold lq;rw [if_neg (by intro h;rw [h] at hd0;simp at hd0),hB];rfl)
     have HXX:=aQ hx;have FH:=aQ (HX.out.flip (B / 6) (fun x=>x ^^^ (1#8 <<< (B % 6))) x hx);clear hx e;obtain ⟨dd,hdd⟩:∃dd,dd=c.what d:=⟨_,rfl⟩;have HW2:Hid (c.what d=dd):=aQ hdd.symm;rw [<-Tq.out,<-hdd] at FH;clear hdd;go_upto_if 81 with fail
     go_cut [7,8,60] from 61 to 109 (fun u7 u8 u60 wc'=>u60=.int .i64 (j:Int)/\u7=.pointer (some ⟨xb,0,none⟩)/\Hid (lU wr (c.cC+c.cB) (some ⟨g,0,none⟩) yc dd xb wc'))
     case first=>
      go_wp2_with fail
      go_region
      all_goals go_wp2_with fail
      all_goals go_meet
      all_goals (case rel=>exact ⟨rfl,rfl,by rw [Qn x _ (by omega)];exact aQ ⟨⟨FH.out.oU.os,FH.out.oU.tape,FH.out.oU.output,FH.out.oU.size,FH.out.oU.block⟩,FH.out.new,FH.out.row,FH.out.ow.keep fun _ _ _=>rfl,FH.out.ne⟩⟩)
     case rest=>
      clear HX FH cx fx hsh HXX Tq HW;obtain ⟨rfl,rfl,HX⟩:=hcut;have HW:=HW2;clear HW2;go_wp2_with fail;obtain ⟨K,us,hsl,hKn,hback⟩:=HH.out.app 2 rfl;have QL:¬K p:=hKn p 0 _ (by decide) rfl fun H Y h=>.inl h.2
      have hxl:(c.aL++Vr j (c.cC+c.cB,c.what d)).length=c.aL.length+j:=by simp
      rw [hxl] at hsl;have gK:=aQ (show Sl wc K 159 2 (.slice la' (c.aL.length+j) pX) (c.aL.length+j) us from hsl.keep fun k hk hl=>HX.out.oU.block k hl);have Ay:=aQ hback;have QU:=aQ hxl;have jh:=aQ ((HX.out.oU.block p AO).trans uT.out);have TS:=(bD jh.out).2.2.2.2.2.2;have Rx:=(dz jh.out).2.2.2.2;have Rk:=lt_of_block jh.out;have Rj:=lt_of_block HX.out.row;clear hsl hback hKn hxl k6 QP x0 x1 g1' g2';have x0:=aJ (i:=0) HX.out.row rfl;have x1:=aJ (i:=1) HX.out.row rfl
      go_region_law (refine υ AB rfl _ _ (by rfl) K (.slice la' (c.aL.length+j) pX) (c.aL.length+j) us (by rfl) (by (with_reducible (repeat (first|exact gK.out|refine Sl.alloc ?_ _|refine Sl.drewN ?_ _|refine Sl.drew ?_)))) _ 1 [.int .i64 ((c.cC+c.cB:Nat):Int),.slice (some ⟨g,0,none⟩) dd.length yc] (by rfl) (FM _ _ _ _ _ (by first|rfl|simp)) (by intro u hu;simp at hu;rcases hu with rfl|rfl <;> rfl) (by unfold maxLen;omega) (by omega) ?_;intro v2 w3 hsl2 hf2;obtain ⟨g2,cz,cap2,rfl,_⟩:=Sl.head hsl2 (by omega);have H3:=aQ (Ay.out _ w3 _ [(c.cC+c.cB,dd)] _ (HX.out.oU.trans ((show Below wc.heap.size wc _ by exact dC).mono HX.out.oU.size)) (by rw [QU.out];exact hsl2) hf2 (fun Y _=>⟨fun _=>False,fun k=>wr.heap.size<=k,fun _ f=>f.elim,fun _ h=>.inr h,fun _ f=>f.elim,fK.single (E:=iG) ⟨_,rfl,HX.out.ow.z.below (by exact dC)⟩⟩));have dF:=aQ (hf2.keep (show _=some (.cells (bU c fv la' (c.aL.length+j) pX) 157 (0,0)) by exact FN jh.out) QL);have Rc:=(bD dF.out).2.2.2.2.2.2;have KG:=(dz dF.out).2.2.2.2;clear hsl2 hf2)
      all_goals go_wp2_with fail
      all_goals
       go_roundw
       case rel=>exact ⟨j+1,some ⟨g2,cz,none⟩,cap2,by omega,by go_num,aQ (by
        have h:=H3.out.set 0 rfl (.cells (bU c fv (some ⟨g2,cz,none⟩) (c.aL.length+(j+1)) cap2) 157 (0,0)) (w':=w3.setCell ⟨p,6,none⟩ (.slice (some ⟨g2,cz,none⟩) (c.aL.length+j+1) cap2)) (by (repeat (first|(with_reducible exact Fr.refl _ _)|exact Or.inl rfl|(exact Or.inr (by simp <;> omega))|(with_reducible refine Fr.setCell ?_ ?_ _)|(with_reducible refine Fr.drewN ?_ _)|(with_reducible refine Fr.drew ?_)|(with_reducible refine Fr.alloc ?_ _)))) (by (refine aS (fe dF.out) ?_);simp [bF,bU];omega);rw [XC,<-VE,HW.out];rw [HW.out] at h;exact h)⟩
       case measure=>simp [intOf];omega
   ·obtain rfl:j=1:=by omega
    go_wp2_with fail;go_ret;refine ⟨rfl,?_⟩;rw [TD.out];have h:=HH.out;refine (dY.fold (T:=dm p { c with cP:=c.cP+1,aL:=c.aL++Vr 1 (c.cC+c.cB,c.what d) }) (show dY F Z w ([_,_,_]++[_]) wr from h) fun G Y _ hst=>jA (c:={ c with cP:=c.cP+1,aL:=c.aL++Vr 1 (c.cC+c.cB,c.what d) }) (fv:=fv) (lv:=.slice la' (c.aL.length+1) pX) hst).Ko

def Dw (bs:List (BitVec 8)):ByteArray:=strOfNums (bs.map U)
theorem tH (bs:List (BitVec 8)):(Dw bs).toList=bs.map fun x=>Zo x:=by
 rw [Z0];show (bs.map U).map (fun n=>ZF n.toNat)=_;rw [XR];refine List.map_congr_left fun x _=>?_
 show ZF (U x).toNat=_;rw [Pw];apply UInt8.toBitVec_inj.1;show BitVec.ofNat 8 x.toNat=x;simp
theorem LC {a b:List (BitVec 8)} (h:(Dw a).toList=(Dw b).toList):a=b:=by
 rw [tH,tH] at h;have h2:=congrArg (List.map Zn) h;rw [XR,XR] at h2
 have e:∀l:List (BitVec 8),l.map (Zn ∘ fun x=>Zo x)=l:=fun l=>by
  conv=>rhs;rw [<-List.map_id l]
  rfl
 rwa [e,e] at h2
@[go_sem] theorem aat (a b:List (BitVec 8)):((Dw a).toList == (Dw b).toList)=(a == b):=by
 rw [Bool.eq_iff_iff,beq_iff_eq,beq_iff_eq];exact ⟨LC,fun h=>by rw [h]⟩
theorem LM {P:Program} {src e dst:TypeId} (hs:P.underlying src=some (.slice e)) (he:P.underlying e=some (.int .u8)) (hd:P.underlying dst=some .string) {w:World} {v:Value} {bs:List (BitVec 8)} (hv:By w v bs) :
  (convert src dst v).run P w=.ok (.string (Dw bs)) w:=by
 obtain ⟨_,⟨rfl,a,cap,rfl,_⟩|⟨b,off,cap,rfl,_,_,_,hc⟩⟩:=hv.cases
 ·cases a with
  |none=>exact run_convert_bytes_nil (P:=P) w src e hs he 0 cap dst hd
  |some a=>
   obtain ⟨l,hl⟩:∃l:List Int,l=[]:=⟨_,rfl⟩
   have hld:(loadCells a 0).run P w=.ok (([]:List Int).map (Value.int .u8)).toArray w:=by
    have:=run_loadCells_list (P:=P) w a [] (fun j v hj=>by simp at hj);simpa using this
   rw [run_convert_bytes_string w src dst e _ 0 cap hs he hd,run_bytesToString w _ 0 cap [] hld];rfl
 ·have:=run_convert_bytes_arg (P:=P) w src e hs he b off bs.length cap (bs.map U) (by simp) (fun i hi=>by rw [hc i hi];simp [hi]) dst hd
  exact this

theorem LH (p:Nat) (c:az) (hok:c.Ok) (hfl:c.bZ.length<=1000000) (htk:c.cC < 1000000000) (hse:c.cP < 1000000000) (hls:c.lost < 1000000000) (v:Value) (d:iw) (w:World) (F Z N:BS) (hd:Dj F Z) (hz:∀k,N k->¬F k) (hv:fE w N v d) (hdl:d.length<=1000000) (h:(dm p c).on w F Z) :
  Calls Vs 34 #[.pointer (some ⟨p,0,none⟩),v] w (kP p c d w F Z):=by
 obtain ⟨a,n,rfl⟩:=hv.slice;by_cases hx:c.up=false\/c.fault.kind=1
 ·exact Hy p c hok hfl hls hse a d.length n d w F Z hd h hx
 ·have hu:c.up=true:=by
   cases hu:c.up
   ·exact absurd (.inl hu) hx
   ·rfl
  have hk:c.fault.kind≠1:=fun e=>hx (.inr e)
  by_cases hf:64 < c.aL.length+c.copies
  ·exact Hw p c hok hfl hls hse a d.length n d w F Z hd h hu hk hf
  ·refine Oz p c hok hfl htk hse _ d w F Z N hd hz hv hdl h hu hk (by omega) c.copies rfl ?_
   unfold az.copies;by_cases hk3:c.fault.kind=3
   ·exact .inl ⟨hk3,if_pos hk3⟩
   ·exact .inr ⟨hk3,if_neg hk3⟩
section
variable {F Z:BS} {W w:World} {ts:List Th} {p:Nat} {c:az}
theorem KT (h:dY F Z W ts w) (i:Nat) (hi:ts[i]? = some (dm p c)) (hok:c.Ok) (hfl:c.bZ.length<=1000000) (htk:c.cC < 1000000000) (hse:c.cP < 1000000000) (hls:c.lost < 1000000000) (v:Value) (d:iw) (hdl:d.length<=1000000)
  (j:Nat) (T:Th) (hj:ts[j]? = some T) (hji:j≠i) (hr:∀H Y,T.on w H Y->∃N:BS,(∀k,N k->H k\/Y k)/\fE w N v d) :
  Calls Vs 34 #[.pointer (some ⟨p,0,none⟩),v] w fun e w'=>e=.returned (.int .i64 ((c.send d).1:Int))/\dY F Z W (ts.set i (dm p (c.send d).2)) w':=by
 obtain ⟨G,Y,hc,hd,_,hoth,hb⟩:=h.use i hi;obtain ⟨H,h1,_,h3⟩:=hoth j T hji hj;obtain ⟨N,n1,n2⟩:=hr H Y h3;refine (LH p c hok hfl htk hse hls v d w G Y N hd (fun k hk hg=>(n1 k hk).elim (h1 k hg) (hd k hg)) n2 hdl hc).mono fun e w' ⟨he,hst⟩=>⟨he,?_⟩
 have:=hb w' _ [] hst;rwa [Wp] at this
theorem RQ (h:dY F Z W ts w) (i:Nat) (hi:ts[i]? = some (dm p c)) (hl:c.aL.length<=1000000) (ht:c.cC < 1000000000) :
  Calls Vs 62 #[.pointer (some ⟨p,0,none⟩)] w fun e w'=>∃(a:Option Addr) (n:Nat),e=.returned (.slice a c.cR.1.length n)/\dY F Z W (ts.set i (dm p c.cR.2)++[ζ ψ 40 (.slice a c.cR.1.length n) c.cR.1]) w':=by
 obtain ⟨G,Y,hc,hd,_,_,hb⟩:=h.use i hi;refine (Fe p c hl ht w G Y hd hc).mono fun e w' ⟨v,he,hst⟩=>?_
 have h2:=hb w' _ _ hst;obtain ⟨G2,Y2,h3⟩:=h2.get ts.length (T:=ζ ψ 40 v c.cR.1) (by rw [List.getElem?_append_right (by simp)];simp);obtain ⟨a,n,rfl⟩:=Sq.shape (show Sq ψ 40 w' G2 Y2 v c.cR.1 from h3);exact ⟨a,n,he,h2⟩
theorem Qs (h:dY F Z W ts w) (i:Nat) (hi:ts[i]? = some (dm p c)) (hl:c.lost < 1000000000) (hk:c.aL.length<=1000000) :
  Calls Vs 57 #[.pointer (some ⟨p,0,none⟩)] w fun e w'=>e=.returned (.tuple #[])/\dY F Z W (ts.set i (dm p c.cut)) w':=by
 obtain ⟨G,Y,hc,hd,_,_,hb⟩:=h.use i hi;refine (Ph hc hd hl hk).mono fun e w' ⟨he,h1,h2⟩=>⟨he,?_⟩
 have:=hb w' _ [] (lS.same h2 h1 hd);rwa [Wp] at this
theorem K6 (h:dY F Z W ts w) (i:Nat) (hi:ts[i]? = some (dm p c)) :
  Calls Vs 58 #[.pointer (some ⟨p,0,none⟩)] w fun e w'=>e=.returned (.tuple #[])/\dY F Z W (ts.set i (dm p c.mend)) w':=by
 obtain ⟨G,Y,hc,hd,_,_,hb⟩:=h.use i hi;refine (Mt hc hd).mono fun e w' ⟨he,h1,h2⟩=>⟨he,?_⟩
 have:=hb w' _ [] (lS.same h2 h1 hd);rwa [Wp] at this
end
theorem Qt {w:World} {v:Value} {d:iw}:∀H Y,(dD v d).on w H Y->∃N:BS,(∀k,N k->H k\/Y k)/\fE w N v d:=fun _ Y h=>⟨Y,fun _ h=>.inr h,h⟩
theorem zh {T:TypeId} {w:World} {F Z:BS} {a:Option Addr} {n c:Nat} {l:List iw} (h:Sq ψ T w F Z (.slice a n c) l) {j:Nat} {d:iw} (hj:l[j]? = some d) :
  ∃b o va vc,a=some ⟨b,o,none⟩/\w.cell? ⟨b,o+j,none⟩=some (.slice va d.length vc)/\fE w Z (.slice va d.length vc) d:=by
 obtain ⟨b,o,cs,A,e,hb,⟨v,rfl,hv⟩,_,hc⟩:=h.at (by decide) hj;obtain ⟨va,vc,rfl⟩:=hv.slice;have:=hc 0 _ rfl;rw [show o+j*ψ.size+0=o+j by show o+j*1+0=_;omega] at this;exact ⟨b,o,va,vc,e,this,hv⟩

end Go.Proofs.YtjnbanjjoomecaaGreatDoor
