/- Lemmas; no condition on the program. -/
import Derived.Test.YtjnbanjjoomecaaGreatDoorRows
import Derived.Test.YtjnbanjjoomecaaGreatDoorPkA1
import Derived.Test.YtjnbanjjoomecaaGreatDoorPkB1
import Derived.WalkKit
import Derived.WalkSpells
import Derived.WalkLawsBesides
import Derived.Lib.Hide
import Derived.Deep.QuietTactic
import Derived.BigQuiet
import Derived.IntWalk
import Derived.Deep.MidRow
import Derived.Deep.RegionHeld3
import Derived.Lib.LaidTab
import Derived.Deep.Cut
import Derived.RegionTactic
import Derived.ChangeAlike
namespace Go.Proofs.YtjnbanjjoomecaaGreatDoor
open Go.RowKit
open _root_.Go.Proofs.Tryz renaming prog→Vs
open World renaming cell?_of_block→Vt, block_lt_of_cell?→Vv
open Nat renaming le_refl→Vu, le_trans→VC, zero_le→VJ, lt_of_lt_of_le→VX, zero_add→V5, le_of_lt→WL, mul_one→Xi, add_zero→Xp, pow_le_pow_right→Y3, div_eq_of_lt→Zt
open List renaming length_append→Vx, append_assoc→VE, getElem?_map→VG, take_zero→VI, length_take→VW, length_drop→V9, getElem?_drop→Wl, take_of_length_le→Wn, getD→Wo, append_nil→Wp, length_nil→Ws, nil_append→WT, take_length→Xd
open Act renaming put→VF
open _root_.Go.RowKit.Below renaming setCell→VK, refl→VQ, trans→Wi, heap_setCell→Wy
open Option.some renaming inj→VM
open Region renaming wanted→VN
open Value renaming int→VS, slice→WS, agg→Zb
open BitVec renaming ofInt→VU, ofNat→V4, toNat_ofNat→Xq, toNat_and→Yw, toNat_ofInt→YZ
open IntWalk renaming i64_in→V6
open Oper renaming wp→WZ
open Callee renaming builtin→Xg
open Int renaming eq_ofNat_of_zero_le→Xt
open World.ownsRow renaming lt→Xv, alloc→ZJ
open Builtin renaming append→Xw
open Bool renaming eq_false_iff→XH
open IntKind renaming wrap_u8→Yr
open Op renaming shift→Y9
open Obj renaming cells→Zr
open Ne renaming symm→ZQ
open Lib renaming TabIs→ZY
set_option maxRecDepth 100000
set_option maxHeartbeats 64000000
section
attribute [go_sem] Mq
@[go_sem] theorem M4 (r:BitVec 32):U (r &&& 15#32) < 16:=by
 unfold U;rw [Yw];have:r.toNat &&& (15#32).toNat < 16:=Nat.lt_of_le_of_lt Nat.and_le_right (by decide);omega
def uL (w:World):Prop:=∀r:BitVec 32,w.cell? ⟨1,N (r &&& 15#32),none⟩=some (.int .u32 (U (JZ r)))
theorem G5 (sum : BitVec 32) (b off cap : Nat) (xs : List (BitVec 8)) (w : World) (hm : xs.length ≤ maxLen)
   (hc : ∀ k, k < xs.length → w.cell? ⟨b, off + k, none⟩ = some (.int .u8 (U (xs.getD k 0))))
   (ht : ∀ r : BitVec 32, w.cell? ⟨1, N (r &&& 15#32), none⟩ = some (.int .u32 (U (JZ r)))) :
    Calls Vs 165 #[.int .u32 (U sum), .slice (some ⟨b, off, none⟩) xs.length cap] w fun e w' => e = .returned (.int .u32 (U (rZ sum xs))) ∧ w = w' := by
  unfold maxLen at hm;go_enter Tryz.func165, Tryz.ntmps165
  go_wp2
  go_loop [5, 12] (fun r i => ∃ k : Nat, k ≤ xs.length ∧ i = .int .i64 k ∧ r = .int .u32 (U (reg (~~~ sum) (xs.take k)))) (fun _ i => xs.length - (intOf i).toNat)
  case atStart => exact ⟨0, VJ _, rfl, rfl⟩
  case round =>
    obtain ⟨k, hk, rfl, rfl⟩ := hrel;by_cases hlt : k < xs.length
    · have hck := hc k (by omega)
      have hR := Bp (~~~sum) xs k hlt;have HR := aQ hR; clear hR hc;generalize hR : reg (~~~sum) (xs.take k) = R at *;generalize hx : xs.getD k 0 = x at *;have HR2 := aQ hR; clear hR;have HR3 := aQ hx; clear hx
      go_wp2
      go_round
      case rel => exact ⟨k + 1, by omega, by go_num, by rw [HR.out]; rfl⟩
      case measure => simp [intOf]; omega
    · have hk' : k = xs.length := by omega
      go_wp2
      go_ret;exact ⟨rfl, rfl⟩
theorem Ed (sum:BitVec 32) (a:Option Addr) (cap:Nat) (w:World) :
  Calls Vs 165 #[.int .u32 (U sum),.slice a 0 cap] w fun e w'=>e=.returned (.int .u32 (U (rZ sum [])))/\w=w':=by
 go_enter Tryz.func165,Tryz.ntmps165
 go_wp2
 refine wp_loop_rounds 1 ?_;rw [rounds_succ]
 go_wp2
 go_ret;have e:rZ sum []=sum:=by simp [rZ,reg]
 rw [e];exact ⟨rfl,rfl⟩
theorem Ee (sum:BitVec 32) (v:Value) (bs:List (BitVec 8)) (w:World) (hv:By w v bs) (ht:uL w) :
  Calls Vs 165 #[.int .u32 (U sum),v] w fun e w'=>e=.returned (.int .u32 (U (rZ sum bs)))/\w=w':=by
 obtain ⟨hm,⟨rfl,a,cap,rfl,_⟩|⟨b,off,cap,rfl,_,_,_,hc⟩⟩:=hv.cases
 ·exact Ed sum a cap w
 ·exact G5 sum b off cap bs w hm hc ht
theorem FV (v:Value) (bs:List (BitVec 8)) (w:World) (hv:By w v bs) (ht:uL w) :
  Calls Vs 149 #[v] w fun e w'=>e=.returned (.int .u32 (U (rV bs)))/\w=w':=by
 have H:=aQ (Ee 0 v bs w hv ht);clear hv ht;go_enter Tryz.func149,Tryz.ntmps149;go_wp2_with fail;refine H.out.mono ?_;rintro e w' ⟨rfl,rfl⟩
 go_wp2
 go_ret;exact ⟨rfl,rfl⟩
end

section
theorem tJ (yk:IntKind) (x:BitVec 32) (k:Nat):Y9 .shr .u32 (U x) yk (k:Int)=pure (.int .u32 (U (x >>> k))):=by
 unfold Y9;rw [if_neg (by omega)];have e:IntKind.u32.bits=32:=rfl;have hx:=x.isLt;simp only [e,Int.toNat_natCast];congr 2;unfold U;rw [BitVec.toNat_ushiftRight,Nat.shiftRight_eq_div_pow];have h2:(2:Int) ^ min k 32=((2 ^ min k 32:Nat):Int):=by simp
 rw [h2,Int.fdiv_eq_ediv_of_nonneg _ (Int.natCast_nonneg _)];by_cases h:k<=32
 ·rw [Nat.min_eq_left h];rfl
 ·have h3:min k 32=32:=by omega
  have h4:2 ^ 32<=2 ^ k:=Y3 (by decide) (by omega);have a1:x.toNat / 2 ^ k=0:=Zt (VX hx h4);have a2:x.toNat / 2 ^ 32=0:=Zt hx;rw [h3,a1];have:((x.toNat:Int) / ((2 ^ 32:Nat):Int))=((x.toNat / 2 ^ 32:Nat):Int):=rfl;rw [this,a2]
attribute [go_sem ↓ high] tJ
theorem Cx (r0 : BitVec 32) (b off cap : Nat) (xs : List (BitVec 8)) (w : World) (hm : xs.length ≤ maxLen)
   (hc : ∀ k, k < xs.length → w.cell? ⟨b, off + k, none⟩ = some (.int .u8 (U (xs.getD k 0)))) :
    Calls Vs 151 #[.int .u32 (U r0), .slice (some ⟨b, off, none⟩) xs.length cap] w fun e w' => e = .returned (.int .u32 (U (reg r0 xs))) ∧ w = w' := by
  unfold maxLen at hm;go_enter Tryz.func151, Tryz.ntmps151
  go_wp2
  go_loop [0, 5] (fun r i => ∃ k : Nat, k ≤ xs.length ∧ i = .int .i64 k ∧ r = .int .u32 (U (reg r0 (xs.take k)))) (fun _ i => xs.length - (intOf i).toNat)
  case atStart => exact ⟨0, VJ _, rfl, rfl⟩
  case round =>
    obtain ⟨k, hk, rfl, rfl⟩ := hrel;by_cases hlt : k < xs.length
    · have hck := hc k (by omega)
      have hR := Bp r0 xs k hlt;have HR := aQ hR; clear hR hc;generalize hR : reg r0 (xs.take k) = R at *;generalize hx : xs.getD k 0 = x at *;have HR2 := aQ hR; clear hR;have HR3 := aQ hx; clear hx
      go_wp2
      go_loop [0, 6] (fun r i => ∃ j : Nat, j ≤ 8 ∧ i = .int .i64 j ∧ r = .int .u32 (U (ku x R j))) (fun _ i => 8 - (intOf i).toNat)
      case atStart => exact ⟨0, VJ _, rfl, rfl⟩
      case round =>
        obtain ⟨j, hj, rfl, rfl⟩ := hrel;by_cases abC : j < 8
        · have hS := nE x R j
          generalize hq : ku x R j = q at *;have Hq := aQ hq; clear hq;have HS := aQ hS; clear hS;by_cases hb : ((q &&& 1#32) != ((x.setWidth 32 >>> j) &&& 1#32)) = true
          · have hS' : mP x q j = (q >>> 1) ^^^ 3988292384#32 := by unfold mP; rw [if_pos hb]
            have HS' := aQ hS'; clear hS'
            go_wp2
            go_round
            case rel => exact ⟨j + 1, by omega, by go_num, by rw [HS.out, HS'.out]⟩
            case measure => simp [intOf]; omega
          · have hb' : ((q &&& 1#32) != ((x.setWidth 32 >>> j) &&& 1#32)) = false := by simpa using hb
            have hS' : mP x q j = (q >>> 1) := by unfold mP; rw [if_neg hb]
            have HS' := aQ hS'; clear hS' hb
            go_wp2
            go_round
            case rel => exact ⟨j + 1, by omega, by go_num, by rw [HS.out, HS'.out]⟩
            case measure => simp [intOf]; omega
        · obtain rfl : j = 8 := by omega
          have he := Ey x R;have HE := aQ he; clear he
          go_wp2
          go_round
          case rel => exact ⟨k + 1, by omega, by go_num, by rw [HE.out, HR.out]⟩
          case measure => simp [intOf]; omega
    · have hk' : k = xs.length := by omega
      subst hk'
      go_wp2
      go_ret;exact ⟨rfl, rfl⟩
theorem zR (r0:BitVec 32) (a:Option Addr) (cap:Nat) (w:World) :
  Calls Vs 151 #[.int .u32 (U r0),.slice a 0 cap] w fun e w'=>e=.returned (.int .u32 (U (reg r0 [])))/\w=w':=by
 go_enter Tryz.func151,Tryz.ntmps151
 go_wp2
 refine wp_loop_rounds 1 ?_;rw [rounds_succ]
 go_wp2
 go_ret;exact ⟨rfl,rfl⟩
theorem zS (r0:BitVec 32) (v:Value) (bs:List (BitVec 8)) (w:World) (hv:By w v bs) :
  Calls Vs 151 #[.int .u32 (U r0),v] w fun e w'=>e=.returned (.int .u32 (U (reg r0 bs)))/\w=w':=by
 obtain ⟨hm,⟨rfl,a,cap,rfl,_⟩|⟨b,off,cap,rfl,_,_,_,hc⟩⟩:=hv.cases
 ·exact zR r0 a cap w
 ·exact Cx r0 b off cap bs w hm hc
theorem Jr:(4294967295:Int)=U (~~~(0:BitVec 32)):=by decide
theorem vX (v:Value) (bs:List (BitVec 8)) (w:World) (hv:By w v bs) :
  Calls Vs 115 #[v] w fun e w'=>e=.returned (.int .u32 (U (rV bs)))/\w=w':=by
 have H:=aQ (zS (~~~0) v bs w hv);clear hv;go_enter Tryz.func115,Tryz.ntmps115;go_wp2_with fail;rw [Jr];refine H.out.mono ?_;rintro e w' ⟨rfl,rfl⟩
 go_wp2
 go_ret;exact ⟨rfl,rfl⟩
end

theorem SX {w:World} {g:Nat} {arr:Array Value} {T:TypeId} {fr:Nat × Nat} (bs:List (BitVec 8)) (h:w.heap[g]? = some (.cells arr T fr)) (hc:arr.toList.take bs.length=cu bs) {n cap:Nat} (hn:n=bs.length) (hcap:n<=cap/\cap<=maxLen) :
  By w (.slice (some ⟨g,0,none⟩) n cap) bs:=by
 subst hn;refine ⟨by rw [di,Xi],_,cap,rfl,hcap.1,hcap.2,(fun e=>by cases e),fun b hb j u hj=>?_⟩;obtain rfl:=VM hb;refine ⟨rfl,?_⟩;rw [<-hc,List.getElem?_take] at hj;split at hj
 ·simp only [World.cell?,h,V5]
  simpa using hj
 ·cases hj
theorem ME (w:World) (o:Obj):(w.alloc o).heap[w.heap.size]? = some o:=by unfold World.alloc;simp
theorem eX (w:World) (g:Nat) (arr:Array Value) (T:TypeId) (bs:List (BitVec 8)) (n cap:Nat) (hg:g=w.heap.size) (hc:arr.toList.take bs.length=cu bs) (hn:n=bs.length) (hcap:n<=cap) (hm:cap<=maxLen) :
  By (w.alloc (.cells arr T)) (.slice (some ⟨g,0,none⟩) n cap) bs:=by
 subst hg;exact SX bs (ME _ _) hc hn ⟨hcap,hm⟩
theorem By.alloc {w:World} {v:Value} {bs:List (BitVec 8)} (h:By w v bs) (o:Obj):By (w.alloc o) v bs:=h.below ((VQ _ _).alloc (Vu _) _)
theorem uL.keep {w w':World} (h:uL w) (hk : 1 < w.heap.size->w'.heap[1]? = w.heap[1]?):uL w':=fun r=>by
 have:=h r;have hlt:=Vv w _ this;exact (Vt (hk hlt)).trans this
theorem uL.below {w w':World} (h:uL w) (hb:Below w.heap.size w w'):uL w':=h.keep fun hk=>hb.block _ hk
theorem uL.alloc {w:World} (h:uL w) (o:Obj):uL (w.alloc o):=uL.below h ((VQ _ _).alloc (Vu _) _)
theorem By.slice {w:World} {v:Value} {bs:List (BitVec 8)} (h:By w v bs):∃a cap,v=.slice a bs.length cap:=by
 obtain ⟨_,a,cap,rfl,_⟩:=h;exact ⟨a,cap,rfl⟩

section
theorem Ao:o8 Vs 40 5 (.int .u8 0) 1 1:=⟨Tryz.underlying40,info_parts (by kernel_rfl),rfl,by decide⟩
theorem zH (yk:IntKind) (x:BitVec 32) (k:Nat):Y9 .shr .u32 (U x) yk (8*(k:Int))=pure (.int .u32 (U (x >>> (8*k)))):=tJ yk x (8*k)
attribute [go_sem ↓ high] zH
@[go_sem] theorem G7 (x:BitVec 32):U x % 256=U (x.setWidth 8):=by
 unfold U;rw [BitVec.toNat_setWidth];rfl
@[go_sem] theorem M8 (x:BitVec 32):IntKind.u8.wrap (U x)=U (x.setWidth 8):=by
 rw [Yr];exact G7 x
theorem Vp {T:TypeId} {w:World} {base:Nat} {v:Value} {bs:List (BitVec 8)} (h:Ow T w base v bs):∀k,v.ownBlock=some k->base<=k:=fun k hk=>(Xv h k hk).1
theorem Ow.alloc {T:TypeId} {w:World} {base:Nat} {v:Value} {bs:List (BitVec 8)} (h:Ow T w base v bs) (o:Obj):Ow T (w.alloc o) base v bs:=ZJ h o
theorem Sb {T:TypeId} {w:World} {base:Nat} {v:Value} {xs ys:List (BitVec 8)} (h:w.ownsRow base T 1 v (xs.length+ys.length) (cu xs++cu ys)):Ow T w base v (xs++ys):=by
 unfold Ow;rw [Vx,<-uY];exact h
theorem Fj (v:Value) (bs:List (BitVec 8)) (w:World) (hv:By w v bs) (ht:uL w) (hm:bs.length<=1048576) :
  Calls Vs 108 #[v] w fun e w'=>∃v',e=.returned v'/\Ow 5 w' w.heap.size v' (iL bs)/\Below w.heap.size w w':=by
 have HV:=aQ hv;have HT:=aQ ht;clear ht;obtain ⟨a,cap,rfl⟩:=hv.slice;clear hv;go_enter Tryz.func108,Tryz.ntmps108;go_wp2_with fail;refine (FV _ bs _ HV.out HT.out).mono ?_;rintro e w1 ⟨rfl,rfl⟩;generalize hS:rV bs=S at *;have HS:=aQ hS;clear hS
 go_wp2_with (first
  |(at_make;refine sw Ao rfl _ _ rfl w.heap.size _ rfl rfl (by omega) (by omega) (by unfold maxLen;omega) (Vu _) ?_;intro w1 hown1 hg1;have HB1:=aQ ((VQ w.heap.size w).grown hg1 (Vu _) (fun k e=>by cases e));have Dk:=aQ hown1;clear hown1 hg1)
  |(at_builtin;refine gQ Ao rfl _ _ rfl w.heap.size _ 0 [] rfl Dk.out _ bs.length (cu bs) rfl (HV.out.below HB1.out) iM (by unfold maxLen;omega) (by omega) HB1.out.size ?_;intro v2 w2 hown2 hg2 _;have HB2:=aQ (HB1.out.grown hg2 HB1.out.size (fun k e=>by cases e;exact Vu _));have Di:=aQ hown2;clear hown2 hg2 Dk))
 have hO2:Ow 5 w2 w.heap.size v2 bs:=by simpa [Ow] using Di.out
 have ND:=aQ hO2;clear hO2;go_loopw [4,15] (fun v i wr=>∃k:Nat,k<=4/\i=.int .i64 k/\Hid (Ow 5 wr w.heap.size v (bs++(sU S).take k))/\Hid (Below w.heap.size w wr)) (fun _ i _=>4 - (intOf i).toNat)
 case atStart=>exact ⟨0,by omega,rfl,aQ (by simpa using ND.out),HB2⟩
 case round=>
  obtain ⟨k,hk,rfl,HO,HB⟩:=hrel;by_cases hlt:k < 4
  ·have hlen:(bs++(sU S).take k).length<=1048580:=by simp [sU];omega
   have hsz:=HB.out.size;generalize hxs:bs++(sU S).take k=xs at *;have HX:=aQ hxs;clear hxs;go_wp2_with (at_builtin;refine gQ Ao rfl _ _ rfl w.heap.size _ xs.length (cu xs) rfl (HO.out.alloc _) _ 1 (cu [(S >>> (8*k)).setWidth 8]) rfl (eX _ _ _ _ [(S >>> (8*k)).setWidth 8] 1 1 rfl (by rfl) rfl (Vu _) (by decide)) iM (by unfold maxLen;omega) (by omega) (by simp;omega) ?_;intro v3 w3 hown3 hg3 _;have HB3:=aQ ((HB.out.alloc hsz _).grown hg3 (by simp;omega) (Vp HO.out));have ND:=aQ (Sb (ys:=[(S >>> (8*k)).setWidth 8]) hown3);clear hown3 hg3);go_roundw
   case rel=>exact ⟨k+1,by omega,by go_num,aQ (by rw [BO S k hlt,<-VE,HX.out];exact ND.out),HB3⟩
   case measure=>simp [intOf];omega
  ·obtain rfl:k=4:=by omega
   go_wp2_with fail;go_ret;have hO:=HO.out;rw [<-HS.out] at hO;exact ⟨_,rfl,hO,HB.out⟩
end

section
theorem zI (yk:IntKind) (x:BitVec 32) (k:Nat) (hk:k < 4):Y9 .shl .u32 (U x) yk (8*(k:Int))=pure (.int .u32 (U (x <<< (8*k)))):=by
 rw [shift_shl .u32 yk (U x) (8*(k:Int)) (by omega) (by have:((IntKind.u32.bits:Nat):Int)=32:=rfl;omega)];congr 2;rw [IntKind.wrap_u32];unfold U;rw [BitVec.toNat_shiftLeft,Nat.shiftLeft_eq];have e:(8*(k:Int)).toNat=8*k:=by omega
 rw [e];have e2:(2:Int) ^ (8*k)=((2 ^ (8*k):Nat):Int):=by simp
 rw [e2,<-Int.natCast_mul];rfl
attribute [go_sem ↓ high] zI
theorem getD_drop {α : Type} (l:List α) (n k:Nat) (d : α):(l.drop n).getD k d=l.getD (n+k) d:=by
 simp [Wo,Wl]
theorem wD (v:Value) (bs:List (BitVec 8)) (h4:4<=bs.length) (hm:bs.length<=1048576) (w:World) (hv:By w v bs) (ht:uL w) :
  Calls Vs 155 #[v] w fun e w'=>(cK bs=false/\e=.returned (.tuple #[.slice none 0 0,.int .i64 9])/\Below w.heap.size w w') \/
   (cK bs=true/\∃v',e=.returned (.tuple #[v',.int .i64 0])/\Ow 5 w' w.heap.size v' (bs.take (bs.length - 4))/\Below w.heap.size w w'):=by
 have HV:=aQ hv;have HT:=aQ ht;clear ht;obtain ⟨_,⟨rfl,a,cap,rfl,_⟩|⟨b,off,cap,rfl,h0,hcap,hcm,hc⟩⟩:=hv.cases
 ·simp at h4
 clear hv;obtain ⟨n,hn⟩:∃n,bs.length=n+4:=⟨bs.length - 4,by omega⟩;have en:bs.length - 4=n:=by omega
 rw [hn] at h4 hm hcap hc HV ⊢;have hS:cK bs=(JH (bs.drop n) 4 == rV (bs.take n)):=by unfold cK;rw [en]
 rw [hS];have en2:n+4 - 4=n:=by omega
 rw [en2];have HN:=aQ hn;clear hn en hS en2;go_enter Tryz.func155,Tryz.ntmps155;go_wp2_with fail
 go_loop [5,12] (fun s i=>∃k:Nat,k<=4/\i=.int .i64 k/\s=.int .u32 (U (JH (bs.drop n) k))) (fun _ i=>4 - (intOf i).toNat)
 case atStart=>exact ⟨0,by omega,rfl,rfl⟩
 case round=>
  obtain ⟨k,hk,rfl,rfl⟩:=hrel;by_cases hlt:k < 4
  ·have hck:=hc (n+k) (by omega)
   have hR:JH (bs.drop n) (k+1)=JH (bs.drop n) k ||| ((bs.getD (n+k) 0).setWidth 32 <<< (8*k)):=by
    show _ ||| (((bs.drop n).getD k 0).setWidth 32 <<< (8*k))=_
    rw [getD_drop]
   have HR:=aQ hR;clear hR hc;generalize hr:JH (bs.drop n) k=r at *;generalize hx:bs.getD (n+k) 0=x at *;have Hr:=aQ hr;clear hr;have Hx:=aQ hx;clear hx;go_wp2_with fail
   go_round
   case rel=>exact ⟨k+1,by omega,by go_num,by rw [HR.out]⟩
   case measure=>simp [intOf];omega
  ·obtain rfl:k=4:=by omega
   have ht':=By.take (n:=n) HV.out (by omega);have HT':=aQ ht';clear ht';go_wp2_with fail;refine (FV _ (bs.take n) _ HT'.out HT.out).mono ?_;rintro e w1 ⟨rfl,rfl⟩;generalize hr:JH (bs.drop n) 4=r at *;generalize hS:rV (bs.take n)=S at *;have Hr:=aQ hr;clear hr;have HS:=aQ hS;clear hS;have hln:(bs.take n).length=n:=by rw [VW,HN.out];omega
   by_cases he:r=S
   ·have h1:(r != S)=false:=by simpa using he
    have he':(r == S)=true:=by simpa using he
    have He:=aQ he';clear he' he;go_wp2_with (at_builtin;refine gQ Ao rfl _ _ rfl w.heap.size _ 0 [] rfl (World.ownsRow_nil _ _ _ _) _ n (cu (bs.take n)) rfl (by have:=HT'.out;unfold By at this;rw [hln] at this;exact this) iM (by unfold maxLen;omega) (by omega) (Vu _) ?_;intro v2 w2 hown2 hg2 _;have HB2:=aQ ((VQ w.heap.size w).grown hg2 (Vu _) (fun k e=>by cases e));have Di:=aQ hown2;clear hown2 hg2);have hO2:Ow 5 w2 w.heap.size v2 (bs.take n):=by unfold Ow;rw [hln];simpa using Di.out
    have ND:=aQ hO2;clear hO2;go_ret2;exact .inr ⟨by rw [Hr.out,HS.out];exact He.out,_,rfl,ND.out,HB2.out⟩
   ·have h1:(r != S)=true:=by simpa using he
    have he':(r == S)=false:=by simpa using he
    have He:=aQ he';clear he' he;go_wp2_with fail;go_ret2;exact .inl ⟨by rw [Hr.out,HS.out];exact He.out,rfl,VQ _ _⟩
end

def Val (w:World):Prop:=∀k,k < 20->w.cell? ⟨0,k,none⟩=some (.int .u8 (U (sym k)))
theorem Val.keep {w w':World} (h:Val w) (hk : 0 < w.heap.size->w'.heap[0]? = w.heap[0]?):Val w':=fun r hr=>by
 have:=h r hr;have hlt:=Vv w _ this;exact (Vt (hk hlt)).trans this
theorem Val.below {w w':World} (h:Val w) (hb:Below w.heap.size w w'):Val w':=h.keep fun hk=>hb.block _ hk
structure lH (w:World):Prop where
 tab:uL w
 val:Val w
theorem lH.below {w w':World} (h:lH w) (hb:Below w.heap.size w w'):lH w':=⟨h.tab.below hb,h.val.below hb⟩
theorem KQ:∀(s:Byte) (k:Fin 20),k.val < idx s->sym k.val≠s:=by decide +kernel
theorem KR:(U (sym 16))=49/\(U (sym 17))=50/\(U (sym 18))=52:=by decide
theorem Jj (w:World) (hv:Val w):Calls Vs 109 #[.int .i64 0] w fun e w'=>e=.returned (.tuple #[.int .u8 49,.int .i64 0])/\w=w':=by
 have h:=hv 16 (by decide);rw [KR.1] at h;clear hv;go_enter Tryz.func109,Tryz.ntmps109;go_wp2_with fail;go_ret2;exact ⟨rfl,rfl⟩
theorem Ji (w:World) (hv:Val w):Calls Vs 109 #[.int .i64 1] w fun e w'=>e=.returned (.tuple #[.int .u8 50,.int .i64 0])/\w=w':=by
 have h:=hv 17 (by decide);rw [KR.2.1] at h;clear hv;go_enter Tryz.func109,Tryz.ntmps109;go_wp2_with fail;go_ret2;exact ⟨rfl,rfl⟩
def P5:Array Value:=(cu vs).toArray
theorem zL (k:Nat) (hk:k < 20) (w:World):(Instr.index 208 (.agg P5) (.int .i64 (k:Int))).run Vs w=.ok (.int .u8 (U (sym k))) w:=by
 have:k=0\/k=1\/k=2\/k=3\/k=4\/k=5\/k=6\/k=7\/k=8\/k=9\/k=10\/k=11\/k=12\/k=13\/k=14\/k=15\/k=16\/k=17\/k=18\/k=19:=by omega
 rcases this with rfl|rfl|rfl|rfl|rfl|rfl|rfl|rfl|rfl|rfl|rfl|rfl|rfl|rfl|rfl|rfl|rfl|rfl|rfl|rfl <;> rfl
theorem aai:∀(k:Fin 20),(cu vs)[k.val]? = some (.int .u8 (U (sym k.val))):=by intro ⟨k,hk⟩;rw [cu,VG];unfold sym Wo;rw [List.getElem?_eq_getElem (show k < vs.length from hk)];rfl
theorem Val.range {w:World} (hv:Val w):w.rangeAt 0 0 (cu vs):=fun j v hj=>by
 have hl:j < 20:=by have:=aA hj;rw [di] at this;exact this
 rw [aai ⟨j,hl⟩] at hj;rw [V5,<-VM hj];exact hv j hl
theorem Oj:Tryz.prog.underlying 208 = some (.array 20 5):=Tryz.underlying208
theorem R3:(Tryz.prog.info? 208).map (·.size)=some (cu vs).length:=by kernel_rfl
def jS (s:Byte):Value:=if idx s < 16 then .tuple #[.int .i64 (idx s:Int),.bool false,.int .i64 0] else if idx s < 20 then .tuple #[.int .i64 ((idx s:Int) - 16),.bool true,.int .i64 0] else .tuple #[.int .i64 0,.bool false,.int .i64 3]
theorem iH (s:Byte) (w:World) (hv:Val w):Calls Vs 96 #[.int .u8 (U s)] w fun e w'=>e=.returned (jS s)/\w=w':=by
 have HV:=aQ hv.range;have hi:=DY s;clear hv;go_enter Tryz.func96,Tryz.ntmps96;go_wp2_with (refine wpList_load_mid rfl 208 (.global 0) rfl 0 0 (by rfl) (cu vs) _ HV.out Oj rfl R3 ?_)
 go_loop [8] (fun i=>∃k:Nat,k<=idx s/\i=.int .i64 (k:Int)) (fun i=>20 - (intOf i).toNat)
 case atStart=>exact ⟨0,by omega,by go_num⟩
 case round=>
  obtain ⟨k,hk,rfl⟩:=hrel;by_cases hlt:k < 20
  ·have hix:=zL k hlt w
   unfold P5 at hix;by_cases he:k=idx s
   ·have hsy:sym k=s:=by rw [he];exact zm s (by omega)
    have hne:(sym k != s)=false:=by rw [hsy];simp
    have HE:=aQ he;by_cases h16:k < 16
    ·have uB:Hid (jS s=.tuple #[.int .i64 (k:Int),.bool false,.int .i64 0]):=aQ (by unfold jS;rw [<-HE.out,if_pos h16])
     clear he hsy;go_wp2_with fail
     go_ret3
     exact ⟨by rw [uB.out];rfl,rfl⟩
    ·have uB:Hid (jS s=.tuple #[.int .i64 ((k:Int) - 16),.bool true,.int .i64 0]):=aQ (by unfold jS;rw [<-HE.out,if_neg h16,if_pos hlt])
     clear he hsy;go_wp2_with fail
     go_ret3
     exact ⟨by rw [uB.out];rfl,rfl⟩
   ·have hsy:=KQ s ⟨k,hlt⟩ (by show k < idx s;omega)
    have hne:(sym k != s)=true:=by simpa using hsy
    clear hsy;go_wp2_with fail
    go_round
    case rel=>exact ⟨k+1,by omega,by go_num⟩
    case measure=>simp [intOf];omega
  ·have uB:Hid (jS s=.tuple #[.int .i64 0,.bool false,.int .i64 3]):=aQ (by unfold jS;rw [if_neg (by omega),if_neg (by omega)])
   go_wp2_with fail
   go_ret3
   exact ⟨by rw [uB.out];rfl,rfl⟩

theorem Ab {P:Program} {x:String × DataW Unit} {rest:List (String × DataW Unit)} {W:World} (h:laidMet P (x::rest) W):laidMet P rest W:=by
 obtain ⟨ps,⟨g,t,cs,fuel,p,q,_,_,_,_,hr,rfl⟩,hn,hc⟩:=h;exact ⟨q,hr,(List.nodup_append.1 hn).2.1,fun b off hb=>hc b off (List.mem_append_right _ hb)⟩
theorem RX {W:World} {name:String} (h:ZY Vs W name .u32 [0,498536548,997073096,651767980,1994146192,1802195444,1303535960,1342533948,3988292384,4027552580,3604390888,3412177804,2607071920,2262029012,2685067896,3183342108]) (hg:Tryz.prog.globalNamed name=some 1):uL W:=by
 intro r;have hlt:N (r &&& 15#32) < 16:=by have:=M4 r;rw [U_N] at this;omega
 have h1:=h.cell hg (N (r &&& 15#32)) (by simpa using hlt);rw [h1];have h2:∀k,k < 16->([0,498536548,997073096,651767980,1994146192,1802195444,1303535960,1342533948,3988292384,4027552580,3604390888,3412177804,2607071920,2262029012,2685067896,3183342108]:List Int).getD k 0=U (Ra.getD k 0):=by decide
 rw [h2 _ hlt];rfl
theorem RN {W:World} {name:String} (h:ZY Vs W name .u8 [7,11,13,14,19,21,22,25,26,28,35,37,38,41,42,44,49,50,52,56]) (hg:Tryz.prog.globalNamed name=some 0):Val W:=by
 intro k hk;have h1:=h.cell hg k (by simpa using hk);rw [h1];have h2:∀k,k < 20->([7,11,13,14,19,21,22,25,26,28,35,37,38,41,42,44,49,50,52,56]:List Int).getD k 0=U (sym k):=by decide
 rw [h2 _ hk]

theorem M3 (x:Byte):bits .and .u8 (x.toNat:Int) 15=(x.toNat:Int) % 16:=by
 have h:=(Gm x 15#8).2.1;have e:(U (15#8))=15:=by decide
 rw [e] at h;show bits .and .u8 (U x) 15=_;rw [h];unfold U;rw [Yw];have:x.toNat &&& (15#8).toNat=x.toNat % 16:=Nat.and_two_pow_sub_one_eq_mod _ 4;rw [this];rfl
theorem B_ (bs:List Byte) (k:Nat) (h:k < bs.length):encS (bs.take (k+1))=encS (bs.take k)++[sym ((bs.getD k 0).toNat / 16),sym ((bs.getD k 0).toNat % 16)]:=by
 rw [kD bs k 0 h,MO];rfl
def Nb (w:World) (B:Nat) (v:Value) (bs:List Byte):Prop:=Sl w (fun k=>B<=k) 5 1 v bs.length (cu bs)
section
variable {w w':World} {B:Nat} {v:Value} {bs:List Byte}
theorem Nb.by (h:Nb w B v bs):By w v bs:=Sl.rd h
theorem Nb.own (h:Nb w B v bs):∀b,v.ownBlock=some b->B<=b:=by
 intro b hb
 rcases h.2 with ⟨e,_⟩|⟨g,o,cp,cur,e,hF,_⟩
 ·rw [e] at hb;cases hb
 ·rw [e] at hb
  obtain rfl:g=b:=by simpa [Value.ownBlock] using hb
  exact hF
theorem Nb.below (h:Nb w B v bs) (hb:Below w.heap.size w w'):Nb w' B v bs:=Sl.keep h fun k _ hk=>hb.block k hk
theorem Nb.lower (h:Nb w B v bs) {C:Nat} (hc:C<=B):Nb w C v bs:=Sl.mono h fun k hk=>by omega
theorem Nb.nil (w:World) (B:Nat):Nb w B (.slice none 0 0) []:=Sl.nil _ _ _ _
theorem Nb.Qd (h:Ow 5 w B v bs):Nb w B v bs:=Sl.mQ h fun _ h=>h
theorem Nb.slice (h:Nb w B v bs):∃a c,v=.slice a bs.length c:=h.by.slice
theorem Nb.lit (w:World) (g:Nat) (bs:List Byte) (arr:Array Value) (n:Nat) (hg:g=w.heap.size) (hB:B<=w.heap.size) (hc:arr.toList=cu bs) (hn:n=bs.length) (hm:n<=1000000):Nb (w.alloc (.cells arr 5)) B (.slice (some ⟨g,0,none⟩) n n) bs:=by
 subst hg;subst hn;have hs:arr.size=bs.length:=by rw [<-Array.length_toList,hc,di]
 refine ⟨by rw [di,Xi],.inr ⟨w.heap.size,0,bs.length,arr,rfl,hB,heap_alloc_new w _,Vu _,by unfold maxLen;omega,by rw [hs];omega,?_⟩⟩;rw [List.drop_zero,hc,Xi,Wn (by rw [di];exact Vu _)]
end
theorem ai {w:World} {ops:Array Oper} {rest:List Oper} {o:Oper} {a:Act} {Q:Exit->Act->World->Prop}
  (hg:o.guard=none) (s x:Operand) (hop:o.op=Op.call { callee:=Xg Xw,args := #[s,x],argTypes := #[40,40] })
  (B:Nat) (v:Value) (xs:List Byte) (hs:a.eval s=v) (hown:Nb w B v xs) (y:Value) (ys:List Byte) (hx:a.eval x=y) (hr:By w y ys) (hl:xs.length+ys.length<=1000000) (hB:B<=w.heap.size)
  (hK:∀a' c' w',Nb w' B (.slice a' (xs.length+ys.length) c') (xs++ys)->Below B w w'->wpList Vs ops Q rest (a.put o.dst (.slice a' (xs.length+ys.length) c')) w'):wpList Vs ops Q (o::rest) a w:=by
 refine cQ Ao hg s x hop (fun k=>B<=k) v xs.length (cu xs) hs hown y ys.length (cu ys) hx hr iM (by unfold maxLen;omega) (by omega) fun v' w' h1 h2=>?_
 obtain ⟨a',c',rfl⟩:=h1.shape;refine hK a' c' w' ?_ (h2.below hB fun _ h=>h);unfold Nb;rw [Vx,<-uY];exact h1.mono fun k hk=>hk.elim id fun h=>VC hB h
theorem mV {ops:Array Oper} {o:Oper} {a:Act} {w:World} {K:Act->World->Prop} {Q:Exit->Act->World->Prop} {E:Prop}
  (hg:o.guard=none) (s x:Operand) (hop:o.op=Op.call { callee:=Xg Xw,args := #[s,x],argTypes := #[40,40] })
  (B:Nat) (v:Value) (xs:List Byte) (hs:a.eval s=v) (hown:Nb w B v xs) (y:Value) (ys:List Byte) (hx:a.eval x=y) (hr:By w y ys) (hl:xs.length+ys.length<=1000000) (hB:B<=w.heap.size)
  (hK:∀a' c' w',Nb w' B (.slice a' (xs.length+ys.length) c') (xs++ys)->Below B w w'->K (a.put o.dst (.slice a' (xs.length+ys.length) c')) w') :
  if VN o (yielded ops a.tmps)=true then WZ Vs o a w K Q else E:=by
 refine υ Ao hg s x hop (fun k=>B<=k) v xs.length (cu xs) hs hown y ys.length (cu ys) hx hr iM (by unfold maxLen;omega) (by omega) fun v' w' h1 h2=>?_
 obtain ⟨a',c',rfl⟩:=h1.shape;refine hK a' c' w' ?_ (h2.below hB fun _ h=>h);unfold Nb;rw [Vx,<-uY];exact h1.mono fun k hk=>hk.elim id fun h=>VC hB h
theorem O_ (v:Value) (bs:List Byte) (w:World) (hb:By w v bs) (hv:Val w) (hm:bs.length<=100000) :
  Calls Vs 67 #[v] w fun e w'=>∃v',e=.returned v'/\Nb w' w.heap.size v' (encS bs)/\Below w.heap.size w w':=by
 have HB:=aQ hb;have HV:=aQ hv;obtain ⟨a,cap,rfl⟩:=hb.slice;clear hb hv;go_enter Tryz.func67,Tryz.ntmps67;go_wp2_with (at_make;refine sw Ao rfl _ _ rfl w.heap.size _ rfl rfl (by omega) (by omega) (by unfold maxLen;omega) (Vu _) ?_;intro w1 hown1 hg1;have HB1:=aQ ((VQ w.heap.size w).grown hg1 (Vu _) (fun k e=>by cases e));have Dk:=aQ (show Nb w1 w.heap.size _ [] from Sl.mQ hown1 fun _ h=>h);clear hown1 hg1);go_loopw [3,12] (fun u3 i wr=>∃k:Nat,k<=bs.length/\i=.int .i64 (k:Int)/\Hid (Nb wr w.heap.size u3 (encS (bs.take k)))/\Hid (Below w.heap.size w wr)) (fun _ i _=>bs.length - (intOf i).toNat)
 case atStart=>exact ⟨0,by omega,by go_num,Dk,HB1⟩
 case round=>
  clear Dk HB1;obtain ⟨k,hk,rfl,HO,iV⟩:=hrel;by_cases hlt:k < bs.length
  ·obtain ⟨_,⟨h0,_⟩|⟨bb,off,cp,e,_,_,_,hc⟩⟩:=(HB.out.below iV.out).cases
   ·rw [h0] at hlt;simp at hlt
   ·obtain ⟨rfl,rfl⟩:a=some ⟨bb,off,none⟩/\cap=cp:=by simpa using e
    have hck:=hc k hlt;have HE:=aQ (B_ bs k hlt);clear hc e;generalize hx:bs.getD k 0=x at *;have HX:=aQ hx;clear hx;rw [nQ] at hck;have hx256:x.toNat < 256:=x.isLt;have hand:=M3 x;have hd1:(0:Int)<=(x.toNat:Int) / 16/\(x.toNat:Int) / 16 < 20:=by omega
    have hd2:((x.toNat:Int) / 16).toNat=x.toNat / 16:=by omega
    have hd3:(0:Int)<=(x.toNat:Int) % 16/\(x.toNat:Int) % 16 < 20:=by omega
    have hd4:((x.toNat:Int) % 16).toNat=x.toNat % 16:=by omega
    have hv1:=HV.out.below iV.out (x.toNat / 16) (by omega);have hv2:=HV.out.below iV.out (x.toNat % 16) (by omega);have hl2:(encS (bs.take k)).length<=200000:=by rw [eB,VW];omega
    generalize hxs:encS (bs.take k)=xs at *;have uA:=aQ hxs;clear hxs;obtain ⟨ua,uc,rfl⟩:=HO.out.slice;have hwr:=iV.out.size;have hg0 : 0 < w.heap.size:=Vv _ _ (HV.out 0 (by decide));go_wp2_with fail
    go_region_held3 (fun w'=>w'.cell? ⟨0,x.toNat / 16,none⟩=some (.int .u8 (U (sym (x.toNat / 16))))/\w'.cell? ⟨0,x.toNat % 16,none⟩=some (.int .u8 (U (sym (x.toNat % 16))))) (first|exact ⟨hv1,hv2⟩|exact ⟨hw1,hw2⟩|exact ⟨cell_later (show Below wr.heap.size wr _ by exact dC) hv1,cell_later (show Below wr.heap.size wr _ by exact dC) hv2⟩)
     ((refine mV (by rfl) _ _ (by rfl) w.heap.size _ xs (by rfl) (by exact HO.out.below (by exact dC)) _ [sym (x.toNat / 16),sym (x.toNat % 16)] (by rfl) (eX _ _ _ _ [sym (x.toNat / 16),sym (x.toNat % 16)] 2 2 (by simp) rfl rfl (Vu _) (by decide)) (by show xs.length+2<=_;omega) (by simp;omega) ?_;intro a' c' w2 hn2 hb2;have hw1:=(hb2.cell (p:=⟨0,x.toNat / 16,none⟩) hg0).trans (cell_later (show Below wr.heap.size wr _ by exact dC) hv1);have hw2:=(hb2.cell (p:=⟨0,x.toNat % 16,none⟩) hg0).trans (cell_later (show Below wr.heap.size wr _ by exact dC) hv2);have mI:=aQ hn2;have HB2:=aQ (iV.out.trans (Wi ((show Below wr.heap.size wr _ by exact dC).mono hwr) hb2));clear hn2 hb2))
    go_wp2_with fail;go_roundw
    case rel=>exact ⟨k+1,by omega,by go_num,aQ (by rw [HE.out];exact mI.out),HB2⟩
    case measure=>simp [intOf];omega
  ·obtain rfl:k=bs.length:=by omega
   go_wp2_with fail;go_ret;exact ⟨_,rfl,by have:=HO.out;rw [Xd] at this;exact this,iV.out⟩

def Nv:El (BitVec 8) where
 size:=1
 rd _ _ _ cs x:=cs=[.int .u8 (U x)]
 len h:=by rw [h];rfl
 keep h _ _:=h
 mono h _ _:=h
 one h u hu:=by rw [h] at hu;obtain rfl:=List.mem_singleton.1 hu;rfl
theorem Lg {w:World} {Z:BS}:∀ {F:BS} {us:List Value} {xs:List (BitVec 8)},fK Nv w F Z us xs->us=cu xs
 |_,_,[],h=>h
 |_,_,x::xs,⟨cs,rest,_,_,e,_,_,_,h1,h2⟩=>by
  rw [e,show cs=[.int .u8 (U x)] from h1,Lg h2];rfl
theorem RY {w:World} {T:TypeId} {F Z:BS} {v:Value} {xs:List (BitVec 8)} (h:Sq Nv T w F Z v xs):By w v xs:=by
 obtain ⟨K,D,us,_,_,_,h3,h4⟩:=h;have:=h3.rd;rwa [Lg h4] at this
theorem Li {w:World} {Z:BS}:∀xs:List (BitVec 8),fK Nv w (fun _=>False) Z (cu xs) xs
 |[]=>rfl
 |_::xs=>⟨_,_,_,_,rfl,fun _ f=>f,fun _ f=>f,fun _ f=>f.elim,rfl,Li xs⟩

abbrev JG (v:Value) (l:List (List (BitVec 8))):Th:=ζ (df Nv 5) 40 v l
theorem Nb.sq {w:World} {B:Nat} {v:Value} {xs:List (BitVec 8)} (h:Nb w B v xs):Sq Nv 5 w (fun k=>B<=k) (fun _=>False) v xs:=
 ⟨fun k=>B<=k/\k < w.heap.size,fun _=>False,cu xs,fun _ hk=>hk.elim (·.1) False.elim,fun _ _ f=>f,fun _ hk=>hk.2,h.bound,Li xs⟩
section
variable {F Z:BS} {W w:World} {ts:List Th}
theorem Ll {A B:BS} {v:Value} {l:List (List (BitVec 8))} (eD:Sq (df Nv 5) 40 w A B v l) {c:Nat} {xs:List (BitVec 8)} (hc:l[c]? = some xs) :
  ∃b off cap vc,v=.slice (some ⟨b,off,none⟩) l.length cap/\l.length<=cap/\w.cell? ⟨b,off+c,none⟩=some vc/\By w vc xs:=by
 obtain ⟨a,cap,rfl,hcap,_,_⟩:=Sq.le eD;obtain ⟨b,off,cs,A,rfl,_,⟨vc,rfl,hr⟩,_,hk⟩:=Sq.at eD (by decide) hc;have:=hk 0 vc rfl;simp only [df,Xi,Xp] at this;exact ⟨b,off,cap,vc,rfl,hcap,this,RY hr⟩
theorem dY.aal {v:Value} {l:List (List (BitVec 8))} (h:dY F Z W ts w) (i:Nat) (hi:ts[i]? = some (JG v l)) {c:Nat} {xs:List (BitVec 8)} (hc:l[c]? = some xs) :
  ∃b off cap vc,v=.slice (some ⟨b,off,none⟩) l.length cap/\l.length<=cap/\w.cell? ⟨b,off+c,none⟩=some vc/\By w vc xs:=by
 obtain ⟨G,Y,eD⟩:=h.get i hi;exact Ll (show Sq (df Nv 5) 40 w G Y v l from eD) hc
end

theorem BD (i n x:Nat) (hx:x < 2 ^ i) (hb:n*2 ^ i+x < 4611686018427387904):bits .or .i64 ((n*2 ^ i:Nat):Int) (x:Int)=((n*2 ^ i+x:Nat):Int):=by
 show IntKind.i64.wrap ((VU 64 ((n*2 ^ i:Nat):Int) ||| VU 64 (x:Int)).toNat:Int)=_;have h1:(VU 64 ((n*2 ^ i:Nat):Int)).toNat=n*2 ^ i:=by rw [YZ];omega
 have h2:(VU 64 (x:Int)).toNat=x:=by rw [YZ];omega
 rw [BitVec.toNat_or,h1,h2];have h3:n*2 ^ i ||| x=n*2 ^ i+x:=by rw [Nat.mul_comm,<-Nat.two_pow_add_eq_or_of_lt hx]
 rw [h3];exact V6 _ (by omega)
theorem Vq (u v:Nat) (hu:u < 16) (hv:v < 16):bits .or .i64 ((u:Int)*16) (v:Int)=((u*16+v:Nat):Int):=by
 have:=BD 4 u v (by omega) (by omega);exact this
theorem BX {ss:List Byte} {k:Nat} (h:∀j,j < k->au (ss.getD j 0)=true) (hk:k < ss.length) (hn:au (ss.getD k 0)=false):ss.findIdx? (fun s => !au s)=some k:=by
 rw [List.findIdx?_eq_some_iff_getElem];refine ⟨hk,?_,fun j hj=>?_⟩
 ·have:ss[k]=ss.getD k 0:=by simp [Wo,hk]
  rw [this,hn];rfl
 ·have hjl:j < ss.length:=by omega
  have:ss[j]=ss.getD j 0:=by simp [Wo,hjl]
  rw [this,h j hj];simp
theorem Ci {ss:List Byte} (h:∀j,j < ss.length->au (ss.getD j 0)=true):∀s ∈ ss,au s=true:=fun s hs=>by
 obtain ⟨j,hj,rfl⟩:=List.getElem_of_mem hs;have:=h j hj;simpa [Wo,hj] using this
theorem yu (ss:List Byte) (m:Nat) (h:2*m+1 < ss.length):jZ (ss.take (2*(m+1)))=jZ (ss.take (2*m))++[V4 8 (16*idx (ss.getD (2*m) 0)+idx (ss.getD (2*m+1) 0))]:=by
 have e:ss.take (2*(m+1))=ss.take (2*m)++[ss.getD (2*m) 0,ss.getD (2*m+1) 0]:=by
  rw [show 2*(m+1)=(2*m+1)+1 by omega,kD ss (2*m+1) 0 h,kD ss (2*m) 0 (by omega),VE];rfl
 rw [e,Cf _ _ _ (by rw [VW];omega)]
def uk (w:World) (ss:List Byte) (e:Ending) (w':World):Prop:=∃v',e=.returned (.tuple #[v',.int .i64 (ik ss).2.1,.int .i64 (ik ss).2.2])/\Nb w' w.heap.size v' (ik ss).1/\Below w.heap.size w w'
theorem uk.mk {w w':World} {ss:List Byte} {r:List Byte × Int × Int} (h:ik ss=r) {v':Value} (h1:Nb w' w.heap.size v' r.1) (h2:Below w.heap.size w w'):uk w ss (.returned (.tuple #[v',.int .i64 r.2.1,.int .i64 r.2.2])) w':=by
 subst h;exact ⟨v',rfl,h1,h2⟩
theorem Pg (v:Value) (ss:List Byte) (w:World) (hb:By w v ss) (hv:Val w) (hm:ss.length<=100000) :
  Calls Vs 132 #[v] w (uk w ss):=by
 have HB:=aQ hb;have HV:=aQ hv;obtain ⟨a,cap,rfl⟩:=hb.slice;clear hb hv;go_enter Tryz.func132,Tryz.ntmps132;go_wp2_with (at_make;refine sw Ao rfl _ _ rfl w.heap.size _ rfl rfl (by omega) (by omega) (by unfold maxLen;omega) (Vu _) ?_;intro w1 hown1 hg1;have HB1:=aQ ((VQ w.heap.size w).grown hg1 (Vu _) (fun k e=>by cases e));have Dk:=aQ (show Nb w1 w.heap.size _ [] from Sl.mQ hown1 fun _ h=>h);clear hown1 hg1);go_loopw [5,6,18] (fun u5 u6 i wr=>∃(k m up:Nat),k<=ss.length/\i=.int .i64 (k:Int)/\u6=.int .i64 (up:Int)/\up < 16/\2*m<=k/\k<=2*m+1/\Hid (k=2*m+1->up=idx (ss.getD (2*m) 0))/\Hid (∀j,j < k->au (ss.getD j 0)=true)/\Hid (Nb wr w.heap.size u5 (jZ (ss.take (2*m))))/\Hid (Below w.heap.size w wr)) (fun _ _ i _=>ss.length - (intOf i).toNat)
 case atStart=>exact ⟨0,0,0,by omega,by go_num,by go_num,by omega,by omega,by omega,aQ (by omega),aQ (fun j hj=>by omega),Dk,HB1⟩
 case round=>
  clear Dk HB1;obtain ⟨k,m,up,hk,rfl,rfl,hup,abG,abF,Uk,Q4,HO,iV⟩:=hrel;by_cases hlt:k < ss.length
  ·obtain ⟨_,⟨h0,_⟩|⟨bb,off,cp,e,_,_,_,hc⟩⟩:=(HB.out.below iV.out).cases
   ·rw [h0] at hlt;simp at hlt
   ·obtain ⟨rfl,rfl⟩:a=some ⟨bb,off,none⟩/\cap=cp:=by simpa using e
    have hck:=hc k hlt;clear hc e;obtain ⟨x,hx⟩:∃x,x=ss.getD k 0:=⟨_,rfl⟩;rw [<-hx] at hck;have HX:=aQ hx;clear hx;by_cases hd:idx x < 16
    ·have uB:Hid (jS x=.tuple #[.int .i64 (idx x:Int),.bool false,.int .i64 0]):=aQ (by unfold jS;rw [if_pos hd])
     obtain ⟨y,hy⟩:∃y,y=idx x:=⟨_,rfl⟩;rw [<-hy] at hd uB;have HY:=aQ hy;clear hy
     have Oh:Hid (∀j,j < k+1->au (ss.getD j 0)=true):=aQ (fun j hj=>by
      by_cases hjk:j=k
      ·rw [hjk,<-HX.out];unfold au;rw [<-HY.out];simpa using hd
      ·exact Q4.out j (by omega))
     go_wp2_with fail;refine (iH x wr (HV.out.below iV.out)).mono ?_;rintro e w' ⟨rfl,rfl⟩;rw [uB.out];by_cases he:k=2*m
     ·have hev:((k:Int) % 2 == 0)=true:=by simp;omega
      have HE:=aQ he;clear he;go_wp2_with fail;go_roundw
      case rel=>exact ⟨k+1,m,y,by omega,by go_num,by go_num,hd,by have:=HE.out;omega,by have:=HE.out;omega,aQ (fun _=>by rw [HY.out,HX.out,HE.out]),Oh,HO,iV⟩
      case measure=>simp [intOf];omega
     ·have hev:((k:Int) % 2 == 0)=false:=by simp;omega
      have UT:=Uk.out (by omega);have HU1:=aQ UT;have hor:=Vq up y hup hd;have HD2:=aQ (yu ss m (by omega));have HN:=aQ he;clear UT he;have hxl:(jZ (ss.take (2*m))).length<=100000:=by rw [jO,VW];omega
      obtain ⟨bt,hbt⟩:∃bt:Byte,bt=V4 8 (16*up+y):=⟨_,rfl⟩
      have HBT:=aQ (show [VS .u8 ((up:Int)*16+(y:Int))]=cu [bt] by
       have e1:(up:Int)*16+(y:Int)=((16*up+y:Nat):Int):=by omega
       have e2:U bt=((16*up+y:Nat):Int):=by rw [hbt];unfold U;rw [Xq];omega
       rw [e1,<-e2];rfl)
      have HD3:=aQ (show jZ (ss.take (2*(m+1)))=jZ (ss.take (2*m))++[bt] by
       have hk1:k=2*m+1:=by have:=HN.out;omega
       rw [HD2.out,hbt,HU1.out,HY.out,HX.out,hk1])
      clear hbt;generalize jZ (ss.take (2*m))=xs at *;have hwr:=iV.out.size;go_wp2_with (at_builtin;refine ai rfl _ _ rfl w.heap.size _ xs rfl (by exact HO.out.below (by exact dC)) _ [bt] rfl (eX _ _ _ _ [bt] 1 1 rfl HBT.out rfl (Vu _) (by decide)) (by show xs.length+1<=_;omega) (by simp;omega) ?_;intro a' c' w2 hn2 hb2;have mI:=aQ hn2;have HB2:=aQ (iV.out.trans (Wi ((show Below wr.heap.size wr _ by exact dC).mono hwr) hb2));clear hn2 hb2);go_roundw
      case rel=>exact ⟨k+1,m+1,up,by omega,by go_num,rfl,hup,by have:=HN.out;omega,by have:=HN.out;omega,aQ (fun h=>by have:=HN.out;omega),Oh,aQ (by rw [HD3.out];exact mI.out),HB2⟩
      case measure=>simp [intOf];omega
    ·have hdf:au x=false:=by unfold au;simpa using hd
     have Uz:=aQ (Ce (BX Q4.out hlt (by rw [<-HX.out];exact hdf)));have NW:=DY x;by_cases h20:idx x < 20
     ·have uB:Hid (jS x=.tuple #[.int .i64 ((idx x:Int) - 16),.bool true,.int .i64 0]):=aQ (by unfold jS;rw [if_neg hd,if_pos h20])
      go_wp2_with fail;refine (iH x wr (HV.out.below iV.out)).mono ?_;rintro e w' ⟨rfl,rfl⟩;rw [uB.out];go_wp2_with fail
      go_ret3
      exact uk.mk Uz.out (Nb.nil _ _) iV.out
     ·have uB:Hid (jS x=.tuple #[.int .i64 0,.bool false,.int .i64 3]):=aQ (by unfold jS;rw [if_neg hd,if_neg h20])
      go_wp2_with fail;refine (iH x wr (HV.out.below iV.out)).mono ?_;rintro e w' ⟨rfl,rfl⟩;rw [uB.out];go_wp2_with fail
      go_ret3
      exact uk.mk Uz.out (Nb.nil _ _) iV.out
  ·have hkl:k=ss.length:=by omega
   have HKL:=aQ hkl;have HAD:=aQ (Ci (ss:=ss) (by rw [<-hkl];exact Q4.out));clear hkl;by_cases hev:ss.length % 2=0
   ·have htt:((ss.length:Int) % 2 != 0)=false:=by simp;omega
    have Q3:=aQ (sO HAD.out hev);have sV:=aQ (show ss.take (2*m)=ss from Wn (by have:=HKL.out;omega));clear hev;go_wp2_with fail
    go_ret3
    exact uk.mk Q3.out (by have:=HO.out;rw [sV.out] at this;exact this) iV.out
   ·have htt:((ss.length:Int) % 2 != 0)=true:=by simp;omega
    have Q3:=aQ (Cc HAD.out hev);clear hev;go_wp2_with fail
    go_ret3
    exact uk.mk Q3.out (Nb.nil _ _) iV.out

theorem qO {a b:Bool} (h:a=b):Ending.returned (.bool a)=.returned (.bool b):=by rw [h]
theorem vQ (p:Pk) (a:Option Addr) (c:Nat) (w:World) (hg:Good p) :
  Calls Vs 106 #[.agg #[.int .u8 (U p.kind),.int .i64 p.cls,.int .i64 p.number,.int .i64 p.value,.slice a p.pay.length c]] w fun e w'=>e=.returned (.bool true)/\Below w.heap.size w w':=by
 have h1:(U p.kind != 0)=true:=by have:=qZ p.kind 0#8;rw [show U (0#8)=0 by decide] at this;rw [this];simpa using hg.kind
 have h2:=hg.c0;have h3:=hg.c1;have h4:=hg.n0;have h5:=hg.n1;have h6:=hg.v0;have h7:=hg.v1;have h8:=hg.pay;clear hg;go_enter Tryz.func106,Tryz.ntmps106;go_wp2_with fail;go_ret;exact ⟨qO (decide_eq_true (by omega)),by exact dC⟩
theorem xK (p:Pk) (a:Option Addr) (c:Nat) (w:World) (hg:¬Good p) :
  Calls Vs 106 #[.agg #[.int .u8 (U p.kind),.int .i64 p.cls,.int .i64 p.number,.int .i64 p.value,.slice a p.pay.length c]] w fun e w'=>e=.returned (.bool false)/\Below w.heap.size w w':=by
 have hcs:p.kind=0\/(p.kind≠0/\p.cls < 0)\/(p.kind≠0/\0<=p.cls/\4<=p.cls)\/(p.kind≠0/\0<=p.cls/\p.cls < 4/\p.number < 0)\/(p.kind≠0/\0<=p.cls/\p.cls < 4/\0<=p.number/\1099511627776<=p.number)\/(p.kind≠0/\0<=p.cls/\p.cls < 4/\0<=p.number/\p.number < 1099511627776/\p.value < 0)\/(p.kind≠0/\0<=p.cls/\p.cls < 4/\0<=p.number/\p.number < 1099511627776/\0<=p.value/\1099511627776<=p.value)\/(p.kind≠0/\0<=p.cls/\p.cls < 4/\0<=p.number/\p.number < 1099511627776/\0<=p.value/\p.value < 1099511627776/\64 < p.pay.length):=by
  by_cases hk:p.kind=0
  ·exact .inl hk
  ·have:¬(0<=p.cls/\p.cls < 4/\0<=p.number/\p.number < 1099511627776/\0<=p.value/\p.value < 1099511627776/\p.pay.length<=64):=fun ⟨b,c,d,e,f,g,h⟩=>hg ⟨hk,b,c,d,e,f,g,h⟩
   simp only [ne_eq,hk,not_false_eq_true,true_and,false_or];omega
 have hkk:p.kind≠0->(U p.kind != 0)=true:=fun hk=>by have:=qZ p.kind 0#8;rw [show U (0#8)=0 by decide] at this;rw [this];simpa using hk
 have HKK:=aQ hkk;clear hg hkk
 rcases hcs with h1|⟨h1,h2⟩|⟨h1,h2,h3⟩|⟨h1,h2,h3,h4⟩|⟨h1,h2,h3,h4,h5⟩|⟨h1,h2,h3,h4,h5,h6⟩|⟨h1,h2,h3,h4,h5,h6,h7⟩|⟨h1,h2,h3,h4,h5,h6,h7,h8⟩
 case' inl=>have hz:(U p.kind != 0)=false:=by rw [h1];decide
 case' inr.inl=>have hz:=HKK.out h1
 case' inr.inr.inl=>have hz:=HKK.out h1
 case' inr.inr.inr.inl=>have hz:=HKK.out h1
 case' inr.inr.inr.inr.inl=>have hz:=HKK.out h1
 case' inr.inr.inr.inr.inr.inl=>have hz:=HKK.out h1
 case' inr.inr.inr.inr.inr.inr.inl=>have hz:=HKK.out h1
 case' inr.inr.inr.inr.inr.inr.inr=>have hz:=HKK.out h1
 all_goals
  clear h1;go_enter Tryz.func106,Tryz.ntmps106;go_wp2_with fail;go_ret
  first
   |exact ⟨rfl,by exact dC⟩
   |exact ⟨qO (decide_eq_false (by omega)),by exact dC⟩
theorem xq (p:Pk) (a:Option Addr) (c:Nat) (w:World) (hg:Good p) :
  Calls Vs 116 #[.agg #[.int .u8 (U p.kind),.int .i64 p.cls,.int .i64 p.number,.int .i64 p.value,.slice a p.pay.length c]] w fun e w'=>e=.returned (.bool true)/\Below w.heap.size w w':=by
 have h1:(U p.kind != 0)=true:=by have:=qZ p.kind 0#8;rw [show U (0#8)=0 by decide] at this;rw [this];simpa using hg.kind
 have h2:=hg.c0;have h3:=hg.c1;have h4:=hg.n0;have h5:=hg.n1;have h6:=hg.v0;have h7:=hg.v1;have h8:=hg.pay;clear hg;go_enter Tryz.func116,Tryz.ntmps116;go_wp2_with fail;go_ret;exact ⟨qO (decide_eq_true (by omega)),by exact dC⟩
theorem zT (p:Pk) (a:Option Addr) (c:Nat) (w:World) (hg:¬Good p) :
  Calls Vs 116 #[.agg #[.int .u8 (U p.kind),.int .i64 p.cls,.int .i64 p.number,.int .i64 p.value,.slice a p.pay.length c]] w fun e w'=>e=.returned (.bool false)/\Below w.heap.size w w':=by
 have hcs:p.kind=0\/(p.kind≠0/\p.cls < 0)\/(p.kind≠0/\0<=p.cls/\4<=p.cls)\/(p.kind≠0/\0<=p.cls/\p.cls < 4/\p.number < 0)\/(p.kind≠0/\0<=p.cls/\p.cls < 4/\0<=p.number/\1099511627776<=p.number)\/(p.kind≠0/\0<=p.cls/\p.cls < 4/\0<=p.number/\p.number < 1099511627776/\p.value < 0)\/(p.kind≠0/\0<=p.cls/\p.cls < 4/\0<=p.number/\p.number < 1099511627776/\0<=p.value/\1099511627776<=p.value)\/(p.kind≠0/\0<=p.cls/\p.cls < 4/\0<=p.number/\p.number < 1099511627776/\0<=p.value/\p.value < 1099511627776/\64 < p.pay.length):=by
  by_cases hk:p.kind=0
  ·exact .inl hk
  ·have:¬(0<=p.cls/\p.cls < 4/\0<=p.number/\p.number < 1099511627776/\0<=p.value/\p.value < 1099511627776/\p.pay.length<=64):=fun ⟨b,c,d,e,f,g,h⟩=>hg ⟨hk,b,c,d,e,f,g,h⟩
   simp only [ne_eq,hk,not_false_eq_true,true_and,false_or];omega
 have hkk:p.kind≠0->(U p.kind != 0)=true:=fun hk=>by have:=qZ p.kind 0#8;rw [show U (0#8)=0 by decide] at this;rw [this];simpa using hk
 have HKK:=aQ hkk;clear hg hkk
 rcases hcs with h1|⟨h1,h2⟩|⟨h1,h2,h3⟩|⟨h1,h2,h3,h4⟩|⟨h1,h2,h3,h4,h5⟩|⟨h1,h2,h3,h4,h5,h6⟩|⟨h1,h2,h3,h4,h5,h6,h7⟩|⟨h1,h2,h3,h4,h5,h6,h7,h8⟩
 case' inl=>have hz:(U p.kind != 0)=false:=by rw [h1];decide
 case' inr.inl=>have hz:=HKK.out h1
 case' inr.inr.inl=>have hz:=HKK.out h1
 case' inr.inr.inr.inl=>have hz:=HKK.out h1
 case' inr.inr.inr.inr.inl=>have hz:=HKK.out h1
 case' inr.inr.inr.inr.inr.inl=>have hz:=HKK.out h1
 case' inr.inr.inr.inr.inr.inr.inl=>have hz:=HKK.out h1
 case' inr.inr.inr.inr.inr.inr.inr=>have hz:=HKK.out h1
 all_goals
  clear h1;go_enter Tryz.func116,Tryz.ntmps116;go_wp2_with fail;go_ret
  first
   |exact ⟨rfl,by exact dC⟩
   |exact ⟨qO (decide_eq_false (by omega)),by exact dC⟩

theorem GY (p:Pk) (a:Option Addr) (c:Nat) (w:World):Calls Vs 106 #[.agg #[.int .u8 (U p.kind),.int .i64 p.cls,.int .i64 p.number,.int .i64 p.value,.slice a p.pay.length c]] w fun e w'=>e=.returned (.bool (iK p))/\Below w.heap.size w w':=by
 by_cases h:Good p
 ·have:=fB.2 h;rw [this];exact vQ p a c w h
 ·have:iK p=false:=by rw [XH];exact fun e=>h (fB.1 e)
  rw [this];exact xK p a c w h
theorem zU (p:Pk) (a:Option Addr) (c:Nat) (w:World):Calls Vs 116 #[.agg #[.int .u8 (U p.kind),.int .i64 p.cls,.int .i64 p.number,.int .i64 p.value,.slice a p.pay.length c]] w fun e w'=>e=.returned (.bool (iK p))/\Below w.heap.size w w':=by
 by_cases h:Good p
 ·have:=fB.2 h;rw [this];exact xq p a c w h
 ·have:iK p=false:=by rw [XH];exact fun e=>h (fB.1 e)
  rw [this];exact zT p a c w h
theorem ou (n:Nat):(five n).length=5:=rfl
theorem pg (n k d:Nat) (hd:d=2 ^ (8*(4 - k))):U (jq n k)=((n / d % 256:Nat):Int):=by
 unfold U jq;rw [Xq,hd]
theorem wE (n:Nat) (hn:n < 1099511627776) (B:Nat) (v:Value) (xs:List Byte) (w:World) (hv:Nb w B v xs) (hB:B<=w.heap.size) (hl:xs.length<=1000) :
  Calls Vs 107 #[v,.int .i64 (n:Int)] w fun e w'=>∃v',e=.returned v'/\Nb w' B v' (xs++five n)/\Below B w w':=by
 have HV:=aQ hv;clear hv;go_enter Tryz.func107,Tryz.ntmps107;go_wp2_with fail;go_loopw [0,6] (fun u0 i wr=>∃k:Nat,k<=5/\i=.int .i64 (k:Int)/\Hid (Nb wr B u0 (xs++(five n).take k))/\Hid (Below B w wr)) (fun _ i _=>5 - (intOf i).toNat)
 case atStart=>exact ⟨0,by omega,by go_num,aQ (by rw [VI,Wp];exact HV.out),aQ (VQ _ _)⟩
 case round=>
  obtain ⟨k,hk,rfl,HO,iV⟩:=hrel;have JJ:B<=wr.heap.size:=VC hB iV.out.size;by_cases hlt:k < 5
  ·have HE:=aQ (show xs++(five n).take (k+1)=(xs++(five n).take k)++[jq n k] by rw [ym n k hlt,VE])
   have hxl:(xs++(five n).take k).length<=1005:=by rw [Vx,VW];omega
   have hk5:k=0\/k=1\/k=2\/k=3\/k=4:=by omega
   rcases hk5 with rfl|rfl|rfl|rfl|rfl
   ·have HD:=aQ (show [VS .u8 ((n:Int) / 4294967296)]=cu [jq n 0] by show _=[VS .u8 (U (jq n 0))];rw [pg n 0 4294967296 rfl];first|done|rfl|(congr 2;omega));generalize xs++(five n).take 0=ys at *;go_wp2_with (at_builtin;refine ai rfl _ _ rfl B _ ys rfl (by exact HO.out.below (by exact dC)) _ [jq n 0] rfl (eX _ _ _ _ [jq n 0] 1 1 rfl HD.out rfl (Vu _) (by decide)) (by show ys.length+1<=_;omega) (by simp;omega) ?_;intro a' c' w2 hn2 hb2;have mI:=aQ hn2;have HB2:=aQ (iV.out.trans (Wi ((show Below wr.heap.size wr _ by exact dC).mono JJ) hb2));clear hn2 hb2);go_roundw;(case rel=>exact ⟨0+1,by omega,by go_num,aQ (by rw [HE.out];exact mI.out),HB2⟩);(case measure=>first|(simp [intOf];done)|(simp [intOf];omega))
   ·have HD:=aQ (show [VS .u8 ((n:Int) / 16777216 % 256)]=cu [jq n 1] by show _=[VS .u8 (U (jq n 1))];rw [pg n 1 16777216 rfl];first|done|rfl|(congr 2;omega));generalize xs++(five n).take 1=ys at *;go_wp2_with (at_builtin;refine ai rfl _ _ rfl B _ ys rfl (by exact HO.out.below (by exact dC)) _ [jq n 1] rfl (eX _ _ _ _ [jq n 1] 1 1 rfl HD.out rfl (Vu _) (by decide)) (by show ys.length+1<=_;omega) (by simp;omega) ?_;intro a' c' w2 hn2 hb2;have mI:=aQ hn2;have HB2:=aQ (iV.out.trans (Wi ((show Below wr.heap.size wr _ by exact dC).mono JJ) hb2));clear hn2 hb2);go_roundw;(case rel=>exact ⟨1+1,by omega,by go_num,aQ (by rw [HE.out];exact mI.out),HB2⟩);(case measure=>first|(simp [intOf];done)|(simp [intOf];omega))
   ·have HD:=aQ (show [VS .u8 ((n:Int) / 65536 % 256)]=cu [jq n 2] by show _=[VS .u8 (U (jq n 2))];rw [pg n 2 65536 rfl];first|done|rfl|(congr 2;omega));generalize xs++(five n).take 2=ys at *;go_wp2_with (at_builtin;refine ai rfl _ _ rfl B _ ys rfl (by exact HO.out.below (by exact dC)) _ [jq n 2] rfl (eX _ _ _ _ [jq n 2] 1 1 rfl HD.out rfl (Vu _) (by decide)) (by show ys.length+1<=_;omega) (by simp;omega) ?_;intro a' c' w2 hn2 hb2;have mI:=aQ hn2;have HB2:=aQ (iV.out.trans (Wi ((show Below wr.heap.size wr _ by exact dC).mono JJ) hb2));clear hn2 hb2);go_roundw;(case rel=>exact ⟨2+1,by omega,by go_num,aQ (by rw [HE.out];exact mI.out),HB2⟩);(case measure=>first|(simp [intOf];done)|(simp [intOf];omega))
   ·have HD:=aQ (show [VS .u8 ((n:Int) / 256 % 256)]=cu [jq n 3] by show _=[VS .u8 (U (jq n 3))];rw [pg n 3 256 rfl];first|done|rfl|(congr 2;omega));generalize xs++(five n).take 3=ys at *;go_wp2_with (at_builtin;refine ai rfl _ _ rfl B _ ys rfl (by exact HO.out.below (by exact dC)) _ [jq n 3] rfl (eX _ _ _ _ [jq n 3] 1 1 rfl HD.out rfl (Vu _) (by decide)) (by show ys.length+1<=_;omega) (by simp;omega) ?_;intro a' c' w2 hn2 hb2;have mI:=aQ hn2;have HB2:=aQ (iV.out.trans (Wi ((show Below wr.heap.size wr _ by exact dC).mono JJ) hb2));clear hn2 hb2);go_roundw;(case rel=>exact ⟨3+1,by omega,by go_num,aQ (by rw [HE.out];exact mI.out),HB2⟩);(case measure=>first|(simp [intOf];done)|(simp [intOf];omega))
   ·have HD:=aQ (show [VS .u8 ((n:Int) % 256)]=cu [jq n 4] by show _=[VS .u8 (U (jq n 4))];rw [pg n 4 1 rfl];first|done|rfl|(congr 2;omega));generalize xs++(five n).take 4=ys at *;go_wp2_with (at_builtin;refine ai rfl _ _ rfl B _ ys rfl (by exact HO.out.below (by exact dC)) _ [jq n 4] rfl (eX _ _ _ _ [jq n 4] 1 1 rfl HD.out rfl (Vu _) (by decide)) (by show ys.length+1<=_;omega) (by simp;omega) ?_;intro a' c' w2 hn2 hb2;have mI:=aQ hn2;have HB2:=aQ (iV.out.trans (Wi ((show Below wr.heap.size wr _ by exact dC).mono JJ) hb2));clear hn2 hb2);go_roundw;(case rel=>exact ⟨4+1,by omega,by go_num,aQ (by rw [HE.out];exact mI.out),HB2⟩);(case measure=>first|(simp [intOf];done)|(simp [intOf];omega))
  ·obtain rfl:k=5:=by omega
   go_wp2_with fail;go_ret;exact ⟨_,rfl,by have:=HO.out;rw [Wn (by simp [five])] at this;exact this,iV.out⟩
theorem tN (n:Nat) (hn:n < 1099511627776) (w:World) :
  Calls Vs 124 #[.int .i64 (n:Int)] w fun e w'=>∃a c,e=.returned (.slice a 5 c)/\Nb w' w.heap.size (.slice a 5 c) (five n)/\Below w.heap.size w w':=by
 obtain ⟨B,hB0⟩:∃B,B=w.heap.size:=⟨_,rfl⟩;rw [<-hB0];have hB:B<=w.heap.size:=Nat.le_of_eq hB0;clear hB0;obtain ⟨xs,hxs⟩:∃xs:List Byte,xs=[]:=⟨_,rfl⟩;have uA:=aQ hxs;have hl:xs.length<=0:=by rw [hxs];exact Vu _
 clear hxs;go_enter Tryz.func124,Tryz.ntmps124;go_wp2_with fail;go_loopw [3,4] (fun u3 i wr=>∃k:Nat,k<=5/\i=.int .i64 (4 - (k:Int))/\Hid (Nb wr B u3 (xs++(five n).take k))/\Hid (Below B w wr)) (fun _ i _=>(intOf i+1).toNat)
 case atStart=>exact ⟨0,by omega,by go_num,aQ (by rw [uA.out,VI];exact Nb.nil _ _),aQ (VQ _ _)⟩
 case round=>
  obtain ⟨k,hk,rfl,HO,iV⟩:=hrel;have JJ:B<=wr.heap.size:=VC hB iV.out.size;by_cases hlt:k < 5
  ·have HE:=aQ (show xs++(five n).take (k+1)=(xs++(five n).take k)++[jq n k] by rw [ym n k hlt,VE])
   have hxl:(xs++(five n).take k).length<=5:=by rw [Vx,VW];omega
   have hk5:k=0\/k=1\/k=2\/k=3\/k=4:=by omega
   rcases hk5 with rfl|rfl|rfl|rfl|rfl
   ·have HD:=aQ (show [VS .u8 ((n:Int) / 4294967296)]=cu [jq n 0] by show _=[VS .u8 (U (jq n 0))];rw [pg n 0 4294967296 rfl];first|done|rfl|(congr 2;omega));generalize xs++(five n).take 0=ys at *;go_wp2_with (at_builtin;refine ai rfl _ _ rfl B _ ys rfl (by exact HO.out.below (by exact dC)) _ [jq n 0] rfl (eX _ _ _ _ [jq n 0] 1 1 rfl HD.out rfl (Vu _) (by decide)) (by show ys.length+1<=_;omega) (by simp;omega) ?_;intro a' c' w2 hn2 hb2;have mI:=aQ hn2;have HB2:=aQ (iV.out.trans (Wi ((show Below wr.heap.size wr _ by exact dC).mono JJ) hb2));clear hn2 hb2);go_roundw;(case rel=>exact ⟨0+1,by omega,by go_num,aQ (by rw [HE.out];exact mI.out),HB2⟩);(case measure=>first|(simp [intOf];done)|(simp [intOf];omega))
   ·have HD:=aQ (show [VS .u8 ((n:Int) / 16777216 % 256)]=cu [jq n 1] by show _=[VS .u8 (U (jq n 1))];rw [pg n 1 16777216 rfl];first|done|rfl|(congr 2;omega));generalize xs++(five n).take 1=ys at *;go_wp2_with (at_builtin;refine ai rfl _ _ rfl B _ ys rfl (by exact HO.out.below (by exact dC)) _ [jq n 1] rfl (eX _ _ _ _ [jq n 1] 1 1 rfl HD.out rfl (Vu _) (by decide)) (by show ys.length+1<=_;omega) (by simp;omega) ?_;intro a' c' w2 hn2 hb2;have mI:=aQ hn2;have HB2:=aQ (iV.out.trans (Wi ((show Below wr.heap.size wr _ by exact dC).mono JJ) hb2));clear hn2 hb2);go_roundw;(case rel=>exact ⟨1+1,by omega,by go_num,aQ (by rw [HE.out];exact mI.out),HB2⟩);(case measure=>first|(simp [intOf];done)|(simp [intOf];omega))
   ·have HD:=aQ (show [VS .u8 ((n:Int) / 65536 % 256)]=cu [jq n 2] by show _=[VS .u8 (U (jq n 2))];rw [pg n 2 65536 rfl];first|done|rfl|(congr 2;omega));generalize xs++(five n).take 2=ys at *;go_wp2_with (at_builtin;refine ai rfl _ _ rfl B _ ys rfl (by exact HO.out.below (by exact dC)) _ [jq n 2] rfl (eX _ _ _ _ [jq n 2] 1 1 rfl HD.out rfl (Vu _) (by decide)) (by show ys.length+1<=_;omega) (by simp;omega) ?_;intro a' c' w2 hn2 hb2;have mI:=aQ hn2;have HB2:=aQ (iV.out.trans (Wi ((show Below wr.heap.size wr _ by exact dC).mono JJ) hb2));clear hn2 hb2);go_roundw;(case rel=>exact ⟨2+1,by omega,by go_num,aQ (by rw [HE.out];exact mI.out),HB2⟩);(case measure=>first|(simp [intOf];done)|(simp [intOf];omega))
   ·have HD:=aQ (show [VS .u8 ((n:Int) / 256 % 256)]=cu [jq n 3] by show _=[VS .u8 (U (jq n 3))];rw [pg n 3 256 rfl];first|done|rfl|(congr 2;omega));generalize xs++(five n).take 3=ys at *;go_wp2_with (at_builtin;refine ai rfl _ _ rfl B _ ys rfl (by exact HO.out.below (by exact dC)) _ [jq n 3] rfl (eX _ _ _ _ [jq n 3] 1 1 rfl HD.out rfl (Vu _) (by decide)) (by show ys.length+1<=_;omega) (by simp;omega) ?_;intro a' c' w2 hn2 hb2;have mI:=aQ hn2;have HB2:=aQ (iV.out.trans (Wi ((show Below wr.heap.size wr _ by exact dC).mono JJ) hb2));clear hn2 hb2);go_roundw;(case rel=>exact ⟨3+1,by omega,by go_num,aQ (by rw [HE.out];exact mI.out),HB2⟩);(case measure=>first|(simp [intOf];done)|(simp [intOf];omega))
   ·have HD:=aQ (show [VS .u8 ((n:Int) % 256)]=cu [jq n 4] by show _=[VS .u8 (U (jq n 4))];rw [pg n 4 1 rfl];first|done|rfl|(congr 2;omega));generalize xs++(five n).take 4=ys at *;go_wp2_with (at_builtin;refine ai rfl _ _ rfl B _ ys rfl (by exact HO.out.below (by exact dC)) _ [jq n 4] rfl (eX _ _ _ _ [jq n 4] 1 1 rfl HD.out rfl (Vu _) (by decide)) (by show ys.length+1<=_;omega) (by simp;omega) ?_;intro a' c' w2 hn2 hb2;have mI:=aQ hn2;have HB2:=aQ (iV.out.trans (Wi ((show Below wr.heap.size wr _ by exact dC).mono JJ) hb2));clear hn2 hb2);go_roundw;(case rel=>exact ⟨4+1,by omega,by go_num,aQ (by rw [HE.out];exact mI.out),HB2⟩);(case measure=>first|(simp [intOf];done)|(simp [intOf];omega))
  ·obtain rfl:k=5:=by omega
   have HF:=aQ (show Nb wr B _ (five n) by have:=HO.out;rw [uA.out,Wn (by simp [five])] at this;exact this);obtain ⟨a,c,rfl⟩:=HF.out.slice;go_wp2_with fail;go_ret;exact ⟨a,c,rfl,HF.out,iV.out⟩

theorem Si (n x:Nat) (hn:n < 4294967296) (hx:x < 256):bits .or .i64 ((n:Int)*256) (x:Int)=((256*n+x:Nat):Int):=by
 have h:bits .or .i64 ((n*256:Nat):Int) (x:Int)=((n*256+x:Nat):Int):=BD 8 n x (by omega) (by omega);have e2:n*256+x=256*n+x:=by omega
 rw [e2] at h;exact h
theorem x_ (l:List Byte) {k:Nat} (hk:k<=4):num l k < 4294967296:=by
 have h:=KZ l k;have:256 ^ k<=256 ^ 4:=Y3 (by decide) hk;omega
theorem v_ (v:Value) (bs:List Byte) (at':Nat) (w:World) (hv:By w v bs) (hl:at'+5<=bs.length) (hm:bs.length<=1000000) :
  Calls Vs 156 #[v,.int .i64 (at':Int)] w fun e w'=>e=.returned (.int .i64 (num (bs.drop at') 5:Nat))/\w=w':=by
 obtain ⟨_,⟨rfl,a,cap,rfl,_⟩|⟨b,off,cap,rfl,h0,hcap,hcm,hc⟩⟩:=hv.cases
 ·simp at hl
 clear hv;have HC:=aQ hc;clear hc;go_enter Tryz.func156,Tryz.ntmps156;go_wp2_with fail
 go_loop [5,7] (fun n i=>∃k:Nat,k<=5/\i=.int .i64 (k:Int)/\n=.int .i64 (num (bs.drop at') k:Nat)) (fun _ i=>5 - (intOf i).toNat)
 case atStart=>exact ⟨0,by omega,by go_num,rfl⟩
 case round=>
  obtain ⟨k,hk,rfl,rfl⟩:=hrel;by_cases hlt:k < 5
  ·have hck:=HC.out (at'+k) (by omega)
   have HE:=aQ (show num (bs.drop at') (k+1)=256*num (bs.drop at') k+(bs.getD (at'+k) 0).toNat by
    show 256*num (bs.drop at') k+((bs.drop at').getD k 0).toNat=_;rw [getD_drop])
   have hns:=x_ (bs.drop at') (show k<=4 by omega);generalize bs.getD (at'+k) 0=x at *;rw [nQ] at hck;have hx:x.toNat < 256:=x.isLt;obtain ⟨n,hn⟩:∃n,n=num (bs.drop at') k:=⟨_,rfl⟩;rw [<-hn] at HE hns ⊢;clear hn;have hor:=Si n x.toNat hns hx;go_wp2_with fail
   go_round
   case rel=>exact ⟨k+1,by omega,by go_num,by rw [HE.out];go_num⟩
   case measure=>simp [intOf];omega
  ·obtain rfl:k=5:=by omega
   go_wp2_with fail;go_ret;exact ⟨rfl,rfl⟩
theorem pR (v:Value) (bs:List Byte) (w:World) (hv:By w v bs) (hl:bs.length=5) :
  Calls Vs 114 #[v] w fun e w'=>e=.returned (.int .i64 (num bs 5:Nat))/\w=w':=by
 obtain ⟨_,⟨rfl,a,cap,rfl,_⟩|⟨b,off,cap,rfl,h0,hcap,hcm,hc⟩⟩:=hv.cases
 ·simp at hl
 clear hv;have HC:=aQ hc;clear hc;have hl5:5<=bs.length:=by omega
 have HL:=aQ hl;clear hl;go_enter Tryz.func114,Tryz.ntmps114;go_wp2_with fail
 go_loop [3,4] (fun n i=>∃k:Nat,k<=5/\i=.int .i64 (k:Int)/\n=.int .i64 (num bs k:Nat)) (fun _ i=>5 - (intOf i).toNat)
 case atStart=>exact ⟨0,by omega,by go_num,rfl⟩
 case round=>
  obtain ⟨k,hk,rfl,rfl⟩:=hrel;by_cases hlt:k < 5
  ·have hck:=HC.out k (by omega)
   have HE:=aQ (show num bs (k+1)=256*num bs k+(bs.getD k 0).toNat from rfl);have hns:=x_ bs (show k<=4 by omega);generalize bs.getD k 0=x at *;rw [nQ] at hck;have hx:x.toNat < 256:=x.isLt;obtain ⟨n,hn⟩:∃n,n=num bs k:=⟨_,rfl⟩;rw [<-hn] at HE hns ⊢;clear hn;go_wp2_with fail
   go_round
   case rel=>exact ⟨k+1,by omega,by go_num,by rw [HE.out];go_num⟩
   case measure=>simp [intOf];omega
  ·obtain rfl:k=5:=by omega
   go_wp2_with fail;go_ret;exact ⟨rfl,rfl⟩

theorem aO {w:World} {s:Nat} {u0 u1 u2 u3 u4:Value} {T:TypeId} (h:w.heap[s]? = some (.cells #[u0,u1,u2,u3,u4] T)):w.cell? ⟨s,0,none⟩=some u0/\w.cell? ⟨s,1,none⟩=some u1/\w.cell? ⟨s,2,none⟩=some u2/\w.cell? ⟨s,3,none⟩=some u3/\w.cell? ⟨s,4,none⟩=some u4:=
 ⟨aJ (i:=0) h rfl,aJ (i:=1) h rfl,aJ (i:=2) h rfl,aJ (i:=3) h rfl,aJ (i:=4) h rfl⟩
theorem Qv {c:Int} (h0:0<=c) (h1:c < 4):U (VU 8 c)=c:=F6 c h0 (by omega)
theorem KJ {n:Nat} (h:n<=64):U (V4 8 n)=(n:Int):=by unfold U;rw [Xq];omega
theorem MP (p:Pk) (a:Option Addr) (c:Nat) (w:World) (hg:¬Good p) :
  Calls Vs 65 #[.agg #[.int .u8 (U p.kind),.int .i64 p.cls,.int .i64 p.number,.int .i64 p.value,.slice a p.pay.length c]] w fun e w'=>e=.returned (.tuple #[.slice none 0 0,.int .i64 1])/\Below w.heap.size w w':=by
 have HG:=aQ hg;clear hg;go_enter Tryz.func65,Tryz.ntmps65;go_wp2_with fail;refine (xK p a c _ HG.out).mono ?_;rintro e w1 ⟨rfl,hb⟩;have HB1:=aQ ((show Below w.heap.size w (w.alloc (.cells #[.int .u8 (U p.kind),.int .i64 p.cls,.int .i64 p.number,.int .i64 p.value,.slice a p.pay.length c] 103)) by exact dC).trans (hb.mono (by simp)));clear hb;go_wp2_with fail;go_ret2;exact ⟨rfl,HB1.out⟩
theorem Ja (p:Pk) (a:Option Addr) (c:Nat) (w:World) (hb:By w (.slice a p.pay.length c) p.pay) (ht:uL w) (hg:Good p) :
  Calls Vs 65 #[.agg #[.int .u8 (U p.kind),.int .i64 p.cls,.int .i64 p.number,.int .i64 p.value,.slice a p.pay.length c]] w fun e w'=>∃v',e=.returned (.tuple #[v',.int .i64 0])/\Nb w' w.heap.size v' (eP p)/\Below w.heap.size w w':=by
 have HG:=aQ hg;have nK:=aQ hb;have HT:=aQ ht;have hc0:=hg.c0;have hc1:=hg.c1;have hpl:=hg.pay;have hn0:=hg.n0;have hn1:=hg.n1;have hv0:=hg.v0;have hv1:=hg.v1;clear hg hb ht;obtain ⟨kk,cls,num',val,pay⟩:=p;dsimp only at hc0 hc1 hpl hn0 hn1 hv0 hv1 ⊢;obtain ⟨n,rfl⟩:=Xt hn0;obtain ⟨v,rfl⟩:=Xt hv0;obtain ⟨p,hp⟩:∃p:Pk,p=⟨kk,cls,(n:Int),(v:Int),pay⟩:=⟨_,rfl⟩;have HE:=aQ (show eP p=iL ((([kk,VU 8 cls]++five n)++five v)++[V4 8 pay.length]++pay) by rw [hp];rfl);have hpv:=vQ p a c;rw [hp] at hpv;dsimp only at hpv;have HPV:=aQ hpv;rw [<-hp];clear hp hpv;go_enter Tryz.func65,Tryz.ntmps65;go_wp2_with fail;refine (HPV.out _ HG.out).mono ?_;rintro e w1 ⟨rfl,hb⟩;have θ:=aQ ((hb.block w.heap.size (by simp)).trans (heap_alloc_new w (.cells #[.int .u8 (U kk),.int .i64 cls,.int .i64 (n:Int),.int .i64 (v:Int),.slice a pay.length c] 103)));have HB1:=aQ ((show Below w.heap.size w (w.alloc (.cells #[.int .u8 (U kk),.int .i64 cls,.int .i64 (n:Int),.int .i64 (v:Int),.slice a pay.length c] 103)) by exact dC).trans (hb.mono (by simp)));have hz1:w.heap.size < w1.heap.size:=lt_of_block θ.out;clear hb;obtain ⟨b0,b1,b2,b3,b4⟩:=aO θ.out;have J_:=Qv hc0 hc1;have Tx:=aQ (show (#[VS .u8 (U kk),VS .u8 cls]:Array Value).toList=cu [kk,VU 8 cls] by show [VS .u8 (U kk),VS .u8 cls]=[VS .u8 (U kk),VS .u8 (U (VU 8 cls))];rw [J_]);clear J_;have hn1':n < 1099511627776:=by omega
 have NR:v < 1099511627776:=by omega
 go_wp2_with fail;refine (wE n hn1' w1.heap.size _ [kk,VU 8 cls] _ (Nb.lit w1 w1.heap.size [kk,VU 8 cls] _ 2 rfl (Vu _) Tx.out rfl (by decide)) (by simp) (by simp)).mono ?_;rintro e w2 ⟨x2,rfl,hn2,hb2⟩;have mI:=aQ hn2;have hb2':Below w1.heap.size w1 w2:=(show Below w1.heap.size w1 _ by exact dC).trans hb2;have ay:=aQ ((hb2'.block w.heap.size hz1).trans θ.out);have HB2:=aQ (HB1.out.trans (hb2'.mono HB1.out.size));have HZ2:=aQ hb2'.size;clear hn2 hb2 hb2' b0 b1 b2 b3 b4;obtain ⟨b0,b1,b2,b3,b4⟩:=aO ay.out;go_wp2_with fail;refine (wE v NR w1.heap.size _ ([kk,VU 8 cls]++five n) _ mI.out HZ2.out (by rw [Vx,ou];simp)).mono ?_;rintro e w3 ⟨x3,rfl,lN,hb3⟩;obtain ⟨S_,S9,rfl⟩:=lN.slice;have yJ:=aQ lN;have dF:=aQ ((hb3.block w.heap.size hz1).trans ay.out);have HB3:=aQ (HB2.out.trans (hb3.mono (WL hz1)));have HZ3:=aQ (VC HZ2.out hb3.size);have abZ:=aQ (nK.out.below HB3.out);clear lN hb3 b0 b1 b2 b3 b4;obtain ⟨b0,b1,b2,b3,b4⟩:=aO dF.out;have hs3:=lt_of_block dF.out;have Tw:=aQ (show [VS .u8 (pay.length:Int)]=cu [V4 8 pay.length] by show _=[VS .u8 (U (V4 8 pay.length))];rw [KJ hpl]);generalize hxs:(([kk,VU 8 cls]++five n)++five v)=xs at *;have hxl:xs.length<=12:=by rw [<-hxs];simp [five]
 clear hxs;go_upto_region 7 with (at_builtin;refine ai rfl _ _ rfl w1.heap.size _ xs rfl (by exact yJ.out.below (by exact dC)) _ [V4 8 pay.length] rfl (eX _ _ _ _ [V4 8 pay.length] 1 1 rfl Tw.out rfl (Vu _) (by decide)) (by show xs.length+1<=_;omega) (by have:=HZ3.out;simp;omega) ?_;intro TH TG w4 nI hb4;have FK:=aQ nI;have AR:=(show Below w1.heap.size w3 _ from (show Below w3.heap.size w3 _ by exact dC).mono HZ3.out).trans hb4;have kK:=aQ ((AR.block w.heap.size hz1).trans dF.out);have ui:=aQ (HB3.out.trans (AR.mono (WL hz1)));have HZ4:=aQ (VC HZ3.out AR.size);have abb:=aQ (nK.out.below ui.out);clear nI hb4 AR)
 clear b0 b1 b2 b3 b4;obtain ⟨b0,b1,b2,b3,b4⟩:=aO kK.out;obtain ⟨ys,hys⟩:∃ys,ys=xs++[V4 8 pay.length]:=⟨_,rfl⟩;have hle:ys.length=xs.length+1:=by rw [hys];simp
 have hly:ys.length<=13:=by omega
 have HX4:=aQ (show Nb w4 w1.heap.size (.slice TH (xs.length+1) TG) ys by rw [hys];exact FK.out);rw [<-hys] at HE;rw [<-hle] at HX4 ⊢;clear hle hys FK;go_wp2_with (at_builtin;refine ai rfl _ _ rfl w1.heap.size _ ys rfl (by exact HX4.out) _ pay rfl abb.out (by omega) HZ4.out ?_;intro x5a x5c w5 Ah hb5;generalize WS x5a (ys.length+pay.length) x5c=v5 at Ah ⊢;have wN:=aQ Ah;have rH:=aQ (ui.out.trans (hb5.mono (WL hz1)));have HT5:=aQ (HT.out.below rH.out);clear Ah hb5);refine (Fj _ (ys++pay) w5 wN.out.by HT5.out (by rw [Vx];omega)).mono ?_;rintro e w6 ⟨v6,rfl,ho6,hb6⟩;have HO6:=aQ ho6;have JW:=aQ (rH.out.trans (hb6.mono rH.out.size));clear ho6 hb6;go_wp2_with fail;go_ret2;exact ⟨v6,rfl,by rw [HE.out];exact (Nb.Qd HO6.out).lower rH.out.size,JW.out⟩

theorem aak (w:World) (hv:Val w):Calls Vs 66 #[.int .i64 0] w fun e w'=>e=.returned (.int .u8 49)/\w=w':=by
 have HV:=aQ hv;clear hv;go_enter Tryz.func66,Tryz.ntmps66;go_wp2_with fail;refine (Jj w HV.out).mono ?_;rintro e w' ⟨rfl,rfl⟩;go_wp2_with fail;go_ret;exact ⟨rfl,rfl⟩
theorem aaj (w:World) (hv:Val w):Calls Vs 66 #[.int .i64 1] w fun e w'=>e=.returned (.int .u8 50)/\w=w':=by
 have HV:=aQ hv;clear hv;go_enter Tryz.func66,Tryz.ntmps66;go_wp2_with fail;refine (Ji w HV.out).mono ?_;rintro e w' ⟨rfl,rfl⟩;go_wp2_with fail;go_ret;exact ⟨rfl,rfl⟩
theorem Bg (p:Pk) (a:Option Addr) (c:Nat) (w:World) (hg:¬Good p) :
  Calls Vs 33 #[.agg #[.int .u8 (U p.kind),.int .i64 p.cls,.int .i64 p.number,.int .i64 p.value,.slice a p.pay.length c]] w fun e w'=>e=.returned (.tuple #[.slice none 0 0,.int .i64 1])/\Below w.heap.size w w':=by
 have HG:=aQ hg;clear hg;go_enter Tryz.func33,Tryz.ntmps33;go_wp2_with fail;refine (MP p a c _ HG.out).mono ?_;rintro e w1 ⟨rfl,hb⟩;have HB1:=aQ ((show Below w.heap.size w (w.alloc (.cells #[.int .u8 (U p.kind),.int .i64 p.cls,.int .i64 p.number,.int .i64 p.value,.slice a p.pay.length c] 103)) by exact dC).trans (hb.mono (by simp)));clear hb;go_wp2_with fail;go_ret2;exact ⟨rfl,HB1.out⟩
theorem xQ (p:Pk) (a:Option Addr) (c:Nat) (w:World) (hb:By w (.slice a p.pay.length c) p.pay) (ht:lH w) (hg:Good p) :
  Calls Vs 33 #[.agg #[.int .u8 (U p.kind),.int .i64 p.cls,.int .i64 p.number,.int .i64 p.value,.slice a p.pay.length c]] w fun e w'=>∃v',e=.returned (.tuple #[v',.int .i64 0])/\Nb w' w.heap.size v' (dM p)/\Below w.heap.size w w':=by
 have HG:=aQ hg;have nK:=aQ hb;have HT:=aQ ht;have hpl:=hg.pay;clear hg hb ht;go_enter Tryz.func33,Tryz.ntmps33;go_wp2_with fail;refine (Ja p a c _ (By.alloc nK.out _) (uL.alloc HT.out.tab _) HG.out).mono ?_;rintro e w1 ⟨v1,rfl,hn1,hb⟩;have HB1:=aQ ((show Below w.heap.size w (w.alloc (.cells #[.int .u8 (U p.kind),.int .i64 p.cls,.int .i64 p.number,.int .i64 p.value,.slice a p.pay.length c] 103)) by exact dC).trans (hb.mono (by simp)));have Uu:=aQ hn1;have HT1:=aQ (HT.out.below HB1.out);have hz1:=HB1.out.size;obtain ⟨bs,hbs⟩:∃bs,bs=eP p:=⟨_,rfl⟩;have hbl:bs.length<=81:=by rw [hbs,gN];omega
 rw [<-hbs] at Uu;have HS:=aQ (show dM p=([49]++encS bs)++[50] by unfold dM;rw [hbs];rfl);clear hb hn1 hbs;go_wp2_with fail;refine (aak w1 HT1.out.val).mono ?_;rintro e w' ⟨rfl,rfl⟩;have Tx:=aQ (show (#[VS .u8 49]:Array Value).toList=cu [49] from rfl);go_wp2_with fail;refine (O_ _ bs _ (Uu.out.by.alloc _) ((HT1.out.below (aK w1 _)).val) (by omega)).mono ?_;rintro e w2 ⟨v2,rfl,hn2,hb2⟩;have Uh:=aQ ((Nb.lit w1 w1.heap.size [49] #[.int .u8 49] 1 rfl hz1 rfl rfl (by decide)).below hb2);have mI:=aQ hn2;have HB2:=aQ (HB1.out.trans ((Wi (aK w1 (.cells #[.int .u8 49] 5)) (hb2.mono (by simp))).mono hz1));have HT2:=aQ (HT.out.below HB2.out);have hz2:=HB2.out.size;have hel:(encS bs).length<=162:=by rw [eB];omega
 clear hn2 hb2;generalize encS bs=es at *;go_wp2_with (at_builtin;refine ai rfl _ _ rfl w.heap.size _ [49] rfl (by exact Uh.out) _ es rfl mI.out.by (by show 1+es.length<=_;omega) hz2 ?_;intro S_ S9 w3 lN hb3;generalize WS S_ (([49]:List Byte).length+es.length) S9=v3 at lN ⊢;have yJ:=aQ lN;have HB3:=aQ (HB2.out.trans hb3);have HT3:=aQ (HT.out.below HB3.out);have hz3:=HB3.out.size;clear lN hb3);refine (aaj w3 HT3.out.val).mono ?_;rintro e w' ⟨rfl,rfl⟩;go_wp2_with (at_builtin;refine ai rfl _ _ rfl w.heap.size _ ([49]++es) rfl (by exact yJ.out.below (by exact dC)) _ [50] rfl (eX _ _ _ _ [50] 1 1 rfl rfl rfl (Vu _) (by decide)) (by rw [Vx];show 1+es.length+1<=_;omega) (by simp;omega) ?_;intro TH TG w4 nI hb4;generalize WS TH (([49]++es:List Byte).length+([50]:List Byte).length) TG=v4 at nI ⊢;have FK:=aQ nI;have ui:=aQ (HB3.out.trans ((show Below w.heap.size w3 _ from (show Below w3.heap.size w3 _ by exact dC).mono hz3).trans hb4));clear nI hb4);go_ret2;exact ⟨v4,rfl,by rw [HS.out];exact FK.out,ui.out⟩

theorem By.Qq {w:World} {b off n c:Nat} {bs:List Byte} (h:By w (.slice (some ⟨b,off,none⟩) n c) bs) {k:Nat} (hk:k<=n):By w (.slice (if c=k then some ⟨b,off,none⟩ else some ⟨b,off+k,none⟩) (n - k) (c - k)) (bs.drop k):=by
 obtain ⟨_,a',c',e,h1,h2,h3,h4⟩:=h;obtain ⟨rfl,rfl,rfl⟩:some ⟨b,off,none⟩=a'/\n=bs.length/\c=c':=by simpa using e
 refine ⟨by rw [di,V9,Xi],_,c - k,by rw [V9],by rw [V9];omega,by omega,(fun e=>by split at e <;> cases e),fun ad hb j u hj=>?_⟩;have hjl:j < bs.length - k:=by have:=aA hj;rw [di,V9] at this;exact this
 have hck:¬c=k:=by omega
 rw [if_neg hck] at hb;obtain rfl:=VM hb;rw [cu,VG,Wl] at hj;refine ⟨rfl,?_⟩;have:=(h4 _ rfl (k+j) u (by rw [cu,VG];exact hj)).2;rw [<-Nat.add_assoc] at this;exact this
def jD (w:World) (bs:List Byte) (e:Ending) (w':World):Prop:=∃a c,e=.returned (.tuple #[.agg #[.int .u8 (U (gL bs).1.kind),.int .i64 (gL bs).1.cls,.int .i64 (gL bs).1.number,.int .i64 (gL bs).1.value,.slice a (gL bs).1.pay.length c],.int .i64 (gL bs).2])/\Nb w' w.heap.size (.slice a (gL bs).1.pay.length c) (gL bs).1.pay/\Below w.heap.size w w'
theorem jD.mk {w w':World} {bs:List Byte} {r:Pk × Int} (h:gL bs=r) {a:Option Addr} {c:Nat} (h1:Nb w' w.heap.size (.slice a r.1.pay.length c) r.1.pay) (h2:Below w.heap.size w w'):jD w bs (.returned (.tuple #[.agg #[.int .u8 (U r.1.kind),.int .i64 r.1.cls,.int .i64 r.1.number,.int .i64 r.1.value,.slice a r.1.pay.length c],.int .i64 r.2])) w':=by
 subst h;exact ⟨a,c,rfl,h1,h2⟩
theorem jD.zero {w w':World} {bs:List Byte} {n:Int} (h:gL bs=(Pk.zero,n)) (h2:Below w.heap.size w w'):jD w bs (.returned (.tuple #[.agg #[.int .u8 0,.int .i64 0,.int .i64 0,.int .i64 0,.slice none 0 0],.int .i64 n])) w':=
 jD.mk h (a:=none) (c:=0) (Nb.nil _ _) h2
theorem E8 (v:Value) (bs:List Byte) (w:World) (hb:By w v bs) (h:bs.length < 17) :
  Calls Vs 133 #[v] w (jD w bs):=by
 have HD:=aQ (qo h);obtain ⟨a,cap,rfl⟩:=hb.slice;clear hb;go_enter Tryz.func133,Tryz.ntmps133;go_wp2_with fail;exact bodyPost_ret (v:=.tuple #[.agg #[.int .u8 0,.int .i64 0,.int .i64 0,.int .i64 0,.slice none 0 0],.int .i64 4]) (by simp [results,Tryz.results133,go_sem]) rfl (jD.zero HD.out (by exact dC))
theorem Jg (v:Value) (bs:List Byte) (w:World) (hb:By w v bs) (h:17<=bs.length) (hm:bs.length<=100000) (h2:64 < (bs.getD 12 0).toNat\/(bs.getD 12 0).toNat+17≠bs.length) :
  Calls Vs 133 #[v] w (jD w bs):=by
 have HD:=aQ (sP h h2);obtain ⟨_,⟨rfl,a,cap,rfl,_⟩|⟨b,off,cap,rfl,h0,hcap,hcm,hc⟩⟩:=hb.cases
 ·simp at h
 have p_:=hc 12 (by omega);clear hb hc;rw [nQ] at p_;have aac:(bs.getD 12 0).toNat < 256:=(bs.getD 12 0).isLt;generalize (bs.getD 12 0).toNat=m at *;have hlt:b < w.heap.size:=Vv w _ p_;by_cases h64:64 < m
 ·clear h2
  go_enter Tryz.func133,Tryz.ntmps133;go_wp2_with fail;exact bodyPost_ret (v:=.tuple #[.agg #[.int .u8 0,.int .i64 0,.int .i64 0,.int .i64 0,.slice none 0 0],.int .i64 3]) (by simp [results,Tryz.results133,go_sem]) rfl (jD.zero HD.out (by exact dC))
 ·have hne:((m:Int) != (bs.length:Int) - 17)=true:=by simp;omega
  clear h2;go_enter Tryz.func133,Tryz.ntmps133;go_wp2_with fail;exact bodyPost_ret (v:=.tuple #[.agg #[.int .u8 0,.int .i64 0,.int .i64 0,.int .i64 0,.slice none 0 0],.int .i64 3]) (by simp [results,Tryz.results133,go_sem]) rfl (jD.zero HD.out (by exact dC))

theorem MR (v:Value) (bs:List Byte) (w:World) (hb:By w v bs) (ht:uL w) (h:17<=bs.length) (hm:bs.length<=100000) (h2:(bs.getD 12 0).toNat<=64/\(bs.getD 12 0).toNat+17=bs.length) (h3:cK bs=false) :
  Calls Vs 133 #[v] w (jD w bs):=by
 have HD:=aQ (vL h h2 h3);have HB:=aQ hb;have HT:=aQ ht;have H3:=aQ h3;obtain ⟨_,⟨rfl,a,cap,rfl,_⟩|⟨b,off,cap,rfl,h0,hcap,hcm,hc⟩⟩:=hb.cases
 ·simp at h
 have p_:=hc 12 (by omega);clear hb hc ht h3;rw [nQ] at p_;obtain ⟨h64,Gy⟩:=h2;generalize (bs.getD 12 0).toNat=m at *;have hlt:b < w.heap.size:=Vv w _ p_;have hne:((m:Int) != (bs.length:Int) - 17)=false:=by simp;omega
 have HM:=aQ Gy;clear Gy;go_enter Tryz.func133,Tryz.ntmps133;go_wp2_with fail;refine (wD _ bs (by omega) (by omega) _ (By.alloc HB.out _) (uL.alloc HT.out _)).mono ?_;rintro e w1 (⟨_,rfl,hb1⟩|⟨hs,_⟩)
 ·have hrow:=(hb1.block w.heap.size (by simp)).trans (heap_alloc_new w (.cells #[.int .u8 0,.int .i64 0,.int .i64 0,.int .i64 0,.slice none 0 0] 103))
  obtain ⟨b0,b1,b2,b3,b4⟩:=aO hrow;have bf:=fun i=>aD hrow i
  have hz1:=lt_of_block hrow;have θ:=aQ hrow;have HB1:=aQ ((show Below w.heap.size w (w.alloc (.cells #[.int .u8 0,.int .i64 0,.int .i64 0,.int .i64 0,.slice none 0 0] 103)) by exact dC).trans (hb1.mono (by simp)));clear hb1 hrow;go_wp2_with fail;exact bodyPost_ret (v:=.tuple #[.agg #[.int .u8 0,.int .i64 0,.int .i64 0,.int .i64 0,.slice none 0 0],.int .i64 9]) (by simp [results,Tryz.results133,go_sem,b0,b1,b2,b3,b4]) rfl (jD.zero HD.out (VK (VK (VK (VK (VK HB1.out (Vu _) _) (Vu _) _) (Vu _) _) (Vu _) _) (Vu _) _))
 ·rw [H3.out] at hs;cases hs
theorem mJ {w:World} {s:Nat} {a b c d e:Value} {T:TypeId} (h:w.heap[s]? = some (.cells #[a,b,c,d,e] T)) (x y z u v:Value):(((((w.setCell ⟨s,0,none⟩ x).setCell ⟨s,1,none⟩ y).setCell ⟨s,2,none⟩ z).setCell ⟨s,3,none⟩ u).setCell ⟨s,4,none⟩ v).heap[s]? = some (.cells #[x,y,z,u,v] T):=by (refine aS (Ξ h) ?_);rfl
theorem fC {w:World} {s k:Nat} (hk:k≠s) (x y z u v:Value):(((((w.setCell ⟨s,0,none⟩ x).setCell ⟨s,1,none⟩ y).setCell ⟨s,2,none⟩ z).setCell ⟨s,3,none⟩ u).setCell ⟨s,4,none⟩ v).heap[k]? = w.heap[k]?:=
 (Wy _ _ _ _ hk).trans ((Wy _ _ _ _ hk).trans ((Wy _ _ _ _ hk).trans ((Wy _ _ _ _ hk).trans (Wy _ _ _ _ hk))))
theorem iF {ops:Array Oper} {o:Oper} {a:Act} {w:World} {K:Act->World->Prop} {Q:Exit->Act->World->Prop} {E:Prop} (hg:o.guard=none) (hop:o.op=Op.alloc 103)
  (hK:∀pb w',w'.heap[pb]? = some (.cells #[.int .u8 0,.int .i64 0,.int .i64 0,.int .i64 0,.slice none 0 0] 103)->Below w.heap.size w w'->w.heap.size<=pb->K (a.put o.dst (.pointer (some ⟨pb,0,none⟩))) w') :
  if VN o (yielded ops a.tmps)=true then WZ Vs o a w K Q else E:=by
 obtain ⟨d,op,ty,pos,af,g⟩:=o;dsimp only at hg hop;subst hg;subst hop;rw [if_pos (by simp [VN])];have h:=hK w.heap.size (w.alloc (.cells #[.int .u8 0,.int .i64 0,.int .i64 0,.int .i64 0,.slice none 0 0] 103)) (heap_alloc_new w _) (aK w _) (Vu _);clear hK;go_simp;exact h
theorem iE {ops:Array Oper} {o:Oper} {a:Act} {w:World} {K:Act->World->Prop} {Q:Exit->Act->World->Prop} {E:Prop} (hg:o.guard=none) (hd:o.dst=none) (x y:Operand) (hop:o.op=Op.store 103 x y)
  (pb:Nat) (hx:a.eval x=.pointer (some ⟨pb,0,none⟩)) (k c n v:Int) (sa:Option Addr) (sl sc:Nat) (hy:a.eval y=.agg #[.int .u8 k,.int .i64 c,.int .i64 n,.int .i64 v,.slice sa sl sc]) {u0 u1 u2 u3 u4:Value} (hrow:w.heap[pb]? = some (.cells #[u0,u1,u2,u3,u4] 103))
  (hK:∀w',w'.heap[pb]? = some (.cells #[.int .u8 k,.int .i64 c,.int .i64 n,.int .i64 v,.slice sa sl sc] 103)->w.heap.size=w'.heap.size->(∀B w0,B<=pb->Below B w0 w->Below B w0 w')->(∀j,j≠pb->w'.heap[j]? = w.heap[j]?)->K a w') :
  if VN o (yielded ops a.tmps)=true then WZ Vs o a w K Q else E:=by
 obtain ⟨d,op,ty,pos,af,g⟩:=o;dsimp only at hg hop hd;subst hg;subst hop;subst hd;rw [if_pos (by simp [VN])];have hlt:=lt_of_block hrow;have h:=hK _ (mJ hrow (.int .u8 k) (.int .i64 c) (.int .i64 n) (.int .i64 v) (.slice sa sl sc)) (by simp) (fun B w0 hB hb=>(VK (VK (VK (VK (VK hb hB _) hB _) hB _) hB _) hB _)) (fun j hj=>fC hj _ _ _ _ _);obtain ⟨b0,b1,b2,b3,b4⟩:=aO hrow;have bf:=fun i=>aD hrow i
 clear hK hrow;unfold WZ;simp only [execOp,hx,hy];go_simp;exact h
theorem BI (v:Value) (bs:List Byte) (w:World) (hv:By w v bs) (hl:13<=bs.length) (hm:bs.length<=100) :
  Calls Vs 156 #[v,.int .i64 2] w fun e w'=>e=.returned (.int .i64 (num (bs.drop 2) 5:Nat))/\w=w':=v_ v bs 2 w hv (by omega) (by omega)
theorem BH (v:Value) (bs:List Byte) (w:World) (hv:By w v bs) (hl:13<=bs.length) (hm:bs.length<=100) :
  Calls Vs 156 #[v,.int .i64 7] w fun e w'=>e=.returned (.int .i64 (num (bs.drop 7) 5:Nat))/\w=w':=v_ v bs 7 w hv (by omega) (by omega)
theorem Jh (v:Value) (bs:List Byte) (w:World) (hb:By w v bs) (ht:uL w) (h:17<=bs.length) (hm:bs.length<=100000) (h2:(bs.getD 12 0).toNat<=64/\(bs.getD 12 0).toNat+17=bs.length) (h3:cK bs=true) :
  Calls Vs 133 #[v] w (jD w bs):=by
 have HB:=aQ hb;have HT:=aQ ht;have H3:=aQ h3;have HP:=aQ (fun hv=>vM h h2 h3 hv);have HQ:=aQ (fun hv=>uJ h h2 h3 hv);obtain ⟨_,⟨rfl,a,cap,rfl,_⟩|⟨b,off,cap,rfl,h0,hcap,hcm,hc⟩⟩:=hb.cases
 ·simp at h
 have p_:=hc 12 (by omega);clear hb hc ht h3;rw [nQ] at p_;obtain ⟨h64,Gy⟩:=h2;generalize (bs.getD 12 0).toNat=m at *;have hlt:b < w.heap.size:=Vv w _ p_;have hne:((m:Int) != (bs.length:Int) - 17)=false:=by simp;omega
 have HM:=aQ Gy;have hbl:(bs.take (bs.length - 4)).length=m+13:=by rw [VW];omega
 clear Gy;go_enter Tryz.func133,Tryz.ntmps133;go_wp2_with fail;refine (wD _ bs (by omega) (by omega) _ (By.alloc HB.out _) (uL.alloc HT.out _)).mono ?_;rintro e w1 (⟨hs,_⟩|⟨_,v1,rfl,ho1,hb1⟩)
 ·rw [H3.out] at hs;cases hs
 ·have hrow:=(hb1.block w.heap.size (by simp)).trans (heap_alloc_new w (.cells #[.int .u8 0,.int .i64 0,.int .i64 0,.int .i64 0,.slice none 0 0] 103))
  have hz1:=lt_of_block hrow;have θ:=aQ hrow;have HB1:=aQ ((show Below w.heap.size w (w.alloc (.cells #[.int .u8 0,.int .i64 0,.int .i64 0,.int .i64 0,.slice none 0 0] 103)) by exact dC).trans (hb1.mono (by simp)));generalize bs.take (bs.length - 4)=body at *;have hby:=ho1.by;obtain ⟨_,⟨hnil,_⟩|⟨g,rU,N9,rfl,hg0,abk,hgm,hgc⟩⟩:=hby.cases
  ·rw [hnil] at hbl;simp at hbl
  have c0:=hgc 0 (by omega);have c1:=hgc 1 (by omega);rw [Xp] at c0;have uM:=aQ hby;have HDR:=aQ (hby.Qq (k:=13) (by omega));have HBL:=aQ hbl;have yQ:13<=body.length:=by omega
  have Kl:body.length<=100:=by omega
  have hx1:(body.getD 1 0).toNat < 256:=(body.getD 1 0).isLt;clear hb1 hrow hby ho1 hgc hbl;obtain ⟨x0,hx0⟩:∃x0,x0=body.getD 0 0:=⟨_,rfl⟩;obtain ⟨x1,Dz⟩:∃x1,x1=body.getD 1 0:=⟨_,rfl⟩;rw [<-hx0] at c0;rw [<-Dz] at c1 hx1;rw [nQ x1] at c1;have HX0:=aQ hx0;have xC:=aQ Dz;clear hx0 Dz;have hb0:0 < body.length:=by omega
  have hb1:1 < body.length:=by omega
  have hb1':(0:Int)<=1/\(1:Int) < (body.length:Int):=by omega
  have GM:(0:Int)<=13/\(13:Int)<=(body.length:Int):=by omega
  have hwx:IntKind.i64.wrap ((x1.toNat:Nat):Int)=((x1.toNat:Nat):Int):=V6 _ (by omega);have PU:=aQ HB1.out.size;have Dh:=aQ (show ∀xa xc,Zb #[.int .u8 (U x0),.int .i64 ((x1.toNat:Nat):Int),.int .i64 ((num (body.drop 2) 5:Nat):Int),.int .i64 ((num (body.drop 7) 5:Nat):Int),.slice xa (body.drop 13).length xc]=.agg #[.int .u8 (U (bJ body).kind),.int .i64 (bJ body).cls,.int .i64 (bJ body).number,.int .i64 (bJ body).value,.slice xa (bJ body).pay.length xc] by intro xa xc;rw [HX0.out,xC.out];rfl);have hb0:0 < body.length:=by omega
  have hb1:1 < body.length:=by omega
  have hb1':(0:Int)<=1/\(1:Int) < (body.length:Int):=by omega
  have GM:(0:Int)<=13/\(13:Int)<=(body.length:Int):=by omega
  have hwx:IntKind.i64.wrap ((x1.toNat:Nat):Int)=((x1.toNat:Nat):Int):=V6 _ (by omega);have PU:=aQ HB1.out.size;have Dh:=aQ (show ∀xa xc,Zb #[.int .u8 (U x0),.int .i64 ((x1.toNat:Nat):Int),.int .i64 ((num (body.drop 2) 5:Nat):Int),.int .i64 ((num (body.drop 7) 5:Nat):Int),.slice xa (body.drop 13).length xc]=.agg #[.int .u8 (U (bJ body).kind),.int .i64 (bJ body).cls,.int .i64 (bJ body).number,.int .i64 (bJ body).value,.slice xa (bJ body).pay.length xc] by intro xa xc;rw [HX0.out,xC.out];rfl);have hb0:0 < body.length:=by omega
  have hb1:1 < body.length:=by omega
  have hb1':(0:Int)<=1/\(1:Int) < (body.length:Int):=by omega
  have GM:(0:Int)<=13/\(13:Int)<=(body.length:Int):=by omega
  have hwx:IntKind.i64.wrap ((x1.toNat:Nat):Int)=((x1.toNat:Nat):Int):=V6 _ (by omega);have PU:=aQ HB1.out.size;have Dh:=aQ (show ∀xa xc,Zb #[.int .u8 (U x0),.int .i64 ((x1.toNat:Nat):Int),.int .i64 ((num (body.drop 2) 5:Nat):Int),.int .i64 ((num (body.drop 7) 5:Nat):Int),.slice xa (body.drop 13).length xc]=.agg #[.int .u8 (U (bJ body).kind),.int .i64 (bJ body).cls,.int .i64 (bJ body).number,.int .i64 (bJ body).value,.slice xa (bJ body).pay.length xc] by intro xa xc;rw [HX0.out,xC.out];rfl);have hb0:0 < body.length:=by omega
  have hb1:1 < body.length:=by omega
  have hb1':(0:Int)<=1/\(1:Int) < (body.length:Int):=by omega
  have GM:(0:Int)<=13/\(13:Int)<=(body.length:Int):=by omega
  have hwx:IntKind.i64.wrap ((x1.toNat:Nat):Int)=((x1.toNat:Nat):Int):=V6 _ (by omega);have PU:=aQ HB1.out.size;have HZ1:=aQ hz1;have Dh:=aQ (show ∀xa xc,Zr #[.int .u8 (U x0),.int .i64 ((x1.toNat:Nat):Int),.int .i64 ((num (body.drop 2) 5:Nat):Int),.int .i64 ((num (body.drop 7) 5:Nat):Int),.slice xa (body.drop 13).length xc] 103 = .cells #[.int .u8 (U (bJ body).kind),.int .i64 (bJ body).cls,.int .i64 (bJ body).number,.int .i64 (bJ body).value,.slice xa (bJ body).pay.length xc] 103 by intro xa xc;rw [HX0.out,xC.out];rfl);have hb0:0 < body.length:=by omega
  have hb1:1 < body.length:=by omega
  have hb1':(0:Int)<=1/\(1:Int) < (body.length:Int):=by omega
  have GM:(0:Int)<=13/\(13:Int)<=(body.length:Int):=by omega
  have hwx:IntKind.i64.wrap ((x1.toNat:Nat):Int)=((x1.toNat:Nat):Int):=V6 _ (by omega);have PU:=aQ HB1.out.size;have HZ1:=aQ hz1;have Dh:=aQ (show ∀xa xc,Zr #[.int .u8 (U x0),.int .i64 ((x1.toNat:Nat):Int),.int .i64 ((num (body.drop 2) 5:Nat):Int),.int .i64 ((num (body.drop 7) 5:Nat):Int),.slice xa (body.drop 13).length xc] 103 = .cells #[.int .u8 (U (bJ body).kind),.int .i64 (bJ body).cls,.int .i64 (bJ body).number,.int .i64 (bJ body).value,.slice xa (bJ body).pay.length xc] 103 by intro xa xc;rw [HX0.out,xC.out];rfl);have hb0:0 < body.length:=by omega
  have hb1:1 < body.length:=by omega
  have hb1':(0:Int)<=1/\(1:Int) < (body.length:Int):=by omega
  have GM:(0:Int)<=13/\(13:Int)<=(body.length:Int):=by omega
  have hwx:IntKind.i64.wrap ((x1.toNat:Nat):Int)=((x1.toNat:Nat):Int):=V6 _ (by omega);have PU:=aQ HB1.out.size;have HZ1:=aQ hz1;have Dh:=aQ (show ∀xa xc,Zr #[.int .u8 (U x0),.int .i64 ((x1.toNat:Nat):Int),.int .i64 ((num (body.drop 2) 5:Nat):Int),.int .i64 ((num (body.drop 7) 5:Nat):Int),.slice xa (body.drop 13).length xc] 103 = .cells #[.int .u8 (U (bJ body).kind),.int .i64 (bJ body).cls,.int .i64 (bJ body).number,.int .i64 (bJ body).value,.slice xa (bJ body).pay.length xc] 103 by intro xa xc;rw [HX0.out,xC.out];rfl);by_cases U2:N9=13
  case' pos=>
   subst U2;have hd0:body.length - 13=0:=by omega
   rw [if_pos rfl,hd0] at HDR;clear hd0;go_wp2_with fail;refine wp_region_held_drew (S:=Below w1.heap.size w1) (by kernel_rfl) (by exact dC) (fun hS0=>?_);refine Φ 0 13 hS0 ?_;(iterate 8 (refine aR (v:=?_) (by rfl) ?_ ?_;rotate_left 1;(focus ((intro w' hS';have h0:=cell_later hS' c0;have h1:=cell_later hS' c1;go_simp);try with_reducible rfl));simp only [VF,ag,Ψ,ae]));(refine gT (v:=?_) (f:=?_) (args:=?_) (by rfl) ?_ ?_ ?_;rotate_left 3;(focus (intro w';go_simp;first|(with_reducible rfl)|(refine ⟨?_,?_⟩ <;> with_reducible rfl)));(focus (intro w' hS';with_reducible exact (BI _ body w' (uM.out.below hS') yQ Kl)));simp only [VF,ag,Ψ,ae]);(refine aR (v:=?_) (by rfl) ?_ ?_;rotate_left 1;(focus ((intro w' hS';have h0:=cell_later hS' c0;have h1:=cell_later hS' c1;go_simp);try with_reducible rfl));simp only [VF,ag,Ψ,ae]);(refine gT (v:=?_) (f:=?_) (args:=?_) (by rfl) ?_ ?_ ?_;rotate_left 3;(focus (intro w';go_simp;first|(with_reducible rfl)|(refine ⟨?_,?_⟩ <;> with_reducible rfl)));(focus (intro w' hS';with_reducible exact (BH _ body w' (uM.out.below hS') yQ Kl)));simp only [VF,ag,Ψ,ae]);(iterate 2 (refine aR (v:=?_) (by rfl) ?_ ?_;rotate_left 1;(focus ((intro w' hS';have h0:=cell_later hS' c0;have h1:=cell_later hS' c1;go_simp);try with_reducible rfl));simp only [VF,ag,Ψ,ae]));refine aT ?_;(refine gm 13 15 (by kernel_rfl) rfl rfl (fun K hK=>?_) (fun K hK=>?_));(focus (refine mV (by rfl) _ _ (by rfl) _ (.slice none 0 0) [] (by rfl) (Nb.nil _ _) (.slice (some ⟨g,rU,none⟩) 0 0) (body.drop 13) (by rfl) (HDR.out.below hS0) (by rw [V9];show 0+_<=_;omega) (Vu _) ?_;intro xa xc w3 lN hb3;simp only [Ws,V5,WT] at lN;simp only [VF,ag,Ψ,ae,Ws,V5];have fU:=hS0.trans (hb3.mono hS0.size);refine hK.out _ _ fU ?_;clear hK K;refine Φ 14 1 fU ?_;refine dI ?_;refine aT ?_;(refine ah 15 (fun K hK=>?_));refine iF (by rfl) (by rfl) ?_;intro pb w4 QM hb4 hl4;simp only [VF,ag,Ψ,ae];(refine hK.out _ _ (fU.trans (hb4.mono fU.size)) ?_);clear hK K;(refine ah 16 (fun K hK=>?_));(refine iE (by rfl) (by rfl) _ _ (by rfl) pb (by rfl) _ _ _ _ _ _ _ (by rfl) QM ?_);intro w5 Au hs5 rM FB;(refine hK.out _ _ (rM _ _ (VC fU.size hl4) (fU.trans (hb4.mono fU.size))) ?_);clear hK K;refine fZ ?_;have wN:=aQ (show Nb w5 w1.heap.size (.slice xa (body.drop 13).length xc) (body.drop 13) from (lN.below (rM _ _ hl4 hb4)).lower hS0.size);have rH:=aQ (rM _ _ (VC fU.size hl4) (fU.trans (hb4.mono fU.size)));have Dl:=aQ (VX HZ1.out (VC fU.size hl4));have wR:=aQ Au;clear Au hs5 rM FB QM hb4 hl4 lN hb3 fU hS0));rotate_left 1;(focus (refine iF (by rfl) (by rfl) ?_;intro pb w3 hp3 hb3 hl3;simp only [VF,ag,Ψ,ae];have fU:=hS0.trans (hb3.mono hS0.size);(refine hK.out _ _ fU ?_);clear hK K;(refine ah 13 (fun K hK=>?_));(refine mV (by rfl) _ _ (by rfl) _ (.slice none 0 0) [] (by rfl) (Nb.nil _ _) (.slice (some ⟨g,rU,none⟩) 0 0) (body.drop 13) (by rfl) (HDR.out.below fU) (by rw [V9];show 0+_<=_;omega) (Vu _) ?_);intro xa xc w4 nI hb4;simp only [Ws,V5,WT] at nI;simp only [VF,ag,Ψ,ae,Ws,V5];have p8:=fU.trans (hb4.mono fU.size);(refine hK.out _ _ p8 ?_);clear hK K;refine Φ 14 1 p8 ?_;refine dI ?_;refine aT ?_;(refine ah 16 (fun K hK=>?_));(refine iE (by rfl) (by rfl) _ _ (by rfl) pb (by rfl) _ _ _ _ _ _ _ (by rfl) ((hb4.block _ (lt_of_block hp3)).trans hp3) ?_);intro w5 Au hs5 rM FB;(refine hK.out _ _ (rM _ _ hl3 p8) ?_);clear hK K;refine fZ ?_;have wN:=aQ (show Nb w5 w1.heap.size (.slice xa (body.drop 13).length xc) (body.drop 13) from Nb.lower (B:=w3.heap.size) (Sl.keep nI fun k hk _=>FB k (by have:=lt_of_block hp3;have hk':w3.heap.size<=k:=hk;omega)) fU.size);have rH:=aQ (rM _ _ hl3 p8);have Dl:=aQ (VX HZ1.out hl3);have wR:=aQ Au;clear Au hs5 rM FB hp3 hb4 hl3 nI hb3 fU p8 hS0))
  case' neg=>
   rw [if_neg U2] at HDR;have abl:((N9:Int) == 13)=false:=by simp;omega
   go_wp2_with fail;refine wp_region_held_drew (S:=Below w1.heap.size w1) (by kernel_rfl) (by exact dC) (fun hS0=>?_);refine Φ 0 13 hS0 ?_;(iterate 8 (refine aR (v:=?_) (by rfl) ?_ ?_;rotate_left 1;(focus ((intro w' hS';have h0:=cell_later hS' c0;have h1:=cell_later hS' c1;go_simp);try with_reducible rfl));simp only [VF,ag,Ψ,ae]));(refine gT (v:=?_) (f:=?_) (args:=?_) (by rfl) ?_ ?_ ?_;rotate_left 3;(focus (intro w';go_simp;first|(with_reducible rfl)|(refine ⟨?_,?_⟩ <;> with_reducible rfl)));(focus (intro w' hS';with_reducible exact (BI _ body w' (uM.out.below hS') yQ Kl)));simp only [VF,ag,Ψ,ae]);(refine aR (v:=?_) (by rfl) ?_ ?_;rotate_left 1;(focus ((intro w' hS';have h0:=cell_later hS' c0;have h1:=cell_later hS' c1;go_simp);try with_reducible rfl));simp only [VF,ag,Ψ,ae]);(refine gT (v:=?_) (f:=?_) (args:=?_) (by rfl) ?_ ?_ ?_;rotate_left 3;(focus (intro w';go_simp;first|(with_reducible rfl)|(refine ⟨?_,?_⟩ <;> with_reducible rfl)));(focus (intro w' hS';with_reducible exact (BH _ body w' (uM.out.below hS') yQ Kl)));simp only [VF,ag,Ψ,ae]);(iterate 2 (refine aR (v:=?_) (by rfl) ?_ ?_;rotate_left 1;(focus ((intro w' hS';have h0:=cell_later hS' c0;have h1:=cell_later hS' c1;go_simp);try with_reducible rfl));simp only [VF,ag,Ψ,ae]));refine aT ?_;(refine gm 13 15 (by kernel_rfl) rfl rfl (fun K hK=>?_) (fun K hK=>?_));(focus (refine mV (by rfl) _ _ (by rfl) _ (.slice none 0 0) [] (by rfl) (Nb.nil _ _) (.slice (some ⟨g,rU+13,none⟩) (body.length - 13) (N9 - 13)) (body.drop 13) (by rfl) (HDR.out.below hS0) (by rw [V9];show 0+_<=_;omega) (Vu _) ?_;intro xa xc w3 lN hb3;simp only [Ws,V5,WT] at lN;simp only [VF,ag,Ψ,ae,Ws,V5];have fU:=hS0.trans (hb3.mono hS0.size);refine hK.out _ _ fU ?_;clear hK K;refine Φ 14 1 fU ?_;refine dI ?_;refine aT ?_;(refine ah 15 (fun K hK=>?_));refine iF (by rfl) (by rfl) ?_;intro pb w4 QM hb4 hl4;simp only [VF,ag,Ψ,ae];(refine hK.out _ _ (fU.trans (hb4.mono fU.size)) ?_);clear hK K;(refine ah 16 (fun K hK=>?_));(refine iE (by rfl) (by rfl) _ _ (by rfl) pb (by rfl) _ _ _ _ _ _ _ (by rfl) QM ?_);intro w5 Au hs5 rM FB;(refine hK.out _ _ (rM _ _ (VC fU.size hl4) (fU.trans (hb4.mono fU.size))) ?_);clear hK K;refine fZ ?_;have wN:=aQ (show Nb w5 w1.heap.size (.slice xa (body.drop 13).length xc) (body.drop 13) from (lN.below (rM _ _ hl4 hb4)).lower hS0.size);have rH:=aQ (rM _ _ (VC fU.size hl4) (fU.trans (hb4.mono fU.size)));have Dl:=aQ (VX HZ1.out (VC fU.size hl4));have wR:=aQ Au;clear Au hs5 rM FB QM hb4 hl4 lN hb3 fU hS0));rotate_left 1;(focus (refine iF (by rfl) (by rfl) ?_;intro pb w3 hp3 hb3 hl3;simp only [VF,ag,Ψ,ae];have fU:=hS0.trans (hb3.mono hS0.size);(refine hK.out _ _ fU ?_);clear hK K;(refine ah 13 (fun K hK=>?_));(refine mV (by rfl) _ _ (by rfl) _ (.slice none 0 0) [] (by rfl) (Nb.nil _ _) (.slice (some ⟨g,rU+13,none⟩) (body.length - 13) (N9 - 13)) (body.drop 13) (by rfl) (HDR.out.below fU) (by rw [V9];show 0+_<=_;omega) (Vu _) ?_);intro xa xc w4 nI hb4;simp only [Ws,V5,WT] at nI;simp only [VF,ag,Ψ,ae,Ws,V5];have p8:=fU.trans (hb4.mono fU.size);(refine hK.out _ _ p8 ?_);clear hK K;refine Φ 14 1 p8 ?_;refine dI ?_;refine aT ?_;(refine ah 16 (fun K hK=>?_));(refine iE (by rfl) (by rfl) _ _ (by rfl) pb (by rfl) _ _ _ _ _ _ _ (by rfl) ((hb4.block _ (lt_of_block hp3)).trans hp3) ?_);intro w5 Au hs5 rM FB;(refine hK.out _ _ (rM _ _ hl3 p8) ?_);clear hK K;refine fZ ?_;have wN:=aQ (show Nb w5 w1.heap.size (.slice xa (body.drop 13).length xc) (body.drop 13) from Nb.lower (B:=w3.heap.size) (Sl.keep nI fun k hk _=>FB k (by have:=lt_of_block hp3;have hk':w3.heap.size<=k:=hk;omega)) fU.size);have rH:=aQ (rM _ _ hl3 p8);have Dl:=aQ (VX HZ1.out hl3);have wR:=aQ Au;clear Au hs5 rM FB hp3 hb4 hl3 nI hb3 fU p8 hS0))
  all_goals
   have Tg:w5.heap[pb]? = some (.cells #[.int .u8 (U (bJ body).kind),.int .i64 (bJ body).cls,.int .i64 (bJ body).number,.int .i64 (bJ body).value,.slice xa (bJ body).pay.length xc] 103):=(by rw [<-Dh.out xa xc,V9];first|exact wR.out|(rw [show body.length - 13=0 by omega];exact wR.out));clear c0 c1 hx1 hwx hb0 hb1 hb1' GM yQ Kl;have NG:=aQ (show Nb w5 w1.heap.size (.slice xa (bJ body).pay.length xc) (bJ body).pay from wN.out);clear Dh wN wR HX0 xC;generalize bJ body=p at *;have wR:=aQ Tg;obtain ⟨y0,y1,y2,y3,y4⟩:=aO Tg;have FJ:=aQ ((rH.out.block _ HZ1.out).trans θ.out);clear Tg;go_wp2_with fail;(refine (GY p xa xc w5).mono ?_);rintro e w6 ⟨rfl,hb6⟩;have HR6:=aQ ((hb6.block _ (lt_of_block wR.out)).trans wR.out);have NB:=aQ ((hb6.block _ (lt_of_block FJ.out)).trans FJ.out);have HK6:=aQ (NG.out.below hb6);have JW:=aQ ((HB1.out.trans (rH.out.mono PU.out)).trans (hb6.mono (VC PU.out rH.out.size)));clear hb6 y0 y1 y2 y3 y4;obtain ⟨y0,y1,y2,y3,y4⟩:=aO HR6.out;obtain ⟨z0,z1,z2,z3,z4⟩:=aO NB.out;have zf:=fun i=>aD NB.out i;have hzl:=lt_of_block NB.out;(cases hv:iK p with|true=>(have HV:=aQ (HQ.out hv);clear hv HP HQ;go_wp2_with fail;obtain ⟨q0,q1,q2,q3,q4⟩:=aO (mJ NB.out (.int .u8 (U p.kind)) (.int .i64 p.cls) (.int .i64 p.number) (.int .i64 p.value) (.slice xa p.pay.length xc));exact bodyPost_ret (v:=.tuple #[.agg #[.int .u8 (U p.kind),.int .i64 p.cls,.int .i64 p.number,.int .i64 p.value,.slice xa p.pay.length xc],.int .i64 0]) (by simp [results,Tryz.results133,go_sem,q0,q1,q2,q3,q4]) rfl (jD.mk HV.out (Nb.lower (B:=w1.heap.size) (Sl.keep HK6.out fun k hk _=>fC (by have:=HZ1.out;have hk':w1.heap.size<=k:=hk;omega) _ _ _ _ _) PU.out) (VK (VK (VK (VK (VK JW.out (Vu _) _) (Vu _) _) (Vu _) _) (Vu _) _) (Vu _) _)))|false=>(have HV:=aQ (HP.out hv);clear hv HP HQ;go_wp2_with fail;obtain ⟨q0,q1,q2,q3,q4⟩:=aO (mJ NB.out (.int .u8 0) (.int .i64 0) (.int .i64 0) (.int .i64 0) (.slice none 0 0));exact bodyPost_ret (v:=.tuple #[.agg #[.int .u8 0,.int .i64 0,.int .i64 0,.int .i64 0,.slice none 0 0],.int .i64 1]) (by simp [results,Tryz.results133,go_sem,q0,q1,q2,q3,q4]) rfl (jD.zero HV.out (VK (VK (VK (VK (VK JW.out (Vu _) _) (Vu _) _) (Vu _) _) (Vu _) _) (Vu _) _))))
theorem MS (v:Value) (bs:List Byte) (w:World) (hb:By w v bs) (ht:uL w) (hm:bs.length<=100000) :
  Calls Vs 133 #[v] w (jD w bs):=by
 rcases wC bs with ⟨h,_⟩|⟨h,h2,_⟩|⟨h,h2,⟨h3,_⟩|⟨h3,_⟩⟩
 ·exact E8 v bs w hb h
 ·exact Jg v bs w hb h hm h2
 ·exact MR v bs w hb ht h hm h2 h3
 ·exact Jh v bs w hb ht h hm h2 h3

theorem BL {w:World} {B:Nat} {v:Value} {bs:List Byte} (h:Nb w B v bs) (h0:0 < bs.length):∃g off c,v=.slice (some ⟨g,off,none⟩) bs.length c/\B<=g/\(∀i,w.frozen? ⟨g,i,none⟩=false)/\∀k,k < bs.length->w.cell? ⟨g,off+k,none⟩=some (.int .u8 (U (bs.getD k 0))):=by
 have hby:=h.by
 rcases h.2 with ⟨_,e⟩|⟨g,off,cap,cur,rfl,hF,hg,_⟩
 ·omega
 ·obtain ⟨_,⟨hn,_⟩|⟨g',off',c',e,_,_,_,hc⟩⟩:=hby.cases
  ·rw [hn] at h0;simp at h0
  ·obtain ⟨⟨rfl,rfl⟩,rfl⟩:(g=g'/\off=off')/\cap=c':=by simpa using e
   exact ⟨g,off,cap,rfl,hF,fun i=>aD hg i,hc⟩

def rW (m:Nat):Nat->Nat
 |0=>0
 |k+1=>rW m k+m / 2 ^ k % 2
def Jy:Nat->List Byte
 |0=>[]
 |n+1=>if rW n 6=3 then Jy n++[V4 8 n] else Jy n
theorem SB:Jy 64=vs:=by decide +kernel
theorem Lc:∀n,(Jy n).length<=n
 |0=>Vu _
 |n+1=>by
  have:=Lc n;unfold Jy;split
  ·rw [Vx];simp;omega
  ·omega
theorem Gj (m:Nat):∀k,rW m k<=k
 |0=>Vu _
 |k+1=>by have:=Gj m k;show rW m k+m / 2 ^ k % 2<=_;omega
theorem tL (w:World) :
  Calls Vs 113 #[] w fun e w'=>∃a c,e=.returned (.slice a 20 c)/\Nb w' w.heap.size (.slice a 20 c) vs/\Below w.heap.size w w':=by
 go_enter Tryz.func113,Tryz.ntmps113;go_wp2_with fail;go_loopw [1,2] (fun u1 i wr=>∃n:Nat,n<=64/\i=.int .i64 (n:Int)/\Hid (Nb wr w.heap.size u1 (Jy n))/\Hid (Below w.heap.size w wr)) (fun _ i _=>64 - (intOf i).toNat)
 case atStart=>exact ⟨0,by omega,by go_num,aQ (Nb.nil _ _),aQ (VQ _ _)⟩
 case round=>
  obtain ⟨n,hn,rfl,HO,iV⟩:=hrel;by_cases hlt:n < 64
  ·obtain ⟨wo,rfl⟩:∃wo:World,wo=wr:=⟨wr,rfl⟩
   have hwr:=iV.out.size;have hfl:=Lc n;go_wp2_with fail
   go_loop [3,4] (fun s k=>∃j:Nat,j<=6/\k=.int .i64 (j:Int)/\s=.int .i64 (rW n j:Nat)) (fun _ k=>6 - (intOf k).toNat)
   case atStart=>exact ⟨0,by omega,by go_num,rfl⟩
   case round=>
    obtain ⟨j,hj,rfl,rfl⟩:=hrel;have hcl:=Gj n j;by_cases abD:j < 6
    ·have HE:=aQ (show rW n (j+1)=rW n j+n / 2 ^ j % 2 from rfl)
     obtain ⟨m,hm⟩:∃m,m=rW n j:=⟨_,rfl⟩;rw [<-hm] at HE hcl ⊢;clear hm;have hk5:j=0\/j=1\/j=2\/j=3\/j=4\/j=5:=by omega
     rcases hk5 with rfl|rfl|rfl|rfl|rfl|rfl
     ·go_wp2_with fail
      go_round
      case rel=>exact ⟨0+1,by omega,by go_num,by rw [HE.out];exact congrArg (VS .i64) (by omega)⟩
      case measure=>first|(simp [intOf];done)|(simp [intOf];omega)
     ·go_wp2_with fail
      go_round
      case rel=>exact ⟨1+1,by omega,by go_num,by rw [HE.out];exact congrArg (VS .i64) (by omega)⟩
      case measure=>first|(simp [intOf];done)|(simp [intOf];omega)
     ·go_wp2_with fail
      go_round
      case rel=>exact ⟨2+1,by omega,by go_num,by rw [HE.out];exact congrArg (VS .i64) (by omega)⟩
      case measure=>first|(simp [intOf];done)|(simp [intOf];omega)
     ·go_wp2_with fail
      go_round
      case rel=>exact ⟨3+1,by omega,by go_num,by rw [HE.out];exact congrArg (VS .i64) (by omega)⟩
      case measure=>first|(simp [intOf];done)|(simp [intOf];omega)
     ·go_wp2_with fail
      go_round
      case rel=>exact ⟨4+1,by omega,by go_num,by rw [HE.out];exact congrArg (VS .i64) (by omega)⟩
      case measure=>first|(simp [intOf];done)|(simp [intOf];omega)
     ·go_wp2_with fail
      go_round
      case rel=>exact ⟨5+1,by omega,by go_num,by rw [HE.out];exact congrArg (VS .i64) (by omega)⟩
      case measure=>first|(simp [intOf];done)|(simp [intOf];omega)
    ·obtain rfl:j=6:=by omega
     have hxl:(Jy n).length<=64:=by omega
     obtain ⟨ua,uc,rfl⟩:=HO.out.slice;by_cases h3:rW n 6=3
     ·have HE:=aQ (show Jy (n+1)=Jy n++[V4 8 n] by show (if rW n 6=3 then _ else _)=_;rw [if_pos h3])
      have ht:((rW n 6:Int) == 3)=true:=by simp;omega
      have HL:=aQ (show [VS .u8 (n:Int)]=cu [V4 8 n] by show _=[VS .u8 (U (V4 8 n))];rw [KJ (by omega)]);clear h3;generalize Jy n=xs at *;go_wp2_with (at_builtin;refine ai rfl _ _ rfl w.heap.size _ xs rfl (by exact HO.out.below (by exact dC)) _ [V4 8 n] rfl (eX _ _ _ _ [V4 8 n] 1 1 rfl HL.out rfl (Vu _) (by decide)) (by show xs.length+1<=_;omega) (by simp;omega) ?_;intro a' c' w2 hn2 hb2;have mI:=aQ hn2;have HB2:=aQ (iV.out.trans (Wi ((show Below wo.heap.size wo _ by exact dC).mono hwr) hb2));clear hn2 hb2);go_roundw
      case rel=>exact ⟨n+1,by omega,by go_num,aQ (by rw [HE.out];exact mI.out),HB2⟩
      case measure=>simp [intOf];omega
     ·have HE:=aQ (show Jy (n+1)=Jy n by show (if rW n 6=3 then _ else _)=_;rw [if_neg h3])
      have ht:((rW n 6:Int) == 3)=false:=by simp;omega
      clear h3;go_wp2_with fail;go_roundw
      case rel=>exact ⟨n+1,by omega,by go_num,aQ (by rw [HE.out];exact HO.out),iV⟩
      case measure=>simp [intOf];omega
  ·obtain rfl:n=64:=by omega
   have HF:=aQ (show Nb wr w.heap.size _ vs by have:=HO.out;rw [SB] at this;exact this);obtain ⟨a,c,rfl⟩:=HF.out.slice;go_wp2_with fail;go_ret;exact ⟨a,c,rfl,HF.out,iV.out⟩

def nM (s:Byte):Int:=if idx s < 20 then (idx s:Int) else -1
theorem Oi (k:Nat):vs.getD k 0=sym k:=rfl
theorem eY (s:Byte) (w:World):Calls Vs 72 #[.int .u8 (U s)] w fun e w'=>e=.returned (.int .i64 (nM s))/\Below w.heap.size w w':=by
 have hi:=DY s;go_enter Tryz.func72,Tryz.ntmps72;go_wp2_with fail;refine (tL w).mono ?_;rintro e w1 ⟨a,c,rfl,hn,hb⟩;have HB1:=aQ hb;obtain ⟨g,off,gc,e,_,_,hc⟩:=BL hn (by decide)
 obtain ⟨rfl,rfl⟩:a=some ⟨g,off,none⟩/\c=gc:=by
  have e':WS a 20 c=.slice (some ⟨g,off,none⟩) 20 gc:=e;simpa using e'
 have HC:=aQ hc;clear hn hb hc e;go_wp2_with fail
 go_loop [4] (fun i=>∃k:Nat,k<=idx s/\i=.int .i64 (k:Int)) (fun i=>20 - (intOf i).toNat)
 case atStart=>exact ⟨0,by omega,by go_num⟩
 case round=>
  obtain ⟨k,hk,rfl⟩:=hrel;by_cases hlt:k < 20
  ·have hck:=HC.out k hlt
   rw [Oi] at hck;by_cases he:k=idx s
   ·have hsy:sym k=s:=by rw [he];exact zm s (by omega)
    have hne:(sym k == s)=true:=by rw [hsy];simp
    have HV:=aQ (show nM s=(k:Int) by unfold nM;rw [if_pos (by omega),he]);clear he hsy;go_wp2_with fail;go_ret;exact ⟨by rw [HV.out];rfl,HB1.out⟩
   ·have hsy:=KQ s ⟨k,hlt⟩ (by show k < idx s;omega)
    have hne:(sym k == s)=false:=by simpa using hsy
    clear hsy;go_wp2_with fail
    go_round
    case rel=>exact ⟨k+1,by omega,by go_num⟩
    case measure=>simp [intOf];omega
  ·have HV:=aQ (show nM s = -1 by unfold nM;rw [if_neg (by omega)])
   go_wp2_with fail;go_ret;exact ⟨by rw [HV.out];rfl,HB1.out⟩

theorem MX {w:World} {b off n c:Nat} {bs:List Byte} (h:By w (.slice (some ⟨b,off,none⟩) n c) bs) {k:Nat} (hk:k < bs.length):b < w.heap.size:=by
 obtain ⟨_,⟨h0,_⟩|⟨bb,off',cp,e,_,_,_,hc⟩⟩:=h.cases
 ·rw [h0] at hk;simp at hk
 ·obtain ⟨⟨rfl,rfl⟩,_⟩:(b=bb/\off=off')/\n=bs.length/\c=cp:=by simpa using e
  exact Vv w _ (hc k hk)
theorem Ex (v:Value) (bs:List Byte) (w:World) (hb:By w v bs) (hm:bs.length<=100000) :
  Calls Vs 84 #[v] w fun e w'=>∃v',e=.returned v'/\Nb w' w.heap.size v' (encS bs)/\Below w.heap.size w w':=by
 have HB:=aQ hb;obtain ⟨a,cap,rfl⟩:=hb.slice;clear hb;go_enter Tryz.func84,Tryz.ntmps84;go_wp2_with fail;refine (tL w).mono ?_;rintro e w1 ⟨la,lc,rfl,hn,hb1⟩;have HB1:=aQ hb1;obtain ⟨g,rU,gc,e,_,_,hc⟩:=BL hn (by decide)
 obtain ⟨rfl,rfl⟩:la=some ⟨g,rU,none⟩/\lc=gc:=by
  have e':WS la 20 lc=.slice (some ⟨g,rU,none⟩) 20 gc:=e;simpa using e'
 have HC:=aQ hc;have nK:=aQ (HB.out.below hb1);have hz1:w.heap.size<=w1.heap.size:=hb1.size;clear hn hb1 hc e;go_wp2_with fail;go_loopw [4,5] (fun u4 i wr=>∃k:Nat,k<=bs.length/\i=.int .i64 (k:Int)/\Hid (Nb wr w1.heap.size u4 (encS (bs.take k)))/\Hid (Below w1.heap.size w1 wr)) (fun _ i _=>bs.length - (intOf i).toNat)
 case atStart=>exact ⟨0,by omega,by go_num,aQ (Nb.nil _ _),aQ (VQ _ _)⟩
 case round=>
  obtain ⟨k,hk,rfl,HO,iV⟩:=hrel;by_cases hlt:k < bs.length
  ·obtain ⟨_,⟨h0,_⟩|⟨bb,off,cp,e,_,_,_,hc⟩⟩:=(nK.out.below iV.out).cases
   ·rw [h0] at hlt;simp at hlt
   ·obtain ⟨rfl,rfl⟩:a=some ⟨bb,off,none⟩/\cap=cp:=by simpa using e
    have hck:=hc k hlt;have HE:=aQ (B_ bs k hlt);clear hc e;generalize hx:bs.getD k 0=x at *;have HX:=aQ hx;clear hx;rw [nQ] at hck;have hx256:x.toNat < 256:=x.isLt;have hd1:(0:Int)<=(x.toNat:Int) / 16/\(x.toNat:Int) / 16 < 20:=by omega
    have hd2:((x.toNat:Int) / 16).toNat=x.toNat / 16:=by omega
    have hd3:(0:Int)<=(x.toNat:Int) % 16/\(x.toNat:Int) % 16 < 20:=by omega
    have hd4:((x.toNat:Int) % 16).toNat=x.toNat % 16:=by omega
    have ht1:((x.toNat:Nat):Int).tdiv 16=(x.toNat:Int) / 16:=Int.tdiv_eq_ediv_of_nonneg (by omega);have ht2:((x.toNat:Nat):Int).tmod 16=(x.toNat:Int) % 16:=Int.tmod_eq_emod_of_nonneg (by omega);have ht3:IntKind.u8.wrap ((x.toNat:Int) / 16)=(x.toNat:Int) / 16:=by rw [Yr];omega
    have ht4:IntKind.u8.wrap ((x.toNat:Int) % 16)=(x.toNat:Int) % 16:=by rw [Yr];omega
    have hkk:(0:Int)<=(k:Int)/\(k:Int) < (bs.length:Int):=by omega
    have hv1:=cell_later iV.out (show w1.cell? ⟨g,rU+x.toNat / 16,none⟩=some (.int .u8 (U (sym (x.toNat / 16)))) from HC.out (x.toNat / 16) (by show _ < 20;omega));have hv2:=cell_later iV.out (show w1.cell? ⟨g,rU+x.toNat % 16,none⟩=some (.int .u8 (U (sym (x.toNat % 16)))) from HC.out (x.toNat % 16) (by show _ < 20;omega));have hl2:(encS (bs.take k)).length<=200000:=by rw [eB,VW];omega
    generalize hxs:encS (bs.take k)=xs at *;have uA:=aQ hxs;clear hxs;obtain ⟨ua,uc,rfl⟩:=HO.out.slice;have hwr:=iV.out.size;have Tw:=aQ (show g < w1.heap.size from Vv w1 _ (HC.out 0 (by decide)));have Tx:=aQ (show bb < w1.heap.size from MX nK.out hlt);go_wp2_with fail
    go_region_held3 (fun w'=>w'.cell? ⟨bb,off+k,none⟩=some (.int .u8 (x.toNat:Int))/\w'.cell? ⟨g,rU+x.toNat / 16,none⟩=some (.int .u8 (U (sym (x.toNat / 16))))/\w'.cell? ⟨g,rU+x.toNat % 16,none⟩=some (.int .u8 (U (sym (x.toNat % 16))))) (first|(with_reducible exact ⟨hck,hv1,hv2⟩)|(with_reducible exact ⟨hw0,hw1,hw2⟩)|exact ⟨cell_later (show Below wr.heap.size wr _ by exact dC) hck,cell_later (show Below wr.heap.size wr _ by exact dC) hv1,cell_later (show Below wr.heap.size wr _ by exact dC) hv2⟩)
     ((refine mV (by rfl) _ _ (by rfl) w1.heap.size _ xs (by rfl) (by exact HO.out.below (by exact dC)) _ [sym (x.toNat / 16),sym (x.toNat % 16)] (by rfl) (eX _ _ _ _ [sym (x.toNat / 16),sym (x.toNat % 16)] 2 2 (by simp) rfl rfl (Vu _) (by decide)) (by show xs.length+2<=_;omega) (by simp;omega) ?_;intro a' c' w2 hn2 hb2;have hw0:=(hb2.cell (p:=⟨bb,off+k,none⟩) Tx.out).trans (cell_later (show Below wr.heap.size wr _ by exact dC) hck);have hw1:=(hb2.cell (p:=⟨g,rU+x.toNat / 16,none⟩) Tw.out).trans (cell_later (show Below wr.heap.size wr _ by exact dC) hv1);have hw2:=(hb2.cell (p:=⟨g,rU+x.toNat % 16,none⟩) Tw.out).trans (cell_later (show Below wr.heap.size wr _ by exact dC) hv2);have mI:=aQ hn2;have HB2:=aQ (iV.out.trans (Wi ((show Below wr.heap.size wr _ by exact dC).mono hwr) hb2));clear hn2 hb2))
    go_wp2_with fail;go_roundw
    case rel=>exact ⟨k+1,by omega,by go_num,aQ (by rw [HE.out];exact mI.out),HB2⟩
    case measure=>simp [intOf];omega
  ·obtain rfl:k=bs.length:=by omega
   go_wp2_with fail;go_ret;exact ⟨_,rfl,by have:=HO.out;rw [Xd] at this;exact this.lower hz1,HB1.out.trans (iV.out.mono hz1)⟩

theorem I_ (p:Pk) (a:Option Addr) (c:Nat) (w:World) (hb:By w (.slice a p.pay.length c) p.pay) (hg:Good p) :
  Calls Vs 85 #[.agg #[.int .u8 (U p.kind),.int .i64 p.cls,.int .i64 p.number,.int .i64 p.value,.slice a p.pay.length c]] w fun e w'=>∃v',e=.returned v'/\Nb w' w.heap.size v' (eP p)/\Below w.heap.size w w':=by
 have nK:=aQ hb;have hc0:=hg.c0;have hc1:=hg.c1;have hpl:=hg.pay;have hn0:=hg.n0;have hn1:=hg.n1;have hv0:=hg.v0;have hv1:=hg.v1;clear hg hb;obtain ⟨kk,cls,num',val,pay⟩:=p;dsimp only at hc0 hc1 hpl hn0 hn1 hv0 hv1 ⊢;obtain ⟨n,rfl⟩:=Xt hn0;obtain ⟨v,rfl⟩:=Xt hv0;obtain ⟨p,hp⟩:∃p:Pk,p=⟨kk,cls,(n:Int),(v:Int),pay⟩:=⟨_,rfl⟩;have HE:=aQ (show eP p=iL ((([kk,VU 8 cls]++five n)++five v)++[V4 8 pay.length]++pay) by rw [hp];rfl);rw [<-hp];clear hp;have J_:=Qv hc0 hc1;have Tx:=aQ (show (#[VS .u8 (U kk),VS .u8 cls]:Array Value).toList=cu [kk,VU 8 cls] by show [VS .u8 (U kk),VS .u8 cls]=[VS .u8 (U kk),VS .u8 (U (VU 8 cls))];rw [J_]);clear J_;have hn1':n < 1099511627776:=by omega
 have NR:v < 1099511627776:=by omega
 go_enter Tryz.func85,Tryz.ntmps85;go_upto_region 1 with (fail)
 obtain ⟨w1,hw1⟩:∃w1,w1=w.alloc (.cells #[.int .u8 (U kk),.int .i64 cls,.int .i64 (n:Int),.int .i64 (v:Int),.slice a pay.length c] 103):=⟨_,rfl⟩;rw [<-hw1];have θ:=aQ (show w1.heap[w.heap.size]? = some (.cells #[.int .u8 (U kk),.int .i64 cls,.int .i64 (n:Int),.int .i64 (v:Int),.slice a pay.length c] 103) by rw [hw1];exact heap_alloc_new w _);have HB1:=aQ (show Below w.heap.size w w1 by rw [hw1];exact aK w _);have hz1:w.heap.size < w1.heap.size:=lt_of_block θ.out;clear hw1;obtain ⟨b0,b1,b2,b3,b4⟩:=aO θ.out;go_wp2_with fail;refine (tN n hn1' _).mono ?_;rintro e w2 ⟨f2a,f2c,rfl,hf2,hb2⟩;have Uh:=aQ ((Nb.lit w1 w1.heap.size [kk,VU 8 cls] _ 2 rfl (Vu _) Tx.out rfl (by decide)).below hb2);have hb2':Below w1.heap.size w1 w2:=Wi (aK w1 _) (hb2.mono (by simp));have xE:=aQ hf2;have ay:=aQ ((hb2'.block w.heap.size hz1).trans θ.out);have HB2:=aQ (HB1.out.trans (hb2'.mono HB1.out.size));have HZ2:=aQ hb2'.size;clear hf2 hb2 hb2' b0 b1 b2 b3 b4;go_upto_region 3 with (at_builtin;refine ai rfl _ _ rfl w1.heap.size _ [kk,VU 8 cls] rfl (by exact Uh.out) _ (five n) rfl xE.out.by (by rw [ou];simp) HZ2.out ?_;intro S_ S9 w3 lN hb3;generalize WS S_ (([kk,VU 8 cls]:List Byte).length+(five n).length) S9=v3 at lN ⊢;have yJ:=aQ lN;have dF:=aQ ((hb3.block w.heap.size hz1).trans ay.out);have HB3:=aQ (HB2.out.trans (hb3.mono (WL hz1)));have HZ3:=aQ (VC HZ2.out hb3.size);clear lN hb3)
 generalize hxs:[kk,VU 8 cls]++five n=xs at *;have hxl:xs.length<=7:=by rw [<-hxs];simp [five]
 clear hxs;obtain ⟨b0,b1,b2,b3,b4⟩:=aO dF.out;go_wp2_with fail;refine (tN v NR _).mono ?_;rintro e w4 ⟨f4a,f4c,rfl,JL,hb4⟩;have HX4:=aQ (yJ.out.below hb4);have HF4:=aQ JL;have kK:=aQ ((hb4.block w.heap.size (lt_of_block dF.out)).trans dF.out);have ui:=aQ (HB3.out.trans (hb4.mono HB3.out.size));have HZ4:=aQ (VC HZ3.out hb4.size);clear JL hb4 b0 b1 b2 b3 b4;go_upto_region 4 with (at_builtin;refine ai rfl _ _ rfl w1.heap.size _ xs rfl (by exact HX4.out) _ (five v) rfl HF4.out.by (by rw [ou];omega) HZ4.out ?_;intro x5a x5c w5 Ah hb5;generalize WS x5a (xs.length+(five v).length) x5c=v5 at Ah ⊢;have wN:=aQ Ah;have KN:=aQ ((hb5.block w.heap.size hz1).trans kK.out);have rH:=aQ (ui.out.trans (hb5.mono (WL hz1)));have HZ5:=aQ (VC HZ4.out hb5.size);clear Ah hb5)
 generalize hys:xs++five v=ys at *;have hyl:ys.length<=12:=by rw [<-hys];simp [five];omega
 clear hys;obtain ⟨b0,b1,b2,b3,b4⟩:=aO KN.out;have Tw:=aQ (show [VS .u8 (pay.length:Int)]=cu [V4 8 pay.length] by show _=[VS .u8 (U (V4 8 pay.length))];rw [KJ hpl]);have hs5:=lt_of_block KN.out;go_upto_region 5 with (at_builtin;refine ai rfl _ _ rfl w1.heap.size _ ys rfl (by exact wN.out.below (by exact dC)) _ [V4 8 pay.length] rfl (eX _ _ _ _ [V4 8 pay.length] 1 1 rfl Tw.out rfl (Vu _) (by decide)) (by show ys.length+1<=_;omega) (by have:=HZ5.out;simp;omega) ?_;intro x6a x6c w6 hn6 hb6;generalize WS x6a (ys.length+([V4 8 pay.length]:List Byte).length) x6c=v6 at hn6 ⊢;have HN6:=aQ hn6;have N7:=(show Below w1.heap.size w5 _ from (show Below w5.heap.size w5 _ by exact dC).mono HZ5.out).trans hb6;have aaq:=aQ ((N7.block w.heap.size hz1).trans KN.out);have JW:=aQ (rH.out.trans (N7.mono (WL hz1)));have HZ6:=aQ (VC HZ5.out N7.size);have aba:=aQ (nK.out.below JW.out);clear hn6 hb6 N7)
 generalize hzs:ys++[V4 8 pay.length]=zs at *;have hzl:zs.length<=13:=by rw [<-hzs];simp;omega
 clear hzs b0 b1 b2 b3 b4;obtain ⟨b0,b1,b2,b3,b4⟩:=aO aaq.out;go_wp2_with (at_builtin;refine ai rfl _ _ rfl w1.heap.size _ zs rfl (by exact HN6.out) _ pay rfl aba.out (by omega) HZ6.out ?_;intro x7a x7c w7 hn7 rJ;generalize WS x7a (zs.length+pay.length) x7c=v7 at hn7 ⊢;have HN7:=aQ hn7;have HB7:=aQ (JW.out.trans (rJ.mono (WL hz1)));have HZ7:=aQ (VC HZ6.out rJ.size);clear hn7 rJ);refine (vX v7 (zs++pay) w7 HN7.out.by).mono ?_;rintro e w' ⟨rfl,rfl⟩;have hbl:(zs++pay).length<=77:=by rw [Vx];omega
 have HE2:=aQ (show eP p=(zs++pay)++sU (rV (zs++pay)) from HE.out);generalize zs++pay=bd at *;obtain ⟨S,hS⟩:∃S,S=rV bd:=⟨_,rfl⟩;rw [<-hS] at HE2 ⊢;clear hS b0 b1 b2 b3 b4;go_wp2_with fail;go_loopw [3,5] (fun u3 i wr=>∃k:Nat,k<=4/\i=.int .i64 (k:Int)/\Hid (Nb wr w1.heap.size u3 (bd++(sU S).take k))/\Hid (Below w1.heap.size w7 wr)) (fun _ i _=>4 - (intOf i).toNat)
 case atStart=>exact ⟨0,by omega,by go_num,aQ (by rw [VI,Wp];exact HN7.out),aQ (VQ _ _)⟩
 case round=>
  obtain ⟨k,hk,rfl,HO,iV⟩:=hrel;have hwr:w1.heap.size<=wr.heap.size:=VC HZ7.out iV.out.size;by_cases hlt:k < 4
  ·have HEK:=aQ (show bd++(sU S).take (k+1)=(bd++(sU S).take k)++[(S >>> (8*k)).setWidth 8] by rw [BO S k hlt,VE])
   have hxl:(bd++(sU S).take k).length<=81:=by simp [sU];omega
   generalize bd++(sU S).take k=xs at *;clear hn1' NR hn0 hn1 hv0 hv1;go_wp2_with (at_builtin;refine ai rfl _ _ rfl w1.heap.size _ xs rfl (by exact HO.out.below (by exact dC)) _ [(S >>> (8*k)).setWidth 8] rfl (eX _ _ _ _ [(S >>> (8*k)).setWidth 8] 1 1 rfl rfl rfl (Vu _) (by decide)) (by show xs.length+1<=_;omega) (by simp;omega) ?_;intro a' c' w8 hn8 T_;have HN8:=aQ hn8;have HB8:=aQ (iV.out.trans (Wi ((show Below wr.heap.size wr _ by exact dC).mono hwr) T_));clear hn8 T_);go_roundw
   case rel=>exact ⟨k+1,by omega,by go_num,aQ (by rw [HEK.out];exact HN8.out),HB8⟩
   case measure=>simp [intOf];omega
  ·obtain rfl:k=4:=by omega
   go_wp2_with fail;go_ret;exact ⟨_,rfl,by rw [HE2.out];have:=HO.out;rw [Wn (by simp [sU])] at this;exact this.lower (WL hz1),HB7.out.trans (iV.out.mono (WL hz1))⟩

theorem Hg (p:Pk) (a:Option Addr) (c:Nat) (w:World) (hb:By w (.slice a p.pay.length c) p.pay) (hg:Good p) :
  Calls Vs 43 #[.agg #[.int .u8 (U p.kind),.int .i64 p.cls,.int .i64 p.number,.int .i64 p.value,.slice a p.pay.length c]] w fun e w'=>∃v',e=.returned v'/\Nb w' w.heap.size v' (dM p)/\Below w.heap.size w w':=by
 have HG:=aQ hg;have nK:=aQ hb;have hpl:=hg.pay;clear hg hb;go_enter Tryz.func43,Tryz.ntmps43;go_upto_region 1 with (fail)
 obtain ⟨w0,hw0⟩:∃w0,w0=w.alloc (.cells #[.int .u8 (U p.kind),.int .i64 p.cls,.int .i64 p.number,.int .i64 p.value,.slice a p.pay.length c] 103):=⟨_,rfl⟩;rw [<-hw0];have θ:=aQ (show w0.heap[w.heap.size]? = some (.cells #[.int .u8 (U p.kind),.int .i64 p.cls,.int .i64 p.number,.int .i64 p.value,.slice a p.pay.length c] 103) by rw [hw0];exact heap_alloc_new w _);have HB0:=aQ (show Below w.heap.size w w0 by rw [hw0];exact aK w _);have hz0:w.heap.size < w0.heap.size:=lt_of_block θ.out;clear hw0;obtain ⟨b0,b1,b2,b3,b4⟩:=aO θ.out;have RH:=aQ (nK.out.below HB0.out);go_wp2_with fail;refine (I_ p a c _ (By.alloc RH.out _) HG.out).mono ?_;rintro e w1 ⟨v1,rfl,hn1,hb1⟩;have xC:=aQ ((Nb.lit w0 w0.heap.size [49] #[.int .u8 49] 1 rfl (Vu _) rfl rfl (by decide)).below hb1);have hb1':Below w0.heap.size w0 w1:=Wi (aK w0 (.cells #[.int .u8 49] 5)) (hb1.mono (by simp));have Uu:=aQ hn1;have HB1:=aQ (HB0.out.trans (hb1'.mono (WL hz0)));have HZ1:=aQ hb1'.size;obtain ⟨bs,hbs⟩:∃bs,bs=eP p:=⟨_,rfl⟩;have hbl:bs.length<=81:=by rw [hbs,gN];omega
 rw [<-hbs] at Uu;have HS:=aQ (show dM p=([49]++encS bs)++[50] by unfold dM;rw [hbs];rfl);clear hb1 hb1' hn1 hbs b0 b1 b2 b3 b4;go_wp2_with fail;refine (Ex v1 bs w1 Uu.out.by (by omega)).mono ?_;rintro e w2 ⟨v2,rfl,hn2,hb2⟩;have Uh:=aQ (xC.out.below hb2);have mI:=aQ hn2;have HB2:=aQ (HB1.out.trans (hb2.mono HB1.out.size));have HZ2:=aQ (VC HZ1.out hb2.size);have hel:(encS bs).length<=162:=by rw [eB];omega
 clear hn2 hb2;generalize encS bs=es at *;go_upto_region 3 with (at_builtin;refine ai rfl _ _ rfl w0.heap.size _ [49] rfl (by exact Uh.out) _ es rfl mI.out.by (by show 1+es.length<=_;omega) HZ2.out ?_;intro S_ S9 w3 lN hb3;generalize WS S_ (([49]:List Byte).length+es.length) S9=v3 at lN ⊢;have yJ:=aQ lN;have HB3:=aQ (HB2.out.trans (hb3.mono (WL hz0)));have HZ3:=aQ (VC HZ2.out hb3.size);clear lN hb3)
 have hz3:=HZ3.out;go_wp2_with (at_builtin;refine ai rfl _ _ rfl w0.heap.size _ ([49]++es) rfl (by exact yJ.out.below (by exact dC)) _ [50] rfl (eX _ _ _ _ [50] 1 1 rfl rfl rfl (Vu _) (by decide)) (by rw [Vx];show 1+es.length+1<=_;omega) (by simp;omega) ?_;intro TH TG w4 nI hb4;generalize WS TH (([49]++es:List Byte).length+([50]:List Byte).length) TG=v4 at nI ⊢;have FK:=aQ nI;have ui:=aQ (HB3.out.trans (((show Below w0.heap.size w3 _ from (show Below w3.heap.size w3 _ by exact dC).mono hz3).trans hb4).mono (WL hz0)));clear nI hb4);go_ret;exact ⟨v4,rfl,by rw [HS.out];exact FK.out.lower (WL hz0),ui.out⟩



theorem vI (w:World):Calls Vs 50 #[] w fun e w'=>e=.returned (.pointer (some ⟨w.heap.size,0,none⟩))/\w'=w.alloc (.cells #[.bool false,.slice none 0 0,.int .i64 0] 195):=by
 go_enter Tryz.func50,Tryz.ntmps50;go_wp2_with fail;go_ret;exact ⟨rfl,rfl⟩

abbrev kJ (i:Bool) (v:Value) (b:Nat):Obj:=.cells #[.bool i,v,.int .i64 (b:Int)] 195
theorem iC {w:World} {sb:Nat} {i:Bool} {v:Value} {b:Nat} (h:w.heap[sb]? = some (kJ i v b)):w.cell? ⟨sb,0,none⟩=some (.bool i)/\w.cell? ⟨sb,1,none⟩=some v/\w.cell? ⟨sb,2,none⟩=some (.int .i64 (b:Int))/\(∀j,w.frozen? ⟨sb,j,none⟩=false):=
 ⟨aJ (i:=0) h rfl,aJ (i:=1) h rfl,aJ (i:=2) h rfl,fun j=>aD h j⟩
theorem lD (sb:Nat) (i:Bool) (v:Value) (b:Nat) (w:World) (h:w.heap[sb]? = some (kJ i v b)) (hb:b < 1000000) :
  Calls Vs 98 #[.pointer (some ⟨sb,0,none⟩)] w fun e w'=>e=.returned (.tuple #[])/\w'.heap[sb]? = some (kJ false v (b+1))/\Fr (fun k=>k=sb) w w':=by
 have H:=aQ h;obtain ⟨c0,c1,c2,cf⟩:=iC h;have hlt:=lt_of_block h;clear h;go_enter Tryz.func98,Tryz.ntmps98;go_wp2_with fail;go_end0;refine ⟨rfl,?_,by exact eZ⟩;rw [show (b:Int)+1=((b+1:Nat):Int) by omega]
 (refine aS (Ξ H.out) ?_)
 rfl
def abd (w:World) (sb:Nat) (v:Value) (ss:List Byte) (b:Nat) (e:Ending) (w':World):Prop:=
 ∃(r:Pk) (f:Bool) (a:Option Addr) (c:Nat),e=.returned (.tuple #[.agg #[.int .u8 (U r.kind),.int .i64 r.cls,.int .i64 r.number,.int .i64 r.value,.slice a r.pay.length c],.bool f])/\Nb w' w.heap.size (.slice a r.pay.length c) r.pay/\Fr (fun k=>k=sb) w w' /\
  ((f=true/\(ik ss).2.2=0/\gL (ik ss).1=(r,0)/\w'.heap[sb]? = some (kJ false v b))\/(f=false/\r=Pk.zero/\a=none/\c=0/\¬((ik ss).2.2=0/\(gL (ik ss).1).2=0)/\w'.heap[sb]? = some (kJ false v (b+1))))
theorem O9 (sb:Nat) (v:Value) (ss:List Byte) (b:Nat) (w:World) (h:w.heap[sb]? = some (kJ true v b)) (hv:By w v ss) (ht:lH w) (hb:b < 1000000) (hs:ss.length<=1000) :
  Calls Vs 97 #[.pointer (some ⟨sb,0,none⟩)] w (abd w sb v ss b):=by
 have H:=aQ h;have HV:=aQ hv;have HT:=aQ ht;obtain ⟨c0,c1,c2,cf⟩:=iC h;have hlt:=lt_of_block h;obtain ⟨va,vc,rfl⟩:=hv.slice;clear h hv ht;go_enter Tryz.func97,Tryz.ntmps97;go_wp2_with fail;obtain ⟨w1,hw1⟩:∃w1,w1=w.alloc (.cells #[.int .u8 0,.int .i64 0,.int .i64 0,.int .i64 0,.slice none 0 0] 103):=⟨_,rfl⟩;rw [<-hw1];have nN:=aQ (show w1.heap[w.heap.size]? = some (.cells #[.int .u8 0,.int .i64 0,.int .i64 0,.int .i64 0,.slice none 0 0] 103) by rw [hw1];exact heap_alloc_new w _);have HB1:=aQ (show Below w.heap.size w w1 by rw [hw1];exact aK w _);clear hw1;refine (Pg _ ss w1 (HV.out.below HB1.out) (HT.out.below HB1.out).val (by omega)).mono ?_;rintro e w2 ⟨v',rfl,hn,hb2⟩;have mI:=aQ hn.by;have HB2:=aQ (HB1.out.trans (hb2.mono HB1.out.size));have fA:=aQ ((hb2.block _ (lt_of_block nN.out)).trans nN.out);have HZ2:=aQ (VX (lt_of_block nN.out) hb2.size)
 have gK:=aQ (show (ik ss).1.length<=1000 by
  unfold ik;split
  ·simp
  ·split
   ·show (jZ ss).length<=_;rw [jO];omega
   ·simp)
 clear hn hb2;obtain ⟨r,hr⟩:∃r,r=ik ss:=⟨_,rfl⟩;rw [<-hr] at mI gK ⊢;have HR:=aQ hr;clear hr;obtain ⟨bs,n2,e2⟩:=r;dsimp only at mI gK ⊢;obtain ⟨ba,bc,rfl⟩:=mI.out.slice;by_cases he:e2=0
 ·subst he
  go_wp2_with fail;refine (MS _ bs w2 mI.out (HT.out.below HB2.out).tab (by have:=gK.out;omega)).mono ?_;rintro e w3 ⟨ra,rc,rfl,lN,hb3⟩;have yJ:=aQ lN;have HB3:=aQ (HB2.out.trans (hb3.mono HB2.out.size));have HQ3:=aQ ((hb3.block _ (lt_of_block fA.out)).trans fA.out);clear lN hb3;obtain ⟨q,hq⟩:∃q,q=gL bs:=⟨_,rfl⟩;rw [<-hq] at yJ ⊢;have HP:=aQ hq;clear hq;obtain ⟨q,qf⟩:=q;dsimp only at yJ ⊢;go_upto_region 4 with (fail)
  obtain ⟨w4,hw4⟩:∃w4,w4=w3.alloc (.cells #[.int .u8 (U q.kind),.int .i64 q.cls,.int .i64 q.number,.int .i64 q.value,.slice ra q.pay.length rc] 103):=⟨_,rfl⟩;rw [<-hw4];have hb4:Below w3.heap.size w3 w4:=by rw [hw4];exact aK w3 _
  have HY4:=aQ (show w4.heap[w3.heap.size]? = some (.cells #[.int .u8 (U q.kind),.int .i64 q.cls,.int .i64 q.number,.int .i64 q.value,.slice ra q.pay.length rc] 103) by rw [hw4];exact heap_alloc_new w3 _);have FK:=aQ (yJ.out.below hb4);have ui:=aQ (HB3.out.trans (hb4.mono HB3.out.size));have HQ4:=aQ ((hb4.block _ (lt_of_block HQ3.out)).trans HQ3.out);have nH:=aQ ((ui.out.block _ hlt).trans H.out);clear hw4 hb4 c0 c1 c2 cf;obtain ⟨c0,c1,c2,cf⟩:=iC nH.out;have abE:=lt_of_block nH.out;by_cases hf:qf=0
  ·subst hf
   have HFR:=aQ (show Fr (fun k=>k=sb) w (w4.setCell ⟨sb,0,none⟩ (.bool false)) from (Fr.of_below (Fr.refl (fun k=>k=sb) w) ui.out).setCell (p:=⟨sb,0,none⟩) (.inl rfl) _);obtain ⟨w5,wL⟩:∃w5,w5=w4.setCell ⟨sb,0,none⟩ (.bool false):=⟨_,rfl⟩;rw [<-wL] at HFR;have qz:=aQ (show w5.heap[sb]? = some (kJ false (.slice va ss.length vc) b) by rw [wL];(refine aS (Ξ nH.out) ?_);rfl);have hne1:w.heap.size≠sb:=by omega
   have Tn:=aQ (show w5.heap[w3.heap.size]? = some (.cells #[.int .u8 (U q.kind),.int .i64 q.cls,.int .i64 q.number,.int .i64 q.value,.slice ra q.pay.length rc] 103) by rw [wL];exact (Wy _ _ _ _ (by show w3.heap.size≠sb;have:=HB3.out.size;omega)).trans HY4.out);have FJ:=aQ (show w5.heap[w.heap.size]? = some (.cells #[.int .u8 0,.int .i64 0,.int .i64 0,.int .i64 0,.slice none 0 0] 103) by rw [wL];exact (Wy _ _ _ _ hne1).trans HQ4.out);have wN:=aQ (show Nb w5 w2.heap.size (.slice ra q.pay.length rc) q.pay by rw [wL];exact Sl.keep FK.out fun k hk _=>Wy _ _ _ _ (by show k≠sb;have hk':w2.heap.size<=k:=hk;have:=HZ2.out;omega));have HW5:=aQ wL;clear wL;go_upto_region 6 with (fail)
   rw [<-HW5.out];clear c0 c1 c2 cf;obtain ⟨y0,y1,y2,y3,y4⟩:=aO Tn.out;obtain ⟨z0,z1,z2,z3,z4⟩:=aO FJ.out;have zf:=fun i=>aD FJ.out i
   have hzl:=lt_of_block FJ.out;go_wp2_with fail;obtain ⟨q0,q1,q2,q3,q4⟩:=aO (mJ FJ.out (.int .u8 (U q.kind)) (.int .i64 q.cls) (.int .i64 q.number) (.int .i64 q.value) (.slice ra q.pay.length rc))
   exact bodyPost_ret (v:=.tuple #[.agg #[.int .u8 (U q.kind),.int .i64 q.cls,.int .i64 q.number,.int .i64 q.value,.slice ra q.pay.length rc],.bool true]) (by simp [results,Tryz.results97,go_sem,q0,q1,q2,q3,q4]) rfl
    ⟨q,true,ra,rc,rfl,Nb.lower (B:=w2.heap.size) (Sl.keep wN.out fun k hk _=>fC (by have hk':w2.heap.size<=k:=hk;have:=HZ2.out;omega) _ _ _ _ _) HB2.out.size,
     HFR.out.trans (show Fr (fun k=>k=w.heap.size) w5 ((((((w5).setCell ⟨w.heap.size,0,none⟩ _).setCell ⟨w.heap.size,1,none⟩ _).setCell ⟨w.heap.size,2,none⟩ _).setCell ⟨w.heap.size,3,none⟩ _).setCell ⟨w.heap.size,4,none⟩ _) from by exact eZ) (fun k hk=>.inr (by omega)),.inl ⟨rfl,by rw [<-HR.out],by rw [<-HR.out];exact HP.out.symm,(fC (ZQ hne1) _ _ _ _ _).trans qz.out⟩⟩
  ·have hqf:(qf == 0)=false:=by simpa using hf
   have HBAD:=aQ (show ¬((ik ss).2.2=0/\(gL (ik ss).1).2=0) from fun hh=>hf (by have:=hh.2;rw [<-HR.out] at this;dsimp only at this;rw [<-HP.out] at this;exact this));clear hf;go_upto_region 7 with (fail)
   go_wp2_with fail;(refine (lD sb true _ b w4 nH.out hb).mono ?_);rintro e w8 ⟨rfl,JK,QN⟩;have hne1:w.heap.size≠sb:=(by omega);have HS8:=aQ JK;have NA:=aQ (QN.keep HQ4.out (by show ¬_=_;exact hne1));have HF8:=aQ ((Fr.of_below (Fr.refl (fun k=>k=sb) w) ui.out).trans QN fun k hk=>.inl hk);clear JK QN;obtain ⟨z0,z1,z2,z3,z4⟩:=aO NA.out;have zf:=fun i=>aD NA.out i;have hzl:=lt_of_block NA.out;go_wp2_with fail;obtain ⟨q0,q1,q2,q3,q4⟩:=aO (mJ NA.out (.int .u8 0) (.int .i64 0) (.int .i64 0) (.int .i64 0) (.slice none 0 0));exact bodyPost_ret (v:=.tuple #[.agg #[.int .u8 0,.int .i64 0,.int .i64 0,.int .i64 0,.slice none 0 0],.bool false]) (by simp [results,Tryz.results97,go_sem,q0,q1,q2,q3,q4]) rfl ⟨Pk.zero,false,none,0,rfl,Nb.nil _ _,HF8.out.trans (show Fr (fun k=>k=w.heap.size) w8 ((((((w8).setCell ⟨w.heap.size,0,none⟩ _).setCell ⟨w.heap.size,1,none⟩ _).setCell ⟨w.heap.size,2,none⟩ _).setCell ⟨w.heap.size,3,none⟩ _).setCell ⟨w.heap.size,4,none⟩ _) from by exact eZ) (fun k hk=>.inr (by have hk':k=w.heap.size:=hk;omega)),.inr ⟨rfl,rfl,rfl,rfl,HBAD.out,(fC (ZQ hne1) _ _ _ _ _).trans HS8.out⟩⟩
 ·have hqf:(e2 == 0)=false:=by simpa using he
  have HBAD:=aQ (show ¬((ik ss).2.2=0/\(gL (ik ss).1).2=0) from fun hh=>he (by have:=hh.1;rw [<-HR.out] at this;exact this));clear he;have HS2:=aQ ((HB2.out.block _ hlt).trans H.out);go_upto_region 7 with (fail)
  go_wp2_with fail;(refine (lD sb true _ b w2 HS2.out hb).mono ?_);rintro e w8 ⟨rfl,JK,QN⟩;have hne1:w.heap.size≠sb:=(by omega);have HS8:=aQ JK;have NA:=aQ (QN.keep fA.out (by show ¬_=_;exact hne1));have HF8:=aQ ((Fr.of_below (Fr.refl (fun k=>k=sb) w) HB2.out).trans QN fun k hk=>.inl hk);clear JK QN;obtain ⟨z0,z1,z2,z3,z4⟩:=aO NA.out;have zf:=fun i=>aD NA.out i;have hzl:=lt_of_block NA.out;go_wp2_with fail;obtain ⟨q0,q1,q2,q3,q4⟩:=aO (mJ NA.out (.int .u8 0) (.int .i64 0) (.int .i64 0) (.int .i64 0) (.slice none 0 0));exact bodyPost_ret (v:=.tuple #[.agg #[.int .u8 0,.int .i64 0,.int .i64 0,.int .i64 0,.slice none 0 0],.bool false]) (by simp [results,Tryz.results97,go_sem,q0,q1,q2,q3,q4]) rfl ⟨Pk.zero,false,none,0,rfl,Nb.nil _ _,HF8.out.trans (show Fr (fun k=>k=w.heap.size) w8 ((((((w8).setCell ⟨w.heap.size,0,none⟩ _).setCell ⟨w.heap.size,1,none⟩ _).setCell ⟨w.heap.size,2,none⟩ _).setCell ⟨w.heap.size,3,none⟩ _).setCell ⟨w.heap.size,4,none⟩ _) from by exact eZ) (fun k hk=>.inr (by have hk':k=w.heap.size:=hk;omega)),.inr ⟨rfl,rfl,rfl,rfl,HBAD.out,(fC (ZQ hne1) _ _ _ _ _).trans HS8.out⟩⟩

end Go.Proofs.YtjnbanjjoomecaaGreatDoor
