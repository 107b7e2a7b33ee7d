/- Lemmas of this proof (texts CrcA CrcB CrcH CrcF CrcK FrmA FrmW FrmB U8 FrmC FrmD FrmE FrmF FrmG FrmH FrmI FrmJ FrmK FrmL FrmM FrmN FrmO FrmR FrmS FrmT FrmU FrnB). -/
import Derived.Test.YtcbnhebiagdbiaaGreatDoorRows
import Derived.Test.YtcbnhebiagdbiaaGreatDoorPkA1
import Derived.Test.YtcbnhebiagdbiaaGreatDoorPkB1
import Derived.WalkKit
import Derived.WalkSpells
import Derived.WalkLawsBesides
import Derived.Lib.Hide
import Derived.Deep.QuietTactic
import Derived.BigQuiet
import Derived.IntWalk
import Derived.Deep.MidRow
import Derived.Deep.RegionHeld3
import Derived.Lib.LaidTab
import Derived.Deep.Cut
import Derived.RegionTactic
import Derived.ChangeAlike
namespace Go.Proofs.YtcbnhebiagdbiaaGreatDoor
set_option maxHeartbeats 64000000
section
open Go.RowKit
attribute [go_sem] nib_fold
@[go_sem] theorem and15_lt (r:BitVec 32):U (r &&& 15#32) < 16:=by
 unfold U;rw [BitVec.toNat_and];have:r.toNat &&& (15#32).toNat < 16:=Nat.lt_of_le_of_lt Nat.and_le_right (by decide)
 omega
def Tab (w:World):Prop:=∀r:BitVec 32,w.cell? ⟨3,N (r &&& 15#32),none⟩=some (.int .u32 (U (rem4 r)))
theorem update_ne (sum : BitVec 32) (b off cap : Nat) (xs : List (BitVec 8)) (w : World) (hm : xs.length ≤ maxLen)
   (hc : ∀ k, k < xs.length → w.cell? ⟨b, off + k, none⟩ = some (.int .u8 (U (xs.getD k 0))))
   (ht : ∀ r : BitVec 32, w.cell? ⟨3, N (r &&& 15#32), none⟩ = some (.int .u32 (U (rem4 r)))) :
    Calls Tryz.prog 202 #[.int .u32 (U sum), .slice (some ⟨b, off, none⟩) xs.length cap] w fun e w' => e = .returned (.int .u32 (U (crcUpd sum xs))) ∧ w = w' := by
  unfold maxLen at hm
  go_enter Tryz.func202, Tryz.ntmps202
  go_wp2
  go_loop [5, 12] (fun r i => ∃ k : Nat, k ≤ xs.length ∧ i = .int .i64 k ∧ r = .int .u32 (U (reg (~~~ sum) (xs.take k)))) (fun _ i => xs.length - (intOf i).toNat)
  case atStart => exact ⟨0, Nat.zero_le _, rfl, rfl⟩
  case round =>
    obtain ⟨k, hk, rfl, rfl⟩ := hrel
    by_cases hlt : k < xs.length
    · have hck := hc k (by omega)
      have hR := reg_snoc (~~~sum) xs k hlt
      have HR := aQ hR; clear hR hc
      generalize hR : reg (~~~sum) (xs.take k) = R at *
      generalize hx : xs.getD k 0 = x at *
      have HR2 := aQ hR; clear hR
      have HR3 := aQ hx; clear hx
      go_wp2
      go_round
      case rel => exact ⟨k + 1, by omega, by go_num, by rw [HR.out]; rfl⟩
      case measure => simp [intOf]; omega
    · have hk' : k = xs.length := by omega
      go_wp2
      go_ret
      exact ⟨rfl, rfl⟩
theorem update_nil (sum:BitVec 32) (a:Option Addr) (cap:Nat) (w:World) :
  Calls Tryz.prog 202 #[.int .u32 (U sum),.slice a 0 cap] w fun e w'=>e=.returned (.int .u32 (U (crcUpd sum [])))/\w=w':=by
 go_enter Tryz.func202,Tryz.ntmps202
 go_wp2
 refine wp_loop_rounds 1 ?_;rw [rounds_succ]
 go_wp2
 go_ret
 have e:crcUpd sum []=sum:=by simp [crcUpd,reg]
 rw [e]
 exact ⟨rfl,rfl⟩
theorem update_any (sum:BitVec 32) (v:Value) (bs:List (BitVec 8)) (w:World) (hv:By w v bs) (ht:Tab w) :
  Calls Tryz.prog 202 #[.int .u32 (U sum),v] w fun e w'=>e=.returned (.int .u32 (U (crcUpd sum bs)))/\w=w':=by
 obtain ⟨hm,⟨rfl,a,cap,rfl,_⟩|⟨b,off,cap,rfl,_,_,_,hc⟩⟩:=hv.cases
 ·exact update_nil sum a cap w
 ·exact update_ne sum b off cap bs w hm hc ht
theorem sum_any (v:Value) (bs:List (BitVec 8)) (w:World) (hv:By w v bs) (ht:Tab w) :
  Calls Tryz.prog 186 #[v] w fun e w'=>e=.returned (.int .u32 (U (csum bs)))/\w=w':=by
 have H:=aQ (update_any 0 v bs w hv ht)
 clear hv ht
 go_enter Tryz.func186,Tryz.ntmps186
 go_wp2_with fail
 refine H.out.mono ?_
 rintro e w' ⟨rfl,rfl⟩
 go_wp2
 go_ret
 exact ⟨rfl,rfl⟩
end

section
open Go.RowKit
theorem shr_u32_nat (yk:IntKind) (x:BitVec 32) (k:Nat):Op.shift .shr .u32 (U x) yk (k:Int)=pure (.int .u32 (U (x >>> k))):=by
 unfold Op.shift
 rw [if_neg (by omega)]
 have e:IntKind.u32.bits=32:=rfl
 have hx:=x.isLt
 simp only [e,Int.toNat_natCast]
 congr 2
 unfold U
 rw [BitVec.toNat_ushiftRight,Nat.shiftRight_eq_div_pow]
 have h2:(2:Int) ^ min k 32=((2 ^ min k 32:Nat):Int):=by simp
 rw [h2,Int.fdiv_eq_ediv_of_nonneg _ (Int.natCast_nonneg _)]
 by_cases h:k<=32
 ·rw [Nat.min_eq_left h];rfl
 ·have h3:min k 32=32:=by omega
  have h4:2 ^ 32<=2 ^ k:=Nat.pow_le_pow_right (by decide) (by omega)
  have a1:x.toNat / 2 ^ k=0:=Nat.div_eq_of_lt (Nat.lt_of_lt_of_le hx h4)
  have a2:x.toNat / 2 ^ 32=0:=Nat.div_eq_of_lt hx
  rw [h3,a1]
  have:((x.toNat:Int) / ((2 ^ 32:Nat):Int))=((x.toNat / 2 ^ 32:Nat):Int):=rfl
  rw [this,a2]
attribute [go_sem ↓ high] shr_u32_nat
end

set_option maxRecDepth 100000
section
open Go.RowKit
theorem By_blk {w:World} {g:Nat} {arr:Array Value} {T:TypeId} {fr:Nat × Nat} (bs:List (BitVec 8)) (h:w.heap[g]? = some (.cells arr T fr)) (hc:arr.toList.take bs.length=cu bs) {n cap:Nat} (hn:n=bs.length) (hcap:n<=cap/\cap<=maxLen) :
  By w (.slice (some ⟨g,0,none⟩) n cap) bs:=by
 subst hn
 refine ⟨by rw [cu_length,Nat.mul_one],_,cap,rfl,hcap.1,hcap.2,(fun e=>by cases e),fun b hb j u hj=>?_⟩
 obtain rfl:=Option.some.inj hb
 refine ⟨rfl,?_⟩
 rw [<-hc,List.getElem?_take] at hj
 split at hj
 ·simp only [World.cell?,h,Nat.zero_add]
  simpa using hj
 ·cases hj
theorem heap_new (w:World) (o:Obj):(w.alloc o).heap[w.heap.size]? = some o:=by unfold World.alloc;simp
theorem By_lit (w:World) (g:Nat) (arr:Array Value) (T:TypeId) (bs:List (BitVec 8)) (n cap:Nat) (hg:g=w.heap.size) (hc:arr.toList.take bs.length=cu bs) (hn:n=bs.length) (hcap:n<=cap) (hm:cap<=maxLen) :
  By (w.alloc (.cells arr T)) (.slice (some ⟨g,0,none⟩) n cap) bs:=by
 subst hg;exact By_blk bs (heap_new _ _) hc hn ⟨hcap,hm⟩
theorem By.alloc {w:World} {v:Value} {bs:List (BitVec 8)} (h:By w v bs) (o:Obj):By (w.alloc o) v bs:=h.below ((Below.refl _ _).alloc (Nat.le_refl _) _)
theorem Tab.keep {w w':World} (h:Tab w) (hk : 3 < w.heap.size->w'.heap[3]? = w.heap[3]?):Tab w':=fun r=>by
 have:=h r
 have hlt:=World.block_lt_of_cell? w _ this
 exact (World.cell?_of_block (hk hlt)).trans this
theorem Tab.below {w w':World} (h:Tab w) (hb:Below w.heap.size w w'):Tab w':=h.keep fun hk=>hb.block _ hk
theorem Tab.alloc {w:World} (h:Tab w) (o:Obj):Tab (w.alloc o):=Tab.below h ((Below.refl _ _).alloc (Nat.le_refl _) _)
theorem By.slice {w:World} {v:Value} {bs:List (BitVec 8)} (h:By w v bs):∃a cap,v=.slice a bs.length cap:=by
 obtain ⟨_,a,cap,rfl,_⟩:=h;exact ⟨a,cap,rfl⟩
end

section
open Go.RowKit
theorem slB:SlT Tryz.prog 42 5 (.int .u8 0) 1 1:=⟨Tryz.underlying42,info_parts (by kernel_rfl),rfl,by decide⟩
theorem shr_u32_8nat (yk:IntKind) (x:BitVec 32) (k:Nat):Op.shift .shr .u32 (U x) yk (8*(k:Int))=pure (.int .u32 (U (x >>> (8*k)))):=shr_u32_nat yk x (8*k)
attribute [go_sem ↓ high] shr_u32_8nat
@[go_sem] theorem u32_u8_bv (x:BitVec 32):U x % 256=U (x.setWidth 8):=by
 unfold U;rw [BitVec.toNat_setWidth];rfl
@[go_sem] theorem wrap_u8_u32_bv (x:BitVec 32):IntKind.u8.wrap (U x)=U (x.setWidth 8):=by
 rw [IntKind.wrap_u8];exact u32_u8_bv x
theorem ow_lt {T:TypeId} {w:World} {base:Nat} {v:Value} {bs:List (BitVec 8)} (h:Ow T w base v bs):∀k,v.ownBlock=some k->base<=k:=fun k hk=>(World.ownsRow.lt h k hk).1
theorem Ow.alloc {T:TypeId} {w:World} {base:Nat} {v:Value} {bs:List (BitVec 8)} (h:Ow T w base v bs) (o:Obj):Ow T (w.alloc o) base v bs:=World.ownsRow.alloc h o
theorem ow_app {T:TypeId} {w:World} {base:Nat} {v:Value} {xs ys:List (BitVec 8)} (h:w.ownsRow base T 1 v (xs.length+ys.length) (cu xs++cu ys)):Ow T w base v (xs++ys):=by
 unfold Ow;rw [List.length_append,<-cu_app];exact h
theorem append_any (v:Value) (bs:List (BitVec 8)) (w:World) (hv:By w v bs) (ht:Tab w) (hm:bs.length<=1048576) :
  Calls Tryz.prog 149 #[v] w fun e w'=>∃v',e=.returned v'/\Ow 5 w' w.heap.size v' (sealed bs)/\Below w.heap.size w w':=by
 have HV:=aQ hv
 have HT:=aQ ht;clear ht
 obtain ⟨a,cap,rfl⟩:=hv.slice
 clear hv
 go_enter Tryz.func149,Tryz.ntmps149
 go_wp2_with fail
 refine (sum_any _ bs _ HV.out HT.out).mono ?_
 rintro e w1 ⟨rfl,rfl⟩
 generalize hS:csum bs=S at *
 have HS:=aQ hS;clear hS
 go_wp2_with (first
  |(at_make;refine wpList_mk slB rfl _ _ rfl w.heap.size _ rfl rfl (by omega) (by omega) (by unfold maxLen;omega) (Nat.le_refl _) ?_;intro w1 hown1 hg1;have HB1:=aQ ((Below.refl w.heap.size w).grown hg1 (Nat.le_refl _) (fun k e=>by cases e));have HO1:=aQ hown1;clear hown1 hg1)
  |(at_builtin;refine wpList_app slB rfl _ _ rfl w.heap.size _ 0 [] rfl HO1.out _ bs.length (cu bs) rfl (HV.out.below HB1.out) cu_one (by unfold maxLen;omega) (by omega) HB1.out.size ?_;intro v2 w2 hown2 hg2 _;have HB2:=aQ (HB1.out.grown hg2 HB1.out.size (fun k e=>by cases e;exact Nat.le_refl _));have HO2:=aQ hown2;clear hown2 hg2 HO1))
 have hO2:Ow 5 w2 w.heap.size v2 bs:=by simpa [Ow] using HO2.out
 have HO3:=aQ hO2;clear hO2
 go_loopw [4,15] (fun v i wr=>∃k:Nat,k<=4/\i=.int .i64 k/\Hid (Ow 5 wr w.heap.size v (bs++(le4 S).take k))/\Hid (Below w.heap.size w wr)) (fun _ i _=>4 - (intOf i).toNat)
 case atStart=>exact ⟨0,by omega,rfl,aQ (by simpa using HO3.out),HB2⟩
 case round=>
  obtain ⟨k,hk,rfl,HO,HB⟩:=hrel
  by_cases hlt:k < 4
  ·have hlen:(bs++(le4 S).take k).length<=1048580:=by simp [le4];omega
   have hsz:=HB.out.size
   generalize hxs:bs++(le4 S).take k=xs at *
   have HX:=aQ hxs;clear hxs
   go_wp2_with (at_builtin;refine wpList_app slB rfl _ _ rfl w.heap.size _ xs.length (cu xs) rfl (HO.out.alloc _) _ 1 (cu [(S >>> (8*k)).setWidth 8]) rfl (By_lit _ _ _ _ [(S >>> (8*k)).setWidth 8] 1 1 rfl (by rfl) rfl (Nat.le_refl _) (by decide)) cu_one (by unfold maxLen;omega) (by omega) (by simp;omega) ?_;intro v3 w3 hown3 hg3 _;have HB3:=aQ ((HB.out.alloc hsz _).grown hg3 (by simp;omega) (ow_lt HO.out));have HO3:=aQ (ow_app (ys:=[(S >>> (8*k)).setWidth 8]) hown3);clear hown3 hg3)
   go_roundw
   case rel=>exact ⟨k+1,by omega,by go_num,aQ (by rw [le4_take S k hlt,<-List.append_assoc,HX.out];exact HO3.out),HB3⟩
   case measure=>simp [intOf];omega
  ·obtain rfl:k=4:=by omega
   go_wp2_with fail
   go_ret
   have hO:=HO.out
   rw [<-HS.out] at hO
   exact ⟨_,rfl,hO,HB.out⟩
end

set_option maxRecDepth 100000
section
open Go.RowKit
theorem shl_u32_8nat (yk:IntKind) (x:BitVec 32) (k:Nat) (hk:k < 4):Op.shift .shl .u32 (U x) yk (8*(k:Int))=pure (.int .u32 (U (x <<< (8*k)))):=by
 rw [shift_shl .u32 yk (U x) (8*(k:Int)) (by omega) (by have:((IntKind.u32.bits:Nat):Int)=32:=rfl;omega)]
 congr 2
 rw [IntKind.wrap_u32]
 unfold U
 rw [BitVec.toNat_shiftLeft,Nat.shiftLeft_eq]
 have e:(8*(k:Int)).toNat=8*k:=by omega
 rw [e]
 have e2:(2:Int) ^ (8*k)=((2 ^ (8*k):Nat):Int):=by simp
 rw [e2,<-Int.natCast_mul]
 rfl
attribute [go_sem ↓ high] shl_u32_8nat
theorem getD_drop {α : Type} (l:List α) (n k:Nat) (d : α):(l.drop n).getD k d=l.getD (n+k) d:=by
 simp [List.getD,List.getElem?_drop]
theorem check_long (v:Value) (bs:List (BitVec 8)) (h4:4<=bs.length) (hm:bs.length<=1048576) (w:World) (hv:By w v bs) (ht:Tab w) :
  Calls Tryz.prog 192 #[v] w fun e w'=>(cK bs=false/\e=.returned (.tuple #[.slice none 0 0,.int .i64 9])/\Below w.heap.size w w') \/
   (cK bs=true/\∃v',e=.returned (.tuple #[v',.int .i64 0])/\Ow 5 w' w.heap.size v' (bs.take (bs.length - 4))/\Below w.heap.size w w'):=by
 have HV:=aQ hv
 have HT:=aQ ht;clear ht
 obtain ⟨_,⟨rfl,a,cap,rfl,_⟩|⟨b,off,cap,rfl,h0,hcap,hcm,hc⟩⟩:=hv.cases
 ·simp at h4
 clear hv
 obtain ⟨n,hn⟩:∃n,bs.length=n+4:=⟨bs.length - 4,by omega⟩
 have en:bs.length - 4=n:=by omega
 rw [hn] at h4 hm hcap hc HV ⊢
 have hS:cK bs=(rd4 (bs.drop n) 4 == csum (bs.take n)):=by unfold cK;rw [en]
 rw [hS]
 have en2:n+4 - 4=n:=by omega
 rw [en2]
 have HN:=aQ hn;clear hn en hS en2
 go_enter Tryz.func192,Tryz.ntmps192
 go_wp2_with fail
 go_loop [5,12] (fun s i=>∃k:Nat,k<=4/\i=.int .i64 k/\s=.int .u32 (U (rd4 (bs.drop n) k))) (fun _ i=>4 - (intOf i).toNat)
 case atStart=>exact ⟨0,by omega,rfl,rfl⟩
 case round=>
  obtain ⟨k,hk,rfl,rfl⟩:=hrel
  by_cases hlt:k < 4
  ·have hck:=hc (n+k) (by omega)
   have hR:rd4 (bs.drop n) (k+1)=rd4 (bs.drop n) k ||| ((bs.getD (n+k) 0).setWidth 32 <<< (8*k)):=by
    show _ ||| (((bs.drop n).getD k 0).setWidth 32 <<< (8*k))=_
    rw [getD_drop]
   have HR:=aQ hR;clear hR hc
   generalize hr:rd4 (bs.drop n) k=r at *
   generalize hx:bs.getD (n+k) 0=x at *
   have Hr:=aQ hr;clear hr
   have Hx:=aQ hx;clear hx
   go_wp2_with fail
   go_round
   case rel=>exact ⟨k+1,by omega,by go_num,by rw [HR.out]⟩
   case measure=>simp [intOf];omega
  ·obtain rfl:k=4:=by omega
   have ht':=By.take (n:=n) HV.out (by omega)
   have HT':=aQ ht';clear ht'
   go_wp2_with fail
   refine (sum_any _ (bs.take n) _ HT'.out HT.out).mono ?_
   rintro e w1 ⟨rfl,rfl⟩
   generalize hr:rd4 (bs.drop n) 4=r at *
   generalize hS:csum (bs.take n)=S at *
   have Hr:=aQ hr;clear hr
   have HS:=aQ hS;clear hS
   have hln:(bs.take n).length=n:=by rw [List.length_take,HN.out];omega
   by_cases he:r=S
   ·have h1:(r != S)=false:=by simpa using he
    have he':(r == S)=true:=by simpa using he
    have He:=aQ he';clear he' he
    go_wp2_with (at_builtin;refine wpList_app slB rfl _ _ rfl w.heap.size _ 0 [] rfl (World.ownsRow_nil _ _ _ _) _ n (cu (bs.take n)) rfl (by have:=HT'.out;unfold By at this;rw [hln] at this;exact this) cu_one (by unfold maxLen;omega) (by omega) (Nat.le_refl _) ?_;intro v2 w2 hown2 hg2 _;have HB2:=aQ ((Below.refl w.heap.size w).grown hg2 (Nat.le_refl _) (fun k e=>by cases e));have HO2:=aQ hown2;clear hown2 hg2)
    have hO2:Ow 5 w2 w.heap.size v2 (bs.take n):=by unfold Ow;rw [hln];simpa using HO2.out
    have HO3:=aQ hO2;clear hO2
    go_ret2
    exact .inr ⟨by rw [Hr.out,HS.out];exact He.out,_,rfl,HO3.out,HB2.out⟩
   ·have h1:(r != S)=true:=by simpa using he
    have he':(r == S)=false:=by simpa using he
    have He:=aQ he';clear he' he
    go_wp2_with fail
    go_ret2
    exact .inl ⟨by rw [Hr.out,HS.out];exact He.out,rfl,Below.refl _ _⟩
end

set_option maxRecDepth 100000
section
open Go.RowKit
def Val (w:World):Prop:=∀k,k < 20->w.cell? ⟨0,k,none⟩=some (.int .u8 (U (sym k)))
theorem Val.keep {w w':World} (h:Val w) (hk : 0 < w.heap.size->w'.heap[0]? = w.heap[0]?):Val w':=fun r hr=>by
 have:=h r hr
 have hlt:=World.block_lt_of_cell? w _ this
 exact (World.cell?_of_block (hk hlt)).trans this
theorem Val.below {w w':World} (h:Val w) (hb:Below w.heap.size w w'):Val w':=h.keep fun hk=>hb.block _ hk
structure Tabs (w:World):Prop where
 tab:Tab w
 val:Val w
theorem Tabs.below {w w':World} (h:Tabs w) (hb:Below w.heap.size w w'):Tabs w':=⟨h.tab.below hb,h.val.below hb⟩
theorem sym_lt:∀(s:Byte) (k:Fin 20),k.val < idx s->sym k.val≠s:=by decide +kernel
theorem sym_16:(U (sym 16))=49/\(U (sym 17))=50/\(U (sym 18))=52:=by decide
theorem control_0 (w:World) (hv:Val w):Calls Tryz.prog 150 #[.int .i64 0] w fun e w'=>e=.returned (.tuple #[.int .u8 49,.int .i64 0])/\w=w':=by
 have h:=hv 16 (by decide)
 rw [sym_16.1] at h
 clear hv
 go_enter Tryz.func150,Tryz.ntmps150
 go_wp2_with fail
 go_ret2
 exact ⟨rfl,rfl⟩
theorem control_1 (w:World) (hv:Val w):Calls Tryz.prog 150 #[.int .i64 1] w fun e w'=>e=.returned (.tuple #[.int .u8 50,.int .i64 0])/\w=w':=by
 have h:=hv 17 (by decide)
 rw [sym_16.2.1] at h
 clear hv
 go_enter Tryz.func150,Tryz.ntmps150
 go_wp2_with fail
 go_ret2
 exact ⟨rfl,rfl⟩
def vsArr:Array Value:=(cu vs).toArray
theorem run_index_vs (k:Nat) (hk:k < 20) (w:World):(Instr.index 259 (.agg vsArr) (.int .i64 (k:Int))).run Tryz.prog w=.ok (.int .u8 (U (sym k))) w:=by
 have:k=0\/k=1\/k=2\/k=3\/k=4\/k=5\/k=6\/k=7\/k=8\/k=9\/k=10\/k=11\/k=12\/k=13\/k=14\/k=15\/k=16\/k=17\/k=18\/k=19:=by omega
 rcases this with rfl|rfl|rfl|rfl|rfl|rfl|rfl|rfl|rfl|rfl|rfl|rfl|rfl|rfl|rfl|rfl|rfl|rfl|rfl|rfl <;> rfl
theorem cu_vs:∀(k:Fin 20),(cu vs)[k.val]? = some (.int .u8 (U (sym k.val))):=by intro ⟨k,hk⟩;rw [cu,List.getElem?_map];unfold sym List.getD;rw [List.getElem?_eq_getElem (show k < vs.length from hk)];rfl
theorem Val.range {w:World} (hv:Val w):w.rangeAt 0 0 (cu vs):=fun j v hj=>by
 have hl:j < 20:=by have:=aA hj;rw [cu_length] at this;exact this
 rw [cu_vs ⟨j,hl⟩] at hj
 rw [Nat.zero_add,<-Option.some.inj hj]
 exact hv j hl
theorem under20:Tryz.prog.underlying 259 = some (.array 20 5):=Tryz.underlying259
theorem size20:(Tryz.prog.info? 259).map (·.size)=some (cu vs).length:=by kernel_rfl
def valV (s:Byte):Value:=if idx s < 16 then .tuple #[.int .i64 (idx s:Int),.bool false,.int .i64 0] else if idx s < 20 then .tuple #[.int .i64 ((idx s:Int) - 16),.bool true,.int .i64 0] else .tuple #[.int .i64 0,.bool false,.int .i64 3]
theorem value_any (s:Byte) (w:World) (hv:Val w):Calls Tryz.prog 137 #[.int .u8 (U s)] w fun e w'=>e=.returned (valV s)/\w=w':=by
 have HV:=aQ hv.range
 have hi:=idx_le s
 clear hv
 go_enter Tryz.func137,Tryz.ntmps137
 go_wp2_with (refine wpList_load_mid rfl 259 (.global 0) rfl 0 0 (by rfl) (cu vs) _ HV.out under20 rfl size20 ?_)
 go_loop [8] (fun i=>∃k:Nat,k<=idx s/\i=.int .i64 (k:Int)) (fun i=>20 - (intOf i).toNat)
 case atStart=>exact ⟨0,by omega,by go_num⟩
 case round=>
  obtain ⟨k,hk,rfl⟩:=hrel
  by_cases hlt:k < 20
  ·have hix:=run_index_vs k hlt w
   unfold vsArr at hix
   by_cases he:k=idx s
   ·have hsy:sym k=s:=by rw [he];exact sym_idx s (by omega)
    have hne:(sym k != s)=false:=by rw [hsy];simp
    have HE:=aQ he
    by_cases h16:k < 16
    ·have HVV:Hid (valV s=.tuple #[.int .i64 (k:Int),.bool false,.int .i64 0]):=aQ (by unfold valV;rw [<-HE.out,if_pos h16])
     clear he hsy
     go_wp2_with fail
     go_ret3
     exact ⟨by rw [HVV.out];rfl,rfl⟩
    ·have HVV:Hid (valV s=.tuple #[.int .i64 ((k:Int) - 16),.bool true,.int .i64 0]):=aQ (by unfold valV;rw [<-HE.out,if_neg h16,if_pos hlt])
     clear he hsy
     go_wp2_with fail
     go_ret3
     exact ⟨by rw [HVV.out];rfl,rfl⟩
   ·have hsy:=sym_lt s ⟨k,hlt⟩ (by show k < idx s;omega)
    have hne:(sym k != s)=true:=by simpa using hsy
    clear hsy
    go_wp2_with fail
    go_round
    case rel=>exact ⟨k+1,by omega,by go_num⟩
    case measure=>simp [intOf];omega
  ·have HVV:Hid (valV s=.tuple #[.int .i64 0,.bool false,.int .i64 3]):=aQ (by unfold valV;rw [if_neg (by omega),if_neg (by omega)])
   go_wp2_with fail
   go_ret3
   exact ⟨by rw [HVV.out];rfl,rfl⟩
end

section
open Go.RowKit
theorem laidMet_tail {P:Program} {x:String × DataW Unit} {rest:List (String × DataW Unit)} {W:World} (h:laidMet P (x::rest) W):laidMet P rest W:=by
 obtain ⟨ps,⟨g,t,cs,fuel,p,q,_,_,_,_,hr,rfl⟩,hn,hc⟩:=h
 exact ⟨q,hr,(List.nodup_append.1 hn).2.1,fun b off hb=>hc b off (List.mem_append_right _ hb)⟩
theorem tab_of {W:World} {name:String} (h:Lib.TabIs Tryz.prog W name .u32 [0,498536548,997073096,651767980,1994146192,1802195444,1303535960,1342533948,3988292384,4027552580,3604390888,3412177804,2607071920,2262029012,2685067896,3183342108]) (hg:Tryz.prog.globalNamed name=some 3):Tab W:=by
 intro r
 have hlt:N (r &&& 15#32) < 16:=by have:=and15_lt r;rw [U_N] at this;omega
 have h1:=h.cell hg (N (r &&& 15#32)) (by simpa using hlt)
 rw [h1]
 have h2:∀k,k < 16->([0,498536548,997073096,651767980,1994146192,1802195444,1303535960,1342533948,3988292384,4027552580,3604390888,3412177804,2607071920,2262029012,2685067896,3183342108]:List Int).getD k 0=U (rems.getD k 0):=by decide
 rw [h2 _ hlt];rfl
theorem val_of {W:World} {name:String} (h:Lib.TabIs Tryz.prog W name .u8 [7,11,13,14,19,21,22,25,26,28,35,37,38,41,42,44,49,50,52,56]) (hg:Tryz.prog.globalNamed name=some 0):Val W:=by
 intro k hk
 have h1:=h.cell hg k (by simpa using hk)
 rw [h1]
 have h2:∀k,k < 20->([7,11,13,14,19,21,22,25,26,28,35,37,38,41,42,44,49,50,52,56]:List Int).getD k 0=U (sym k):=by decide
 rw [h2 _ hk]
end

set_option maxRecDepth 100000
section
open Go.RowKit
theorem and15_u8 (x:Byte):bits .and .u8 (x.toNat:Int) 15=(x.toNat:Int) % 16:=by
 have h:=(bits_u8 x 15#8).2.1
 have e:(U (15#8))=15:=by decide
 rw [e] at h
 show bits .and .u8 (U x) 15=_
 rw [h]
 unfold U
 rw [BitVec.toNat_and]
 have:x.toNat &&& (15#8).toNat=x.toNat % 16:=Nat.and_two_pow_sub_one_eq_mod _ 4
 rw [this];rfl
theorem enc_take (bs:List Byte) (k:Nat) (h:k < bs.length):encS (bs.take (k+1))=encS (bs.take k)++[sym ((bs.getD k 0).toNat / 16),sym ((bs.getD k 0).toNat % 16)]:=by
 rw [take_getD bs k 0 h,encS_app];rfl
def Nb (w:World) (B:Nat) (v:Value) (bs:List Byte):Prop:=Sl w (fun k=>B<=k) 5 1 v bs.length (cu bs)
section
variable {w w':World} {B:Nat} {v:Value} {bs:List Byte}
theorem Nb.by (h:Nb w B v bs):By w v bs:=Sl.rd h
theorem Nb.own (h:Nb w B v bs):∀b,v.ownBlock=some b->B<=b:=by
 intro b hb
 rcases h.2 with ⟨e,_⟩|⟨g,o,cp,cur,e,hF,_⟩
 ·rw [e] at hb;cases hb
 ·rw [e] at hb
  obtain rfl:g=b:=by simpa [Value.ownBlock] using hb
  exact hF
theorem Nb.below (h:Nb w B v bs) (hb:Below w.heap.size w w'):Nb w' B v bs:=Sl.keep h fun k _ hk=>hb.block k hk
theorem Nb.lower (h:Nb w B v bs) {C:Nat} (hc:C<=B):Nb w C v bs:=Sl.mono h fun k hk=>by omega
theorem Nb.nil (w:World) (B:Nat):Nb w B (.slice none 0 0) []:=Sl.nil _ _ _ _
theorem Nb.of_ow (h:Ow 5 w B v bs):Nb w B v bs:=Sl.of_own h fun _ h=>h
theorem Nb.slice (h:Nb w B v bs):∃a c,v=.slice a bs.length c:=h.by.slice
theorem Nb.lit (w:World) (g:Nat) (bs:List Byte) (arr:Array Value) (n:Nat) (hg:g=w.heap.size) (hB:B<=w.heap.size) (hc:arr.toList=cu bs) (hn:n=bs.length) (hm:n<=1000000):Nb (w.alloc (.cells arr 5)) B (.slice (some ⟨g,0,none⟩) n n) bs:=by
 subst hg
 subst hn
 have hs:arr.size=bs.length:=by rw [<-Array.length_toList,hc,cu_length]
 refine ⟨by rw [cu_length,Nat.mul_one],.inr ⟨w.heap.size,0,bs.length,arr,rfl,hB,heap_alloc_new w _,Nat.le_refl _,by unfold maxLen;omega,by rw [hs];omega,?_⟩⟩
 rw [List.drop_zero,hc,Nat.mul_one,List.take_of_length_le (by rw [cu_length];exact Nat.le_refl _)]
end
theorem wpList_nb {w:World} {ops:Array Oper} {rest:List Oper} {o:Oper} {a:Act} {Q:Exit->Act->World->Prop}
  (hg:o.guard=none) (s x:Operand) (hop:o.op=Op.call { callee:=Callee.builtin Builtin.append,args := #[s,x],argTypes := #[42,42] })
  (B:Nat) (v:Value) (xs:List Byte) (hs:a.eval s=v) (hown:Nb w B v xs) (y:Value) (ys:List Byte) (hx:a.eval x=y) (hr:By w y ys) (hl:xs.length+ys.length<=1000000) (hB:B<=w.heap.size)
  (hK:∀a' c' w',Nb w' B (.slice a' (xs.length+ys.length) c') (xs++ys)->Below B w w'->wpList Tryz.prog ops Q rest (a.put o.dst (.slice a' (xs.length+ys.length) c')) w'):wpList Tryz.prog ops Q (o::rest) a w:=by
 refine cQ slB hg s x hop (fun k=>B<=k) v xs.length (cu xs) hs hown y ys.length (cu ys) hx hr cu_one (by unfold maxLen;omega) (by omega) fun v' w' h1 h2=>?_
 obtain ⟨a',c',rfl⟩:=h1.shape
 refine hK a' c' w' ?_ (h2.below hB fun _ h=>h)
 unfold Nb
 rw [List.length_append,<-cu_app]
 exact h1.mono fun k hk=>hk.elim id fun h=>Nat.le_trans hB h
theorem step_nb {ops:Array Oper} {o:Oper} {a:Act} {w:World} {K:Act->World->Prop} {Q:Exit->Act->World->Prop} {E:Prop}
  (hg:o.guard=none) (s x:Operand) (hop:o.op=Op.call { callee:=Callee.builtin Builtin.append,args := #[s,x],argTypes := #[42,42] })
  (B:Nat) (v:Value) (xs:List Byte) (hs:a.eval s=v) (hown:Nb w B v xs) (y:Value) (ys:List Byte) (hx:a.eval x=y) (hr:By w y ys) (hl:xs.length+ys.length<=1000000) (hB:B<=w.heap.size)
  (hK:∀a' c' w',Nb w' B (.slice a' (xs.length+ys.length) c') (xs++ys)->Below B w w'->K (a.put o.dst (.slice a' (xs.length+ys.length) c')) w') :
  if Region.wanted o (yielded ops a.tmps)=true then Oper.wp Tryz.prog o a w K Q else E:=by
 refine step_app_sl slB hg s x hop (fun k=>B<=k) v xs.length (cu xs) hs hown y ys.length (cu ys) hx hr cu_one (by unfold maxLen;omega) (by omega) fun v' w' h1 h2=>?_
 obtain ⟨a',c',rfl⟩:=h1.shape
 refine hK a' c' w' ?_ (h2.below hB fun _ h=>h)
 unfold Nb
 rw [List.length_append,<-cu_app]
 exact h1.mono fun k hk=>hk.elim id fun h=>Nat.le_trans hB h
theorem enc_any (v:Value) (bs:List Byte) (w:World) (hb:By w v bs) (hv:Val w) (hm:bs.length<=100000) :
  Calls Tryz.prog 99 #[v] w fun e w'=>∃v',e=.returned v'/\Nb w' w.heap.size v' (encS bs)/\Below w.heap.size w w':=by
 have HB:=aQ hb;have HV:=aQ hv
 obtain ⟨a,cap,rfl⟩:=hb.slice
 clear hb hv
 go_enter Tryz.func99,Tryz.ntmps99
 go_wp2_with (at_make;refine wpList_mk slB rfl _ _ rfl w.heap.size _ rfl rfl (by omega) (by omega) (by unfold maxLen;omega) (Nat.le_refl _) ?_;intro w1 hown1 hg1;have HB1:=aQ ((Below.refl w.heap.size w).grown hg1 (Nat.le_refl _) (fun k e=>by cases e));have HO1:=aQ (show Nb w1 w.heap.size _ [] from Sl.of_own hown1 fun _ h=>h);clear hown1 hg1)
 go_loopw [3,12] (fun u3 i wr=>∃k:Nat,k<=bs.length/\i=.int .i64 (k:Int)/\Hid (Nb wr w.heap.size u3 (encS (bs.take k)))/\Hid (Below w.heap.size w wr)) (fun _ i _=>bs.length - (intOf i).toNat)
 case atStart=>exact ⟨0,by omega,by go_num,HO1,HB1⟩
 case round=>
  clear HO1 HB1
  obtain ⟨k,hk,rfl,HO,HBW⟩:=hrel
  by_cases hlt:k < bs.length
  ·obtain ⟨_,⟨h0,_⟩|⟨bb,off,cp,e,_,_,_,hc⟩⟩:=(HB.out.below HBW.out).cases
   ·rw [h0] at hlt;simp at hlt
   ·obtain ⟨rfl,rfl⟩:a=some ⟨bb,off,none⟩/\cap=cp:=by simpa using e
    have hck:=hc k hlt
    have HE:=aQ (enc_take bs k hlt)
    clear hc e
    generalize hx:bs.getD k 0=x at *
    have HX:=aQ hx;clear hx
    rw [U_eq] at hck
    have hx256:x.toNat < 256:=x.isLt
    have hand:=and15_u8 x
    have hd1:(0:Int)<=(x.toNat:Int) / 16/\(x.toNat:Int) / 16 < 20:=by omega
    have hd2:((x.toNat:Int) / 16).toNat=x.toNat / 16:=by omega
    have hd3:(0:Int)<=(x.toNat:Int) % 16/\(x.toNat:Int) % 16 < 20:=by omega
    have hd4:((x.toNat:Int) % 16).toNat=x.toNat % 16:=by omega
    have hv1:=HV.out.below HBW.out (x.toNat / 16) (by omega)
    have hv2:=HV.out.below HBW.out (x.toNat % 16) (by omega)
    have hl2:(encS (bs.take k)).length<=200000:=by rw [encS_length,List.length_take];omega
    generalize hxs:encS (bs.take k)=xs at *
    have HXS:=aQ hxs;clear hxs
    obtain ⟨ua,uc,rfl⟩:=HO.out.slice
    have hwr:=HBW.out.size
    have hg0 : 0 < w.heap.size:=World.block_lt_of_cell? _ _ (HV.out 0 (by decide))
    go_wp2_with fail
    go_region_held3 (fun w'=>w'.cell? ⟨0,x.toNat / 16,none⟩=some (.int .u8 (U (sym (x.toNat / 16))))/\w'.cell? ⟨0,x.toNat % 16,none⟩=some (.int .u8 (U (sym (x.toNat % 16))))) (first|exact ⟨hv1,hv2⟩|exact ⟨hw1,hw2⟩|exact ⟨cell_later (show Below wr.heap.size wr _ by (with_reducible (repeat (first|exact Below.refl _ _|refine Bw.alloc ?_ _|refine Bw.drewN ?_ _|refine Bw.drew ?_)))) hv1,cell_later (show Below wr.heap.size wr _ by (with_reducible (repeat (first|exact Below.refl _ _|refine Bw.alloc ?_ _|refine Bw.drewN ?_ _|refine Bw.drew ?_)))) hv2⟩)
     ((refine step_nb (by rfl) _ _ (by rfl) w.heap.size _ xs (by rfl) (by exact HO.out.below (by (with_reducible (repeat (first|exact Below.refl _ _|refine Bw.alloc ?_ _|refine Bw.drewN ?_ _|refine Bw.drew ?_))))) _ [sym (x.toNat / 16),sym (x.toNat % 16)] (by rfl) (By_lit _ _ _ _ [sym (x.toNat / 16),sym (x.toNat % 16)] 2 2 (by simp) rfl rfl (Nat.le_refl _) (by decide)) (by show xs.length+2<=_;omega) (by simp;omega) ?_;intro a' c' w2 hn2 hb2;have hw1:=(hb2.cell (p:=⟨0,x.toNat / 16,none⟩) hg0).trans (cell_later (show Below wr.heap.size wr _ by (with_reducible (repeat (first|exact Below.refl _ _|refine Bw.alloc ?_ _|refine Bw.drewN ?_ _|refine Bw.drew ?_)))) hv1);have hw2:=(hb2.cell (p:=⟨0,x.toNat % 16,none⟩) hg0).trans (cell_later (show Below wr.heap.size wr _ by (with_reducible (repeat (first|exact Below.refl _ _|refine Bw.alloc ?_ _|refine Bw.drewN ?_ _|refine Bw.drew ?_)))) hv2);have HN2:=aQ hn2;have HB2:=aQ (HBW.out.trans (Below.trans ((show Below wr.heap.size wr _ by (with_reducible (repeat (first|exact Below.refl _ _|refine Bw.alloc ?_ _|refine Bw.drewN ?_ _|refine Bw.drew ?_)))).mono hwr) hb2));clear hn2 hb2))
    go_wp2_with fail
    go_roundw
    case rel=>exact ⟨k+1,by omega,by go_num,aQ (by rw [HE.out];exact HN2.out),HB2⟩
    case measure=>simp [intOf];omega
  ·obtain rfl:k=bs.length:=by omega
   go_wp2_with fail
   go_ret
   exact ⟨_,rfl,by have:=HO.out;rw [List.take_length] at this;exact this,HBW.out⟩
end

section
open Go.RowKit
def eU8:El (BitVec 8) where
 size:=1
 rd _ _ _ cs x:=cs=[.int .u8 (U x)]
 len h:=by rw [h];rfl
 keep h _ _:=h
 mono h _ _:=h
 one h u hu:=by rw [h] at hu;obtain rfl:=List.mem_singleton.1 hu;rfl
abbrev tBB (v:Value) (l:List (List (BitVec 8))):Th:=tSq (eSq eU8 5) 42 v l
theorem els_u8 {w:World} {Z:BS}:∀ {F:BS} {us:List Value} {xs:List (BitVec 8)},Els eU8 w F Z us xs->us=cu xs
 |_,_,[],h=>h
 |_,_,x::xs,⟨cs,rest,_,_,e,_,_,_,h1,h2⟩=>by
  rw [e,show cs=[.int .u8 (U x)] from h1,els_u8 h2];rfl
theorem sq_by8 {w:World} {T:TypeId} {F Z:BS} {v:Value} {xs:List (BitVec 8)} (h:Sq eU8 T w F Z v xs):By w v xs:=by
 obtain ⟨K,D,us,_,_,_,h3,h4⟩:=h
 have:=h3.rd
 rwa [els_u8 h4] at this
theorem els_cu {w:World} {Z:BS}:∀xs:List (BitVec 8),Els eU8 w (fun _=>False) Z (cu xs) xs
 |[]=>rfl
 |_::xs=>⟨_,_,_,_,rfl,fun _ f=>f,fun _ f=>f,fun _ f=>f.elim,rfl,els_cu xs⟩
theorem Nb.sq {w:World} {B:Nat} {v:Value} {xs:List (BitVec 8)} (h:Nb w B v xs):Sq eU8 5 w (fun k=>B<=k) (fun _=>False) v xs:=
 ⟨fun k=>B<=k/\k < w.heap.size,fun _=>False,cu xs,fun _ hk=>hk.elim (·.1) False.elim,fun _ _ f=>f,fun _ hk=>hk.2,h.bound,els_cu xs⟩
section
variable {F Z:BS} {W w:World} {ts:List Th}
theorem bb_atS {A B:BS} {v:Value} {l:List (List (BitVec 8))} (hsq:Sq (eSq eU8 5) 42 w A B v l) {c:Nat} {xs:List (BitVec 8)} (hc:l[c]? = some xs) :
  ∃b off cap vc,v=.slice (some ⟨b,off,none⟩) l.length cap/\l.length<=cap/\w.cell? ⟨b,off+c,none⟩=some vc/\By w vc xs:=by
 obtain ⟨a,cap,rfl,hcap,_,_⟩:=Sq.le hsq
 obtain ⟨b,off,cs,A,rfl,_,⟨vc,rfl,hr⟩,_,hk⟩:=Sq.at hsq (by decide) hc
 have:=hk 0 vc rfl
 simp only [eSq,Nat.mul_one,Nat.add_zero] at this
 exact ⟨b,off,cap,vc,rfl,hcap,this,sq_by8 hr⟩
theorem dY.bb_at {v:Value} {l:List (List (BitVec 8))} (h:dY F Z W ts w) (i:Nat) (hi:ts[i]? = some (tBB v l)) {c:Nat} {xs:List (BitVec 8)} (hc:l[c]? = some xs) :
  ∃b off cap vc,v=.slice (some ⟨b,off,none⟩) l.length cap/\l.length<=cap/\w.cell? ⟨b,off+c,none⟩=some vc/\By w vc xs:=by
 obtain ⟨G,Y,hsq⟩:=h.get i hi
 exact bb_atS (show Sq (eSq eU8 5) 42 w G Y v l from hsq) hc
end
end

set_option maxRecDepth 100000
section
open Go.RowKit
theorem or_shift (i n x:Nat) (hx:x < 2 ^ i) (hb:n*2 ^ i+x < 4611686018427387904):bits .or .i64 ((n*2 ^ i:Nat):Int) (x:Int)=((n*2 ^ i+x:Nat):Int):=by
 show IntKind.i64.wrap ((BitVec.ofInt 64 ((n*2 ^ i:Nat):Int) ||| BitVec.ofInt 64 (x:Int)).toNat:Int)=_
 have h1:(BitVec.ofInt 64 ((n*2 ^ i:Nat):Int)).toNat=n*2 ^ i:=by rw [BitVec.toNat_ofInt];omega
 have h2:(BitVec.ofInt 64 (x:Int)).toNat=x:=by rw [BitVec.toNat_ofInt];omega
 rw [BitVec.toNat_or,h1,h2]
 have h3:n*2 ^ i ||| x=n*2 ^ i+x:=by rw [Nat.mul_comm,<-Nat.two_pow_add_eq_or_of_lt hx]
 rw [h3]
 exact IntWalk.i64_in _ (by omega)
theorem or_16 (u v:Nat) (hu:u < 16) (hv:v < 16):bits .or .i64 ((u:Int)*16) (v:Int)=((u*16+v:Nat):Int):=by
 have:=or_shift 4 u v (by omega) (by omega)
 exact this
theorem find_bad {ss:List Byte} {k:Nat} (h:∀j,j < k->isData (ss.getD j 0)=true) (hk:k < ss.length) (hn:isData (ss.getD k 0)=false):ss.findIdx? (fun s => !isData s)=some k:=by
 rw [List.findIdx?_eq_some_iff_getElem]
 refine ⟨hk,?_,fun j hj=>?_⟩
 ·have:ss[k]=ss.getD k 0:=by simp [List.getD,hk]
  rw [this,hn];rfl
 ·have hjl:j < ss.length:=by omega
  have:ss[j]=ss.getD j 0:=by simp [List.getD,hjl]
  rw [this,h j hj];simp
theorem all_data {ss:List Byte} (h:∀j,j < ss.length->isData (ss.getD j 0)=true):∀s ∈ ss,isData s=true:=fun s hs=>by
 obtain ⟨j,hj,rfl⟩:=List.getElem_of_mem hs
 have:=h j hj
 simpa [List.getD,hj] using this
theorem dec_take2 (ss:List Byte) (m:Nat) (h:2*m+1 < ss.length):decB (ss.take (2*(m+1)))=decB (ss.take (2*m))++[BitVec.ofNat 8 (16*idx (ss.getD (2*m) 0)+idx (ss.getD (2*m+1) 0))]:=by
 have e:ss.take (2*(m+1))=ss.take (2*m)++[ss.getD (2*m) 0,ss.getD (2*m+1) 0]:=by
  rw [show 2*(m+1)=(2*m+1)+1 by omega,take_getD ss (2*m+1) 0 h,take_getD ss (2*m) 0 (by omega),List.append_assoc];rfl
 rw [e,decB_app _ _ _ (by rw [List.length_take];omega)]
def DecP (w:World) (ss:List Byte) (e:Ending) (w':World):Prop:=∃v',e=.returned (.tuple #[v',.int .i64 (decS ss).2.1,.int .i64 (decS ss).2.2])/\Nb w' w.heap.size v' (decS ss).1/\Below w.heap.size w w'
theorem DecP.mk {w w':World} {ss:List Byte} {r:List Byte × Int × Int} (h:decS ss=r) {v':Value} (h1:Nb w' w.heap.size v' r.1) (h2:Below w.heap.size w w'):DecP w ss (.returned (.tuple #[v',.int .i64 r.2.1,.int .i64 r.2.2])) w':=by
 subst h;exact ⟨v',rfl,h1,h2⟩
theorem dec_any (v:Value) (ss:List Byte) (w:World) (hb:By w v ss) (hv:Val w) (hm:ss.length<=100000) :
  Calls Tryz.prog 171 #[v] w (DecP w ss):=by
 have HB:=aQ hb;have HV:=aQ hv
 obtain ⟨a,cap,rfl⟩:=hb.slice
 clear hb hv
 go_enter Tryz.func171,Tryz.ntmps171
 go_wp2_with (at_make;refine wpList_mk slB rfl _ _ rfl w.heap.size _ rfl rfl (by omega) (by omega) (by unfold maxLen;omega) (Nat.le_refl _) ?_;intro w1 hown1 hg1;have HB1:=aQ ((Below.refl w.heap.size w).grown hg1 (Nat.le_refl _) (fun k e=>by cases e));have HO1:=aQ (show Nb w1 w.heap.size _ [] from Sl.of_own hown1 fun _ h=>h);clear hown1 hg1)
 go_loopw [5,6,18] (fun u5 u6 i wr=>∃(k m up:Nat),k<=ss.length/\i=.int .i64 (k:Int)/\u6=.int .i64 (up:Int)/\up < 16/\2*m<=k/\k<=2*m+1/\Hid (k=2*m+1->up=idx (ss.getD (2*m) 0))/\Hid (∀j,j < k->isData (ss.getD j 0)=true)/\Hid (Nb wr w.heap.size u5 (decB (ss.take (2*m))))/\Hid (Below w.heap.size w wr)) (fun _ _ i _=>ss.length - (intOf i).toNat)
 case atStart=>exact ⟨0,0,0,by omega,by go_num,by go_num,by omega,by omega,by omega,aQ (by omega),aQ (fun j hj=>by omega),HO1,HB1⟩
 case round=>
  clear HO1 HB1
  obtain ⟨k,m,up,hk,rfl,rfl,hup,hkm1,hkm2,HUP,HDA,HO,HBW⟩:=hrel
  by_cases hlt:k < ss.length
  ·obtain ⟨_,⟨h0,_⟩|⟨bb,off,cp,e,_,_,_,hc⟩⟩:=(HB.out.below HBW.out).cases
   ·rw [h0] at hlt;simp at hlt
   ·obtain ⟨rfl,rfl⟩:a=some ⟨bb,off,none⟩/\cap=cp:=by simpa using e
    have hck:=hc k hlt
    clear hc e
    obtain ⟨x,hx⟩:∃x,x=ss.getD k 0:=⟨_,rfl⟩
    rw [<-hx] at hck
    have HX:=aQ hx
    clear hx
    by_cases hd:idx x < 16
    ·have HVV:Hid (valV x=.tuple #[.int .i64 (idx x:Int),.bool false,.int .i64 0]):=aQ (by unfold valV;rw [if_pos hd])
     obtain ⟨y,hy⟩:∃y,y=idx x:=⟨_,rfl⟩
     rw [<-hy] at hd HVV
     have HY:=aQ hy
     clear hy
     have HDA2:Hid (∀j,j < k+1->isData (ss.getD j 0)=true):=aQ (fun j hj=>by
      by_cases hjk:j=k
      ·rw [hjk,<-HX.out];unfold isData;rw [<-HY.out];simpa using hd
      ·exact HDA.out j (by omega))
     go_wp2_with fail
     refine (value_any x wr (HV.out.below HBW.out)).mono ?_
     rintro e w' ⟨rfl,rfl⟩
     rw [HVV.out]
     by_cases he:k=2*m
     ·have hev:((k:Int) % 2 == 0)=true:=by simp;omega
      have HE:=aQ he
      clear he
      go_wp2_with fail
      go_roundw
      case rel=>exact ⟨k+1,m,y,by omega,by go_num,by go_num,hd,by have:=HE.out;omega,by have:=HE.out;omega,aQ (fun _=>by rw [HY.out,HX.out,HE.out]),HDA2,HO,HBW⟩
      case measure=>simp [intOf];omega
     ·have hev:((k:Int) % 2 == 0)=false:=by simp;omega
      have hup1:=HUP.out (by omega)
      have HU1:=aQ hup1
      have hor:=or_16 up y hup hd
      have HD2:=aQ (dec_take2 ss m (by omega))
      have HN:=aQ he
      clear hup1 he
      have hxl:(decB (ss.take (2*m))).length<=100000:=by rw [decB_length,List.length_take];omega
      obtain ⟨bt,hbt⟩:∃bt:Byte,bt=BitVec.ofNat 8 (16*up+y):=⟨_,rfl⟩
      have HBT:=aQ (show [Value.int .u8 ((up:Int)*16+(y:Int))]=cu [bt] by
       have e1:(up:Int)*16+(y:Int)=((16*up+y:Nat):Int):=by omega
       have e2:U bt=((16*up+y:Nat):Int):=by rw [hbt];unfold U;rw [BitVec.toNat_ofNat];omega
       rw [e1,<-e2];rfl)
      have HD3:=aQ (show decB (ss.take (2*(m+1)))=decB (ss.take (2*m))++[bt] by
       have hk1:k=2*m+1:=by have:=HN.out;omega
       rw [HD2.out,hbt,HU1.out,HY.out,HX.out,hk1])
      clear hbt
      generalize decB (ss.take (2*m))=xs at *
      have hwr:=HBW.out.size
      go_wp2_with (at_builtin;refine wpList_nb rfl _ _ rfl w.heap.size _ xs rfl (by exact HO.out.below (by (with_reducible (repeat (first|exact Below.refl _ _|refine Bw.alloc ?_ _|refine Bw.drewN ?_ _|refine Bw.drew ?_))))) _ [bt] rfl (By_lit _ _ _ _ [bt] 1 1 rfl HBT.out rfl (Nat.le_refl _) (by decide)) (by show xs.length+1<=_;omega) (by simp;omega) ?_;intro a' c' w2 hn2 hb2;have HN2:=aQ hn2;have HB2:=aQ (HBW.out.trans (Below.trans ((show Below wr.heap.size wr _ by (with_reducible (repeat (first|exact Below.refl _ _|refine Bw.alloc ?_ _|refine Bw.drewN ?_ _|refine Bw.drew ?_)))).mono hwr) hb2));clear hn2 hb2)
      go_roundw
      case rel=>exact ⟨k+1,m+1,up,by omega,by go_num,rfl,hup,by have:=HN.out;omega,by have:=HN.out;omega,aQ (fun h=>by have:=HN.out;omega),HDA2,aQ (by rw [HD3.out];exact HN2.out),HB2⟩
      case measure=>simp [intOf];omega
    ·have hdf:isData x=false:=by unfold isData;simpa using hd
     have HFB:=aQ (decS_bad (find_bad HDA.out hlt (by rw [<-HX.out];exact hdf)))
     have hi20:=idx_le x
     by_cases h20:idx x < 20
     ·have HVV:Hid (valV x=.tuple #[.int .i64 ((idx x:Int) - 16),.bool true,.int .i64 0]):=aQ (by unfold valV;rw [if_neg hd,if_pos h20])
      go_wp2_with fail
      refine (value_any x wr (HV.out.below HBW.out)).mono ?_
      rintro e w' ⟨rfl,rfl⟩
      rw [HVV.out]
      go_wp2_with fail
      go_ret3
      exact DecP.mk HFB.out (Nb.nil _ _) HBW.out
     ·have HVV:Hid (valV x=.tuple #[.int .i64 0,.bool false,.int .i64 3]):=aQ (by unfold valV;rw [if_neg hd,if_neg h20])
      go_wp2_with fail
      refine (value_any x wr (HV.out.below HBW.out)).mono ?_
      rintro e w' ⟨rfl,rfl⟩
      rw [HVV.out]
      go_wp2_with fail
      go_ret3
      exact DecP.mk HFB.out (Nb.nil _ _) HBW.out
  ·have hkl:k=ss.length:=by omega
   have HKL:=aQ hkl
   have HAD:=aQ (all_data (ss:=ss) (by rw [<-hkl];exact HDA.out))
   clear hkl
   by_cases hev:ss.length % 2=0
   ·have htt:((ss.length:Int) % 2 != 0)=false:=by simp;omega
    have HDS:=aQ (decS_good HAD.out hev)
    have HTK:=aQ (show ss.take (2*m)=ss from List.take_of_length_le (by have:=HKL.out;omega))
    clear hev
    go_wp2_with fail
    go_ret3
    exact DecP.mk HDS.out (by have:=HO.out;rw [HTK.out] at this;exact this) HBW.out
   ·have htt:((ss.length:Int) % 2 != 0)=true:=by simp;omega
    have HDS:=aQ (decS_odd HAD.out hev)
    clear hev
    go_wp2_with fail
    go_ret3
    exact DecP.mk HDS.out (Nb.nil _ _) HBW.out
end

set_option maxRecDepth 100000
section
open Go.RowKit
theorem ret_bool {a b:Bool} (h:a=b):Ending.returned (.bool a)=.returned (.bool b):=by rw [h]
theorem valid_good (p:Pk) (a:Option Addr) (c:Nat) (w:World) (hg:Good p) :
  Calls Tryz.prog 147 #[.agg #[.int .u8 (U p.kind),.int .i64 p.cls,.int .i64 p.number,.int .i64 p.value,.slice a p.pay.length c]] w fun e w'=>e=.returned (.bool true)/\Below w.heap.size w w':=by
 have h1:(U p.kind != 0)=true:=by have:=U_ne_dec p.kind 0#8;rw [show U (0#8)=0 by decide] at this;rw [this];simpa using hg.kind
 have h2:=hg.c0;have h3:=hg.c1;have h4:=hg.n0;have h5:=hg.n1;have h6:=hg.v0;have h7:=hg.v1;have h8:=hg.pay
 clear hg
 go_enter Tryz.func147,Tryz.ntmps147
 go_wp2_with fail
 go_ret
 exact ⟨ret_bool (decide_eq_true (by omega)),by (with_reducible (repeat (first|exact Below.refl _ _|refine Bw.alloc ?_ _|refine Bw.drewN ?_ _|refine Bw.drew ?_)))⟩
theorem valid_bad (p:Pk) (a:Option Addr) (c:Nat) (w:World) (hg:¬Good p) :
  Calls Tryz.prog 147 #[.agg #[.int .u8 (U p.kind),.int .i64 p.cls,.int .i64 p.number,.int .i64 p.value,.slice a p.pay.length c]] w fun e w'=>e=.returned (.bool false)/\Below w.heap.size w w':=by
 have hcs:p.kind=0\/(p.kind≠0/\p.cls < 0)\/(p.kind≠0/\0<=p.cls/\4<=p.cls)\/(p.kind≠0/\0<=p.cls/\p.cls < 4/\p.number < 0)\/(p.kind≠0/\0<=p.cls/\p.cls < 4/\0<=p.number/\1099511627776<=p.number)\/(p.kind≠0/\0<=p.cls/\p.cls < 4/\0<=p.number/\p.number < 1099511627776/\p.value < 0)\/(p.kind≠0/\0<=p.cls/\p.cls < 4/\0<=p.number/\p.number < 1099511627776/\0<=p.value/\1099511627776<=p.value)\/(p.kind≠0/\0<=p.cls/\p.cls < 4/\0<=p.number/\p.number < 1099511627776/\0<=p.value/\p.value < 1099511627776/\64 < p.pay.length):=by
  by_cases hk:p.kind=0
  ·exact .inl hk
  ·have:¬(0<=p.cls/\p.cls < 4/\0<=p.number/\p.number < 1099511627776/\0<=p.value/\p.value < 1099511627776/\p.pay.length<=64):=fun ⟨b,c,d,e,f,g,h⟩=>hg ⟨hk,b,c,d,e,f,g,h⟩
   simp only [ne_eq,hk,not_false_eq_true,true_and,false_or]
   omega
 have hkk:p.kind≠0->(U p.kind != 0)=true:=fun hk=>by have:=U_ne_dec p.kind 0#8;rw [show U (0#8)=0 by decide] at this;rw [this];simpa using hk
 have HKK:=aQ hkk
 clear hg hkk
 rcases hcs with h1|⟨h1,h2⟩|⟨h1,h2,h3⟩|⟨h1,h2,h3,h4⟩|⟨h1,h2,h3,h4,h5⟩|⟨h1,h2,h3,h4,h5,h6⟩|⟨h1,h2,h3,h4,h5,h6,h7⟩|⟨h1,h2,h3,h4,h5,h6,h7,h8⟩
 case' inl=>have hz:(U p.kind != 0)=false:=by rw [h1];decide
 case' inr.inl=>have hz:=HKK.out h1
 case' inr.inr.inl=>have hz:=HKK.out h1
 case' inr.inr.inr.inl=>have hz:=HKK.out h1
 case' inr.inr.inr.inr.inl=>have hz:=HKK.out h1
 case' inr.inr.inr.inr.inr.inl=>have hz:=HKK.out h1
 case' inr.inr.inr.inr.inr.inr.inl=>have hz:=HKK.out h1
 case' inr.inr.inr.inr.inr.inr.inr=>have hz:=HKK.out h1
 all_goals
  clear h1
  go_enter Tryz.func147,Tryz.ntmps147
  go_wp2_with fail
  go_ret
  first
   |exact ⟨rfl,by (with_reducible (repeat (first|exact Below.refl _ _|refine Bw.alloc ?_ _|refine Bw.drewN ?_ _|refine Bw.drew ?_)))⟩
   |exact ⟨ret_bool (decide_eq_false (by omega)),by (with_reducible (repeat (first|exact Below.refl _ _|refine Bw.alloc ?_ _|refine Bw.drewN ?_ _|refine Bw.drew ?_)))⟩
end

set_option maxRecDepth 100000
section
open Go.RowKit
theorem valid_any (p:Pk) (a:Option Addr) (c:Nat) (w:World):Calls Tryz.prog 147 #[.agg #[.int .u8 (U p.kind),.int .i64 p.cls,.int .i64 p.number,.int .i64 p.value,.slice a p.pay.length c]] w fun e w'=>e=.returned (.bool (validP p))/\Below w.heap.size w w':=by
 by_cases h:Good p
 ·have:=validP_iff.2 h;rw [this];exact valid_good p a c w h
 ·have:validP p=false:=by rw [Bool.eq_false_iff];exact fun e=>h (validP_iff.1 e)
  rw [this];exact valid_bad p a c w h
theorem five_length (n:Nat):(five n).length=5:=rfl
theorem dig_U (n k d:Nat) (hd:d=2 ^ (8*(4 - k))):U (dig n k)=((n / d % 256:Nat):Int):=by
 unfold U dig;rw [BitVec.toNat_ofNat,hd]
theorem appNum_any (n:Nat) (hn:n < 1099511627776) (B:Nat) (v:Value) (xs:List Byte) (w:World) (hv:Nb w B v xs) (hB:B<=w.heap.size) (hl:xs.length<=1000) :
  Calls Tryz.prog 148 #[v,.int .i64 (n:Int)] w fun e w'=>∃v',e=.returned v'/\Nb w' B v' (xs++five n)/\Below B w w':=by
 have HV:=aQ hv
 clear hv
 go_enter Tryz.func148,Tryz.ntmps148
 go_wp2_with fail
 go_loopw [0,6] (fun u0 i wr=>∃k:Nat,k<=5/\i=.int .i64 (k:Int)/\Hid (Nb wr B u0 (xs++(five n).take k))/\Hid (Below B w wr)) (fun _ i _=>5 - (intOf i).toNat)
 case atStart=>exact ⟨0,by omega,by go_num,aQ (by rw [List.take_zero,List.append_nil];exact HV.out),aQ (Below.refl _ _)⟩
 case round=>
  obtain ⟨k,hk,rfl,HO,HBW⟩:=hrel
  have hwB:B<=wr.heap.size:=Nat.le_trans hB HBW.out.size
  by_cases hlt:k < 5
  ·have HE:=aQ (show xs++(five n).take (k+1)=(xs++(five n).take k)++[dig n k] by rw [five_take n k hlt,List.append_assoc])
   have hxl:(xs++(five n).take k).length<=1005:=by rw [List.length_append,List.length_take];omega
   have hk5:k=0\/k=1\/k=2\/k=3\/k=4:=by omega
   rcases hk5 with rfl|rfl|rfl|rfl|rfl
   ·have HD:=aQ (show [Value.int .u8 ((n:Int) / 4294967296)]=cu [dig n 0] by show _=[Value.int .u8 (U (dig n 0))];rw [dig_U n 0 4294967296 rfl];first|done|rfl|(congr 2;omega));generalize xs++(five n).take 0=ys at *;go_wp2_with (at_builtin;refine wpList_nb rfl _ _ rfl B _ ys rfl (by exact HO.out.below (by (with_reducible (repeat (first|exact Below.refl _ _|refine Bw.alloc ?_ _|refine Bw.drewN ?_ _|refine Bw.drew ?_))))) _ [dig n 0] rfl (By_lit _ _ _ _ [dig n 0] 1 1 rfl HD.out rfl (Nat.le_refl _) (by decide)) (by show ys.length+1<=_;omega) (by simp;omega) ?_;intro a' c' w2 hn2 hb2;have HN2:=aQ hn2;have HB2:=aQ (HBW.out.trans (Below.trans ((show Below wr.heap.size wr _ by (with_reducible (repeat (first|exact Below.refl _ _|refine Bw.alloc ?_ _|refine Bw.drewN ?_ _|refine Bw.drew ?_)))).mono hwB) hb2));clear hn2 hb2);go_roundw;(case rel=>exact ⟨0+1,by omega,by go_num,aQ (by rw [HE.out];exact HN2.out),HB2⟩);(case measure=>first|(simp [intOf];done)|(simp [intOf];omega))
   ·have HD:=aQ (show [Value.int .u8 ((n:Int) / 16777216 % 256)]=cu [dig n 1] by show _=[Value.int .u8 (U (dig n 1))];rw [dig_U n 1 16777216 rfl];first|done|rfl|(congr 2;omega));generalize xs++(five n).take 1=ys at *;go_wp2_with (at_builtin;refine wpList_nb rfl _ _ rfl B _ ys rfl (by exact HO.out.below (by (with_reducible (repeat (first|exact Below.refl _ _|refine Bw.alloc ?_ _|refine Bw.drewN ?_ _|refine Bw.drew ?_))))) _ [dig n 1] rfl (By_lit _ _ _ _ [dig n 1] 1 1 rfl HD.out rfl (Nat.le_refl _) (by decide)) (by show ys.length+1<=_;omega) (by simp;omega) ?_;intro a' c' w2 hn2 hb2;have HN2:=aQ hn2;have HB2:=aQ (HBW.out.trans (Below.trans ((show Below wr.heap.size wr _ by (with_reducible (repeat (first|exact Below.refl _ _|refine Bw.alloc ?_ _|refine Bw.drewN ?_ _|refine Bw.drew ?_)))).mono hwB) hb2));clear hn2 hb2);go_roundw;(case rel=>exact ⟨1+1,by omega,by go_num,aQ (by rw [HE.out];exact HN2.out),HB2⟩);(case measure=>first|(simp [intOf];done)|(simp [intOf];omega))
   ·have HD:=aQ (show [Value.int .u8 ((n:Int) / 65536 % 256)]=cu [dig n 2] by show _=[Value.int .u8 (U (dig n 2))];rw [dig_U n 2 65536 rfl];first|done|rfl|(congr 2;omega));generalize xs++(five n).take 2=ys at *;go_wp2_with (at_builtin;refine wpList_nb rfl _ _ rfl B _ ys rfl (by exact HO.out.below (by (with_reducible (repeat (first|exact Below.refl _ _|refine Bw.alloc ?_ _|refine Bw.drewN ?_ _|refine Bw.drew ?_))))) _ [dig n 2] rfl (By_lit _ _ _ _ [dig n 2] 1 1 rfl HD.out rfl (Nat.le_refl _) (by decide)) (by show ys.length+1<=_;omega) (by simp;omega) ?_;intro a' c' w2 hn2 hb2;have HN2:=aQ hn2;have HB2:=aQ (HBW.out.trans (Below.trans ((show Below wr.heap.size wr _ by (with_reducible (repeat (first|exact Below.refl _ _|refine Bw.alloc ?_ _|refine Bw.drewN ?_ _|refine Bw.drew ?_)))).mono hwB) hb2));clear hn2 hb2);go_roundw;(case rel=>exact ⟨2+1,by omega,by go_num,aQ (by rw [HE.out];exact HN2.out),HB2⟩);(case measure=>first|(simp [intOf];done)|(simp [intOf];omega))
   ·have HD:=aQ (show [Value.int .u8 ((n:Int) / 256 % 256)]=cu [dig n 3] by show _=[Value.int .u8 (U (dig n 3))];rw [dig_U n 3 256 rfl];first|done|rfl|(congr 2;omega));generalize xs++(five n).take 3=ys at *;go_wp2_with (at_builtin;refine wpList_nb rfl _ _ rfl B _ ys rfl (by exact HO.out.below (by (with_reducible (repeat (first|exact Below.refl _ _|refine Bw.alloc ?_ _|refine Bw.drewN ?_ _|refine Bw.drew ?_))))) _ [dig n 3] rfl (By_lit _ _ _ _ [dig n 3] 1 1 rfl HD.out rfl (Nat.le_refl _) (by decide)) (by show ys.length+1<=_;omega) (by simp;omega) ?_;intro a' c' w2 hn2 hb2;have HN2:=aQ hn2;have HB2:=aQ (HBW.out.trans (Below.trans ((show Below wr.heap.size wr _ by (with_reducible (repeat (first|exact Below.refl _ _|refine Bw.alloc ?_ _|refine Bw.drewN ?_ _|refine Bw.drew ?_)))).mono hwB) hb2));clear hn2 hb2);go_roundw;(case rel=>exact ⟨3+1,by omega,by go_num,aQ (by rw [HE.out];exact HN2.out),HB2⟩);(case measure=>first|(simp [intOf];done)|(simp [intOf];omega))
   ·have HD:=aQ (show [Value.int .u8 ((n:Int) % 256)]=cu [dig n 4] by show _=[Value.int .u8 (U (dig n 4))];rw [dig_U n 4 1 rfl];first|done|rfl|(congr 2;omega));generalize xs++(five n).take 4=ys at *;go_wp2_with (at_builtin;refine wpList_nb rfl _ _ rfl B _ ys rfl (by exact HO.out.below (by (with_reducible (repeat (first|exact Below.refl _ _|refine Bw.alloc ?_ _|refine Bw.drewN ?_ _|refine Bw.drew ?_))))) _ [dig n 4] rfl (By_lit _ _ _ _ [dig n 4] 1 1 rfl HD.out rfl (Nat.le_refl _) (by decide)) (by show ys.length+1<=_;omega) (by simp;omega) ?_;intro a' c' w2 hn2 hb2;have HN2:=aQ hn2;have HB2:=aQ (HBW.out.trans (Below.trans ((show Below wr.heap.size wr _ by (with_reducible (repeat (first|exact Below.refl _ _|refine Bw.alloc ?_ _|refine Bw.drewN ?_ _|refine Bw.drew ?_)))).mono hwB) hb2));clear hn2 hb2);go_roundw;(case rel=>exact ⟨4+1,by omega,by go_num,aQ (by rw [HE.out];exact HN2.out),HB2⟩);(case measure=>first|(simp [intOf];done)|(simp [intOf];omega))
  ·obtain rfl:k=5:=by omega
   go_wp2_with fail
   go_ret
   exact ⟨_,rfl,by have:=HO.out;rw [List.take_of_length_le (by simp [five])] at this;exact this,HBW.out⟩
end

set_option maxRecDepth 100000
section
open Go.RowKit
theorem or_256 (n x:Nat) (hn:n < 4294967296) (hx:x < 256):bits .or .i64 ((n:Int)*256) (x:Int)=((256*n+x:Nat):Int):=by
 have h:bits .or .i64 ((n*256:Nat):Int) (x:Int)=((n*256+x:Nat):Int):=or_shift 8 n x (by omega) (by omega)
 have e2:n*256+x=256*n+x:=by omega
 rw [e2] at h
 exact h
theorem num_small (l:List Byte) {k:Nat} (hk:k<=4):num l k < 4294967296:=by
 have h:=num_lt l k
 have:256 ^ k<=256 ^ 4:=Nat.pow_le_pow_right (by decide) hk
 omega
theorem number_any (v:Value) (bs:List Byte) (at':Nat) (w:World) (hv:By w v bs) (hl:at'+5<=bs.length) (hm:bs.length<=1000000) :
  Calls Tryz.prog 193 #[v,.int .i64 (at':Int)] w fun e w'=>e=.returned (.int .i64 (num (bs.drop at') 5:Nat))/\w=w':=by
 obtain ⟨_,⟨rfl,a,cap,rfl,_⟩|⟨b,off,cap,rfl,h0,hcap,hcm,hc⟩⟩:=hv.cases
 ·simp at hl
 clear hv
 have HC:=aQ hc
 clear hc
 go_enter Tryz.func193,Tryz.ntmps193
 go_wp2_with fail
 go_loop [5,7] (fun n i=>∃k:Nat,k<=5/\i=.int .i64 (k:Int)/\n=.int .i64 (num (bs.drop at') k:Nat)) (fun _ i=>5 - (intOf i).toNat)
 case atStart=>exact ⟨0,by omega,by go_num,rfl⟩
 case round=>
  obtain ⟨k,hk,rfl,rfl⟩:=hrel
  by_cases hlt:k < 5
  ·have hck:=HC.out (at'+k) (by omega)
   have HE:=aQ (show num (bs.drop at') (k+1)=256*num (bs.drop at') k+(bs.getD (at'+k) 0).toNat by
    show 256*num (bs.drop at') k+((bs.drop at').getD k 0).toNat=_
    rw [getD_drop])
   have hns:=num_small (bs.drop at') (show k<=4 by omega)
   generalize bs.getD (at'+k) 0=x at *
   rw [U_eq] at hck
   have hx:x.toNat < 256:=x.isLt
   obtain ⟨n,hn⟩:∃n,n=num (bs.drop at') k:=⟨_,rfl⟩
   rw [<-hn] at HE hns ⊢
   clear hn
   have hor:=or_256 n x.toNat hns hx
   go_wp2_with fail
   go_round
   case rel=>exact ⟨k+1,by omega,by go_num,by rw [HE.out];go_num⟩
   case measure=>simp [intOf];omega
  ·obtain rfl:k=5:=by omega
   go_wp2_with fail
   go_ret
   exact ⟨rfl,rfl⟩
end

set_option maxRecDepth 100000
section
open Go.RowKit
theorem aO {w:World} {s:Nat} {u0 u1 u2 u3 u4:Value} {T:TypeId} (h:w.heap[s]? = some (.cells #[u0,u1,u2,u3,u4] T)):w.cell? ⟨s,0,none⟩=some u0/\w.cell? ⟨s,1,none⟩=some u1/\w.cell? ⟨s,2,none⟩=some u2/\w.cell? ⟨s,3,none⟩=some u3/\w.cell? ⟨s,4,none⟩=some u4:=
 ⟨aJ (i:=0) h rfl,aJ (i:=1) h rfl,aJ (i:=2) h rfl,aJ (i:=3) h rfl,aJ (i:=4) h rfl⟩
theorem U_cls {c:Int} (h0:0<=c) (h1:c < 4):U (BitVec.ofInt 8 c)=c:=ofInt_U c h0 (by omega)
theorem U_len {n:Nat} (h:n<=64):U (BitVec.ofNat 8 n)=(n:Int):=by unfold U;rw [BitVec.toNat_ofNat];omega
theorem encF_bad (p:Pk) (a:Option Addr) (c:Nat) (w:World) (hg:¬Good p) :
  Calls Tryz.prog 97 #[.agg #[.int .u8 (U p.kind),.int .i64 p.cls,.int .i64 p.number,.int .i64 p.value,.slice a p.pay.length c]] w fun e w'=>e=.returned (.tuple #[.slice none 0 0,.int .i64 1])/\Below w.heap.size w w':=by
 have HG:=aQ hg
 clear hg
 go_enter Tryz.func97,Tryz.ntmps97
 go_wp2_with fail
 refine (valid_bad p a c _ HG.out).mono ?_
 rintro e w1 ⟨rfl,hb⟩
 have HB1:=aQ ((show Below w.heap.size w (w.alloc (.cells #[.int .u8 (U p.kind),.int .i64 p.cls,.int .i64 p.number,.int .i64 p.value,.slice a p.pay.length c] 140)) by (with_reducible (repeat (first|exact Below.refl _ _|refine Bw.alloc ?_ _|refine Bw.drewN ?_ _|refine Bw.drew ?_)))).trans (hb.mono (by simp)))
 clear hb
 go_wp2_with fail
 go_ret2
 exact ⟨rfl,HB1.out⟩
theorem encF_good (p:Pk) (a:Option Addr) (c:Nat) (w:World) (hb:By w (.slice a p.pay.length c) p.pay) (ht:Tab w) (hg:Good p) :
  Calls Tryz.prog 97 #[.agg #[.int .u8 (U p.kind),.int .i64 p.cls,.int .i64 p.number,.int .i64 p.value,.slice a p.pay.length c]] w fun e w'=>∃v',e=.returned (.tuple #[v',.int .i64 0])/\Nb w' w.heap.size v' (encP p)/\Below w.heap.size w w':=by
 have HG:=aQ hg
 have HBY:=aQ hb;have HT:=aQ ht
 have hc0:=hg.c0;have hc1:=hg.c1;have hpl:=hg.pay;have hn0:=hg.n0;have hn1:=hg.n1;have hv0:=hg.v0;have hv1:=hg.v1
 clear hg hb ht
 obtain ⟨kk,cls,num',val,pay⟩:=p
 dsimp only at hc0 hc1 hpl hn0 hn1 hv0 hv1 ⊢
 obtain ⟨n,rfl⟩:=Int.eq_ofNat_of_zero_le hn0
 obtain ⟨v,rfl⟩:=Int.eq_ofNat_of_zero_le hv0
 obtain ⟨p,hp⟩:∃p:Pk,p=⟨kk,cls,(n:Int),(v:Int),pay⟩:=⟨_,rfl⟩
 have HE:=aQ (show encP p=sealed ((([kk,BitVec.ofInt 8 cls]++five n)++five v)++[BitVec.ofNat 8 pay.length]++pay) by rw [hp];rfl)
 have hpv:=valid_good p a c
 rw [hp] at hpv
 dsimp only at hpv
 have HPV:=aQ hpv
 rw [<-hp]
 clear hp hpv
 go_enter Tryz.func97,Tryz.ntmps97
 go_wp2_with fail
 refine (HPV.out _ HG.out).mono ?_
 rintro e w1 ⟨rfl,hb⟩
 have HROW:=aQ ((hb.block w.heap.size (by simp)).trans (heap_alloc_new w (.cells #[.int .u8 (U kk),.int .i64 cls,.int .i64 (n:Int),.int .i64 (v:Int),.slice a pay.length c] 140)))
 have HB1:=aQ ((show Below w.heap.size w (w.alloc (.cells #[.int .u8 (U kk),.int .i64 cls,.int .i64 (n:Int),.int .i64 (v:Int),.slice a pay.length c] 140)) by (with_reducible (repeat (first|exact Below.refl _ _|refine Bw.alloc ?_ _|refine Bw.drewN ?_ _|refine Bw.drew ?_)))).trans (hb.mono (by simp)))
 have hz1:w.heap.size < w1.heap.size:=lt_of_block HROW.out
 clear hb
 obtain ⟨b0,b1,b2,b3,b4⟩:=aO HROW.out
 have hucl:=U_cls hc0 hc1
 have HL0:=aQ (show (#[Value.int .u8 (U kk),Value.int .u8 cls]:Array Value).toList=cu [kk,BitVec.ofInt 8 cls] by show [Value.int .u8 (U kk),Value.int .u8 cls]=[Value.int .u8 (U kk),Value.int .u8 (U (BitVec.ofInt 8 cls))];rw [hucl])
 clear hucl
 have hn1':n < 1099511627776:=by omega
 have hv1':v < 1099511627776:=by omega
 go_wp2_with fail
 refine (appNum_any n hn1' w1.heap.size _ [kk,BitVec.ofInt 8 cls] _ (Nb.lit w1 w1.heap.size [kk,BitVec.ofInt 8 cls] _ 2 rfl (Nat.le_refl _) HL0.out rfl (by decide)) (by simp) (by simp)).mono ?_
 rintro e w2 ⟨x2,rfl,hn2,hb2⟩
 have HN2:=aQ hn2
 have hb2':Below w1.heap.size w1 w2:=(show Below w1.heap.size w1 _ by (with_reducible (repeat (first|exact Below.refl _ _|refine Bw.alloc ?_ _|refine Bw.drewN ?_ _|refine Bw.drew ?_)))).trans hb2
 have HROW2:=aQ ((hb2'.block w.heap.size hz1).trans HROW.out)
 have HB2:=aQ (HB1.out.trans (hb2'.mono HB1.out.size))
 have HZ2:=aQ hb2'.size
 clear hn2 hb2 hb2' b0 b1 b2 b3 b4
 obtain ⟨b0,b1,b2,b3,b4⟩:=aO HROW2.out
 go_wp2_with fail
 refine (appNum_any v hv1' w1.heap.size _ ([kk,BitVec.ofInt 8 cls]++five n) _ HN2.out HZ2.out (by rw [List.length_append,five_length];simp)).mono ?_
 rintro e w3 ⟨x3,rfl,hn3,hb3⟩
 obtain ⟨x3a,x3c,rfl⟩:=hn3.slice
 have HN3:=aQ hn3
 have HROW3:=aQ ((hb3.block w.heap.size hz1).trans HROW2.out)
 have HB3:=aQ (HB2.out.trans (hb3.mono (Nat.le_of_lt hz1)))
 have HZ3:=aQ (Nat.le_trans HZ2.out hb3.size)
 have HBY3:=aQ (HBY.out.below HB3.out)
 clear hn3 hb3 b0 b1 b2 b3 b4
 obtain ⟨b0,b1,b2,b3,b4⟩:=aO HROW3.out
 have hs3:=lt_of_block HROW3.out
 have HL1:=aQ (show [Value.int .u8 (pay.length:Int)]=cu [BitVec.ofNat 8 pay.length] by show _=[Value.int .u8 (U (BitVec.ofNat 8 pay.length))];rw [U_len hpl])
 generalize hxs:(([kk,BitVec.ofInt 8 cls]++five n)++five v)=xs at *
 have hxl:xs.length<=12:=by rw [<-hxs];simp [five]
 clear hxs
 go_upto_region 7 with (at_builtin;refine wpList_nb rfl _ _ rfl w1.heap.size _ xs rfl (by exact HN3.out.below (by (with_reducible (repeat (first|exact Below.refl _ _|refine Bw.alloc ?_ _|refine Bw.drewN ?_ _|refine Bw.drew ?_))))) _ [BitVec.ofNat 8 pay.length] rfl (By_lit _ _ _ _ [BitVec.ofNat 8 pay.length] 1 1 rfl HL1.out rfl (Nat.le_refl _) (by decide)) (by show xs.length+1<=_;omega) (by have:=HZ3.out;simp;omega) ?_;intro x4a x4c w4 hn4 hb4;have HN4:=aQ hn4;have hb4':=(show Below w1.heap.size w3 _ from (show Below w3.heap.size w3 _ by (with_reducible (repeat (first|exact Below.refl _ _|refine Bw.alloc ?_ _|refine Bw.drewN ?_ _|refine Bw.drew ?_)))).mono HZ3.out).trans hb4;have HROW4:=aQ ((hb4'.block w.heap.size hz1).trans HROW3.out);have HB4:=aQ (HB3.out.trans (hb4'.mono (Nat.le_of_lt hz1)));have HZ4:=aQ (Nat.le_trans HZ3.out hb4'.size);have HBY4:=aQ (HBY.out.below HB4.out);clear hn4 hb4 hb4')
 clear b0 b1 b2 b3 b4
 obtain ⟨b0,b1,b2,b3,b4⟩:=aO HROW4.out
 obtain ⟨ys,hys⟩:∃ys,ys=xs++[BitVec.ofNat 8 pay.length]:=⟨_,rfl⟩
 have hle:ys.length=xs.length+1:=by rw [hys];simp
 have hly:ys.length<=13:=by omega
 have HX4:=aQ (show Nb w4 w1.heap.size (.slice x4a (xs.length+1) x4c) ys by rw [hys];exact HN4.out)
 rw [<-hys] at HE
 rw [<-hle] at HX4 ⊢
 clear hle hys HN4
 go_wp2_with (at_builtin;refine wpList_nb rfl _ _ rfl w1.heap.size _ ys rfl (by exact HX4.out) _ pay rfl HBY4.out (by omega) HZ4.out ?_;intro x5a x5c w5 hn5 hb5;generalize Value.slice x5a (ys.length+pay.length) x5c=v5 at hn5 ⊢;have HN5:=aQ hn5;have HB5:=aQ (HB4.out.trans (hb5.mono (Nat.le_of_lt hz1)));have HT5:=aQ (HT.out.below HB5.out);clear hn5 hb5)
 refine (append_any _ (ys++pay) w5 HN5.out.by HT5.out (by rw [List.length_append];omega)).mono ?_
 rintro e w6 ⟨v6,rfl,ho6,hb6⟩
 have HO6:=aQ ho6
 have HB6:=aQ (HB5.out.trans (hb6.mono HB5.out.size))
 clear ho6 hb6
 go_wp2_with fail
 go_ret2
 exact ⟨v6,rfl,by rw [HE.out];exact (Nb.of_ow HO6.out).lower HB5.out.size,HB6.out⟩
end

set_option maxRecDepth 100000
section
open Go.RowKit
theorem ctl_0 (w:World) (hv:Val w):Calls Tryz.prog 98 #[.int .i64 0] w fun e w'=>e=.returned (.int .u8 49)/\w=w':=by
 have HV:=aQ hv
 clear hv
 go_enter Tryz.func98,Tryz.ntmps98
 go_wp2_with fail
 refine (control_0 w HV.out).mono ?_
 rintro e w' ⟨rfl,rfl⟩
 go_wp2_with fail
 go_ret
 exact ⟨rfl,rfl⟩
theorem ctl_1 (w:World) (hv:Val w):Calls Tryz.prog 98 #[.int .i64 1] w fun e w'=>e=.returned (.int .u8 50)/\w=w':=by
 have HV:=aQ hv
 clear hv
 go_enter Tryz.func98,Tryz.ntmps98
 go_wp2_with fail
 refine (control_1 w HV.out).mono ?_
 rintro e w' ⟨rfl,rfl⟩
 go_wp2_with fail
 go_ret
 exact ⟨rfl,rfl⟩
theorem symF_bad (p:Pk) (a:Option Addr) (c:Nat) (w:World) (hg:¬Good p) :
  Calls Tryz.prog 50 #[.agg #[.int .u8 (U p.kind),.int .i64 p.cls,.int .i64 p.number,.int .i64 p.value,.slice a p.pay.length c]] w fun e w'=>e=.returned (.tuple #[.slice none 0 0,.int .i64 1])/\Below w.heap.size w w':=by
 have HG:=aQ hg
 clear hg
 go_enter Tryz.func50,Tryz.ntmps50
 go_wp2_with fail
 refine (encF_bad p a c _ HG.out).mono ?_
 rintro e w1 ⟨rfl,hb⟩
 have HB1:=aQ ((show Below w.heap.size w (w.alloc (.cells #[.int .u8 (U p.kind),.int .i64 p.cls,.int .i64 p.number,.int .i64 p.value,.slice a p.pay.length c] 140)) by (with_reducible (repeat (first|exact Below.refl _ _|refine Bw.alloc ?_ _|refine Bw.drewN ?_ _|refine Bw.drew ?_)))).trans (hb.mono (by simp)))
 clear hb
 go_wp2_with fail
 go_ret2
 exact ⟨rfl,HB1.out⟩
theorem symF_good (p:Pk) (a:Option Addr) (c:Nat) (w:World) (hb:By w (.slice a p.pay.length c) p.pay) (ht:Tabs w) (hg:Good p) :
  Calls Tryz.prog 50 #[.agg #[.int .u8 (U p.kind),.int .i64 p.cls,.int .i64 p.number,.int .i64 p.value,.slice a p.pay.length c]] w fun e w'=>∃v',e=.returned (.tuple #[v',.int .i64 0])/\Nb w' w.heap.size v' (symP p)/\Below w.heap.size w w':=by
 have HG:=aQ hg;have HBY:=aQ hb;have HT:=aQ ht
 have hpl:=hg.pay
 clear hg hb ht
 go_enter Tryz.func50,Tryz.ntmps50
 go_wp2_with fail
 refine (encF_good p a c _ (By.alloc HBY.out _) (Tab.alloc HT.out.tab _) HG.out).mono ?_
 rintro e w1 ⟨v1,rfl,hn1,hb⟩
 have HB1:=aQ ((show Below w.heap.size w (w.alloc (.cells #[.int .u8 (U p.kind),.int .i64 p.cls,.int .i64 p.number,.int .i64 p.value,.slice a p.pay.length c] 140)) by (with_reducible (repeat (first|exact Below.refl _ _|refine Bw.alloc ?_ _|refine Bw.drewN ?_ _|refine Bw.drew ?_)))).trans (hb.mono (by simp)))
 have HN1:=aQ hn1
 have HT1:=aQ (HT.out.below HB1.out)
 have hz1:=HB1.out.size
 obtain ⟨bs,hbs⟩:∃bs,bs=encP p:=⟨_,rfl⟩
 have hbl:bs.length<=81:=by rw [hbs,encP_length];omega
 rw [<-hbs] at HN1
 have HS:=aQ (show symP p=([49]++encS bs)++[50] by unfold symP;rw [hbs];rfl)
 clear hb hn1 hbs
 go_wp2_with fail
 refine (ctl_0 w1 HT1.out.val).mono ?_
 rintro e w' ⟨rfl,rfl⟩
 have HL0:=aQ (show (#[Value.int .u8 49]:Array Value).toList=cu [49] from rfl)
 go_wp2_with fail
 refine (enc_any _ bs _ (HN1.out.by.alloc _) ((HT1.out.below (aK w1 _)).val) (by omega)).mono ?_
 rintro e w2 ⟨v2,rfl,hn2,hb2⟩
 have HX2:=aQ ((Nb.lit w1 w1.heap.size [49] #[.int .u8 49] 1 rfl hz1 rfl rfl (by decide)).below hb2)
 have HN2:=aQ hn2
 have HB2:=aQ (HB1.out.trans ((Below.trans (aK w1 (.cells #[.int .u8 49] 5)) (hb2.mono (by simp))).mono hz1))
 have HT2:=aQ (HT.out.below HB2.out)
 have hz2:=HB2.out.size
 have hel:(encS bs).length<=162:=by rw [encS_length];omega
 clear hn2 hb2
 generalize encS bs=es at *
 go_wp2_with (at_builtin;refine wpList_nb rfl _ _ rfl w.heap.size _ [49] rfl (by exact HX2.out) _ es rfl HN2.out.by (by show 1+es.length<=_;omega) hz2 ?_;intro x3a x3c w3 hn3 hb3;generalize Value.slice x3a (([49]:List Byte).length+es.length) x3c=v3 at hn3 ⊢;have HN3:=aQ hn3;have HB3:=aQ (HB2.out.trans hb3);have HT3:=aQ (HT.out.below HB3.out);have hz3:=HB3.out.size;clear hn3 hb3)
 refine (ctl_1 w3 HT3.out.val).mono ?_
 rintro e w' ⟨rfl,rfl⟩
 go_wp2_with (at_builtin;refine wpList_nb rfl _ _ rfl w.heap.size _ ([49]++es) rfl (by exact HN3.out.below (by (with_reducible (repeat (first|exact Below.refl _ _|refine Bw.alloc ?_ _|refine Bw.drewN ?_ _|refine Bw.drew ?_))))) _ [50] rfl (By_lit _ _ _ _ [50] 1 1 rfl rfl rfl (Nat.le_refl _) (by decide)) (by rw [List.length_append];show 1+es.length+1<=_;omega) (by simp;omega) ?_;intro x4a x4c w4 hn4 hb4;generalize Value.slice x4a (([49]++es:List Byte).length+([50]:List Byte).length) x4c=v4 at hn4 ⊢;have HN4:=aQ hn4;have HB4:=aQ (HB3.out.trans ((show Below w.heap.size w3 _ from (show Below w3.heap.size w3 _ by (with_reducible (repeat (first|exact Below.refl _ _|refine Bw.alloc ?_ _|refine Bw.drewN ?_ _|refine Bw.drew ?_)))).mono hz3).trans hb4));clear hn4 hb4)
 go_ret2
 exact ⟨v4,rfl,by rw [HS.out];exact HN4.out,HB4.out⟩
end

set_option maxRecDepth 100000
section
open Go.RowKit
theorem By.dropv {w:World} {b off n c:Nat} {bs:List Byte} (h:By w (.slice (some ⟨b,off,none⟩) n c) bs) {k:Nat} (hk:k<=n):By w (.slice (if c=k then some ⟨b,off,none⟩ else some ⟨b,off+k,none⟩) (n - k) (c - k)) (bs.drop k):=by
 obtain ⟨_,a',c',e,h1,h2,h3,h4⟩:=h
 obtain ⟨rfl,rfl,rfl⟩:some ⟨b,off,none⟩=a'/\n=bs.length/\c=c':=by simpa using e
 refine ⟨by rw [cu_length,List.length_drop,Nat.mul_one],_,c - k,by rw [List.length_drop],by rw [List.length_drop];omega,by omega,(fun e=>by split at e <;> cases e),fun ad hb j u hj=>?_⟩
 have hjl:j < bs.length - k:=by have:=aA hj;rw [cu_length,List.length_drop] at this;exact this
 have hck:¬c=k:=by omega
 rw [if_neg hck] at hb
 obtain rfl:=Option.some.inj hb
 rw [cu,List.getElem?_map,List.getElem?_drop] at hj
 refine ⟨rfl,?_⟩
 have:=(h4 _ rfl (k+j) u (by rw [cu,List.getElem?_map];exact hj)).2
 rw [<-Nat.add_assoc] at this
 exact this
def DecF (w:World) (bs:List Byte) (e:Ending) (w':World):Prop:=∃a c,e=.returned (.tuple #[.agg #[.int .u8 (U (decP bs).1.kind),.int .i64 (decP bs).1.cls,.int .i64 (decP bs).1.number,.int .i64 (decP bs).1.value,.slice a (decP bs).1.pay.length c],.int .i64 (decP bs).2])/\Nb w' w.heap.size (.slice a (decP bs).1.pay.length c) (decP bs).1.pay/\Below w.heap.size w w'
theorem DecF.mk {w w':World} {bs:List Byte} {r:Pk × Int} (h:decP bs=r) {a:Option Addr} {c:Nat} (h1:Nb w' w.heap.size (.slice a r.1.pay.length c) r.1.pay) (h2:Below w.heap.size w w'):DecF w bs (.returned (.tuple #[.agg #[.int .u8 (U r.1.kind),.int .i64 r.1.cls,.int .i64 r.1.number,.int .i64 r.1.value,.slice a r.1.pay.length c],.int .i64 r.2])) w':=by
 subst h;exact ⟨a,c,rfl,h1,h2⟩
theorem DecF.zero {w w':World} {bs:List Byte} {n:Int} (h:decP bs=(Pk.zero,n)) (h2:Below w.heap.size w w'):DecF w bs (.returned (.tuple #[.agg #[.int .u8 0,.int .i64 0,.int .i64 0,.int .i64 0,.slice none 0 0],.int .i64 n])) w':=
 DecF.mk h (a:=none) (c:=0) (Nb.nil _ _) h2
theorem decF_short (v:Value) (bs:List Byte) (w:World) (hb:By w v bs) (h:bs.length < 17) :
  Calls Tryz.prog 172 #[v] w (DecF w bs):=by
 have HD:=aQ (decP_short h)
 obtain ⟨a,cap,rfl⟩:=hb.slice
 clear hb
 go_enter Tryz.func172,Tryz.ntmps172
 go_wp2_with fail
 exact bodyPost_ret (v:=.tuple #[.agg #[.int .u8 0,.int .i64 0,.int .i64 0,.int .i64 0,.slice none 0 0],.int .i64 4]) (by simp [results,Tryz.results172,go_sem]) rfl (DecF.zero HD.out (by (with_reducible (repeat (first|exact Below.refl _ _|refine Bw.alloc ?_ _|refine Bw.drewN ?_ _|refine Bw.drew ?_)))))
theorem decF_form (v:Value) (bs:List Byte) (w:World) (hb:By w v bs) (h:17<=bs.length) (hm:bs.length<=100000) (h2:64 < (bs.getD 12 0).toNat\/(bs.getD 12 0).toNat+17≠bs.length) :
  Calls Tryz.prog 172 #[v] w (DecF w bs):=by
 have HD:=aQ (decP_form h h2)
 obtain ⟨_,⟨rfl,a,cap,rfl,_⟩|⟨b,off,cap,rfl,h0,hcap,hcm,hc⟩⟩:=hb.cases
 ·simp at h
 have hc12:=hc 12 (by omega)
 clear hb hc
 rw [U_eq] at hc12
 have hm256:(bs.getD 12 0).toNat < 256:=(bs.getD 12 0).isLt
 generalize (bs.getD 12 0).toNat=m at *
 have hlt:b < w.heap.size:=World.block_lt_of_cell? w _ hc12
 by_cases h64:64 < m
 ·clear h2
  go_enter Tryz.func172,Tryz.ntmps172
  go_wp2_with fail
  exact bodyPost_ret (v:=.tuple #[.agg #[.int .u8 0,.int .i64 0,.int .i64 0,.int .i64 0,.slice none 0 0],.int .i64 3]) (by simp [results,Tryz.results172,go_sem]) rfl (DecF.zero HD.out (by (with_reducible (repeat (first|exact Below.refl _ _|refine Bw.alloc ?_ _|refine Bw.drewN ?_ _|refine Bw.drew ?_)))))
 ·have hne:((m:Int) != (bs.length:Int) - 17)=true:=by simp;omega
  clear h2
  go_enter Tryz.func172,Tryz.ntmps172
  go_wp2_with fail
  exact bodyPost_ret (v:=.tuple #[.agg #[.int .u8 0,.int .i64 0,.int .i64 0,.int .i64 0,.slice none 0 0],.int .i64 3]) (by simp [results,Tryz.results172,go_sem]) rfl (DecF.zero HD.out (by (with_reducible (repeat (first|exact Below.refl _ _|refine Bw.alloc ?_ _|refine Bw.drewN ?_ _|refine Bw.drew ?_)))))
end

set_option maxRecDepth 100000
section
open Go.RowKit
theorem decF_sum (v:Value) (bs:List Byte) (w:World) (hb:By w v bs) (ht:Tab w) (h:17<=bs.length) (hm:bs.length<=100000) (h2:(bs.getD 12 0).toNat<=64/\(bs.getD 12 0).toNat+17=bs.length) (h3:cK bs=false) :
  Calls Tryz.prog 172 #[v] w (DecF w bs):=by
 have HD:=aQ (decP_sum h h2 h3)
 have HB:=aQ hb;have HT:=aQ ht;have H3:=aQ h3
 obtain ⟨_,⟨rfl,a,cap,rfl,_⟩|⟨b,off,cap,rfl,h0,hcap,hcm,hc⟩⟩:=hb.cases
 ·simp at h
 have hc12:=hc 12 (by omega)
 clear hb hc ht h3
 rw [U_eq] at hc12
 obtain ⟨h64,h17⟩:=h2
 generalize (bs.getD 12 0).toNat=m at *
 have hlt:b < w.heap.size:=World.block_lt_of_cell? w _ hc12
 have hne:((m:Int) != (bs.length:Int) - 17)=false:=by simp;omega
 have HM:=aQ h17
 clear h17
 go_enter Tryz.func172,Tryz.ntmps172
 go_wp2_with fail
 refine (check_long _ bs (by omega) (by omega) _ (By.alloc HB.out _) (Tab.alloc HT.out _)).mono ?_
 rintro e w1 (⟨_,rfl,hb1⟩|⟨hs,_⟩)
 ·have hrow:=(hb1.block w.heap.size (by simp)).trans (heap_alloc_new w (.cells #[.int .u8 0,.int .i64 0,.int .i64 0,.int .i64 0,.slice none 0 0] 140))
  obtain ⟨b0,b1,b2,b3,b4⟩:=aO hrow
  have bf:=fun i=>aD hrow i
  have hz1:=lt_of_block hrow
  have HROW:=aQ hrow
  have HB1:=aQ ((show Below w.heap.size w (w.alloc (.cells #[.int .u8 0,.int .i64 0,.int .i64 0,.int .i64 0,.slice none 0 0] 140)) by (with_reducible (repeat (first|exact Below.refl _ _|refine Bw.alloc ?_ _|refine Bw.drewN ?_ _|refine Bw.drew ?_)))).trans (hb1.mono (by simp)))
  clear hb1 hrow
  go_wp2_with fail
  exact bodyPost_ret (v:=.tuple #[.agg #[.int .u8 0,.int .i64 0,.int .i64 0,.int .i64 0,.slice none 0 0],.int .i64 9]) (by simp [results,Tryz.results172,go_sem,b0,b1,b2,b3,b4]) rfl (DecF.zero HD.out (Below.setCell (Below.setCell (Below.setCell (Below.setCell (Below.setCell HB1.out (Nat.le_refl _) _) (Nat.le_refl _) _) (Nat.le_refl _) _) (Nat.le_refl _) _) (Nat.le_refl _) _))
 ·rw [H3.out] at hs;cases hs
theorem sts5 {w:World} {s:Nat} {a b c d e:Value} {T:TypeId} (h:w.heap[s]? = some (.cells #[a,b,c,d,e] T)) (x y z u v:Value):(((((w.setCell ⟨s,0,none⟩ x).setCell ⟨s,1,none⟩ y).setCell ⟨s,2,none⟩ z).setCell ⟨s,3,none⟩ u).setCell ⟨s,4,none⟩ v).heap[s]? = some (.cells #[x,y,z,u,v] T):=by (apply aS;focus (with_reducible (repeat (first|exact h|apply aU|apply aP|apply aF))));rfl
theorem sts5_other {w:World} {s k:Nat} (hk:k≠s) (x y z u v:Value):(((((w.setCell ⟨s,0,none⟩ x).setCell ⟨s,1,none⟩ y).setCell ⟨s,2,none⟩ z).setCell ⟨s,3,none⟩ u).setCell ⟨s,4,none⟩ v).heap[k]? = w.heap[k]?:=
 (Below.heap_setCell _ _ _ _ hk).trans ((Below.heap_setCell _ _ _ _ hk).trans ((Below.heap_setCell _ _ _ _ hk).trans ((Below.heap_setCell _ _ _ _ hk).trans (Below.heap_setCell _ _ _ _ hk))))
theorem step_allocP {ops:Array Oper} {o:Oper} {a:Act} {w:World} {K:Act->World->Prop} {Q:Exit->Act->World->Prop} {E:Prop} (hg:o.guard=none) (hop:o.op=Op.alloc 140)
  (hK:∀pb w',w'.heap[pb]? = some (.cells #[.int .u8 0,.int .i64 0,.int .i64 0,.int .i64 0,.slice none 0 0] 140)->Below w.heap.size w w'->w.heap.size<=pb->K (a.put o.dst (.pointer (some ⟨pb,0,none⟩))) w') :
  if Region.wanted o (yielded ops a.tmps)=true then Oper.wp Tryz.prog o a w K Q else E:=by
 obtain ⟨d,op,ty,pos,af,g⟩:=o
 dsimp only at hg hop
 subst hg;subst hop
 rw [if_pos (by simp [Region.wanted])]
 have h:=hK w.heap.size (w.alloc (.cells #[.int .u8 0,.int .i64 0,.int .i64 0,.int .i64 0,.slice none 0 0] 140)) (heap_alloc_new w _) (aK w _) (Nat.le_refl _)
 clear hK
 go_simp
 exact h
theorem step_storeP {ops:Array Oper} {o:Oper} {a:Act} {w:World} {K:Act->World->Prop} {Q:Exit->Act->World->Prop} {E:Prop} (hg:o.guard=none) (hd:o.dst=none) (x y:Operand) (hop:o.op=Op.store 140 x y)
  (pb:Nat) (hx:a.eval x=.pointer (some ⟨pb,0,none⟩)) (k c n v:Int) (sa:Option Addr) (sl sc:Nat) (hy:a.eval y=.agg #[.int .u8 k,.int .i64 c,.int .i64 n,.int .i64 v,.slice sa sl sc]) {u0 u1 u2 u3 u4:Value} (hrow:w.heap[pb]? = some (.cells #[u0,u1,u2,u3,u4] 140))
  (hK:∀w',w'.heap[pb]? = some (.cells #[.int .u8 k,.int .i64 c,.int .i64 n,.int .i64 v,.slice sa sl sc] 140)->w.heap.size=w'.heap.size->(∀B w0,B<=pb->Below B w0 w->Below B w0 w')->(∀j,j≠pb->w'.heap[j]? = w.heap[j]?)->K a w') :
  if Region.wanted o (yielded ops a.tmps)=true then Oper.wp Tryz.prog o a w K Q else E:=by
 obtain ⟨d,op,ty,pos,af,g⟩:=o
 dsimp only at hg hop hd
 subst hg;subst hop;subst hd
 rw [if_pos (by simp [Region.wanted])]
 have hlt:=lt_of_block hrow
 have h:=hK _ (sts5 hrow (.int .u8 k) (.int .i64 c) (.int .i64 n) (.int .i64 v) (.slice sa sl sc)) (by simp) (fun B w0 hB hb=>(Below.setCell (Below.setCell (Below.setCell (Below.setCell (Below.setCell hb hB _) hB _) hB _) hB _) hB _)) (fun j hj=>sts5_other hj _ _ _ _ _)
 obtain ⟨b0,b1,b2,b3,b4⟩:=aO hrow
 have bf:=fun i=>aD hrow i
 clear hK hrow
 unfold Oper.wp
 simp only [execOp,hx,hy]
 go_simp
 exact h
theorem number_2 (v:Value) (bs:List Byte) (w:World) (hv:By w v bs) (hl:13<=bs.length) (hm:bs.length<=100) :
  Calls Tryz.prog 193 #[v,.int .i64 2] w fun e w'=>e=.returned (.int .i64 (num (bs.drop 2) 5:Nat))/\w=w':=number_any v bs 2 w hv (by omega) (by omega)
theorem number_7 (v:Value) (bs:List Byte) (w:World) (hv:By w v bs) (hl:13<=bs.length) (hm:bs.length<=100) :
  Calls Tryz.prog 193 #[v,.int .i64 7] w fun e w'=>e=.returned (.int .i64 (num (bs.drop 7) 5:Nat))/\w=w':=number_any v bs 7 w hv (by omega) (by omega)
theorem decF_body (v:Value) (bs:List Byte) (w:World) (hb:By w v bs) (ht:Tab w) (h:17<=bs.length) (hm:bs.length<=100000) (h2:(bs.getD 12 0).toNat<=64/\(bs.getD 12 0).toNat+17=bs.length) (h3:cK bs=true) :
  Calls Tryz.prog 172 #[v] w (DecF w bs):=by
 have HB:=aQ hb;have HT:=aQ ht;have H3:=aQ h3
 have HP:=aQ (fun hv=>decP_arg h h2 h3 hv);have HQ:=aQ (fun hv=>decP_ok h h2 h3 hv)
 obtain ⟨_,⟨rfl,a,cap,rfl,_⟩|⟨b,off,cap,rfl,h0,hcap,hcm,hc⟩⟩:=hb.cases
 ·simp at h
 have hc12:=hc 12 (by omega)
 clear hb hc ht h3
 rw [U_eq] at hc12
 obtain ⟨h64,h17⟩:=h2
 generalize (bs.getD 12 0).toNat=m at *
 have hlt:b < w.heap.size:=World.block_lt_of_cell? w _ hc12
 have hne:((m:Int) != (bs.length:Int) - 17)=false:=by simp;omega
 have HM:=aQ h17
 have hbl:(bs.take (bs.length - 4)).length=m+13:=by rw [List.length_take];omega
 clear h17
 go_enter Tryz.func172,Tryz.ntmps172
 go_wp2_with fail
 refine (check_long _ bs (by omega) (by omega) _ (By.alloc HB.out _) (Tab.alloc HT.out _)).mono ?_
 rintro e w1 (⟨hs,_⟩|⟨_,v1,rfl,ho1,hb1⟩)
 ·rw [H3.out] at hs;cases hs
 ·have hrow:=(hb1.block w.heap.size (by simp)).trans (heap_alloc_new w (.cells #[.int .u8 0,.int .i64 0,.int .i64 0,.int .i64 0,.slice none 0 0] 140))
  have hz1:=lt_of_block hrow
  have HROW:=aQ hrow
  have HB1:=aQ ((show Below w.heap.size w (w.alloc (.cells #[.int .u8 0,.int .i64 0,.int .i64 0,.int .i64 0,.slice none 0 0] 140)) by (with_reducible (repeat (first|exact Below.refl _ _|refine Bw.alloc ?_ _|refine Bw.drewN ?_ _|refine Bw.drew ?_)))).trans (hb1.mono (by simp)))
  generalize bs.take (bs.length - 4)=body at *
  have hby:=ho1.by
  obtain ⟨_,⟨hnil,_⟩|⟨g,goff,gcap,rfl,hg0,hgcap,hgm,hgc⟩⟩:=hby.cases
  ·rw [hnil] at hbl;simp at hbl
  have c0:=hgc 0 (by omega);have c1:=hgc 1 (by omega)
  rw [Nat.add_zero] at c0
  have HBD:=aQ hby
  have HDR:=aQ (hby.dropv (k:=13) (by omega))
  have HBL:=aQ hbl
  have hbl1:13<=body.length:=by omega
  have hbl2:body.length<=100:=by omega
  have hx1:(body.getD 1 0).toNat < 256:=(body.getD 1 0).isLt
  clear hb1 hrow hby ho1 hgc hbl
  obtain ⟨x0,hx0⟩:∃x0,x0=body.getD 0 0:=⟨_,rfl⟩
  obtain ⟨x1,hx1e⟩:∃x1,x1=body.getD 1 0:=⟨_,rfl⟩
  rw [<-hx0] at c0
  rw [<-hx1e] at c1 hx1
  rw [U_eq x1] at c1
  have HX0:=aQ hx0;have HX1:=aQ hx1e
  clear hx0 hx1e
  have hb0:0 < body.length:=by omega
  have hb1:1 < body.length:=by omega
  have hb1':(0:Int)<=1/\(1:Int) < (body.length:Int):=by omega
  have hi13:(0:Int)<=13/\(13:Int)<=(body.length:Int):=by omega
  have hwx:IntKind.i64.wrap ((x1.toNat:Nat):Int)=((x1.toNat:Nat):Int):=IntWalk.i64_in _ (by omega)
  have HWS:=aQ HB1.out.size
  have HPK:=aQ (show ∀xa xc,Value.agg #[.int .u8 (U x0),.int .i64 ((x1.toNat:Nat):Int),.int .i64 ((num (body.drop 2) 5:Nat):Int),.int .i64 ((num (body.drop 7) 5:Nat):Int),.slice xa (body.drop 13).length xc]=.agg #[.int .u8 (U (bJ body).kind),.int .i64 (bJ body).cls,.int .i64 (bJ body).number,.int .i64 (bJ body).value,.slice xa (bJ body).pay.length xc] by intro xa xc;rw [HX0.out,HX1.out];rfl)
  have hb0:0 < body.length:=by omega
  have hb1:1 < body.length:=by omega
  have hb1':(0:Int)<=1/\(1:Int) < (body.length:Int):=by omega
  have hi13:(0:Int)<=13/\(13:Int)<=(body.length:Int):=by omega
  have hwx:IntKind.i64.wrap ((x1.toNat:Nat):Int)=((x1.toNat:Nat):Int):=IntWalk.i64_in _ (by omega)
  have HWS:=aQ HB1.out.size
  have HPK:=aQ (show ∀xa xc,Value.agg #[.int .u8 (U x0),.int .i64 ((x1.toNat:Nat):Int),.int .i64 ((num (body.drop 2) 5:Nat):Int),.int .i64 ((num (body.drop 7) 5:Nat):Int),.slice xa (body.drop 13).length xc]=.agg #[.int .u8 (U (bJ body).kind),.int .i64 (bJ body).cls,.int .i64 (bJ body).number,.int .i64 (bJ body).value,.slice xa (bJ body).pay.length xc] by intro xa xc;rw [HX0.out,HX1.out];rfl)
  have hb0:0 < body.length:=by omega
  have hb1:1 < body.length:=by omega
  have hb1':(0:Int)<=1/\(1:Int) < (body.length:Int):=by omega
  have hi13:(0:Int)<=13/\(13:Int)<=(body.length:Int):=by omega
  have hwx:IntKind.i64.wrap ((x1.toNat:Nat):Int)=((x1.toNat:Nat):Int):=IntWalk.i64_in _ (by omega)
  have HWS:=aQ HB1.out.size
  have HPK:=aQ (show ∀xa xc,Value.agg #[.int .u8 (U x0),.int .i64 ((x1.toNat:Nat):Int),.int .i64 ((num (body.drop 2) 5:Nat):Int),.int .i64 ((num (body.drop 7) 5:Nat):Int),.slice xa (body.drop 13).length xc]=.agg #[.int .u8 (U (bJ body).kind),.int .i64 (bJ body).cls,.int .i64 (bJ body).number,.int .i64 (bJ body).value,.slice xa (bJ body).pay.length xc] by intro xa xc;rw [HX0.out,HX1.out];rfl)
  have hb0:0 < body.length:=by omega
  have hb1:1 < body.length:=by omega
  have hb1':(0:Int)<=1/\(1:Int) < (body.length:Int):=by omega
  have hi13:(0:Int)<=13/\(13:Int)<=(body.length:Int):=by omega
  have hwx:IntKind.i64.wrap ((x1.toNat:Nat):Int)=((x1.toNat:Nat):Int):=IntWalk.i64_in _ (by omega)
  have HWS:=aQ HB1.out.size
  have HZ1:=aQ hz1
  have HPK:=aQ (show ∀xa xc,Obj.cells #[.int .u8 (U x0),.int .i64 ((x1.toNat:Nat):Int),.int .i64 ((num (body.drop 2) 5:Nat):Int),.int .i64 ((num (body.drop 7) 5:Nat):Int),.slice xa (body.drop 13).length xc] 140 = .cells #[.int .u8 (U (bJ body).kind),.int .i64 (bJ body).cls,.int .i64 (bJ body).number,.int .i64 (bJ body).value,.slice xa (bJ body).pay.length xc] 140 by intro xa xc;rw [HX0.out,HX1.out];rfl)
  have hb0:0 < body.length:=by omega
  have hb1:1 < body.length:=by omega
  have hb1':(0:Int)<=1/\(1:Int) < (body.length:Int):=by omega
  have hi13:(0:Int)<=13/\(13:Int)<=(body.length:Int):=by omega
  have hwx:IntKind.i64.wrap ((x1.toNat:Nat):Int)=((x1.toNat:Nat):Int):=IntWalk.i64_in _ (by omega)
  have HWS:=aQ HB1.out.size
  have HZ1:=aQ hz1
  have HPK:=aQ (show ∀xa xc,Obj.cells #[.int .u8 (U x0),.int .i64 ((x1.toNat:Nat):Int),.int .i64 ((num (body.drop 2) 5:Nat):Int),.int .i64 ((num (body.drop 7) 5:Nat):Int),.slice xa (body.drop 13).length xc] 140 = .cells #[.int .u8 (U (bJ body).kind),.int .i64 (bJ body).cls,.int .i64 (bJ body).number,.int .i64 (bJ body).value,.slice xa (bJ body).pay.length xc] 140 by intro xa xc;rw [HX0.out,HX1.out];rfl)
  have hb0:0 < body.length:=by omega
  have hb1:1 < body.length:=by omega
  have hb1':(0:Int)<=1/\(1:Int) < (body.length:Int):=by omega
  have hi13:(0:Int)<=13/\(13:Int)<=(body.length:Int):=by omega
  have hwx:IntKind.i64.wrap ((x1.toNat:Nat):Int)=((x1.toNat:Nat):Int):=IntWalk.i64_in _ (by omega)
  have HWS:=aQ HB1.out.size
  have HZ1:=aQ hz1
  have HPK:=aQ (show ∀xa xc,Obj.cells #[.int .u8 (U x0),.int .i64 ((x1.toNat:Nat):Int),.int .i64 ((num (body.drop 2) 5:Nat):Int),.int .i64 ((num (body.drop 7) 5:Nat):Int),.slice xa (body.drop 13).length xc] 140 = .cells #[.int .u8 (U (bJ body).kind),.int .i64 (bJ body).cls,.int .i64 (bJ body).number,.int .i64 (bJ body).value,.slice xa (bJ body).pay.length xc] 140 by intro xa xc;rw [HX0.out,HX1.out];rfl)
  by_cases hc13:gcap=13
  ·subst hc13
   have hd0:body.length - 13=0:=by omega
   rw [if_pos rfl,hd0] at HDR
   clear hd0
   go_wp2_with fail
   refine wp_region_held_drew (S:=Below w1.heap.size w1) (by kernel_rfl) (by (with_reducible (repeat (first|exact Below.refl _ _|refine Bw.alloc ?_ _|refine Bw.drewN ?_ _|refine Bw.drew ?_)))) (fun hS0=>?_);change wpAnyH _ _ _ _ _ (4+13) _ _ _;refine aH 0 13 (by kernel_rfl) hS0 (fun _ _ _ _ _ h=>h) ?_;simp only [List.drop_zero,List.take_succ_cons,List.take_zero];(iterate 8 (refine aR (v:=?_) (by rfl) ?_ ?_;rotate_left 1;(focus ((intro w' hS';have h0:=cell_later hS' c0;have h1:=cell_later hS' c1;go_simp);try with_reducible rfl));simp only [Act.put,jQ1,jQ2,jQ3]));(refine wpFirst_call (v:=?_) (f:=?_) (args:=?_) (by rfl) ?_ ?_ ?_;rotate_left 3;(focus (intro w';go_simp;first|(with_reducible rfl)|(refine ⟨?_,?_⟩ <;> with_reducible rfl)));(focus (intro w' hS';with_reducible exact (number_2 _ body w' (HBD.out.below hS') hbl1 hbl2)));simp only [Act.put,jQ1,jQ2,jQ3]);(refine aR (v:=?_) (by rfl) ?_ ?_;rotate_left 1;(focus ((intro w' hS';have h0:=cell_later hS' c0;have h1:=cell_later hS' c1;go_simp);try with_reducible rfl));simp only [Act.put,jQ1,jQ2,jQ3]);(refine wpFirst_call (v:=?_) (f:=?_) (args:=?_) (by rfl) ?_ ?_ ?_;rotate_left 3;(focus (intro w';go_simp;first|(with_reducible rfl)|(refine ⟨?_,?_⟩ <;> with_reducible rfl)));(focus (intro w' hS';with_reducible exact (number_7 _ body w' (HBD.out.below hS') hbl1 hbl2)));simp only [Act.put,jQ1,jQ2,jQ3]);(iterate 2 (refine aR (v:=?_) (by rfl) ?_ ?_;rotate_left 1;(focus ((intro w' hS';have h0:=cell_later hS' c0;have h1:=cell_later hS' c1;go_simp);try with_reducible rfl));simp only [Act.put,jQ1,jQ2,jQ3]));refine aT ?_;(refine wpAnyH_two 13 15 (by kernel_rfl) rfl rfl (fun K hK=>?_) (fun K hK=>?_));(focus (refine step_nb (by rfl) _ _ (by rfl) _ (.slice none 0 0) [] (by rfl) (Nb.nil _ _) (.slice (some ⟨g,goff,none⟩) 0 0) (body.drop 13) (by rfl) (HDR.out.below hS0) (by rw [List.length_drop];show 0+_<=_;omega) (Nat.le_refl _) ?_;intro xa xc w3 hn3 hb3;simp only [List.length_nil,Nat.zero_add,List.nil_append] at hn3;simp only [Act.put,jQ1,jQ2,jQ3,List.length_nil,Nat.zero_add];have hS3:=hS0.trans (hb3.mono hS0.size);refine hK.out _ _ hS3 ?_;clear hK K;change wpAnyH _ _ _ _ _ (2+1) _ _ _;refine aH 14 1 (by kernel_rfl) hS3 (fun _ _ _ _ _ h=>h) ?_;simp only [List.drop_succ_cons,List.drop_zero,List.take_succ_cons,List.take_zero];(refine aR (v:=?_) (by rfl) ?_ ?_;rotate_left 1;(focus ((intro w' hS';go_simp);try with_reducible rfl));simp only [Act.put,jQ1,jQ2,jQ3]);refine aT ?_;(refine aM 15 (by kernel_rfl) rfl (fun K hK=>?_));refine step_allocP (by rfl) (by rfl) ?_;intro pb w4 hp4 hb4 hl4;simp only [Act.put,jQ1,jQ2,jQ3];(refine hK.out _ _ (hS3.trans (hb4.mono hS3.size)) ?_);clear hK K;(refine aM 16 (by kernel_rfl) rfl (fun K hK=>?_));(refine step_storeP (by rfl) (by rfl) _ _ (by rfl) pb (by rfl) _ _ _ _ _ _ _ (by rfl) hp4 ?_);intro w5 hp5 hs5 hB5 hj5;(refine hK.out _ _ (hB5 _ _ (Nat.le_trans hS3.size hl4) (hS3.trans (hb4.mono hS3.size))) ?_);clear hK K;refine wpAnyH_done (by kernel_rfl) ?_ _;have HN5:=aQ (show Nb w5 w1.heap.size (.slice xa (body.drop 13).length xc) (body.drop 13) from (hn3.below (hB5 _ _ hl4 hb4)).lower hS0.size);have HB5:=aQ (hB5 _ _ (Nat.le_trans hS3.size hl4) (hS3.trans (hb4.mono hS3.size)));have HLB:=aQ (Nat.lt_of_lt_of_le HZ1.out (Nat.le_trans hS3.size hl4));have HR5:=aQ hp5;clear hp5 hs5 hB5 hj5 hp4 hb4 hl4 hn3 hb3 hS3 hS0;have hr5:w5.heap[pb]? = some (.cells #[.int .u8 (U (bJ body).kind),.int .i64 (bJ body).cls,.int .i64 (bJ body).number,.int .i64 (bJ body).value,.slice xa (bJ body).pay.length xc] 140):=(by rw [<-HPK.out xa xc,List.length_drop];first|exact HR5.out|(rw [show body.length - 13=0 by omega];exact HR5.out));clear c0 c1 hx1 hwx hb0 hb1 hb1' hi13 hbl1 hbl2;have HK5:=aQ (show Nb w5 w1.heap.size (.slice xa (bJ body).pay.length xc) (bJ body).pay from HN5.out);clear HPK HN5 HR5 HX0 HX1;generalize bJ body=p at *;have HR5:=aQ hr5;obtain ⟨y0,y1,y2,y3,y4⟩:=aO hr5;have HQ5:=aQ ((HB5.out.block _ HZ1.out).trans HROW.out);clear hr5;go_wp2_with fail;(refine (valid_any p xa xc w5).mono ?_);rintro e w6 ⟨rfl,hb6⟩;have HR6:=aQ ((hb6.block _ (lt_of_block HR5.out)).trans HR5.out);have HQ6:=aQ ((hb6.block _ (lt_of_block HQ5.out)).trans HQ5.out);have HK6:=aQ (HK5.out.below hb6);have HB6:=aQ ((HB1.out.trans (HB5.out.mono HWS.out)).trans (hb6.mono (Nat.le_trans HWS.out HB5.out.size)));clear hb6 y0 y1 y2 y3 y4;obtain ⟨y0,y1,y2,y3,y4⟩:=aO HR6.out;obtain ⟨z0,z1,z2,z3,z4⟩:=aO HQ6.out;have zf:=fun i=>aD HQ6.out i;have hzl:=lt_of_block HQ6.out;(cases hv:validP p with|true=>(have HV:=aQ (HQ.out hv);clear hv HP HQ;go_wp2_with fail;obtain ⟨q0,q1,q2,q3,q4⟩:=aO (sts5 HQ6.out (.int .u8 (U p.kind)) (.int .i64 p.cls) (.int .i64 p.number) (.int .i64 p.value) (.slice xa p.pay.length xc));exact bodyPost_ret (v:=.tuple #[.agg #[.int .u8 (U p.kind),.int .i64 p.cls,.int .i64 p.number,.int .i64 p.value,.slice xa p.pay.length xc],.int .i64 0]) (by simp [results,Tryz.results172,go_sem,q0,q1,q2,q3,q4]) rfl (DecF.mk HV.out (Nb.lower (B:=w1.heap.size) (Sl.keep HK6.out fun k hk _=>sts5_other (by have:=HZ1.out;have hk':w1.heap.size<=k:=hk;omega) _ _ _ _ _) HWS.out) (Below.setCell (Below.setCell (Below.setCell (Below.setCell (Below.setCell HB6.out (Nat.le_refl _) _) (Nat.le_refl _) _) (Nat.le_refl _) _) (Nat.le_refl _) _) (Nat.le_refl _) _)))|false=>(have HV:=aQ (HP.out hv);clear hv HP HQ;go_wp2_with fail;obtain ⟨q0,q1,q2,q3,q4⟩:=aO (sts5 HQ6.out (.int .u8 0) (.int .i64 0) (.int .i64 0) (.int .i64 0) (.slice none 0 0));exact bodyPost_ret (v:=.tuple #[.agg #[.int .u8 0,.int .i64 0,.int .i64 0,.int .i64 0,.slice none 0 0],.int .i64 1]) (by simp [results,Tryz.results172,go_sem,q0,q1,q2,q3,q4]) rfl (DecF.zero HV.out (Below.setCell (Below.setCell (Below.setCell (Below.setCell (Below.setCell HB6.out (Nat.le_refl _) _) (Nat.le_refl _) _) (Nat.le_refl _) _) (Nat.le_refl _) _) (Nat.le_refl _) _))))));(focus (refine step_allocP (by rfl) (by rfl) ?_;intro pb w3 hp3 hb3 hl3;simp only [Act.put,jQ1,jQ2,jQ3];have hS3:=hS0.trans (hb3.mono hS0.size);(refine hK.out _ _ hS3 ?_);clear hK K;(refine aM 13 (by kernel_rfl) rfl (fun K hK=>?_));(refine step_nb (by rfl) _ _ (by rfl) _ (.slice none 0 0) [] (by rfl) (Nb.nil _ _) (.slice (some ⟨g,goff,none⟩) 0 0) (body.drop 13) (by rfl) (HDR.out.below hS3) (by rw [List.length_drop];show 0+_<=_;omega) (Nat.le_refl _) ?_);intro xa xc w4 hn4 hb4;simp only [List.length_nil,Nat.zero_add,List.nil_append] at hn4;simp only [Act.put,jQ1,jQ2,jQ3,List.length_nil,Nat.zero_add];have hS4:=hS3.trans (hb4.mono hS3.size);(refine hK.out _ _ hS4 ?_);clear hK K;change wpAnyH _ _ _ _ _ (1+1) _ _ _;refine aH 14 1 (by kernel_rfl) hS4 (fun _ _ _ _ _ h=>h) ?_;simp only [List.drop_succ_cons,List.drop_zero,List.take_succ_cons,List.take_zero];(refine aR (v:=?_) (by rfl) ?_ ?_;rotate_left 1;(focus ((intro w' hS';go_simp);try with_reducible rfl));simp only [Act.put,jQ1,jQ2,jQ3]);refine aT ?_;(refine aM 16 (by kernel_rfl) rfl (fun K hK=>?_));(refine step_storeP (by rfl) (by rfl) _ _ (by rfl) pb (by rfl) _ _ _ _ _ _ _ (by rfl) ((hb4.block _ (lt_of_block hp3)).trans hp3) ?_);intro w5 hp5 hs5 hB5 hj5;(refine hK.out _ _ (hB5 _ _ hl3 hS4) ?_);clear hK K;refine wpAnyH_done (by kernel_rfl) ?_ _;have HN5:=aQ (show Nb w5 w1.heap.size (.slice xa (body.drop 13).length xc) (body.drop 13) from Nb.lower (B:=w3.heap.size) (Sl.keep hn4 fun k hk _=>hj5 k (by have:=lt_of_block hp3;have hk':w3.heap.size<=k:=hk;omega)) hS3.size);have HB5:=aQ (hB5 _ _ hl3 hS4);have HLB:=aQ (Nat.lt_of_lt_of_le HZ1.out hl3);have HR5:=aQ hp5;clear hp5 hs5 hB5 hj5 hp3 hb4 hl3 hn4 hb3 hS3 hS4 hS0;have hr5:w5.heap[pb]? = some (.cells #[.int .u8 (U (bJ body).kind),.int .i64 (bJ body).cls,.int .i64 (bJ body).number,.int .i64 (bJ body).value,.slice xa (bJ body).pay.length xc] 140):=(by rw [<-HPK.out xa xc,List.length_drop];first|exact HR5.out|(rw [show body.length - 13=0 by omega];exact HR5.out));clear c0 c1 hx1 hwx hb0 hb1 hb1' hi13 hbl1 hbl2;have HK5:=aQ (show Nb w5 w1.heap.size (.slice xa (bJ body).pay.length xc) (bJ body).pay from HN5.out);clear HPK HN5 HR5 HX0 HX1;generalize bJ body=p at *;have HR5:=aQ hr5;obtain ⟨y0,y1,y2,y3,y4⟩:=aO hr5;have HQ5:=aQ ((HB5.out.block _ HZ1.out).trans HROW.out);clear hr5;go_wp2_with fail;(refine (valid_any p xa xc w5).mono ?_);rintro e w6 ⟨rfl,hb6⟩;have HR6:=aQ ((hb6.block _ (lt_of_block HR5.out)).trans HR5.out);have HQ6:=aQ ((hb6.block _ (lt_of_block HQ5.out)).trans HQ5.out);have HK6:=aQ (HK5.out.below hb6);have HB6:=aQ ((HB1.out.trans (HB5.out.mono HWS.out)).trans (hb6.mono (Nat.le_trans HWS.out HB5.out.size)));clear hb6 y0 y1 y2 y3 y4;obtain ⟨y0,y1,y2,y3,y4⟩:=aO HR6.out;obtain ⟨z0,z1,z2,z3,z4⟩:=aO HQ6.out;have zf:=fun i=>aD HQ6.out i;have hzl:=lt_of_block HQ6.out;(cases hv:validP p with|true=>(have HV:=aQ (HQ.out hv);clear hv HP HQ;go_wp2_with fail;obtain ⟨q0,q1,q2,q3,q4⟩:=aO (sts5 HQ6.out (.int .u8 (U p.kind)) (.int .i64 p.cls) (.int .i64 p.number) (.int .i64 p.value) (.slice xa p.pay.length xc));exact bodyPost_ret (v:=.tuple #[.agg #[.int .u8 (U p.kind),.int .i64 p.cls,.int .i64 p.number,.int .i64 p.value,.slice xa p.pay.length xc],.int .i64 0]) (by simp [results,Tryz.results172,go_sem,q0,q1,q2,q3,q4]) rfl (DecF.mk HV.out (Nb.lower (B:=w1.heap.size) (Sl.keep HK6.out fun k hk _=>sts5_other (by have:=HZ1.out;have hk':w1.heap.size<=k:=hk;omega) _ _ _ _ _) HWS.out) (Below.setCell (Below.setCell (Below.setCell (Below.setCell (Below.setCell HB6.out (Nat.le_refl _) _) (Nat.le_refl _) _) (Nat.le_refl _) _) (Nat.le_refl _) _) (Nat.le_refl _) _)))|false=>(have HV:=aQ (HP.out hv);clear hv HP HQ;go_wp2_with fail;obtain ⟨q0,q1,q2,q3,q4⟩:=aO (sts5 HQ6.out (.int .u8 0) (.int .i64 0) (.int .i64 0) (.int .i64 0) (.slice none 0 0));exact bodyPost_ret (v:=.tuple #[.agg #[.int .u8 0,.int .i64 0,.int .i64 0,.int .i64 0,.slice none 0 0],.int .i64 1]) (by simp [results,Tryz.results172,go_sem,q0,q1,q2,q3,q4]) rfl (DecF.zero HV.out (Below.setCell (Below.setCell (Below.setCell (Below.setCell (Below.setCell HB6.out (Nat.le_refl _) _) (Nat.le_refl _) _) (Nat.le_refl _) _) (Nat.le_refl _) _) (Nat.le_refl _) _))))))
  ·rw [if_neg hc13] at HDR
   have hc13':((gcap:Int) == 13)=false:=by simp;omega
   go_wp2_with fail
   refine wp_region_held_drew (S:=Below w1.heap.size w1) (by kernel_rfl) (by (with_reducible (repeat (first|exact Below.refl _ _|refine Bw.alloc ?_ _|refine Bw.drewN ?_ _|refine Bw.drew ?_)))) (fun hS0=>?_);change wpAnyH _ _ _ _ _ (4+13) _ _ _;refine aH 0 13 (by kernel_rfl) hS0 (fun _ _ _ _ _ h=>h) ?_;simp only [List.drop_zero,List.take_succ_cons,List.take_zero];(iterate 8 (refine aR (v:=?_) (by rfl) ?_ ?_;rotate_left 1;(focus ((intro w' hS';have h0:=cell_later hS' c0;have h1:=cell_later hS' c1;go_simp);try with_reducible rfl));simp only [Act.put,jQ1,jQ2,jQ3]));(refine wpFirst_call (v:=?_) (f:=?_) (args:=?_) (by rfl) ?_ ?_ ?_;rotate_left 3;(focus (intro w';go_simp;first|(with_reducible rfl)|(refine ⟨?_,?_⟩ <;> with_reducible rfl)));(focus (intro w' hS';with_reducible exact (number_2 _ body w' (HBD.out.below hS') hbl1 hbl2)));simp only [Act.put,jQ1,jQ2,jQ3]);(refine aR (v:=?_) (by rfl) ?_ ?_;rotate_left 1;(focus ((intro w' hS';have h0:=cell_later hS' c0;have h1:=cell_later hS' c1;go_simp);try with_reducible rfl));simp only [Act.put,jQ1,jQ2,jQ3]);(refine wpFirst_call (v:=?_) (f:=?_) (args:=?_) (by rfl) ?_ ?_ ?_;rotate_left 3;(focus (intro w';go_simp;first|(with_reducible rfl)|(refine ⟨?_,?_⟩ <;> with_reducible rfl)));(focus (intro w' hS';with_reducible exact (number_7 _ body w' (HBD.out.below hS') hbl1 hbl2)));simp only [Act.put,jQ1,jQ2,jQ3]);(iterate 2 (refine aR (v:=?_) (by rfl) ?_ ?_;rotate_left 1;(focus ((intro w' hS';have h0:=cell_later hS' c0;have h1:=cell_later hS' c1;go_simp);try with_reducible rfl));simp only [Act.put,jQ1,jQ2,jQ3]));refine aT ?_;(refine wpAnyH_two 13 15 (by kernel_rfl) rfl rfl (fun K hK=>?_) (fun K hK=>?_));(focus (refine step_nb (by rfl) _ _ (by rfl) _ (.slice none 0 0) [] (by rfl) (Nb.nil _ _) (.slice (some ⟨g,goff+13,none⟩) (body.length - 13) (gcap - 13)) (body.drop 13) (by rfl) (HDR.out.below hS0) (by rw [List.length_drop];show 0+_<=_;omega) (Nat.le_refl _) ?_;intro xa xc w3 hn3 hb3;simp only [List.length_nil,Nat.zero_add,List.nil_append] at hn3;simp only [Act.put,jQ1,jQ2,jQ3,List.length_nil,Nat.zero_add];have hS3:=hS0.trans (hb3.mono hS0.size);refine hK.out _ _ hS3 ?_;clear hK K;change wpAnyH _ _ _ _ _ (2+1) _ _ _;refine aH 14 1 (by kernel_rfl) hS3 (fun _ _ _ _ _ h=>h) ?_;simp only [List.drop_succ_cons,List.drop_zero,List.take_succ_cons,List.take_zero];(refine aR (v:=?_) (by rfl) ?_ ?_;rotate_left 1;(focus ((intro w' hS';go_simp);try with_reducible rfl));simp only [Act.put,jQ1,jQ2,jQ3]);refine aT ?_;(refine aM 15 (by kernel_rfl) rfl (fun K hK=>?_));refine step_allocP (by rfl) (by rfl) ?_;intro pb w4 hp4 hb4 hl4;simp only [Act.put,jQ1,jQ2,jQ3];(refine hK.out _ _ (hS3.trans (hb4.mono hS3.size)) ?_);clear hK K;(refine aM 16 (by kernel_rfl) rfl (fun K hK=>?_));(refine step_storeP (by rfl) (by rfl) _ _ (by rfl) pb (by rfl) _ _ _ _ _ _ _ (by rfl) hp4 ?_);intro w5 hp5 hs5 hB5 hj5;(refine hK.out _ _ (hB5 _ _ (Nat.le_trans hS3.size hl4) (hS3.trans (hb4.mono hS3.size))) ?_);clear hK K;refine wpAnyH_done (by kernel_rfl) ?_ _;have HN5:=aQ (show Nb w5 w1.heap.size (.slice xa (body.drop 13).length xc) (body.drop 13) from (hn3.below (hB5 _ _ hl4 hb4)).lower hS0.size);have HB5:=aQ (hB5 _ _ (Nat.le_trans hS3.size hl4) (hS3.trans (hb4.mono hS3.size)));have HLB:=aQ (Nat.lt_of_lt_of_le HZ1.out (Nat.le_trans hS3.size hl4));have HR5:=aQ hp5;clear hp5 hs5 hB5 hj5 hp4 hb4 hl4 hn3 hb3 hS3 hS0;have hr5:w5.heap[pb]? = some (.cells #[.int .u8 (U (bJ body).kind),.int .i64 (bJ body).cls,.int .i64 (bJ body).number,.int .i64 (bJ body).value,.slice xa (bJ body).pay.length xc] 140):=(by rw [<-HPK.out xa xc,List.length_drop];first|exact HR5.out|(rw [show body.length - 13=0 by omega];exact HR5.out));clear c0 c1 hx1 hwx hb0 hb1 hb1' hi13 hbl1 hbl2;have HK5:=aQ (show Nb w5 w1.heap.size (.slice xa (bJ body).pay.length xc) (bJ body).pay from HN5.out);clear HPK HN5 HR5 HX0 HX1;generalize bJ body=p at *;have HR5:=aQ hr5;obtain ⟨y0,y1,y2,y3,y4⟩:=aO hr5;have HQ5:=aQ ((HB5.out.block _ HZ1.out).trans HROW.out);clear hr5;go_wp2_with fail;(refine (valid_any p xa xc w5).mono ?_);rintro e w6 ⟨rfl,hb6⟩;have HR6:=aQ ((hb6.block _ (lt_of_block HR5.out)).trans HR5.out);have HQ6:=aQ ((hb6.block _ (lt_of_block HQ5.out)).trans HQ5.out);have HK6:=aQ (HK5.out.below hb6);have HB6:=aQ ((HB1.out.trans (HB5.out.mono HWS.out)).trans (hb6.mono (Nat.le_trans HWS.out HB5.out.size)));clear hb6 y0 y1 y2 y3 y4;obtain ⟨y0,y1,y2,y3,y4⟩:=aO HR6.out;obtain ⟨z0,z1,z2,z3,z4⟩:=aO HQ6.out;have zf:=fun i=>aD HQ6.out i;have hzl:=lt_of_block HQ6.out;(cases hv:validP p with|true=>(have HV:=aQ (HQ.out hv);clear hv HP HQ;go_wp2_with fail;obtain ⟨q0,q1,q2,q3,q4⟩:=aO (sts5 HQ6.out (.int .u8 (U p.kind)) (.int .i64 p.cls) (.int .i64 p.number) (.int .i64 p.value) (.slice xa p.pay.length xc));exact bodyPost_ret (v:=.tuple #[.agg #[.int .u8 (U p.kind),.int .i64 p.cls,.int .i64 p.number,.int .i64 p.value,.slice xa p.pay.length xc],.int .i64 0]) (by simp [results,Tryz.results172,go_sem,q0,q1,q2,q3,q4]) rfl (DecF.mk HV.out (Nb.lower (B:=w1.heap.size) (Sl.keep HK6.out fun k hk _=>sts5_other (by have:=HZ1.out;have hk':w1.heap.size<=k:=hk;omega) _ _ _ _ _) HWS.out) (Below.setCell (Below.setCell (Below.setCell (Below.setCell (Below.setCell HB6.out (Nat.le_refl _) _) (Nat.le_refl _) _) (Nat.le_refl _) _) (Nat.le_refl _) _) (Nat.le_refl _) _)))|false=>(have HV:=aQ (HP.out hv);clear hv HP HQ;go_wp2_with fail;obtain ⟨q0,q1,q2,q3,q4⟩:=aO (sts5 HQ6.out (.int .u8 0) (.int .i64 0) (.int .i64 0) (.int .i64 0) (.slice none 0 0));exact bodyPost_ret (v:=.tuple #[.agg #[.int .u8 0,.int .i64 0,.int .i64 0,.int .i64 0,.slice none 0 0],.int .i64 1]) (by simp [results,Tryz.results172,go_sem,q0,q1,q2,q3,q4]) rfl (DecF.zero HV.out (Below.setCell (Below.setCell (Below.setCell (Below.setCell (Below.setCell HB6.out (Nat.le_refl _) _) (Nat.le_refl _) _) (Nat.le_refl _) _) (Nat.le_refl _) _) (Nat.le_refl _) _))))));(focus (refine step_allocP (by rfl) (by rfl) ?_;intro pb w3 hp3 hb3 hl3;simp only [Act.put,jQ1,jQ2,jQ3];have hS3:=hS0.trans (hb3.mono hS0.size);(refine hK.out _ _ hS3 ?_);clear hK K;(refine aM 13 (by kernel_rfl) rfl (fun K hK=>?_));(refine step_nb (by rfl) _ _ (by rfl) _ (.slice none 0 0) [] (by rfl) (Nb.nil _ _) (.slice (some ⟨g,goff+13,none⟩) (body.length - 13) (gcap - 13)) (body.drop 13) (by rfl) (HDR.out.below hS3) (by rw [List.length_drop];show 0+_<=_;omega) (Nat.le_refl _) ?_);intro xa xc w4 hn4 hb4;simp only [List.length_nil,Nat.zero_add,List.nil_append] at hn4;simp only [Act.put,jQ1,jQ2,jQ3,List.length_nil,Nat.zero_add];have hS4:=hS3.trans (hb4.mono hS3.size);(refine hK.out _ _ hS4 ?_);clear hK K;change wpAnyH _ _ _ _ _ (1+1) _ _ _;refine aH 14 1 (by kernel_rfl) hS4 (fun _ _ _ _ _ h=>h) ?_;simp only [List.drop_succ_cons,List.drop_zero,List.take_succ_cons,List.take_zero];(refine aR (v:=?_) (by rfl) ?_ ?_;rotate_left 1;(focus ((intro w' hS';go_simp);try with_reducible rfl));simp only [Act.put,jQ1,jQ2,jQ3]);refine aT ?_;(refine aM 16 (by kernel_rfl) rfl (fun K hK=>?_));(refine step_storeP (by rfl) (by rfl) _ _ (by rfl) pb (by rfl) _ _ _ _ _ _ _ (by rfl) ((hb4.block _ (lt_of_block hp3)).trans hp3) ?_);intro w5 hp5 hs5 hB5 hj5;(refine hK.out _ _ (hB5 _ _ hl3 hS4) ?_);clear hK K;refine wpAnyH_done (by kernel_rfl) ?_ _;have HN5:=aQ (show Nb w5 w1.heap.size (.slice xa (body.drop 13).length xc) (body.drop 13) from Nb.lower (B:=w3.heap.size) (Sl.keep hn4 fun k hk _=>hj5 k (by have:=lt_of_block hp3;have hk':w3.heap.size<=k:=hk;omega)) hS3.size);have HB5:=aQ (hB5 _ _ hl3 hS4);have HLB:=aQ (Nat.lt_of_lt_of_le HZ1.out hl3);have HR5:=aQ hp5;clear hp5 hs5 hB5 hj5 hp3 hb4 hl3 hn4 hb3 hS3 hS4 hS0;have hr5:w5.heap[pb]? = some (.cells #[.int .u8 (U (bJ body).kind),.int .i64 (bJ body).cls,.int .i64 (bJ body).number,.int .i64 (bJ body).value,.slice xa (bJ body).pay.length xc] 140):=(by rw [<-HPK.out xa xc,List.length_drop];first|exact HR5.out|(rw [show body.length - 13=0 by omega];exact HR5.out));clear c0 c1 hx1 hwx hb0 hb1 hb1' hi13 hbl1 hbl2;have HK5:=aQ (show Nb w5 w1.heap.size (.slice xa (bJ body).pay.length xc) (bJ body).pay from HN5.out);clear HPK HN5 HR5 HX0 HX1;generalize bJ body=p at *;have HR5:=aQ hr5;obtain ⟨y0,y1,y2,y3,y4⟩:=aO hr5;have HQ5:=aQ ((HB5.out.block _ HZ1.out).trans HROW.out);clear hr5;go_wp2_with fail;(refine (valid_any p xa xc w5).mono ?_);rintro e w6 ⟨rfl,hb6⟩;have HR6:=aQ ((hb6.block _ (lt_of_block HR5.out)).trans HR5.out);have HQ6:=aQ ((hb6.block _ (lt_of_block HQ5.out)).trans HQ5.out);have HK6:=aQ (HK5.out.below hb6);have HB6:=aQ ((HB1.out.trans (HB5.out.mono HWS.out)).trans (hb6.mono (Nat.le_trans HWS.out HB5.out.size)));clear hb6 y0 y1 y2 y3 y4;obtain ⟨y0,y1,y2,y3,y4⟩:=aO HR6.out;obtain ⟨z0,z1,z2,z3,z4⟩:=aO HQ6.out;have zf:=fun i=>aD HQ6.out i;have hzl:=lt_of_block HQ6.out;(cases hv:validP p with|true=>(have HV:=aQ (HQ.out hv);clear hv HP HQ;go_wp2_with fail;obtain ⟨q0,q1,q2,q3,q4⟩:=aO (sts5 HQ6.out (.int .u8 (U p.kind)) (.int .i64 p.cls) (.int .i64 p.number) (.int .i64 p.value) (.slice xa p.pay.length xc));exact bodyPost_ret (v:=.tuple #[.agg #[.int .u8 (U p.kind),.int .i64 p.cls,.int .i64 p.number,.int .i64 p.value,.slice xa p.pay.length xc],.int .i64 0]) (by simp [results,Tryz.results172,go_sem,q0,q1,q2,q3,q4]) rfl (DecF.mk HV.out (Nb.lower (B:=w1.heap.size) (Sl.keep HK6.out fun k hk _=>sts5_other (by have:=HZ1.out;have hk':w1.heap.size<=k:=hk;omega) _ _ _ _ _) HWS.out) (Below.setCell (Below.setCell (Below.setCell (Below.setCell (Below.setCell HB6.out (Nat.le_refl _) _) (Nat.le_refl _) _) (Nat.le_refl _) _) (Nat.le_refl _) _) (Nat.le_refl _) _)))|false=>(have HV:=aQ (HP.out hv);clear hv HP HQ;go_wp2_with fail;obtain ⟨q0,q1,q2,q3,q4⟩:=aO (sts5 HQ6.out (.int .u8 0) (.int .i64 0) (.int .i64 0) (.int .i64 0) (.slice none 0 0));exact bodyPost_ret (v:=.tuple #[.agg #[.int .u8 0,.int .i64 0,.int .i64 0,.int .i64 0,.slice none 0 0],.int .i64 1]) (by simp [results,Tryz.results172,go_sem,q0,q1,q2,q3,q4]) rfl (DecF.zero HV.out (Below.setCell (Below.setCell (Below.setCell (Below.setCell (Below.setCell HB6.out (Nat.le_refl _) _) (Nat.le_refl _) _) (Nat.le_refl _) _) (Nat.le_refl _) _) (Nat.le_refl _) _))))))
theorem decF_any (v:Value) (bs:List Byte) (w:World) (hb:By w v bs) (ht:Tab w) (hm:bs.length<=100000) :
  Calls Tryz.prog 172 #[v] w (DecF w bs):=by
 rcases decP_cases bs with ⟨h,_⟩|⟨h,h2,_⟩|⟨h,h2,⟨h3,_⟩|⟨h3,_⟩⟩
 ·exact decF_short v bs w hb h
 ·exact decF_form v bs w hb h hm h2
 ·exact decF_sum v bs w hb ht h hm h2 h3
 ·exact decF_body v bs w hb ht h hm h2 h3
end









set_option maxRecDepth 100000
section
open Go.RowKit
theorem newF_any (w:World):Calls Tryz.prog 44 #[] w fun e w'=>e=.returned (.pointer (some ⟨w.heap.size,0,none⟩))/\w'=w.alloc (.cells #[.bool false,.slice none 0 0,.int .i64 0] 188):=by
 go_enter Tryz.func44,Tryz.ntmps44
 go_wp2_with fail
 go_ret
 exact ⟨rfl,rfl⟩
end

set_option maxRecDepth 100000
section
open Go.RowKit
abbrev scRow (i:Bool) (v:Value) (b:Nat):Obj:=.cells #[.bool i,v,.int .i64 (b:Int)] 188
theorem sc_cells {w:World} {sb:Nat} {i:Bool} {v:Value} {b:Nat} (h:w.heap[sb]? = some (scRow i v b)):w.cell? ⟨sb,0,none⟩=some (.bool i)/\w.cell? ⟨sb,1,none⟩=some v/\w.cell? ⟨sb,2,none⟩=some (.int .i64 (b:Int))/\(∀j,w.frozen? ⟨sb,j,none⟩=false):=
 ⟨aJ (i:=0) h rfl,aJ (i:=1) h rfl,aJ (i:=2) h rfl,fun j=>aD h j⟩
theorem discard_any (sb:Nat) (i:Bool) (v:Value) (b:Nat) (w:World) (h:w.heap[sb]? = some (scRow i v b)) (hb:b < 1000000) :
  Calls Tryz.prog 139 #[.pointer (some ⟨sb,0,none⟩)] w fun e w'=>e=.returned (.tuple #[])/\w'.heap[sb]? = some (scRow false v (b+1))/\Fr (fun k=>k=sb) w w':=by
 have H:=aQ h
 obtain ⟨c0,c1,c2,cf⟩:=sc_cells h
 have hlt:=lt_of_block h
 clear h
 go_enter Tryz.func139,Tryz.ntmps139
 go_wp2_with fail
 go_end0
 refine ⟨rfl,?_,by (repeat (first|(with_reducible (first|exact Fr.refl _ _|refine Fr.setCell ?_ ?_ _|refine Fr.drewN ?_ _|refine Fr.drew ?_))|exact Or.inl rfl))⟩
 rw [show (b:Int)+1=((b+1:Nat):Int) by omega]
 (apply aS;focus (with_reducible (repeat (first|exact H.out|apply aU|apply aP|apply aF))))
 rfl
def EndS (w:World) (sb:Nat) (v:Value) (ss:List Byte) (b:Nat) (e:Ending) (w':World):Prop:=
 ∃(r:Pk) (f:Bool) (a:Option Addr) (c:Nat),e=.returned (.tuple #[.agg #[.int .u8 (U r.kind),.int .i64 r.cls,.int .i64 r.number,.int .i64 r.value,.slice a r.pay.length c],.bool f])/\Nb w' w.heap.size (.slice a r.pay.length c) r.pay/\Fr (fun k=>k=sb) w w' /\
  ((f=true/\(decS ss).2.2=0/\decP (decS ss).1=(r,0)/\w'.heap[sb]? = some (scRow false v b))\/(f=false/\r=Pk.zero/\a=none/\c=0/\¬((decS ss).2.2=0/\(decP (decS ss).1).2=0)/\w'.heap[sb]? = some (scRow false v (b+1))))
theorem end_any (sb:Nat) (v:Value) (ss:List Byte) (b:Nat) (w:World) (h:w.heap[sb]? = some (scRow true v b)) (hv:By w v ss) (ht:Tabs w) (hb:b < 1000000) (hs:ss.length<=1000) :
  Calls Tryz.prog 138 #[.pointer (some ⟨sb,0,none⟩)] w (EndS w sb v ss b):=by
 have H:=aQ h;have HV:=aQ hv;have HT:=aQ ht
 obtain ⟨c0,c1,c2,cf⟩:=sc_cells h
 have hlt:=lt_of_block h
 obtain ⟨va,vc,rfl⟩:=hv.slice
 clear h hv ht
 go_enter Tryz.func138,Tryz.ntmps138
 go_wp2_with fail
 obtain ⟨w1,hw1⟩:∃w1,w1=w.alloc (.cells #[.int .u8 0,.int .i64 0,.int .i64 0,.int .i64 0,.slice none 0 0] 140):=⟨_,rfl⟩
 rw [<-hw1]
 have HQ1:=aQ (show w1.heap[w.heap.size]? = some (.cells #[.int .u8 0,.int .i64 0,.int .i64 0,.int .i64 0,.slice none 0 0] 140) by rw [hw1];exact heap_alloc_new w _)
 have HB1:=aQ (show Below w.heap.size w w1 by rw [hw1];exact aK w _)
 clear hw1
 refine (dec_any _ ss w1 (HV.out.below HB1.out) (HT.out.below HB1.out).val (by omega)).mono ?_
 rintro e w2 ⟨v',rfl,hn,hb2⟩
 have HN2:=aQ hn.by
 have HB2:=aQ (HB1.out.trans (hb2.mono HB1.out.size))
 have HQ2:=aQ ((hb2.block _ (lt_of_block HQ1.out)).trans HQ1.out)
 have HZ2:=aQ (Nat.lt_of_lt_of_le (lt_of_block HQ1.out) hb2.size)
 have HSL:=aQ (show (decS ss).1.length<=1000 by
  unfold decS
  split
  ·simp
  ·split
   ·show (decB ss).length<=_;rw [decB_length];omega
   ·simp)
 clear hn hb2
 obtain ⟨r,hr⟩:∃r,r=decS ss:=⟨_,rfl⟩
 rw [<-hr] at HN2 HSL ⊢
 have HR:=aQ hr;clear hr
 obtain ⟨bs,n2,e2⟩:=r
 dsimp only at HN2 HSL ⊢
 obtain ⟨ba,bc,rfl⟩:=HN2.out.slice
 by_cases he:e2=0
 ·subst he
  go_wp2_with fail
  refine (decF_any _ bs w2 HN2.out (HT.out.below HB2.out).tab (by have:=HSL.out;omega)).mono ?_
  rintro e w3 ⟨ra,rc,rfl,hn3,hb3⟩
  have HN3:=aQ hn3
  have HB3:=aQ (HB2.out.trans (hb3.mono HB2.out.size))
  have HQ3:=aQ ((hb3.block _ (lt_of_block HQ2.out)).trans HQ2.out)
  clear hn3 hb3
  obtain ⟨q,hq⟩:∃q,q=decP bs:=⟨_,rfl⟩
  rw [<-hq] at HN3 ⊢
  have HP:=aQ hq;clear hq
  obtain ⟨q,qf⟩:=q
  dsimp only at HN3 ⊢
  go_upto_region 4 with (fail)
  obtain ⟨w4,hw4⟩:∃w4,w4=w3.alloc (.cells #[.int .u8 (U q.kind),.int .i64 q.cls,.int .i64 q.number,.int .i64 q.value,.slice ra q.pay.length rc] 140):=⟨_,rfl⟩
  rw [<-hw4]
  have hb4:Below w3.heap.size w3 w4:=by rw [hw4];exact aK w3 _
  have HY4:=aQ (show w4.heap[w3.heap.size]? = some (.cells #[.int .u8 (U q.kind),.int .i64 q.cls,.int .i64 q.number,.int .i64 q.value,.slice ra q.pay.length rc] 140) by rw [hw4];exact heap_alloc_new w3 _)
  have HN4:=aQ (HN3.out.below hb4)
  have HB4:=aQ (HB3.out.trans (hb4.mono HB3.out.size))
  have HQ4:=aQ ((hb4.block _ (lt_of_block HQ3.out)).trans HQ3.out)
  have HS4:=aQ ((HB4.out.block _ hlt).trans H.out)
  clear hw4 hb4 c0 c1 c2 cf
  obtain ⟨c0,c1,c2,cf⟩:=sc_cells HS4.out
  have hlt4:=lt_of_block HS4.out
  by_cases hf:qf=0
  ·subst hf
   have HFR:=aQ (show Fr (fun k=>k=sb) w (w4.setCell ⟨sb,0,none⟩ (.bool false)) from (Fr.of_below (Fr.refl (fun k=>k=sb) w) HB4.out).setCell (p:=⟨sb,0,none⟩) (.inl rfl) _)
   obtain ⟨w5,hw5⟩:∃w5,w5=w4.setCell ⟨sb,0,none⟩ (.bool false):=⟨_,rfl⟩
   rw [<-hw5] at HFR
   have HS5:=aQ (show w5.heap[sb]? = some (scRow false (.slice va ss.length vc) b) by rw [hw5];(apply aS;focus (with_reducible (repeat (first|exact HS4.out|apply aU|apply aP|apply aF))));rfl)
   have hne1:w.heap.size≠sb:=by omega
   have HY5:=aQ (show w5.heap[w3.heap.size]? = some (.cells #[.int .u8 (U q.kind),.int .i64 q.cls,.int .i64 q.number,.int .i64 q.value,.slice ra q.pay.length rc] 140) by rw [hw5];exact (Below.heap_setCell _ _ _ _ (by show w3.heap.size≠sb;have:=HB3.out.size;omega)).trans HY4.out)
   have HQ5:=aQ (show w5.heap[w.heap.size]? = some (.cells #[.int .u8 0,.int .i64 0,.int .i64 0,.int .i64 0,.slice none 0 0] 140) by rw [hw5];exact (Below.heap_setCell _ _ _ _ hne1).trans HQ4.out)
   have HN5:=aQ (show Nb w5 w2.heap.size (.slice ra q.pay.length rc) q.pay by rw [hw5];exact Sl.keep HN4.out fun k hk _=>Below.heap_setCell _ _ _ _ (by show k≠sb;have hk':w2.heap.size<=k:=hk;have:=HZ2.out;omega))
   have HW5:=aQ hw5
   clear hw5
   go_upto_region 6 with (fail)
   rw [<-HW5.out]
   clear c0 c1 c2 cf
   obtain ⟨y0,y1,y2,y3,y4⟩:=aO HY5.out
   obtain ⟨z0,z1,z2,z3,z4⟩:=aO HQ5.out
   have zf:=fun i=>aD HQ5.out i
   have hzl:=lt_of_block HQ5.out
   go_wp2_with fail
   obtain ⟨q0,q1,q2,q3,q4⟩:=aO (sts5 HQ5.out (.int .u8 (U q.kind)) (.int .i64 q.cls) (.int .i64 q.number) (.int .i64 q.value) (.slice ra q.pay.length rc))
   exact bodyPost_ret (v:=.tuple #[.agg #[.int .u8 (U q.kind),.int .i64 q.cls,.int .i64 q.number,.int .i64 q.value,.slice ra q.pay.length rc],.bool true]) (by simp [results,Tryz.results138,go_sem,q0,q1,q2,q3,q4]) rfl
    ⟨q,true,ra,rc,rfl,Nb.lower (B:=w2.heap.size) (Sl.keep HN5.out fun k hk _=>sts5_other (by have hk':w2.heap.size<=k:=hk;have:=HZ2.out;omega) _ _ _ _ _) HB2.out.size,
     HFR.out.trans (show Fr (fun k=>k=w.heap.size) w5 ((((((w5).setCell ⟨w.heap.size,0,none⟩ _).setCell ⟨w.heap.size,1,none⟩ _).setCell ⟨w.heap.size,2,none⟩ _).setCell ⟨w.heap.size,3,none⟩ _).setCell ⟨w.heap.size,4,none⟩ _) from by (repeat (first|(with_reducible (first|exact Fr.refl _ _|refine Fr.setCell ?_ ?_ _|refine Fr.drewN ?_ _|refine Fr.drew ?_))|exact Or.inl rfl))) (fun k hk=>.inr (by omega)),.inl ⟨rfl,by rw [<-HR.out],by rw [<-HR.out];exact HP.out.symm,(sts5_other (Ne.symm hne1) _ _ _ _ _).trans HS5.out⟩⟩
  ·have hqf:(qf == 0)=false:=by simpa using hf
   have HBAD:=aQ (show ¬((decS ss).2.2=0/\(decP (decS ss).1).2=0) from fun hh=>hf (by have:=hh.2;rw [<-HR.out] at this;dsimp only at this;rw [<-HP.out] at this;exact this))
   clear hf
   go_upto_region 7 with (fail)
   go_wp2_with fail;(refine (discard_any sb true _ b w4 HS4.out hb).mono ?_);rintro e w8 ⟨rfl,hs8,hf8⟩;have hne1:w.heap.size≠sb:=(by omega);have HS8:=aQ hs8;have HQ8:=aQ (hf8.keep HQ4.out (by show ¬_=_;exact hne1));have HF8:=aQ ((Fr.of_below (Fr.refl (fun k=>k=sb) w) HB4.out).trans hf8 fun k hk=>.inl hk);clear hs8 hf8;obtain ⟨z0,z1,z2,z3,z4⟩:=aO HQ8.out;have zf:=fun i=>aD HQ8.out i;have hzl:=lt_of_block HQ8.out;go_wp2_with fail;obtain ⟨q0,q1,q2,q3,q4⟩:=aO (sts5 HQ8.out (.int .u8 0) (.int .i64 0) (.int .i64 0) (.int .i64 0) (.slice none 0 0));exact bodyPost_ret (v:=.tuple #[.agg #[.int .u8 0,.int .i64 0,.int .i64 0,.int .i64 0,.slice none 0 0],.bool false]) (by simp [results,Tryz.results138,go_sem,q0,q1,q2,q3,q4]) rfl ⟨Pk.zero,false,none,0,rfl,Nb.nil _ _,HF8.out.trans (show Fr (fun k=>k=w.heap.size) w8 ((((((w8).setCell ⟨w.heap.size,0,none⟩ _).setCell ⟨w.heap.size,1,none⟩ _).setCell ⟨w.heap.size,2,none⟩ _).setCell ⟨w.heap.size,3,none⟩ _).setCell ⟨w.heap.size,4,none⟩ _) from by (repeat (first|(with_reducible (first|exact Fr.refl _ _|refine Fr.setCell ?_ ?_ _|refine Fr.drewN ?_ _|refine Fr.drew ?_))|exact Or.inl rfl))) (fun k hk=>.inr (by have hk':k=w.heap.size:=hk;omega)),.inr ⟨rfl,rfl,rfl,rfl,HBAD.out,(sts5_other (Ne.symm hne1) _ _ _ _ _).trans HS8.out⟩⟩
 ·have hqf:(e2 == 0)=false:=by simpa using he
  have HBAD:=aQ (show ¬((decS ss).2.2=0/\(decP (decS ss).1).2=0) from fun hh=>he (by have:=hh.1;rw [<-HR.out] at this;exact this))
  clear he
  have HS2:=aQ ((HB2.out.block _ hlt).trans H.out)
  go_upto_region 7 with (fail)
  go_wp2_with fail;(refine (discard_any sb true _ b w2 HS2.out hb).mono ?_);rintro e w8 ⟨rfl,hs8,hf8⟩;have hne1:w.heap.size≠sb:=(by omega);have HS8:=aQ hs8;have HQ8:=aQ (hf8.keep HQ2.out (by show ¬_=_;exact hne1));have HF8:=aQ ((Fr.of_below (Fr.refl (fun k=>k=sb) w) HB2.out).trans hf8 fun k hk=>.inl hk);clear hs8 hf8;obtain ⟨z0,z1,z2,z3,z4⟩:=aO HQ8.out;have zf:=fun i=>aD HQ8.out i;have hzl:=lt_of_block HQ8.out;go_wp2_with fail;obtain ⟨q0,q1,q2,q3,q4⟩:=aO (sts5 HQ8.out (.int .u8 0) (.int .i64 0) (.int .i64 0) (.int .i64 0) (.slice none 0 0));exact bodyPost_ret (v:=.tuple #[.agg #[.int .u8 0,.int .i64 0,.int .i64 0,.int .i64 0,.slice none 0 0],.bool false]) (by simp [results,Tryz.results138,go_sem,q0,q1,q2,q3,q4]) rfl ⟨Pk.zero,false,none,0,rfl,Nb.nil _ _,HF8.out.trans (show Fr (fun k=>k=w.heap.size) w8 ((((((w8).setCell ⟨w.heap.size,0,none⟩ _).setCell ⟨w.heap.size,1,none⟩ _).setCell ⟨w.heap.size,2,none⟩ _).setCell ⟨w.heap.size,3,none⟩ _).setCell ⟨w.heap.size,4,none⟩ _) from by (repeat (first|(with_reducible (first|exact Fr.refl _ _|refine Fr.setCell ?_ ?_ _|refine Fr.drewN ?_ _|refine Fr.drew ?_))|exact Or.inl rfl))) (fun k hk=>.inr (by have hk':k=w.heap.size:=hk;omega)),.inr ⟨rfl,rfl,rfl,rfl,HBAD.out,(sts5_other (Ne.symm hne1) _ _ _ _ _).trans HS8.out⟩⟩
end

end Go.Proofs.YtcbnhebiagdbiaaGreatDoor
