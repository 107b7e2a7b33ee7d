/- Lemmas; no condition on the program. -/
import Derived.Test.YtjnbanjjoomecaaGreatDoorPkA1
namespace Go.Proofs.YtjnbanjjoomecaaGreatDoor
open List renaming getElem?_eq_getElem→Vw, length_append→Vx, append_assoc→VE, length_cons→VZ, mem_singleton→Wj, getD→Wo, mem_cons→WN, mem_append→WY, mem_of_mem_take→XN, mem_of_mem_drop→Yf, getElem?_of_mem→Yh, set_eq_take_append_cons_drop→Yj, take_append_of_le_length→YA, findIdx?_eq_none_iff→YL, take_append_drop→YS
open Nat renaming zero_le→VJ, mod_eq_of_lt→WX, shiftRight_eq_div_pow→Xa, shiftLeft_eq→XV, le_succ→Yb, and_two_pow_sub_one_eq_mod→Yz, add_sub_cancel→YB
open Option.some renaming inj→VM
open BitVec renaming ofInt→VU, ofNat→V4, eq_of_toNat_eq→Wz, toNat_ushiftRight→W_, xor_assoc→Xj, toNat_ofNat→Xq, toNat_shiftLeft→Xu, toNat_setWidth→Xz, xor_comm→XX, getLsbD_xor→Yc, ushiftRight_xor_distrib→Yn, toNat_and→Yw, zero_xor→Zf
open Bool renaming and_eq_true→Ww
open Int renaming toNat_of_nonneg→Za, le_refl→ZU
set_option maxHeartbeats 64000000
def Ra:List (BitVec 32):=[0,498536548,997073096,651767980,1994146192,1802195444,1303535960,1342533948,3988292384,4027552580,3604390888,3412177804,2607071920,2262029012,2685067896,3183342108]
def JZ (r:BitVec 32):BitVec 32:=Ra.getD (r &&& 15).toNat 0
def TN (r:BitVec 32):BitVec 32:=(r >>> 4) ^^^ JZ r
theorem Mq (r:BitVec 32):(r >>> 4) ^^^ JZ r=TN r:=rfl
def AZ (r:BitVec 32) (x:BitVec 8):BitVec 32:=TN (TN (r ^^^ x.setWidth 32))
def reg (r:BitVec 32) (bs:List (BitVec 8)):BitVec 32:=bs.foldl AZ r
def rZ (s:BitVec 32) (bs:List (BitVec 8)):BitVec 32 := ~~~ (reg (~~~ s) bs)
def rV (bs:List (BitVec 8)):BitVec 32:=rZ 0 bs
theorem kD {α : Type} (l:List α) (k:Nat) (d : α) (h:k < l.length):l.take (k+1)=l.take k++[l.getD k d]:=by
 rw [List.take_succ_eq_append_getElem h];simp [Wo,h]
theorem Bp (r:BitVec 32) (bs:List (BitVec 8)) (k:Nat) (h:k < bs.length):reg r (bs.take (k+1))=AZ (reg r (bs.take k)) (bs.getD k 0):=by
 rw [kD bs k 0 h];simp [reg]
def T1 (r:BitVec 32):BitVec 32:=(r >>> 1) ^^^ (if r.getLsbD 0 then 3988292384#32 else 0#32)
def T:Nat->BitVec 32->BitVec 32
 |0,r=>r
 |n+1,r=>T n (T1 r)
theorem aaw (a b c d:BitVec 32):(a ^^^ b) ^^^ (c ^^^ d)=(a ^^^ c) ^^^ (b ^^^ d):=by
 rw [Xj,Xj,<-Xj b c d,XX b c,Xj c b d]
theorem SK (a b:BitVec 32):T1 (a ^^^ b)=T1 a ^^^ T1 b:=by
 unfold T1;rw [Yn,Yc,aaw];congr 1
 cases a.getLsbD 0 <;> cases b.getLsbD 0 <;> simp
theorem Qw (n:Nat):∀a b:BitVec 32,T n (a ^^^ b)=T n a ^^^ T n b:=by
 induction n with
 |zero=>intro a b;rfl
 |succ n ih=>intro a b;show T n (T1 _)=_;rw [SK,ih];rfl
theorem Qx (m:Nat):∀(n:Nat) (r:BitVec 32),T (m+n) r=T n (T m r):=by
 induction m with
 |zero=>intro n r;rw [Nat.zero_add];rfl
 |succ m ih=>intro n r;rw [Nat.succ_add];show T (m+n) (T1 r)=_;rw [ih];rfl
theorem SI (n:Nat) (r:BitVec 32):T (n+1) r=T1 (T n r):=Qx n 1 r
theorem Py (y:BitVec 31):T1 (y.setWidth 32 <<< 1)=y.setWidth 32:=by
 have h:(y.setWidth 32 <<< 1).getLsbD 0=false:=by simp
 unfold T1;rw [h];apply Wz;have:=y.isLt;simp [W_,Xu,Xa,XV];omega
theorem Px (y:BitVec 28):T 4 (y.setWidth 32 <<< 4)=y.setWidth 32:=by
 have hy:=y.isLt
 have e:∀(n:Nat) (hn:n+1<=4),y.setWidth 32 <<< (n+1)=((y.setWidth 31 <<< n).setWidth 32) <<< 1:=by
  intro n hn;apply Wz;simp [Xu,XV];have:n=0\/n=1\/n=2\/n=3:=by omega
  rcases this with rfl|rfl|rfl|rfl <;> omega
 have e2:∀(n:Nat) (hn:n+1<=4),T1 (y.setWidth 32 <<< (n+1))=y.setWidth 32 <<< n:=by
  intro n hn;rw [e n hn,Py];apply Wz;simp [Xu,XV];have:n=0\/n=1\/n=2\/n=3:=by omega
  rcases this with rfl|rfl|rfl|rfl <;> omega
 show T1 (T1 (T1 (T1 _)))=_;rw [e2 3 (by omega),e2 2 (by omega),e2 1 (by omega),e2 0 (by omega)];rw [BitVec.shiftLeft_zero]
theorem R7:∀c:BitVec 4,T 4 (c.setWidth 32)=Ra.getD c.toNat 0:=by decide +kernel
theorem Qe (r:BitVec 32):TN r=T 4 r:=by
 have h1:r=((r >>> 4).setWidth 28).setWidth 32 <<< 4 ^^^ (r.setWidth 4).setWidth 32:=by
  apply BitVec.eq_of_getLsbD_eq;intro i hi;simp only [Yc,BitVec.getLsbD_shiftLeft,BitVec.getLsbD_setWidth,BitVec.getLsbD_ushiftRight];by_cases h:i < 4
  ·simp [h,hi]
  ·have e:4+(i - 4)=i:=by omega
   have h28:i - 4 < 28:=by omega
   have h32:i - 4 < 32:=by omega
   simp [h,hi,e,h28,h32]
 have h2:(r >>> 4)=((r >>> 4).setWidth 28).setWidth 32:=by
  apply Wz;have:=r.isLt;simp [W_,Xa];omega
 have h3:(r &&& 15#32).toNat=(r.setWidth 4).toNat:=by
  rw [Yw,Xz];exact Yz _ 4
 unfold TN JZ
 conv=>rhs;rw [h1]
 rw [Qw,Px,R7,<-h2,<-h3];rfl
theorem Ov (r:BitVec 32) (x:BitVec 8):AZ r x=T 8 (r ^^^ x.setWidth 32):=by
 unfold AZ;rw [Qe,Qe,<-Qx]
def mP (x:BitVec 8) (r:BitVec 32) (k:Nat):BitVec 32:=
 if ((r &&& 1#32) != ((x.setWidth 32 >>> k) &&& 1#32)) then (r >>> 1) ^^^ 3988292384#32 else r >>> 1
def ku (x:BitVec 8) (r:BitVec 32) (k:Nat):BitVec 32:=(List.range k).foldl (mP x) r
theorem nE (x:BitVec 8) (r:BitVec 32) (k:Nat):ku x r (k+1)=mP x (ku x r k) k:=by
 simp [ku,List.range_succ]
theorem zA (r:BitVec 32):r &&& 1#32=if r.getLsbD 0 then 1#32 else 0#32:=by
 apply Wz;rw [Yw];have e:r.toNat &&& (1#32).toNat=r.toNat % 2:=Yz _ 1;rw [e,BitVec.getLsbD,Nat.testBit_zero];by_cases h:r.toNat % 2=1 <;> simp [h];omega
theorem Ls (p q:BitVec 32):p ^^^ (q ^^^ p)=q:=by
 rw [XX q p,<-Xj,BitVec.xor_self,Zf]
theorem Ez (x:BitVec 8) (a b:BitVec 32) (k:Nat):mP x (a ^^^ b) k=mP x a k ^^^ T1 b:=by
 unfold mP T1;rw [zA,zA,zA,Yc,Yn]
 cases a.getLsbD 0 <;> cases b.getLsbD 0 <;> cases (BitVec.setWidth 32 x >>> k).getLsbD 0 <;> simp
 all_goals simp only [Xj,Ls]
 all_goals rw [XX (b >>> 1)]
theorem CF (x:BitVec 8) (a b:BitVec 32) (k:Nat):ku x (a ^^^ b) k=ku x a k ^^^ T k b:=by
 induction k with
 |zero=>rfl
 |succ k ih=>rw [nE,nE,ih,Ez,SI]
theorem zX:∀x:BitVec 8,ku x 0 8=T 8 (x.setWidth 32):=by decide +kernel
theorem Ey (x:BitVec 8) (r:BitVec 32):ku x r 8=AZ r x:=by
 have:=CF x 0 r 8;have e:(0:BitVec 32) ^^^ r=r:=Zf;rw [e] at this;rw [this,zX,Ov,Qw,XX]

def sU (s:BitVec 32):List (BitVec 8):=[s.setWidth 8,(s >>> 8).setWidth 8,(s >>> 16).setWidth 8,(s >>> 24).setWidth 8]
def iL (bs:List (BitVec 8)):List (BitVec 8):=bs++sU (rV bs)
theorem BO (s:BitVec 32) (k:Nat) (h:k < 4):(sU s).take (k+1)=(sU s).take k++[(s >>> (8*k)).setWidth 8]:=by
 have:k=0\/k=1\/k=2\/k=3:=by omega
 rcases this with rfl|rfl|rfl|rfl <;> simp [sU]
theorem lM (bs:List (BitVec 8)):(iL bs).length=bs.length+4:=by simp [iL,sU]
def JH (l:List (BitVec 8)):Nat->BitVec 32
 |0=>0#32
 |k+1=>JH l k ||| ((l.getD k 0).setWidth 32 <<< (8*k))
theorem xU (a b c d:BitVec 8):(JH [a,b,c,d] 4).toNat=a.toNat+256*b.toNat+65536*c.toNat+16777216*d.toNat:=by
 have ha:=a.isLt;have hb:=b.isLt;have hc:=c.isLt;have hd:=d.isLt
 have j:∀(i x y:Nat),x < 2 ^ i->x ||| y*2 ^ i=x+y*2 ^ i:=by
  intro i x y hx;rw [Nat.or_comm,Nat.mul_comm,<-Nat.two_pow_add_eq_or_of_lt hx,Nat.add_comm]
 show ((((0#32 ||| (a.setWidth 32 <<< 0)) ||| (b.setWidth 32 <<< 8)) ||| (c.setWidth 32 <<< 16)) ||| (d.setWidth 32 <<< 24)).toNat=_;simp only [BitVec.toNat_or,Xu,Xz,XV];have e0:(0#32).toNat=0:=rfl
 have e1:a.toNat % 2 ^ 32*2 ^ 0 % 2 ^ 32=a.toNat:=by
  rw [WX (show a.toNat < 2 ^ 32 by omega)];rw [Nat.pow_zero,Nat.mul_one];exact WX (by omega)
 have e2:b.toNat % 2 ^ 32*2 ^ 8 % 2 ^ 32=b.toNat*2 ^ 8:=by
  rw [WX (show b.toNat < 2 ^ 32 by omega)];exact WX (by omega)
 have e3:c.toNat % 2 ^ 32*2 ^ 16 % 2 ^ 32=c.toNat*2 ^ 16:=by
  rw [WX (show c.toNat < 2 ^ 32 by omega)];exact WX (by omega)
 have e4:d.toNat % 2 ^ 32*2 ^ 24 % 2 ^ 32=d.toNat*2 ^ 24:=by
  rw [WX (show d.toNat < 2 ^ 32 by omega)];exact WX (by omega)
 rw [e0,e1,e2,e3,e4,Nat.zero_or,j 8 _ _ ha,j 16 _ _ (by omega),j 24 _ _ (by omega)];omega
theorem OJ (s:BitVec 32):JH (sU s) 4=s:=by
 apply Wz;have:=s.isLt;unfold sU;rw [xU];simp only [Xz,W_,Xa];omega
theorem O3 (l:List (BitVec 8)) (h:l.length=4):sU (JH l 4)=l:=by
 match l,h with
 |[a,b,c,d],_=>
  have e:=xU a b c d;have ha:=a.isLt;have hb:=b.isLt;have hc:=c.isLt;have hd:=d.isLt;unfold sU;simp only [List.cons.injEq,and_true]
  refine ⟨?_,?_,?_,?_⟩ <;> apply Wz <;>
   simp only [Xz,W_,Xa,e] <;> omega
def cK (bs:List (BitVec 8)):Bool:=JH (bs.drop (bs.length - 4)) 4 == rV (bs.take (bs.length - 4))
theorem rC (bs:List (BitVec 8)) (h:4<=bs.length):cK bs=true↔bs=iL (bs.take (bs.length - 4)):=by
 unfold cK iL;rw [beq_iff_eq];have hl:(bs.drop (bs.length - 4)).length=4:=by rw [List.length_drop];omega
 constructor
 ·intro e
  rw [<-e,O3 _ hl,YS]
 ·intro e
  have e2:bs.drop (bs.length - 4)=sU (rV (bs.take (bs.length - 4))):=by
   have t:=YS (bs.length - 4) bs;exact List.append_cancel_left (t.trans e)
  rw [e2,OJ]
theorem uu (bs:List (BitVec 8)):cK (iL bs)=true:=by
 have h:=lM bs;rw [rC _ (by omega),h]
 have:(iL bs).take (bs.length+4 - 4)=bs:=by
  rw [YB];unfold iL;simp
 rw [this]

abbrev Byte:=BitVec 8
def vs:List Byte:=[7,11,13,14,19,21,22,25,26,28,35,37,38,41,42,44,49,50,52,56]
def sym (n:Nat):Byte:=vs.getD n 0
def idx (s:Byte):Nat:=vs.findIdx (· == s)
def au (s:Byte):Bool:=decide (idx s < 16)
theorem DY:∀s:Byte,idx s<=20:=by decide +kernel
theorem O4:∀n:Fin 20,idx (sym n.val)=n.val:=by decide +kernel
theorem zm:∀s:Byte,idx s < 20->sym (idx s)=s:=by decide +kernel
theorem ql {n:Nat} (h:n < 20):idx (sym n)=n:=O4 ⟨n,h⟩
def encS (bs:List Byte):List Byte:=bs.flatMap fun x=>[sym (x.toNat / 16),sym (x.toNat % 16)]
theorem sN (x:Byte) (bs:List Byte):encS (x::bs)=sym (x.toNat / 16)::sym (x.toNat % 16)::encS bs:=rfl
theorem MO (a b:List Byte):encS (a++b)=encS a++encS b:=by unfold encS;rw [List.flatMap_append]
theorem eB:∀bs:List Byte,(encS bs).length=2*bs.length
 |[]=>rfl
 |x::bs=>by rw [sN,VZ,VZ,eB bs,VZ];omega
theorem wu {n:Nat} (h:n < 16):au (sym n)=true:=by unfold au;rw [ql (by omega)];simpa using h
theorem ja:∀bs:List Byte,∀s ∈ encS bs,au s=true
 |[],s,h=>by cases h
 |x::bs,s,h=>by
  have hx:=x.isLt;rw [sN] at h
  rcases WN.1 h with rfl|h
  ·exact wu (by omega)
  ·rcases WN.1 h with rfl|h
   ·exact wu (by omega)
   ·exact ja bs s h
def jZ:List Byte->List Byte
 |a::b::l=>V4 8 (16*idx a+idx b)::jZ l
 |_=>[]
theorem yw:∀bs:List Byte,jZ (encS bs)=bs
 |[]=>rfl
 |x::bs=>by
  have hx:=x.isLt;rw [sN];show V4 8 (16*idx _+idx _)::jZ (encS bs)=_;rw [yw bs,ql (by omega),ql (by omega)];congr 1;apply Wz;rw [Xq];omega
theorem jO:∀ss:List Byte,(jZ ss).length=ss.length / 2
 |[]=>rfl
 |[_]=>by simp [jZ]
 |a::b::l=>by show (jZ l).length+1=(l.length+2) / 2;rw [jO l];omega
theorem Cf:∀(ss:List Byte) (a b:Byte),ss.length % 2=0->jZ (ss++[a,b])=jZ ss++[V4 8 (16*idx a+idx b)]
 |[],_,_,_=>rfl
 |[x],_,_,h=>by simp at h
 |x::y::l,a,b,h=>by
  show _::jZ (l++[a,b])=_;rw [Cf l a b (by simp only [VZ] at h;omega)];rfl
def ik (ss:List Byte):List Byte × Int × Int:=
 match ss.findIdx? fun s => !au s with
 |some i=>([],(i:Int),3)
 |none=>if ss.length % 2=0 then (jZ ss,-1,0) else ([],(ss.length:Int),4)
theorem sO {ss:List Byte} (hd:∀s ∈ ss,au s=true) (h:ss.length % 2=0):ik ss=(jZ ss,-1,0):=by
 unfold ik;rw [YL.2 fun s hs=>by simp [hd s hs]];exact if_pos h
theorem Cc {ss:List Byte} (hd:∀s ∈ ss,au s=true) (h:¬ss.length % 2=0):ik ss=([],(ss.length:Int),4):=by
 unfold ik;rw [YL.2 fun s hs=>by simp [hd s hs]];exact if_neg h
theorem Ce {ss:List Byte} {i:Nat} (h:ss.findIdx? (fun s => !au s)=some i):ik ss=([],(i:Int),3):=by
 unfold ik;rw [h]
theorem Jc (bs:List Byte):ik (encS bs)=(bs,-1,0):=by
 rw [sO (ja bs) (by rw [eB];omega),yw]
structure Pk where
 kind:Byte
 cls:Int
 number:Int
 value:Int
 pay:List Byte
deriving DecidableEq
def Pk.zero:Pk:=⟨0,0,0,0,[]⟩
def iK (p:Pk):Bool := !(p.kind == 0) && decide (0<=p.cls) && decide (p.cls < 4) && decide (0<=p.number) && decide (p.number < 1099511627776) && decide (0<=p.value) && decide (p.value < 1099511627776) && decide (p.pay.length<=64)
structure Good (p:Pk):Prop where
 kind:p.kind≠0
 c0:0<=p.cls
 c1:p.cls < 4
 n0:0<=p.number
 n1:p.number < 1099511627776
 v0:0<=p.value
 v1:p.value < 1099511627776
 pay:p.pay.length<=64
theorem fB {p:Pk}:iK p=true↔Good p:=by
 unfold iK;simp only [Ww,decide_eq_true_eq,Bool.not_eq_true',beq_eq_false_iff_ne];exact ⟨fun ⟨⟨⟨⟨⟨⟨⟨a,b⟩,c⟩,d⟩,e⟩,f⟩,g⟩,h⟩=>⟨a,b,c,d,e,f,g,h⟩,fun ⟨a,b,c,d,e,f,g,h⟩=>⟨⟨⟨⟨⟨⟨⟨a,b⟩,c⟩,d⟩,e⟩,f⟩,g⟩,h⟩⟩
def jq (n k:Nat):Byte:=V4 8 (n / 2 ^ (8*(4 - k)))
def five (n:Nat):List Byte:=[jq n 0,jq n 1,jq n 2,jq n 3,jq n 4]
theorem ym (n k:Nat) (h:k < 5):(five n).take (k+1)=(five n).take k++[jq n k]:=by
 have:k=0\/k=1\/k=2\/k=3\/k=4:=by omega
 rcases this with rfl|rfl|rfl|rfl|rfl <;> rfl
def num (l:List Byte):Nat->Nat
 |0=>0
 |k+1=>256*num l k+(l.getD k 0).toNat
theorem KZ (l:List Byte):∀k,num l k < 256 ^ k
 |0=>by simp [num]
 |k+1=>by
  have h1:=KZ l k;have h2:=(l.getD k 0).isLt;show 256*num l k+_ < 256 ^ (k+1);rw [Nat.pow_succ];have:num l k+1<=256 ^ k:=h1;have:(num l k+1)*256<=256 ^ k*256:=Nat.mul_le_mul_right _ this;omega
theorem BJ (n:Nat) (h:n < 1099511627776) (l:List Byte):num (five n++l) 5=n:=by
 show 256*(256*(256*(256*(256*0+(jq n 0).toNat)+(jq n 1).toNat)+(jq n 2).toNat)+(jq n 3).toNat)+(jq n 4).toNat=n;simp only [jq,Xq,Nat.reduceSub,Nat.reduceMul,Nat.reducePow];omega
def Qj (p:Pk):List Byte:=[p.kind,VU 8 p.cls]++five p.number.toNat++five p.value.toNat++[V4 8 p.pay.length]
theorem rD (p:Pk):(Qj p).length=13:=rfl
def A_ (p:Pk):List Byte:=Qj p++p.pay
def eP (p:Pk):List Byte:=iL (A_ p)
theorem gN (p:Pk):(eP p).length=p.pay.length+17:=by unfold eP A_;rw [lM,Vx,rD];omega
def bJ (b:List Byte):Pk:=⟨b.getD 0 0,((b.getD 1 0).toNat:Int),(num (b.drop 2) 5:Nat),(num (b.drop 7) 5:Nat),b.drop 13⟩
def gL (b:List Byte):Pk × Int:=
 if b.length < 17 then (Pk.zero,4)
 else if 64 < (b.getD 12 0).toNat\/(b.getD 12 0).toNat+17≠b.length then (Pk.zero,3)
 else if cK b=false then (Pk.zero,9)
 else if iK (bJ (b.take (b.length - 4)))=false then (Pk.zero,1)
 else (bJ (b.take (b.length - 4)),0)
theorem qo {b:List Byte} (h:b.length < 17):gL b=(Pk.zero,4):=by unfold gL;rw [if_pos h]
theorem sP {b:List Byte} (h:17<=b.length) (h2:64 < (b.getD 12 0).toNat\/(b.getD 12 0).toNat+17≠b.length):gL b=(Pk.zero,3):=by
 unfold gL;rw [if_neg (by omega),if_pos h2]
theorem vL {b:List Byte} (h:17<=b.length) (h2:(b.getD 12 0).toNat<=64/\(b.getD 12 0).toNat+17=b.length) (h3:cK b=false):gL b=(Pk.zero,9):=by
 unfold gL;rw [if_neg (by omega),if_neg (by omega),if_pos h3]
theorem vM {b:List Byte} (h:17<=b.length) (h2:(b.getD 12 0).toNat<=64/\(b.getD 12 0).toNat+17=b.length) (h3:cK b=true) (h4:iK (bJ (b.take (b.length - 4)))=false):gL b=(Pk.zero,1):=by
 unfold gL;rw [if_neg (by omega),if_neg (by omega),if_neg (by simp [h3]),if_pos h4]
theorem uJ {b:List Byte} (h:17<=b.length) (h2:(b.getD 12 0).toNat<=64/\(b.getD 12 0).toNat+17=b.length) (h3:cK b=true) (h4:iK (bJ (b.take (b.length - 4)))=true):gL b=(bJ (b.take (b.length - 4)),0):=by
 unfold gL;rw [if_neg (by omega),if_neg (by omega),if_neg (by simp [h3]),if_neg (by simp [h4])]
theorem wC (b:List Byte):(b.length < 17/\gL b=(Pk.zero,4))\/(17<=b.length/\(64 < (b.getD 12 0).toNat\/(b.getD 12 0).toNat+17≠b.length)/\gL b=(Pk.zero,3)) \/
  (17<=b.length/\((b.getD 12 0).toNat<=64/\(b.getD 12 0).toNat+17=b.length)/\((cK b=false/\gL b=(Pk.zero,9))\/(cK b=true /\
   ((iK (bJ (b.take (b.length - 4)))=false/\gL b=(Pk.zero,1))\/(iK (bJ (b.take (b.length - 4)))=true/\gL b=(bJ (b.take (b.length - 4)),0)))))):=by
 by_cases h:b.length < 17
 ·exact .inl ⟨h,qo h⟩
 ·by_cases h2:64 < (b.getD 12 0).toNat\/(b.getD 12 0).toNat+17≠b.length
  ·exact .inr (.inl ⟨by omega,h2,sP (by omega) h2⟩)
  ·refine .inr (.inr ⟨by omega,by omega,?_⟩)
   cases h3:cK b with
   |false=>exact .inl ⟨rfl,vL (by omega) (by omega) h3⟩
   |true=>
    refine .inr ⟨rfl,?_⟩
    cases h4:iK (bJ (b.take (b.length - 4))) with
    |false=>exact .inl ⟨rfl,vM (by omega) (by omega) h3 h4⟩
    |true=>exact .inr ⟨rfl,uJ (by omega) (by omega) h3 h4⟩
theorem xw {α : Type} {l r:List α} {k:Nat} {d : α} (h:k < l.length):(l++r).getD k d=l.getD k d:=by
 simp [Wo,List.getElem?_append_left h]
theorem Pb (p:Pk) (h:p.pay.length<=64):((eP p).getD 12 0).toNat=p.pay.length:=by
 unfold eP iL A_;rw [VE,xw (by rw [rD];omega)];show (V4 8 p.pay.length).toNat=_;rw [Xq];omega
theorem yt (p:Pk):(eP p).take ((eP p).length - 4)=A_ p:=by
 unfold eP;rw [lM,YB];unfold iL;exact List.take_left
theorem rA {p:Pk} (h:Good p):bJ (A_ p)=p:=by
 obtain ⟨k,c,n,v,pay⟩:=p;have h1:=h.c0;have h2:=h.c1;have h3:=h.n0;have h4:=h.n1;have h5:=h.v0;have h6:=h.v1;dsimp only at h1 h2 h3 h4 h5 h6;have e1:(num (five n.toNat++(five v.toNat++[V4 8 pay.length]++pay)) 5:Nat)=n.toNat:=BJ _ (by omega) _;have e2:(num (five v.toNat++([V4 8 pay.length]++pay)) 5:Nat)=v.toNat:=BJ _ (by omega) _;show (⟨k,((VU 8 c).toNat:Int),(num (five n.toNat++(five v.toNat++[V4 8 pay.length]++pay)) 5:Nat),(num (five v.toNat++([V4 8 pay.length]++pay)) 5:Nat),pay⟩:Pk)=_;rw [e1,e2]
 have e3:((VU 8 c).toNat:Int)=c:=by
  rw [BitVec.toNat_ofInt];omega
 rw [e3,Za h3,Za h5]
theorem Jf {p:Pk} (h:Good p):gL (eP p)=(p,0):=by
 have hl:=gN p;have h12:=Pb p h.pay;have hp:=h.pay;rw [uJ (b:=eP p) (by omega) (by rw [h12];omega) (uu _) (by rw [yt,rA h,fB];exact h),yt,rA h]
def dM (p:Pk):List Byte:=49::(encS (eP p)++[50])
theorem Co (p:Pk):(dM p).length=2*p.pay.length+36:=by unfold dM;rw [VZ,Vx,eB,gN];simp;omega
structure Sc where
 inside:Bool
 data:List Byte
 bad:Nat
def Sc.new:Sc:=⟨false,[],0⟩
def Sc.push (s:Sc) (x:Byte):Sc × Option Pk:=
 if x=49 then (⟨true,[],if s.inside then s.bad+1 else s.bad⟩,none)
 else if s.inside=false then (s,none)
 else if au x=true/\s.data.length < 162 then (⟨true,s.data++[x],s.bad⟩,none)
 else if x=50/\(ik s.data).2.2=0/\(gL (ik s.data).1).2=0 then (⟨false,[],s.bad⟩,some (gL (ik s.data).1).1)
 else (⟨false,[],s.bad+1⟩,none)
def Sc.scan (s:Sc):List Byte->Sc × List Pk
 |[]=>(s,[])
 |x::l=>(((s.push x).1.scan l).1,(s.push x).2.toList++((s.push x).1.scan l).2)
theorem Sc.lW (s:Sc):∀(a b:List Byte),s.scan (a++b)=(((s.scan a).1.scan b).1,(s.scan a).2++((s.scan a).1.scan b).2)
 |[],b=>rfl
 |x::l,b=>by
  have h:=Sc.lW (s.push x).1 l b;have e1:s.scan (x::(l++b))=(((s.push x).1.scan (l++b)).1,(s.push x).2.toList++((s.push x).1.scan (l++b)).2):=rfl;have e2:s.scan (x::l)=(((s.push x).1.scan l).1,(s.push x).2.toList++((s.push x).1.scan l).2):=rfl;rw [List.cons_append,e1,e2,h,VE]

theorem lu:∀x:Byte,au x=true->x≠49/\x≠50:=by decide +kernel
theorem oM (d:List Byte) (b:Nat):∀(ds:List Byte),(∀s ∈ ds,au s=true)->d.length+ds.length<=162->(⟨true,d,b⟩:Sc).scan ds=(⟨true,d++ds,b⟩,[])
 |[],_,_=>by simp [Sc.scan]
 |x::l,hd,hl=>by
  have hx:=hd x (by simp);simp only [VZ] at hl
  have hp:(⟨true,d,b⟩:Sc).push x=(⟨true,d++[x],b⟩,none):=by
   unfold Sc.push;rw [if_neg (lu x hx).1,if_neg (by simp),if_pos ⟨hx,by show d.length < 162;omega⟩]
  have h:=oM (d++[x]) b l (fun s hs=>hd s (by simp [hs])) (by simp;omega);show (((⟨true,d,b⟩:Sc).push x).1.scan l |>.1,((⟨true,d,b⟩:Sc).push x).2.toList++(((⟨true,d,b⟩:Sc).push x).1.scan l).2)=_;rw [hp,h,VE];rfl
theorem nZ (s:Sc) (h:s.inside=false):∀l:List Byte,(∀x ∈ l,x≠49)->s.scan l=(s,[])
 |[],_=>rfl
 |x::l,hx=>by
  have hp:s.push x=(s,none):=by
   unfold Sc.push;rw [if_neg (hx x (by simp)),if_pos h]
  show ((s.push x).1.scan l |>.1,(s.push x).2.toList++((s.push x).1.scan l).2)=_;rw [hp,nZ s h l fun y hy=>hx y (by simp [hy])];rfl
theorem qj (s:Sc):s.push 49=(⟨true,[],if s.inside then s.bad+1 else s.bad⟩,none):=by unfold Sc.push;rw [if_pos rfl]
theorem kE (s:Sc) (x:Byte) (l:List Byte):s.scan (x::l)=(((s.push x).1.scan l).1,(s.push x).2.toList++((s.push x).1.scan l).2):=rfl
theorem LK {p:Pk} (h:Good p) (s:Sc):s.scan (dM p)=(⟨false,[],if s.inside then s.bad+1 else s.bad⟩,[p]):=by
 have hp:=h.pay;have hl:(encS (eP p)).length<=162:=by rw [eB,gN];omega
 unfold dM;rw [kE,qj];generalize (if s.inside then s.bad+1 else s.bad)=b;have hd:=oM [] b (encS (eP p)) (ja _) (by simpa using hl);rw [Sc.lW,hd,List.nil_append]
 have hq:(⟨true,encS (eP p),b⟩:Sc).push 50=(⟨false,[],b⟩,some p):=by
  unfold Sc.push;have e1:ik (encS (eP p))=(eP p,-1,0):=Jc _;rw [if_neg (by decide),if_neg (by simp),if_neg (fun hh=>absurd hh.1 (by decide))];show (if (50:Byte)=50/\(ik (encS (eP p))).2.2=0/\(gL (ik (encS (eP p))).1).2=0 then ((⟨false,[],b⟩:Sc),some (gL (ik (encS (eP p))).1).1) else (⟨false,[],b+1⟩,none))=_;rw [e1];show (if (50:Byte)=50/\(0:Int)=0/\(gL (eP p)).2=0 then ((⟨false,[],b⟩:Sc),some (gL (eP p)).1) else (⟨false,[],b+1⟩,none))=_;rw [Jf h];rfl
 rw [kE,hq];rfl
def KH (x:Byte) (k:Nat):Byte:=x ^^^ (1#8 <<< (5 - k))
theorem I8:∀(n:Fin 20) (k:Fin 6),idx (KH (sym n.val) k.val)=20:=by decide +kernel
theorem ET {x:Byte} (h:idx x < 20) {k:Nat} (hk:k < 6):idx (KH x k)=20:=by
 have:=I8 ⟨idx x,h⟩ ⟨k,hk⟩;rwa [zm x h] at this
theorem Lm:∀x:Byte,idx x=20->x≠49/\x≠50/\au x=false:=by decide +kernel
theorem QD {p:Pk} (h:Good p) {i:Nat} (hi:i < (dM p).length) (y:Byte) (hy:idx y=20):∃b,b<=1/\Sc.new.scan ((dM p).set i y)=(⟨false,[],b⟩,[]):=by
 obtain ⟨h1,h2,h3⟩:=Lm y hy;have hp:=h.pay;have hl:(encS (eP p)).length<=162:=by rw [eB,gN];omega
 have Tm:∀x ∈ encS (eP p)++[50],x≠(49:Byte):=fun x hx=>by
  rcases WY.1 hx with hx|hx
  ·exact (lu x (ja _ x hx)).1
  ·rw [Wj.1 hx];decide
 have hbad:∀(d:List Byte),(⟨true,d,0⟩:Sc).push y=(⟨false,[],1⟩,none):=fun d=>by
  unfold Sc.push;rw [if_neg h1,if_neg (by simp),if_neg (fun hh=>by rw [h3] at hh;cases hh.1),if_neg (fun hh=>h2 hh.1)]
 have hset:∀x ∈ (encS (eP p)++[50]),∀n,x ∈ (encS (eP p)++[50]).drop n->x≠(49:Byte):=fun x hx _ _=>Tm x hx
 match i,hi with
 |0,_=>
  refine ⟨0,by omega,?_⟩;show Sc.new.scan (y::(encS (eP p)++[50]))=_
  exact nZ Sc.new rfl _ fun x hx=>by
   rcases WN.1 hx with rfl|hx
   ·exact h1
   ·exact Tm x hx
 |i+1,hi=>
  refine ⟨1,by omega,?_⟩;show Sc.new.scan (49::(encS (eP p)++[50]).set i y)=_;have hi':i < (encS (eP p)++[50]).length:=by unfold dM at hi;simpa using hi
  rw [Yj,if_pos hi',kE,qj,Sc.lW];have hil:i<=(encS (eP p)).length:=by simp at hi';omega
  have ht:(encS (eP p)++[50]).take i=(encS (eP p)).take i:=by rw [YA hil]
  rw [ht];have hd:=oM [] 0 ((encS (eP p)).take i) (fun s hs=>ja _ s (XN hs)) (by simp;omega);show (((⟨true,[],0⟩:Sc).scan _).1.scan _ |>.1,[]++(((⟨true,[],0⟩:Sc).scan _).2++(((⟨true,[],0⟩:Sc).scan _).1.scan _).2))=_;rw [hd,kE];show ((((⟨true,[]++(encS (eP p)).take i,0⟩:Sc).push y).1.scan _).1,[]++([]++(((⟨true,[]++(encS (eP p)).take i,0⟩:Sc).push y).2.toList++(((⟨true,[]++(encS (eP p)).take i,0⟩:Sc).push y).1.scan _).2)))=_;rw [hbad,nZ ⟨false,[],1⟩ rfl _ fun x hx=>Tm x (Yf hx)];rfl
theorem Hf (p:Pk):∀x ∈ dM p,idx x < 20:=fun x hx=>by
 unfold dM at hx
 rcases WN.1 hx with rfl|hx
 ·decide
 ·rcases WY.1 hx with hx|hx
  ·have:=ja _ x hx
   unfold au at this;have h16:idx x < 16:=by simpa using this
   omega
  ·rw [Wj.1 hx];decide

structure jV where
 at':Int
 kind:Int
 arg:Int
def jV.zero:jV:=⟨0,0,0⟩
def Asc (fs:List jV):Prop:=∀(i j:Nat) (f g:jV),i < j->fs[i]? = some f->fs[j]? = some g->f.at' < g.at'
def gD (fs:List jV) (t:Int):jV:=match fs.find? (fun f=>f.at' == t) with|some f=>f|none=>jV.zero
def okF:Int->List jV->Bool
 |_,[]=>true
 |last,f::fs=>decide (last < f.at') && decide (1<=f.kind) && decide (f.kind<=3) && decide (0<=f.arg) && okF f.at' fs
theorem zx:∀ {fs:List jV} {last:Int},okF last fs=true->Asc fs/\(∀(i:Nat) f,fs[i]? = some f->last < f.at'/\1<=f.kind/\f.kind<=3/\0<=f.arg)
 |[],_,_=>⟨fun i j f g _ h=>by simp at h,fun i f h=>by simp at h⟩
 |a::fs,last,h=>by
  simp only [okF,Ww,decide_eq_true_eq] at h;obtain ⟨⟨⟨⟨h1,h2⟩,h3⟩,h4⟩,h5⟩:=h;obtain ⟨ha,hb⟩:=zx h5;refine ⟨fun i j f g hij hf hg=>?_,fun i f hf=>?_⟩
  ·match j,hg with
   |j+1,hg=>
    have hg':fs[j]? = some g:=by simpa using hg
    match i,hf with
    |0,hf=>
     obtain rfl:a=f:=by simpa using hf
     exact (hb j g hg').1
    |i+1,hf=>exact ha i j f g (by omega) (by simpa using hf) hg'
  ·match i,hf with
   |0,hf=>
    obtain rfl:a=f:=by simpa using hf
    exact ⟨h1,h2,h3,h4⟩
   |i+1,hf=>
    have:=hb i f (by simpa using hf);exact ⟨by omega,this.2⟩
theorem EY {fs:List jV} (ha:Asc fs) {t:Int} {i:Nat} {f:jV} (hi:fs[i]? = some f) (ht:f.at'=t):gD fs t=f:=by
 have h:fs.find? (fun f=>f.at' == t)=some f:=by
  rw [List.find?_eq_some_iff_getElem]
  have hl:i < fs.length:=by
   rcases Nat.lt_or_ge i fs.length with h|h
   ·exact h
   ·rw [List.getElem?_eq_none h] at hi;cases hi
  refine ⟨by simpa using ht,i,hl,?_,fun j hj=>?_⟩
  ·rw [Vw hl] at hi;exact VM hi
  ·have:=ha j i _ f hj (Vw (by omega)) hi
   simp;omega
 unfold gD;rw [h]
theorem Ad {fs:List jV} {t:Int} (h:∀(i:Nat) f,fs[i]? = some f->f.at'≠t):gD fs t=jV.zero:=by
 have h:fs.find? (fun f=>f.at' == t)=none:=by
  rw [List.find?_eq_none];intro f hf;obtain ⟨i,hi⟩:=Yh hf;simpa using h i f hi
 unfold gD;rw [h]
abbrev iw:=List (BitVec 8)
structure az where
 cB:Nat
 bZ:List jV
 up:Bool
 cC:Nat
 cP:Nat
 lost:Nat
 aL:List (Nat × iw)
def lq (d:iw) (arg:Int):iw:=
 if d=[] then d else d.modify (((arg % (6*d.length)).toNat) / 6) (fun x=>x ^^^ (1 <<< (((arg % (6*d.length)).toNat) % 6)))
theorem rE (d:iw) (a:Int):(lq d a).length=d.length:=by unfold lq;split <;> simp
def az.fault (c:az):jV:=gD c.bZ c.cP
def az.copies (c:az):Nat:=if c.fault.kind=3 then 2 else 1
def az.what (c:az) (d:iw):iw:=if c.fault.kind=2 then lq d c.fault.arg else d
def az.send (c:az) (d:iw):Nat × az:=
 if c.up=false\/c.fault.kind=1 then (0,{ c with cP:=c.cP+1,lost:=c.lost+1 })
 else if 64 < c.aL.length+c.copies then (5,{ c with cP:=c.cP+1,lost:=c.lost+1 })
 else (0,{ c with cP:=c.cP+1,aL:=c.aL++List.replicate c.copies (c.cC+c.cB,c.what d) })
def az.bV (c:az):List (Nat × iw):=c.aL.takeWhile (fun x=>decide (x.1<=c.cC+1))
def az.cR (c:az):List iw × az:=(c.bV.map (·.2),{ c with cC:=c.cC+1,aL:=c.aL.drop c.bV.length })
def az.cut (c:az):az:={ c with up:=false,lost:=c.lost+c.aL.length,aL:=[] }
def az.mend (c:az):az:={ c with up:=true }
def az.new (cB:Nat) (fs:List jV):az:=⟨cB,fs,true,0,0,0,[]⟩
structure az.Ok (c:az):Prop where
 d1:1<=c.cB
 d2:c.cB<=100
 FD:Asc c.bZ
 each:∀(i:Nat) f,c.bZ[i]? = some f->1<=f.kind/\f.kind<=3/\0<=f.arg
 Ai:c.aL.length<=64
theorem az.Ok.fault {c:az} (h:c.Ok):0<=c.fault.kind/\c.fault.kind<=3/\0<=c.fault.arg:=by
 unfold az.fault gD
 cases hf:c.bZ.find? (fun f=>f.at' == (c.cP:Int)) with
 |none=>exact ⟨ZU _,by decide,ZU _⟩
 |some f=>
  obtain ⟨i,hi⟩:=Yh (List.mem_of_find?_eq_some hf);have:=h.each i f hi;show 0<=f.kind/\f.kind<=3/\0<=f.arg;exact ⟨by omega,this.2.1,this.2.2⟩
theorem az.Sj {cB:Nat} {fs:List jV} (h1:1<=cB) (h2:cB<=100) (h:okF (-1) fs=true):(az.new cB fs).Ok:=
 ⟨h1,h2,(zx h).1,fun i f hi=>((zx h).2 i f hi).2,VJ _⟩
theorem az.kr {c:az} (h:c.Ok) (d:iw):(c.send d).2.Ok:=by
 unfold az.send;by_cases h1:c.up=false\/c.fault.kind=1
 ·rw [if_pos h1];exact ⟨h.d1,h.d2,h.FD,h.each,h.Ai⟩
 ·rw [if_neg h1]
  by_cases h2:64 < c.aL.length+c.copies
  ·rw [if_pos h2];exact ⟨h.d1,h.d2,h.FD,h.each,h.Ai⟩
  ·rw [if_neg h2]
   exact ⟨h.d1,h.d2,h.FD,h.each,by simp;omega⟩
theorem az.zk {c:az} (h:c.Ok):c.cR.2.Ok:=⟨h.d1,h.d2,h.FD,h.each,by have:=h.Ai;simp [az.cR];omega⟩
theorem az.SC {c:az} (h:c.Ok):c.cut.Ok:=⟨h.d1,h.d2,h.FD,h.each,VJ _⟩
theorem az.O0 {c:az} (h:c.Ok):c.mend.Ok:=⟨h.d1,h.d2,h.FD,h.each,h.Ai⟩

def GD (x:iw):Option Pk->Prop
 |some p=>Good p/\x=dM p
 |none=>∃(p:Pk) (i:Nat) (y:BitVec 8),Good p/\i < (dM p).length/\idx y=20/\x=(dM p).set i y
theorem zK {p:Pk} (h:Good p) {i:Nat} (hi:i < (dM p).length) (y:Byte) (hy:idx y=20) {s:Sc} (hs:s.inside=false):∃s',s'.inside=false/\s'.bad<=s.bad+1/\s.scan ((dM p).set i y)=(s',[]):=by
 obtain ⟨h1,h2,h3⟩:=Lm y hy;have hp:=h.pay;have hl:(encS (eP p)).length<=162:=by rw [eB,gN];omega
 have Tm:∀x ∈ encS (eP p)++[50],x≠(49:Byte):=fun x hx=>by
  rcases WY.1 hx with hx|hx
  ·exact (lu x (ja _ x hx)).1
  ·rw [Wj.1 hx];decide
 have hbad:∀(d:List Byte) (b:Nat),(⟨true,d,b⟩:Sc).push y=(⟨false,[],b+1⟩,none):=fun d b=>by
  unfold Sc.push;rw [if_neg h1,if_neg (by simp),if_neg (fun hh=>by rw [h3] at hh;cases hh.1),if_neg (fun hh=>h2 hh.1)]
 match i,hi with
 |0,_=>
  refine ⟨s,hs,Yb _,?_⟩;show s.scan (y::(encS (eP p)++[50]))=_
  exact nZ s hs _ fun x hx=>by
   rcases WN.1 hx with rfl|hx
   ·exact h1
   ·exact Tm x hx
 |i+1,hi=>
  refine ⟨⟨false,[],s.bad+1⟩,rfl,Nat.le_refl _,?_⟩;show s.scan (49::(encS (eP p)++[50]).set i y)=_;have hi':i < (encS (eP p)++[50]).length:=by unfold dM at hi;simpa using hi
  rw [Yj,if_pos hi',kE,qj,if_neg (by rw [hs];simp),Sc.lW];have hil:i<=(encS (eP p)).length:=by simp at hi';omega
  have ht:(encS (eP p)++[50]).take i=(encS (eP p)).take i:=by rw [YA hil]
  rw [ht];have hd:=oM [] s.bad ((encS (eP p)).take i) (fun s hs=>ja _ s (XN hs)) (by simp;omega);rw [hd,kE,hbad,nZ ⟨false,[],s.bad+1⟩ rfl _ fun x hx=>Tm x (Yf hx)];rfl
theorem LJ {x:iw} {o:Option Pk} (h:GD x o) {s:Sc} (hs:s.inside=false):∃s',s'.inside=false/\s'.bad<=s.bad+1/\s.scan x=(s',o.toList):=by
 match o,h with
 |some p,⟨hg,hx⟩=>rw [hx,LK hg,if_neg (by rw [hs];simp)];exact ⟨⟨false,[],s.bad⟩,rfl,Yb _,rfl⟩
 |none,⟨p,i,y,hg,hi,hy,hx⟩=>rw [hx];exact zK hg hi y hy hs
theorem MM {x:Byte} (h:idx x < 20) {k:Nat} (hk:k < 6):idx (x ^^^ (1 <<< k))=20:=by
 have:=ET h (k:=5 - k) (by omega);unfold KH at this;rwa [show 5 - (5 - k)=k by omega] at this
theorem ML {p:Pk} (h:Good p) (arg:Int):GD (lq (dM p) arg) none:=by
 have hne:dM p≠[]:=by unfold dM;simp
 have hlen:0 < (dM p).length:=List.length_pos_iff.2 hne;unfold lq;rw [if_neg hne];generalize hm:(arg % (6*((dM p).length:Int))).toNat=m
 have abB:m < 6*(dM p).length:=by
  have h1:=Int.emod_nonneg arg (b:=6*((dM p).length:Int)) (by omega);have h2:=Int.emod_lt_of_pos arg (b:=6*((dM p).length:Int)) (by omega);omega
 have hi:m / 6 < (dM p).length:=by omega
 refine ⟨p,m / 6,(dM p)[m / 6] ^^^ (1 <<< (m % 6)),h,hi,MM (Hf p _ (List.getElem_mem hi)) (by omega),?_⟩;refine List.ext_getElem? fun j=>?_
 rw [List.getElem?_modify,List.getElem?_set];by_cases hj:m / 6=j
 ·subst hj
  rw [if_pos rfl,if_pos hi,Vw hi];show some (if m / 6=m / 6 then _ else _)=_;rw [if_pos rfl]
 ·rw [if_neg hj]
  cases (dM p)[j]? with
  |none=>rfl
  |some v=>show some (if m / 6=j then _ else _)=_;rw [if_neg hj]

end Go.Proofs.YtjnbanjjoomecaaGreatDoor
