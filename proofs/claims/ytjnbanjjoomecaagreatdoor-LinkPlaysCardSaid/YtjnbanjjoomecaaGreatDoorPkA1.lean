/- Lemmas; no condition on the program. -/
import Derived.WalkKit
import Derived.WalkSpells
import Derived.Laws.AppendOwnNone
import Derived.Lib.Hide
import Derived.Deep.Draws
import Derived.Test.YtjnbanjjoomecaaGreatDoorRows
import Derived.ProofKit
import Derived.OpenShut
import Derived.ShutString
import Derived.ChangeOld
import Derived.Below
import Derived.Deep.Slices
import Derived.ChangeSame
import Derived.WalkLawsBesides
import Derived.BigRegion
import Derived.Deep.RegionWith
import Derived.Deep.RegionHeld
import Derived.Deep.RegionHeld3
import Derived.Still
namespace Go.Proofs.YtjnbanjjoomecaaGreatDoor
open Go.RowKit
open World renaming cell?_of_block→Vt, block_lt_of_cell?→Vv, cell?→XF, cells?_some→Y8
open Nat renaming le_refl→Vu, le_trans→VC, zero_le→VJ, lt_of_lt_of_le→VX, zero_add→V5, add_mul→WK, lt_or_ge→WV, shiftRight_eq_div_pow→Xa, mul_le_mul_right→Xn, add_zero→Xp, le_of_not_lt→XI, add_assoc→ZG, sub_mul→ZR
open List renaming getElem?_eq_getElem→Vw, length_append→Vx, drop_succ_cons→Vz, append_assoc→VE, getElem?_map→VG, drop_zero→VH, length_map→VL, getElem?_append_left→VO, getElem?_append_right→VP, getElem?_eq_none→VT, length_take→VW, length_drop→V9, eq_nil_of_length_eq_zero→Wh, mem_singleton→Wj, getElem?_drop→Wl, take_of_length_le→Wn, append_nil→Wp, ext_getElem?→WQ, getElem?_take→WR, nil_append→WT, mem_append→WY, drop_eq_nil_of_le→Xy, map_toArray→XQ, size_toArray→XW, map_cons→Yd, getElem?_of_mem→Yh, map_nil→Yl, drop_take→YG, drop_drop→YH, getElem?_append→YX, drop_append→Zk, take_left→Zz
open Option.some renaming inj→VM
open Region renaming wanted→VN, ready→Wt, binds→WC, noSelect→WO, Mode→Xc
open _root_.Go.RowKit.Below renaming refl→VQ, heap_alloc→WA
open BitVec renaming ofInt→VU, toNat_ushiftRight→W_, xor_allOnes→YY, allOnes→Zm
open Bool renaming and_eq_true→Ww
open Builtin renaming zeroCells→WJ, append_→Xf, append→Xw, lenOf→X5, firstCells→X8, clear_→YC
open Oper renaming wp→WZ, upon→YN
open Callee renaming builtin→Xg
open Act renaming put_comm→XK
open Result renaming andThen_ok→XL
open _root_.Array renaming getElem?_eq_none→XZ, length_toList→X9
open Sem renaming run_pure→Yo, run_bind→Yp
open Lit renaming int→Yq
open Op renaming call→Yy
open Value renaming ownBlock→YM
open IntKind renaming wrap_u32→Y5
open Calls renaming mono→Y6
open DataW renaming TrodAll→ZB, trod→ZM, Trod→ZN
open Addr renaming add→ZZ
set_option maxHeartbeats 64000000
theorem aQ{p:Prop}(h:p):RowKit.Hid p:=Lib.hid h
theorem ag {α:Type _} (l:List α) (i:Nat) (a:α):l.toArray.setIfInBounds i a=(l.set i a).toArray:=List.setIfInBounds_toArray ..
theorem Ψ {α:Type _} {a b:α} {l:List α}:(a::l).set 0 b=b::l:=List.set_cons_zero
theorem ae {α:Type _} {a b:α} {l:List α} {n:Nat}:(a::l).set (n+1) b=a::l.set n b:=List.set_cons_succ
section
def U {n:Nat} (x:BitVec n):Int:=(x.toNat:Int)
theorem nQ {n:Nat} (x:BitVec n):U x=(x.toNat:Int):=rfl
@[go_sem] theorem qY {n:Nat} (x:BitVec n):0<=U x:=by unfold U;omega
theorem Lr (x:BitVec 32):U x < 4294967296:=by have:x.toNat < 4294967296:=x.isLt;unfold U;omega
theorem Qu (x:BitVec 8):U x < 256:=by have:x.toNat < 256:=x.isLt;unfold U;omega
theorem pz {n:Nat} {x y:BitVec n}:U x=U y↔x=y:=by
 unfold U;rw [Int.ofNat_inj];exact ⟨BitVec.eq_of_toNat_eq,congrArg _⟩
theorem gY {n:Nat} (x:BitVec n):VU n (U x)=x:=by
 unfold U;rw [BitVec.ofInt_natCast];simp
theorem F6 {n:Nat} (z:Int) (h0:0<=z) (h1:z < 2 ^ n):U (VU n z)=z:=by
 unfold U;have e:(2:Int) ^ n=((2 ^ n:Nat):Int):=by simp
 rw [BitVec.toNat_ofInt,<-e,Int.emod_eq_of_lt h0 h1,Int.toNat_of_nonneg h0]
@[go_sem] theorem oo (x:BitVec 32):IntKind.u32.wrap (U x)=U x:=by
 rw [Y5];have:=Lr x;have:=qY x;omega
@[go_sem] theorem qi (x:BitVec 8):IntKind.u8.wrap (U x)=U x:=by
 rw [IntKind.wrap_u8];have:=Qu x;have:=qY x;omega
@[go_sem] theorem M6 {n:Nat} (x y:BitVec n):(U x == U y)=(x == y):=by
 rw [Bool.eq_iff_iff];simp [pz]
@[go_sem] theorem qZ {n:Nat} (x y:BitVec n):(U x != U y)=(x != y):=by
 unfold bne;rw [M6]
theorem vN (x y:BitVec 32):bits .xor .u32 (U x) (U y)=U (x ^^^ y)/\bits .and .u32 (U x) (U y)=U (x &&& y)/\bits .or .u32 (U x) (U y)=U (x ||| y):=by
 refine ⟨?_,?_,?_⟩
 ·show IntKind.u32.wrap ((VU 32 (U x) ^^^ VU 32 (U y)).toNat:Int)=_
  rw [gY,gY,<-nQ,oo]
 ·show IntKind.u32.wrap ((VU 32 (U x) &&& VU 32 (U y)).toNat:Int)=_
  rw [gY,gY,<-nQ,oo]
 ·show IntKind.u32.wrap ((VU 32 (U x) ||| VU 32 (U y)).toNat:Int)=_
  rw [gY,gY,<-nQ,oo]
@[go_sem] theorem qh (x y:BitVec 32):bits .xor .u32 (U x) (U y)=U (x ^^^ y):=(vN x y).1
@[go_sem] theorem wF (x y:BitVec 32):bits .and .u32 (U x) (U y)=U (x &&& y):=(vN x y).2.1
@[go_sem] theorem TF (x y:BitVec 32):bits .or .u32 (U x) (U y)=U (x ||| y):=(vN x y).2.2
@[go_sem] theorem PH (x:BitVec 32):bits .and .u32 (U x) 15=U (x &&& 15#32):=wF x 15#32
@[go_sem] theorem QF (x:BitVec 32):bits .and .u32 (U x) 1=U (x &&& 1#32):=wF x 1#32
@[go_sem] theorem QA (x:BitVec 32):bits .xor .u32 (U x) 3988292384=U (x ^^^ 3988292384#32):=qh x 3988292384#32
@[go_sem] theorem QC (x:BitVec 32):bits .xor .u32 (U x) 4294967295=U (~~~x):=by
 have h:=qh x 4294967295#32
 have e:x ^^^ 4294967295#32 = ~~~x:=by
  have:(4294967295#32:BitVec 32)=Zm 32:=by decide
  rw [this,YY]
 rw [e] at h;exact h
@[go_sem] theorem SY (x:BitVec 32):bits .xor .u32 IntKind.u32.max (U x)=U (~~~x):=by
 have e:IntKind.u32.max=U (Zm 32):=by decide
 rw [e,qh,BitVec.xor_comm,YY]
@[go_sem] theorem Cr (x:BitVec 32):U x / 16=U (x >>> 4):=by
 unfold U;rw [W_,Xa];rfl
@[go_sem] theorem Cs (x:BitVec 32):U x / 2=U (x >>> 1):=by
 unfold U;rw [W_,Xa];rfl
@[go_sem] theorem G6 (x:BitVec 8):U x % 4294967296=U (x.setWidth 32):=by
 unfold U;rw [BitVec.toNat_setWidth];rfl
@[go_sem] theorem M9 (x:BitVec 8):IntKind.u32.wrap (U x)=U (x.setWidth 32):=by
 rw [Y5];exact G6 x
@[go_sem] theorem abe (x:BitVec 8):U x % 256=U x:=by have:=Qu x;have:=qY x;omega
@[go_sem] theorem aau (x:BitVec 32):U x % 4294967296=U x:=by have:=Lr x;have:=qY x;omega
def N {n:Nat} (x:BitVec n):Nat:=x.toNat
@[go_sem] theorem Pw {n:Nat} (x:BitVec n):(U x).toNat=N x:=by unfold U N;omega
theorem U_N {n:Nat} (x:BitVec n):U x=(N x:Int):=rfl
theorem Ho (yk:IntKind) (x:BitVec 32):Op.shift .shr .u32 (U x) yk 4=pure (.int .u32 (U (x >>> 4))):=by
 rw [shift_shr .u32 yk (U x) 4 (by decide) (by decide),<-Cr];rfl
theorem Ht (yk:IntKind) (x:BitVec 32):Op.shift .shr .u32 (U x) yk 1=pure (.int .u32 (U (x >>> 1))):=by
 rw [shift_shr .u32 yk (U x) 1 (by decide) (by decide),<-Cs];rfl
attribute [go_sem ↓ high] Ho Ht
theorem Gm (x y:BitVec 8):bits .xor .u8 (U x) (U y)=U (x ^^^ y)/\bits .and .u8 (U x) (U y)=U (x &&& y)/\bits .or .u8 (U x) (U y)=U (x ||| y):=by
 refine ⟨?_,?_,?_⟩
 ·show IntKind.u8.wrap ((VU 8 (U x) ^^^ VU 8 (U y)).toNat:Int)=_
  rw [gY,gY,<-nQ,qi]
 ·show IntKind.u8.wrap ((VU 8 (U x) &&& VU 8 (U y)).toNat:Int)=_
  rw [gY,gY,<-nQ,qi]
 ·show IntKind.u8.wrap ((VU 8 (U x) ||| VU 8 (U y)).toNat:Int)=_
  rw [gY,gY,<-nQ,qi]
@[go_sem] theorem GV (x y:BitVec 8):bits .xor .u8 (U x) (U y)=U (x ^^^ y):=(Gm x y).1
end

structure o8 (P:Program) (t e:TypeId) (z:Value) (size bytes:Nat):Prop where
 under:P.underlying t=some (.slice e)
 info:∃i,P.info? e=some i/\i.zero=some z/\i.size=size/\i.bytes=bytes
 zs:z.cells.size=size
 pos:0 < size
def Rd (w:World) (size:Nat) (v:Value) (n:Nat) (us:List Value):Prop:=
 us.length=n*size/\∃a cap,v=.slice a n cap/\n<=cap/\cap<=maxLen/\(a=none->n=0/\cap=0) /\
  ∀b,a=some b->∀j u,us[j]? = some u->b.spot=none/\w.cell? ⟨b.block,b.off+j,none⟩=some u
theorem add_eq (b:Addr) (j:Nat) (h:b.spot=none):b.add j=⟨b.block,b.off+j,none⟩:=by
 unfold ZZ;split
 ·rename_i e;subst e;cases b;simp_all
 ·rfl
theorem Rd.mQ {w:World} {base:Nat} {e:TypeId} {size:Nat} {v:Value} {n:Nat} {us:List Value} (h:w.ownsRow base e size v n us):Rd w size v n us:=by
 have hc:=fun (g:Nat)=>h.cells (g:=g)
 obtain ⟨hl,h|⟨g,cap,cur,rfl,hb,hg,hn,hm,hs,ht⟩⟩:=h
 ·obtain ⟨rfl,rfl⟩:=h
  exact ⟨hl,none,0,rfl,Vu _,VJ _,fun _=>⟨rfl,rfl⟩,fun b hb=>by cases hb⟩
 ·refine ⟨hl,some ⟨g,0,none⟩,cap,rfl,hn,hm,(fun h=>by cases h),fun b hb=>?_⟩
  obtain rfl:=VM hb;exact fun j u hj=>⟨rfl,by have:=hc g rfl j u hj;rwa [add_eq _ _ rfl] at this⟩
theorem Rd.keep {w w':World} {size:Nat} {v:Value} {n:Nat} {us:List Value} (h:Rd w size v n us)
  (hk:∀k,v.ownBlock=some k->k < w.heap.size->w'.heap[k]? = w.heap[k]?):Rd w' size v n us:=by
 obtain ⟨hl,a,cap,rfl,h1,h2,h3,h4⟩:=h;refine ⟨hl,a,cap,rfl,h1,h2,h3,fun b hb j u hj=>⟨(h4 b hb j u hj).1,?_⟩⟩;have hc:=(h4 b hb j u hj).2;have hlt:=Vv w _ hc;subst hb;exact (Vt (a:=⟨b.block,b.off+j,none⟩) (hk b.block rfl hlt)).trans hc
theorem Rd.below {w w':World} {size:Nat} {v:Value} {n:Nat} {us:List Value} (h:Rd w size v n us) (hb:Below w.heap.size w w'):Rd w' size v n us:=
 h.keep fun k _ hk=>hb.block k hk
theorem gQ {P:Program} {t e:TypeId} {z:Value} {size bytes:Nat} (S:o8 P t e z size bytes) {w:World} {ops:Array Oper} {rest:List Oper} {o:Oper} {a:Act} {Q:Exit->Act->World->Prop}
  (hg:o.guard=none) (s x:Operand) (hop:o.op=Yy { callee:=Xg Xw,args := #[s,x],argTypes := #[t,t] })
  (base:Nat) (v:Value) (n:Nat) (xs:List Value) (hs:a.eval s=v) (hown:w.ownsRow base e size v n xs)
  (y:Value) (m:Nat) (news:List Value) (hx:a.eval x=y) (hr:Rd w size y m news) (h1:∀u ∈ news,u.oneCell'=true)
  (b1:n+m<=maxLen) (b2:(n+m)*bytes<=140737488355328) (b3:base<=w.heap.size)
  (hK:∀v' w',w'.ownsRow base e size v' (n+m) (xs++news)->w.grownBy w' v.ownBlock->(v'=.slice none 0 0↔v=.slice none 0 0/\m=0)->wpList P ops Q rest (a.put o.dst v') w') :
  wpList P ops Q (o::rest) a w:=by
 obtain ⟨i,hi,hz,hsz,hby⟩:=S.info;obtain ⟨hl,ad,cap,rfl,h2,h3,h4,h5⟩:=hr
 cases ad with
 |none=>
  obtain ⟨rfl,rfl⟩:=h4 rfl;have:news=[]:=Wh (by simpa using hl);subst this;refine wpList_append_own_none (P:=P) hg s x t hop base e i size S.under hi v n xs hs hown hx (hK v w (by simpa using hown) ⟨rfl,rfl,rfl,Vu _,fun _ _ _=>rfl⟩ (by simp))
 |some ad=>
  exact wpList_append_own (P:=P) w hg s x t hop base e i z size bytes S.under hi hz hsz hby S.zs S.pos v n xs hs hown ad m cap news hx hl
   (fun j u hj=>by have:=(h5 ad rfl j u hj).2;rwa [add_eq _ _ (h5 ad rfl j u hj).1]) h1 b1 b2 b3 hK
theorem sw {P:Program} {t e:TypeId} {z:Value} {size bytes:Nat} (S:o8 P t e z size bytes) {w:World} {ops:Array Oper} {rest:List Oper} {o:Oper} {a:Act} {Q:Exit->Act->World->Prop}
  (hg:o.guard=none) (l c:Operand) (hop:o.op=Op.makeSlice t l c) (base:Nat) (C:Int) (hl:a.eval l=.int .i64 0) (hc:a.eval c=.int .i64 C)
  (b0:0<=C) (b2:C*bytes<=281474976710656) (b3:C<=maxLen) (b4:base<=w.heap.size)
  (hK:∀w',w'.ownsRow base e size (.slice (some ⟨w.heap.size,0,none⟩) 0 C.toNat) 0 []->w.grownBy w' none->wpList P ops Q rest (a.put o.dst (.slice (some ⟨w.heap.size,0,none⟩) 0 C.toNat)) w') :
  wpList P ops Q (o::rest) a w:=by
 obtain ⟨i,hi,hz,hsz,hby⟩:=S.info;obtain ⟨n,rfl⟩:=Int.eq_ofNat_of_zero_le b0;refine wpList_make_own w hg l c t hop base e i z size S.under hi hz hsz .i64 .i64 (n:Int) n hl hc rfl ?_ (by omega) b4 hK;rw [hby,Nat.mul_comm];have:((n*bytes:Nat):Int)<=281474976710656:=by rw [Int.natCast_mul];exact b2
 omega
def cu (bs:List (BitVec 8)):List Value:=bs.map fun x=>.int .u8 (U x)
theorem di (bs:List (BitVec 8)):(cu bs).length=bs.length:=by simp [cu]
theorem uY (a b:List (BitVec 8)):cu a++cu b=cu (a++b):=by simp [cu]
theorem iM {bs:List (BitVec 8)}:∀u ∈ cu bs,u.oneCell'=true:=by
 intro u hu;obtain ⟨x,_,rfl⟩:=List.mem_map.1 hu;rfl
def By (w:World) (v:Value) (bs:List (BitVec 8)):Prop:=Rd w 1 v bs.length (cu bs)
def Ow (T:TypeId) (w:World) (base:Nat) (v:Value) (bs:List (BitVec 8)):Prop:=w.ownsRow base T 1 v bs.length (cu bs)
theorem Ow.by {T:TypeId} {w:World} {base:Nat} {v:Value} {bs:List (BitVec 8)} (h:Ow T w base v bs):By w v bs:=Rd.mQ h
theorem By.below {w w':World} {v:Value} {bs:List (BitVec 8)} (h:By w v bs) (hb:Below w.heap.size w w'):By w' v bs:=Rd.below h hb
theorem By.cases {w:World} {v:Value} {bs:List (BitVec 8)} (h:By w v bs) :
  bs.length<=maxLen/\((bs=[]/\∃a cap,v=.slice a 0 cap/\cap<=maxLen/\(a=none->cap=0)) \/
  ∃b off cap,v=.slice (some ⟨b,off,none⟩) bs.length cap/\0 < bs.length/\bs.length<=cap/\cap<=maxLen/\∀k,k < bs.length->w.cell? ⟨b,off+k,none⟩=some (.int .u8 (U (bs.getD k 0)))):=by
 obtain ⟨_,a,cap,rfl,h1,h2,h3,h4⟩:=h;refine ⟨VC h1 h2,?_⟩;by_cases h0:bs.length=0
 ·have:bs=[]:=Wh h0
  subst this;exact .inl ⟨rfl,a,cap,rfl,h2,fun e=>(h3 e).2⟩
 ·have each:∀b,a=some b->∀k,k < bs.length->b.spot=none/\w.cell? ⟨b.block,b.off+k,none⟩=some (.int .u8 (U (bs.getD k 0))):=by
   intro b hb k hk;refine h4 b hb k _ ?_;rw [cu,VG,Vw hk,Option.map_some];simp [List.getD,hk]
  cases a with
  |none=>exact absurd (h3 rfl).1 h0
  |some ad=>
   obtain ⟨b,off,spot⟩:=ad;have hs:spot=none:=(each _ rfl 0 (by omega)).1;subst hs;exact .inr ⟨b,off,cap,rfl,by omega,h1,h2,fun k hk=>(each _ rfl k hk).2⟩
theorem By.of_nil (w:World):By w (.slice none 0 0) []:=⟨rfl,none,0,rfl,Vu _,VJ _,fun _=>⟨rfl,rfl⟩,fun b hb=>by cases hb⟩
theorem By.take {w:World} {a:Option Addr} {len cap:Nat} {bs:List (BitVec 8)} (h:By w (.slice a len cap) bs) {n:Nat} (hn:n<=len):By w (.slice a n cap) (bs.take n):=by
 obtain ⟨_,a',cap',e,h1,h2,h3,h4⟩:=h;obtain ⟨rfl,rfl,rfl⟩:a=a'/\len=bs.length/\cap=cap':=by simpa using e
 have hl:(bs.take n).length=n:=by rw [VW];omega
 refine ⟨by rw [di];omega,a,cap,by rw [hl],by omega,h2,fun e=>?_,fun b hb j u hj=>h4 b hb j u ?_⟩
 ·have:=h3 e;omega
 ·rw [cu,List.map_take,WR] at hj
  split at hj
  ·exact hj
  ·cases hj

structure Fr (F:Nat->Prop) (w w':World):Prop where
 os:w'.os=w.os
 tape:w'.tape=w.tape
 output:w'.output=w.output
 size:w.heap.size<=w'.heap.size
 block:∀k,k < w.heap.size->¬F k->w'.heap[k]? = w.heap[k]?
theorem Fr.refl (F:Nat->Prop) (w:World):Fr F w w:=⟨rfl,rfl,rfl,Vu _,fun _ _ _=>rfl⟩
theorem Fr.trans {F G:Nat->Prop} {a b c:World} (h:Fr F a b) (k:Fr G b c) (hG:∀x,G x->F x\/a.heap.size<=x):Fr F a c:=
 ⟨k.os.trans h.os,k.tape.trans h.tape,k.output.trans h.output,VC h.size k.size,fun x hx hn=>
  (k.block x (VX hx h.size) fun g=>(hG x g).elim hn (by omega)).trans (h.block x hx hn)⟩
theorem Fr.mono {F G:Nat->Prop} {a b:World} (h:Fr F a b) (hG:∀x,F x->G x):Fr G a b:=⟨h.os,h.tape,h.output,h.size,fun x hx hn=>h.block x hx fun f=>hn (hG x f)⟩
theorem Fr.drew {F:Nat->Prop} {a w:World} (h:Fr F a w):Fr F a w.drew:=⟨h.os,h.tape,h.output,h.size,h.block⟩
theorem Fr.drewN {F:Nat->Prop} {a w:World} (h:Fr F a w) (n:Nat):Fr F a (w.drewN n):=⟨h.os,h.tape,h.output,h.size,h.block⟩
theorem Fr.alloc {F:Nat->Prop} {a w:World} (h:Fr F a w) (o:Obj):Fr F a (w.alloc o):=
 ⟨h.os,h.tape,h.output,by simp;exact Nat.le_succ_of_le h.size,fun x hx hn=>(WA w o x (VX hx h.size)).trans (h.block x hx hn)⟩
theorem Fr.setCell {F:Nat->Prop} {a w:World} (h:Fr F a w) {p:Addr} (hp:F p.block\/a.heap.size<=p.block) (u:Value):Fr F a (w.setCell p u):=
 ⟨h.os,h.tape,h.output,by simp;exact h.size,fun x hx hn=>(Below.heap_setCell w p u x (fun e=>by subst e;exact hp.elim hn (by omega))).trans (h.block x hx hn)⟩
theorem Fr.of_below {F:Nat->Prop} {a w w':World} (h:Fr F a w) (hb:Below w.heap.size w w'):Fr F a w':=
 ⟨hb.os.trans h.os,hb.tape.trans h.tape,hb.output.trans h.output,VC h.size hb.size,fun x hx hn=>(hb.block x (VX hx h.size)).trans (h.block x hx hn)⟩
theorem Fr.below {F:Nat->Prop} {a w:World} (h:Fr F a w) {B:Nat} (hB:B<=a.heap.size) (hF:∀k,F k->B<=k):Below B a w:=
 ⟨h.os,h.tape,h.output,h.size,fun k hk=>h.block k (by omega) fun f=>by have:=hF k f;omega⟩
theorem Fr.keep {F:Nat->Prop} {a w:World} (h:Fr F a w) {k:Nat} {o:Obj} (hk:a.heap[k]? = some o) (hn:¬F k):w.heap[k]? = some o:=
 (h.block k (lt_of_block hk) hn).trans hk
def Dj (F G:Nat->Prop):Prop:=∀k,F k->G k->False
def Ext (w:World) (F F':Nat->Prop):Prop:=∀k,F' k->F k\/w.heap.size<=k
def Sl (w:World) (F:Nat->Prop) (e:TypeId) (size:Nat) (v:Value) (n:Nat) (us:List Value):Prop:=
 us.length=n*size/\((v=.slice none 0 0/\n=0) \/
  ∃g off cap cur,v=.slice (some ⟨g,off,none⟩) n cap/\F g/\w.heap[g]? = some (.cells cur e (0,0))/\n<=cap/\cap<=maxLen/\off+cap*size<=cur.size/\(cur.toList.drop off).take (n*size)=us)
theorem Sl.nil (w:World) (F:Nat->Prop) (e:TypeId) (size:Nat):Sl w F e size (.slice none 0 0) 0 []:=⟨by simp,.inl ⟨rfl,rfl⟩⟩
theorem Sl.keep {w w':World} {F:Nat->Prop} {e:TypeId} {size:Nat} {v:Value} {n:Nat} {us:List Value} (h:Sl w F e size v n us) (hk:∀k,F k->k < w.heap.size->w'.heap[k]? = w.heap[k]?):Sl w' F e size v n us:=by
 obtain ⟨hl,h|⟨g,off,cap,cur,rfl,hF,hg,h1,h2,h3,h4⟩⟩:=h
 ·exact ⟨hl,.inl h⟩
 ·exact ⟨hl,.inr ⟨g,off,cap,cur,rfl,hF,(hk g hF (lt_of_block hg)).trans hg,h1,h2,h3,h4⟩⟩
theorem Sl.mono {w:World} {F G:Nat->Prop} {e:TypeId} {size:Nat} {v:Value} {n:Nat} {us:List Value} (h:Sl w F e size v n us) (hF:∀k,F k->G k):Sl w G e size v n us:=by
 obtain ⟨hl,h|⟨g,off,cap,cur,rfl,hf,hg,h1⟩⟩:=h
 ·exact ⟨hl,.inl h⟩
 ·exact ⟨hl,.inr ⟨g,off,cap,cur,rfl,hF g hf,hg,h1⟩⟩
theorem Sl.mQ {w:World} {F:Nat->Prop} {base:Nat} {e:TypeId} {size:Nat} {v:Value} {n:Nat} {us:List Value} (h:w.ownsRow base e size v n us) (hF:∀k,base<=k->F k):Sl w F e size v n us:=by
 obtain ⟨hl,h|⟨g,cap,cur,rfl,hb,hg,hn,hm,hs,ht⟩⟩:=h
 ·exact ⟨hl,.inl h⟩
 ·exact ⟨hl,.inr ⟨g,0,cap,cur,rfl,hF g hb,hg,hn,hm,by omega,by simpa using ht⟩⟩
theorem Sl.cell {w:World} {F:Nat->Prop} {e:TypeId} {size:Nat} {g off n cap:Nat} {us:List Value} (h:Sl w F e size (.slice (some ⟨g,off,none⟩) n cap) n us):∀j u,us[j]? = some u->w.cell? ⟨g,off+j,none⟩=some u:=by
 intro j u hj;obtain ⟨hl,⟨h,_⟩|⟨g',off',cap',cur,e1,hF,hg,h1,h2,h3,h4⟩⟩:=h
 ·cases h
 ·obtain ⟨⟨rfl,rfl⟩,rfl⟩:(g=g'/\off=off')/\cap=cap':=by simpa using e1
  rw [<-h4,WR] at hj;split at hj
  ·rw [Wl] at hj
   simp only [XF,hg];simpa using hj
  ·cases hj
theorem Sl.rd {w:World} {F:Nat->Prop} {e:TypeId} {size:Nat} {v:Value} {n:Nat} {us:List Value} (h:Sl w F e size v n us):Rd w size v n us:=by
 have h':=h;obtain ⟨hl,⟨rfl,rfl⟩|⟨g,off,cap,cur,rfl,hF,hg,h1,h2,h3,h4⟩⟩:=h
 ·exact ⟨hl,none,0,rfl,Vu _,VJ _,fun _=>⟨rfl,rfl⟩,fun b hb=>by cases hb⟩
 ·refine ⟨hl,some ⟨g,off,none⟩,cap,rfl,h1,h2,(fun e=>by cases e),fun b hb j u hj=>?_⟩
  obtain rfl:=VM hb;exact ⟨rfl,h'.cell j u hj⟩
theorem Sl.drop {w:World} {F:Nat->Prop} {e:TypeId} {g off n cap:Nat} {us:List Value} (h:Sl w F e 1 (.slice (some ⟨g,off,none⟩) n cap) n us) {k:Nat} (hk:k<=n) :
  Sl w F e 1 (.slice (if cap=k then some ⟨g,off,none⟩ else some ⟨g,off+k,none⟩) (n - k) (cap - k)) (n - k) (us.drop k):=by
 obtain ⟨hl,⟨h,_⟩|⟨g',off',cap',cur,e1,hF,hg,h1,h2,h3,h4⟩⟩:=h
 ·cases h
 ·obtain ⟨⟨rfl,rfl⟩,rfl⟩:(g=g'/\off=off')/\cap=cap':=by simpa using e1
  refine ⟨by rw [V9,hl];omega,.inr ?_⟩;by_cases hc:cap=k
  ·rw [if_pos hc]
   have hn:n - k=0:=by omega
   refine ⟨g,off,cap - k,cur,rfl,hF,hg,by omega,by omega,by omega,?_⟩;have:us.drop k=[]:=Xy (by omega);rw [this,hn];simp
  ·rw [if_neg hc]
   refine ⟨g,off+k,cap - k,cur,rfl,hF,hg,by omega,by omega,by omega,?_⟩;rw [<-h4,YG,YH];congr 1;omega
section
variable {P:Program}
theorem kU (w:World) (t ty e:TypeId) (i:TypeInfo) (ht:P.underlying t=some (.slice e)) (hi:P.info? e=some i)
  (g off sLen sCap:Nat) (cur:Array Value) (hg:w.heap[g]? = some (.cells cur e (0,0)))
  (a:Addr) (m c:Nat) (news:List Value) (hl:news.length=m*i.size) (hnews:∀j u,news[j]? = some u->w.cell? (a.add j)=some u) (h1:∀u ∈ news,u.oneCell'=true)
  (hroom:sLen+m<=sCap) (hfit:off+sLen*i.size+news.length<=cur.size) :
  (Xf #[t,t] ty #[.slice (some ⟨g,off,none⟩) sLen sCap,.slice (some a) m c]).run P w =
   .ok (.slice (some ⟨g,off,none⟩) (sLen+m) sCap) (w.setRow g (cur.toList.take (off+sLen*i.size)++news++cur.toList.drop (off+sLen*i.size+news.length)).toArray):=by
 have hf:=run_firstCells_some (P:=P) w i.size m a m c news hl hnews;have hst:=run_storeCells_at P g (off+sLen*i.size) e news 0 cur w hg (by simpa using hfit) h1;simp only [Xp] at hst;have ha:(⟨g,off,none⟩:Addr).add (sLen*i.size)=⟨g,off+sLen*i.size,none⟩:=add_eq _ _ rfl;simp [Xf,run_underlying ht,sizeOf,typeInfo,hi,X5,hroom,hf,ha,hst]
theorem pQ {t e:TypeId} {z:Value} {size bytes:Nat} (S:o8 P t e z size bytes) (w:World) (ty:TypeId) (F:Nat->Prop)
  (v:Value) (n:Nat) (us:List Value) (hs:Sl w F e size v n us) (y:Value) (m:Nat) (news:List Value) (hr:Rd w size y m news) (h1:∀u ∈ news,u.oneCell'=true)
  (h63:n+m<=maxLen) (hbytes:(n+m)*bytes<=140737488355328) :
  ∃v' w',(Xf #[t,t] ty #[v,y]).run P w=.ok v' w'/\Sl w' (fun k=>F k\/w.heap.size<=k) e size v' (n+m) (us++news)/\Fr F w w':=by
 obtain ⟨i,hi,hz,rfl,rfl⟩:=S.info;obtain ⟨hl,ad,c,rfl,r1,r2,r3,r4⟩:=hr;have hsmall:n+m<=9223372036854775807:=by simp only [maxLen] at h63;omega
 have hlen:(us++news).length=(n+m)*i.size:=by rw [Vx,hs.1,hl,WK]
 have grown:∀(old:Nat),old < n+m ->
   Sl (w.drew.alloc (.cells (us.toArray++news.toArray++WJ z.cells (grownCap w (n+m) old e - (n+m))) e)) (fun k=>F k\/w.heap.size<=k) e i.size
    (.slice (some ⟨w.heap.size,0,none⟩) (n+m) (grownCap w (n+m) old e)) (n+m) (us++news) /\
   Fr F w (w.drew.alloc (.cells (us.toArray++news.toArray++WJ z.cells (grownCap w (n+m) old e - (n+m))) e)):=by
  intro old ho;have hge:=grownCap_ge w (n+m) old e;have hcm:grownCap w (n+m) old e<=maxLen:=grownCap_le_maxLen w (n+m) old e h63;refine ⟨⟨hlen,.inr ⟨w.heap.size,0,_,_,rfl,.inr (Vu _),heap_alloc_new w.drew _,hge,hcm,?_,?_⟩⟩,(Fr.refl F w).drew.alloc _⟩
  ·simp only [Array.size_append,XW,size_zeroCells,S.zs,hs.1,hl,<-WK,V5]
   refine Nat.le_of_eq ?_;congr 1;omega
  ·simp only [Array.toList_append,VH,VE]
   rw [<-VE,<-hlen];exact Zz
 cases ad with
 |none=>
  obtain ⟨rfl,rfl⟩:=r3 rfl;have hn:news=[]:=Wh (by simpa using hl);subst hn;refine ⟨v,w,?_,by simpa using hs.mono fun k f=>.inl f,Fr.refl F w⟩
  rcases hs.2 with ⟨rfl,rfl⟩|⟨g,off,cap,cur,rfl,hF,hg,h2,h3,h4,h5⟩
  ·simp [Xf,run_underlying S.under,sizeOf,typeInfo,hi,X5,X8]
  ·simp [Xf,run_underlying S.under,sizeOf,typeInfo,hi,X5,X8,h2,storeCells]
 |some a=>
  have hnews:∀j u,news[j]? = some u->w.cell? (a.add j)=some u:=fun j u hj=>by
   have:=r4 a rfl j u hj;rw [add_eq _ _ this.1];exact this.2
  rcases hs.2 with ⟨rfl,rfl⟩|⟨g,off,cap,cur,rfl,hF,hg,hnc,hcm,hcs,htake⟩
  ·have hx:us=[]:=Wh (by simpa using hs.1)
   subst hx;by_cases hm:m=0
   ·subst hm
    have hn:news=[]:=Wh (by simpa using hl);subst hn;refine ⟨.slice none 0 0,w,?_,Sl.nil w _ e i.size,Fr.refl F w⟩;simp [Xf,run_underlying S.under,sizeOf,typeInfo,hi,X5,X8,loadCells,loadCellsFrom]
   ·have hr:=run_append_nil (P:=P) w t ty e i z S.under hi hz a m c news hl hnews (by omega) (by omega) (by have hb:=hbytes;simp only [V5] at hb;omega)
    have hgr:=grown 0 (by omega);simp only [V5,WT,Array.empty_append] at hgr ⊢;exact ⟨_,_,hr,hgr.1,hgr.2⟩
  ·by_cases hroom:n+m<=cap
   ·have hfit:off+n*i.size+news.length<=cur.size:=by
     have:(n+m)*i.size<=cap*i.size:=Xn _ hroom;rw [WK] at this;rw [hl];omega
    have hrun:=kU (P:=P) w t ty e i S.under hi g off n cap cur hg a m c news hl hnews h1 hroom hfit;refine ⟨_,_,hrun,⟨hlen,.inr ⟨g,off,cap,_,rfl,.inl hF,setRow_heap w g cur _ e _ hg,hroom,hcm,?_,?_⟩⟩,⟨rfl,rfl,rfl,by simp,fun k _ hk=>setRow_other w g k _ (fun e=>hk (by rw [e];exact hF))⟩⟩
    ·simp only [XW,Vx,VW,V9,X9]
     omega
    ·have hl1:(List.take (off+n*i.size) cur.toList).length=off+n*i.size:=by
      rw [VW,X9];omega
     simp only [VE];rw [List.drop_append_of_le_length (by rw [hl1];omega),YG];have e1:off+n*i.size - off=n*i.size:=by omega
     rw [e1,htake,<-VE,<-hlen];exact Zz
   ·have holds:∀j u,us[j]? = some u->w.cell? ((⟨g,off,none⟩:Addr).add j)=some u:=fun j u hj=>by
     rw [add_eq _ _ rfl];exact Sl.cell hs j u hj
    have hrun:=run_append_grow (P:=P) w t ty e i z S.under hi hz ⟨g,off,none⟩ n cap us hs.1 holds a m c news hl hnews (by omega) (by omega) (growslice_fits (by omega) hbytes);have hgr:=grown cap (by omega);exact ⟨_,_,hrun,hgr.1,hgr.2⟩
end
theorem cQ {P:Program} {t e:TypeId} {z:Value} {size bytes:Nat} (S:o8 P t e z size bytes) {w:World} {ops:Array Oper} {rest:List Oper} {o:Oper} {a:Act} {Q:Exit->Act->World->Prop}
  (hg:o.guard=none) (s x:Operand) (hop:o.op=Yy { callee:=Xg Xw,args := #[s,x],argTypes := #[t,t] })
  (F:Nat->Prop) (v:Value) (n:Nat) (us:List Value) (hs:a.eval s=v) (hown:Sl w F e size v n us)
  (y:Value) (m:Nat) (news:List Value) (hx:a.eval x=y) (hr:Rd w size y m news) (h1:∀u ∈ news,u.oneCell'=true)
  (b1:n+m<=maxLen) (b2:(n+m)*bytes<=140737488355328)
  (hK:∀v' w',Sl w' (fun k=>F k\/w.heap.size<=k) e size v' (n+m) (us++news)->Fr F w w'->wpList P ops Q rest (a.put o.dst v') w') :
  wpList P ops Q (o::rest) a w:=by
 refine wpList_plain hg fun K hK'=>?_
 obtain ⟨v',w',hrun,h2,h3⟩:=pQ S w o.type F v n us hown y m news hr h1 b1 b2;unfold WZ execOp;simp only [hop,resolve,invoke,builtin,Yp,Yo,XL,XQ,Yd,Yl,hs,hx,hrun];exact hK' _ _ (hK v' w' h2 h3)
theorem υ {P:Program} {t e:TypeId} {z:Value} {size bytes:Nat} (S:o8 P t e z size bytes) {ops:Array Oper} {o:Oper} {a:Act} {w:World} {K:Act->World->Prop} {Q:Exit->Act->World->Prop} {E:Prop}
  (hg:o.guard=none) (s x:Operand) (hop:o.op=Yy { callee:=Xg Xw,args := #[s,x],argTypes := #[t,t] })
  (F:Nat->Prop) (v:Value) (n:Nat) (us:List Value) (hs:a.eval s=v) (hown:Sl w F e size v n us)
  (y:Value) (m:Nat) (news:List Value) (hx:a.eval x=y) (hr:Rd w size y m news) (h1:∀u ∈ news,u.oneCell'=true)
  (b1:n+m<=maxLen) (b2:(n+m)*bytes<=140737488355328)
  (hK:∀v' w',Sl w' (fun k=>F k\/w.heap.size<=k) e size v' (n+m) (us++news)->Fr F w w'->K (a.put o.dst v') w') :
  if VN o (yielded ops a.tmps)=true then WZ P o a w K Q else E:=by
 have hw:VN o (yielded ops a.tmps)=true:=by simp [VN,hg]
 rw [if_pos hw];obtain ⟨v',w',hrun,h2,h3⟩:=pQ S w o.type F v n us hown y m news hr h1 b1 b2;unfold WZ execOp;simp only [hop,resolve,invoke,builtin,Yp,Yo,XL,XQ,Yd,Yl,hs,hx,hrun];exact hK v' w' h2 h3
theorem Sl.head {w:World} {F:Nat->Prop} {e:TypeId} {size:Nat} {v:Value} {n:Nat} {us:List Value} (h:Sl w F e size v n us) (hn:0 < n):∃g off cap,v=.slice (some ⟨g,off,none⟩) n cap/\F g/\n<=cap:=by
 rcases h.2 with ⟨_,h0⟩|⟨g,off,cap,cur,rfl,hF,_,hc,_⟩
 ·omega
 ·exact ⟨g,off,cap,rfl,hF,hc⟩
theorem Sl.shape {w:World} {F:Nat->Prop} {e:TypeId} {size:Nat} {v:Value} {n:Nat} {us:List Value} (h:Sl w F e size v n us):∃a cap,v=.slice a n cap:=by
 rcases h.2 with ⟨rfl,rfl⟩|⟨g,off,cap,cur,rfl,hF,_⟩
 ·exact ⟨none,0,rfl⟩
 ·exact ⟨_,cap,rfl⟩
theorem Sl.bound {w:World} {F:Nat->Prop} {e:TypeId} {size:Nat} {v:Value} {n:Nat} {us:List Value} (h:Sl w F e size v n us):Sl w (fun k=>F k/\k < w.heap.size) e size v n us:=by
 obtain ⟨hl,h|⟨g,off,cap,cur,rfl,hf,hg,h1⟩⟩:=h
 ·exact ⟨hl,.inl h⟩
 ·exact ⟨hl,.inr ⟨g,off,cap,cur,rfl,⟨hf,lt_of_block hg⟩,hg,h1⟩⟩
theorem Sl.alloc {w:World} {F:Nat->Prop} {e:TypeId} {size:Nat} {v:Value} {n:Nat} {us:List Value} (h:Sl w F e size v n us) (o:Obj):Sl (w.alloc o) F e size v n us:=
 h.keep fun k _ hk=>WA w o k hk
theorem Sl.drew {w:World} {F:Nat->Prop} {e:TypeId} {size:Nat} {v:Value} {n:Nat} {us:List Value} (h:Sl w F e size v n us):Sl w.drew F e size v n us:=h.keep fun _ _ _=>rfl
theorem iA (w:World) (g:Nat) (u:Value) (T:TypeId) (hg:g=w.heap.size):Rd (w.alloc (.cells #[u] T)) 1 (.slice (some ⟨g,0,none⟩) 1 1) 1 [u]:=by
 subst hg;refine ⟨rfl,_,1,rfl,Vu _,by decide,(fun e=>by cases e),fun b hb j v hj=>?_⟩;obtain rfl:=VM hb;refine ⟨rfl,?_⟩;have h0:(w.alloc (.cells #[u] T)).heap[w.heap.size]? = some (.cells #[u] T):=heap_alloc_new w _;simp only [XF,h0,V5]
 match j,hj with
 |0,hj=>simpa using hj
def JX (w:World) (D:Nat->Prop) (v:Value) (bs:List (BitVec 8)):Prop:=By w v bs/\∀b,v.ownBlock=some b->D b
theorem JX.keep {w w':World} {D:Nat->Prop} {v:Value} {bs:List (BitVec 8)} (h:JX w D v bs) (hk:∀k,D k->k < w.heap.size->w'.heap[k]? = w.heap[k]?):JX w' D v bs:=
 ⟨Rd.keep h.1 fun k e hl=>hk k (h.2 k e) hl,h.2⟩
theorem JX.mono {w:World} {D E:Nat->Prop} {v:Value} {bs:List (BitVec 8)} (h:JX w D v bs) (hD:∀k,D k->E k):JX w E v bs:=⟨h.1,fun b e=>hD b (h.2 b e)⟩

abbrev Lab:=Nat->Nat
def Lab.is (L:Lab) (i:Nat):Nat->Prop:=fun k=>L k=i
def Lab.new (L:Lab) (w:World) (i:Nat):Lab:=fun k=>if k < w.heap.size then L k else i
theorem Lab.zy {L:Lab} {w:World} {i k:Nat} (h:k < w.heap.size):L.new w i k=L k:=if_pos h
structure KL (O:World->(Nat->Prop)->Prop):Prop where
 keep:∀ {w w' F},O w F->w.heap.size<=w'.heap.size->(∀k,F k->k < w.heap.size->w'.heap[k]? = w.heap[k]?)->O w' (fun k=>F k/\k < w.heap.size)
 mono:∀ {w F G},O w F->(∀k,F k->G k)->O w G
theorem aK (w:World) (o:Obj):Below w.heap.size w (w.alloc o):=(VQ _ _).alloc (Vu _) _
theorem bS (w:World) (n:Nat):Below w.heap.size w (w.drewN n):=⟨rfl,rfl,rfl,Vu _,fun _ _=>rfl⟩
def Blk (p:Nat) (o:Obj) (w:World) (F:Nat->Prop):Prop:=w.heap[p]? = some o/\F p
theorem Blk.thing (p:Nat) (o:Obj):KL (Blk p o):=⟨fun ⟨h,f⟩ _ hk=>⟨(hk p f (lt_of_block h)).trans h,f,lt_of_block h⟩,fun ⟨h,f⟩ hG=>⟨h,hG p f⟩⟩

abbrev BS:=Nat->Prop
structure Th where
 on:World->BS->BS->Prop
 keep:∀ {w w':World} {F Z:BS},on w F Z->w.heap.size<=w'.heap.size->(∀k,F k\/Z k->k < w.heap.size->w'.heap[k]? = w.heap[k]?)->on w' (fun k=>F k/\k < w.heap.size) (fun k=>Z k/\k < w.heap.size)
 mono:∀ {w:World} {F Z G Y:BS},on w F Z->(∀k,F k->G k)->(∀k,Z k->Y k)->on w G Y
section
variable {F G Z Y:BS} {W w w':World} {ts:List Th} {T:Th} {i:Nat}
theorem Th.stay (T:Th) (h:T.on w F Z) (hs:w.heap.size<=w'.heap.size) (hk:∀k,F k\/Z k->k < w.heap.size->w'.heap[k]? = w.heap[k]?) (hG:∀k,F k->k < w.heap.size->G k) (hY:∀k,Z k->k < w.heap.size->Y k):T.on w' G Y:=
 T.mono (T.keep h hs hk) (fun k h=>hG k h.1 h.2) fun k h=>hY k h.1 h.2
def Star (ts:List Th) (w:World) (F Z:BS):Prop:=∃M:Lab,(∀j (T:Th),ts[j]? = some T->T.on w (M.is (j+1)) Z)/\∀k,M k≠0->F k
theorem Star.mono (h:Star ts w F Z) (hF:∀k,F k->G k) (hZ:∀k,Z k->Y k):Star ts w G Y:=by
 obtain ⟨M,h1,h2⟩:=h;exact ⟨M,fun j T hj=>T.mono (h1 j T hj) (fun _ h=>h) hZ,fun k hk=>hF k (h2 k hk)⟩
theorem Star.keep (h:Star ts w F Z) (hs:w.heap.size<=w'.heap.size) (hk:∀k,F k\/Z k->k < w.heap.size->w'.heap[k]? = w.heap[k]?):Star ts w' (fun k=>F k/\k < w.heap.size) (fun k=>Z k/\k < w.heap.size):=by
 obtain ⟨M,h1,h2⟩:=h;refine ⟨fun k=>if k < w.heap.size then M k else 0,fun j T hj=>?_,fun k hM=>?_⟩
 ·refine T.mono (T.keep (h1 j T hj) hs fun k hM hl=>hk k (hM.imp (fun hM=>h2 k (by have:M k=j+1:=hM;omega)) id) hl) (fun k ⟨hM,hl⟩=>?_) fun k h=>h
  show (if k < w.heap.size then M k else 0)=j+1;rw [if_pos hl];exact hM
 ·by_cases hl:k < w.heap.size
  ·have:(if k < w.heap.size then M k else 0)≠0:=hM
   rw [if_pos hl] at this;exact ⟨h2 k this,hl⟩
  ·exact absurd (if_neg hl) hM
def Kw (ts:List Th):Th:=⟨Star ts,Star.keep,Star.mono⟩
theorem Star.nil (w:World) (F Z:BS):Star [] w F Z:=⟨fun _=>0,fun j T h=>by simp at h,fun k h=>(h rfl).elim⟩
theorem Star.cons (h:T.on w F Z) (hs:Star ts w G Z) (hd:Dj F G) {H:BS} (hF:∀k,F k->H k) (hG:∀k,G k->H k):Star (T::ts) w H Z:=by
 classical
 obtain ⟨M,h1,h2⟩:=hs;refine ⟨fun k=>if F k then 1 else if M k=0 then 0 else M k+1,fun j T' hj=>?_,fun k hk=>?_⟩
 ·match j,hj with
  |0,hj=>
   obtain rfl:T=T':=by simpa using hj
   exact T.mono h (fun k hk=>if_pos hk) fun _ h=>h
  |j+1,hj=>
   refine T'.mono (h1 j T' (by simpa using hj)) (fun k hk=>?_) fun _ h=>h
   have hk':M k=j+1:=hk;have hn:¬F k:=fun f=>hd k f (h2 k (by omega))
   show (if F k then 1 else if M k=0 then 0 else M k+1)=j+1+1;rw [if_neg hn,if_neg (by omega),hk']
 ·by_cases hf:F k
  ·exact hF k hf
  ·by_cases hm:M k=0
   ·exact absurd (show (if F k then 1 else if M k=0 then 0 else M k+1)=0 by rw [if_neg hf,if_pos hm]) hk
   ·exact hG k (h2 k hm)
theorem Star.one (h:T.on w F Z):Star [T] w F Z:=Star.cons (G:=fun _=>False) h (Star.nil w _ Z) (fun _ _ f=>f) (fun _ h=>h) fun _ f=>f.elim
theorem Star.yY (h:Star (T::ts) w F Z):∃A B,T.on w A Z/\Star ts w B Z/\Dj A B/\(∀k,A k->F k)/\∀k,B k->F k:=by
 obtain ⟨M,h1,h2⟩:=h;refine ⟨M.is 1,fun k=>M k≠0/\M k≠1,h1 0 T rfl,⟨fun k=>if M k=0 then 0 else M k - 1,fun j T' hj=>?_,fun k hk=>?_⟩,fun k a b=>b.2 a,fun k a=>h2 k (by have:M k=1:=a;omega),fun k b=>h2 k b.1⟩
 ·refine T'.mono (h1 (j+1) T' (by simpa using hj)) (fun k hk=>?_) fun _ h=>h
  have hk':M k=j+1+1:=hk;show (if M k=0 then 0 else M k - 1)=j+1;rw [if_neg (by omega),hk'];rfl
 ·by_cases hm:M k=0
  ·exact absurd (if_pos hm) hk
  ·refine ⟨hm,fun h=>hk ?_⟩
   show (if M k=0 then 0 else M k - 1)=0;rw [if_neg hm,h]
theorem Star.get (h:Star ts w F Z) (hi:ts[i]? = some T):T.on w F Z:=by
 obtain ⟨M,h1,h2⟩:=h;exact T.mono (h1 i T hi) (fun k hk=>h2 k (by have:M k=i+1:=hk;omega)) fun _ h=>h
def dY (F Z:BS) (W:World) (ts:List Th) (w:World):Prop:=∃L:Lab,Fr F W w/\(∀k,k < W.heap.size->¬F k->(L k=0\/L k=1)/\(L k=1↔Z k))/\∀i (T:Th),ts[i]? = some T->T.on w (L.is (i+2)) (L.is 1)
def lS (w:World) (G Z:BS) (ts:List Th) (w':World):Prop:=Fr G w w'/\∃Y,(∀k,Y k->Z k\/G k\/w.heap.size<=k)/\Star ts w' (fun k=>(G k\/w.heap.size<=k)/\¬Y k) Y
theorem dY.fr (h:dY F Z W ts w):Fr F W w:=by obtain ⟨L,h,_⟩:=h;exact h
theorem dY.start (h:Star ts W F Z) (hd:Dj F Z):dY F Z W ts W:=by
 obtain ⟨M,h1,h2⟩:=h
 classical
 refine ⟨fun k=>if Z k then 1 else if M k=0 then 0 else M k+1,Fr.refl _ _,fun k _ hn=>?_,fun i T hi=>T.mono (h1 i T hi) (fun k hk=>?_) fun k hk=>if_pos hk⟩
 ·have hm:M k=0:=by
   by_cases h:M k=0
   ·exact h
   ·exact (hn (h2 k h)).elim
  by_cases hz:Z k
  ·have e:(if Z k then 1 else if M k=0 then 0 else M k+1)=1:=if_pos hz
   exact ⟨.inr e,fun _=>hz,fun _=>e⟩
  ·have e:(if Z k then 1 else if M k=0 then 0 else M k+1)=0:=by rw [if_neg hz,if_pos hm]
   exact ⟨.inl e,fun h=>absurd (e.symm.trans h) (by decide),fun h=>(hz h).elim⟩
 ·have hk':M k=i+1:=hk
  have hz:¬Z k:=fun z=>hd k (h2 k (by omega)) z
  show (if Z k then 1 else if M k=0 then 0 else M k+1)=i+2;rw [if_neg hz,if_neg (by omega),hk']
theorem dY.mO (F Z:BS) (hd:Dj F Z) (W:World):dY F Z W [] W:=dY.start (Star.nil W F Z) hd
theorem dY.own (h:dY F Z W ts w) (hb:Below w.heap.size w w'):dY F Z W ts w':=by
 obtain ⟨L,h1,h2,h3⟩:=h;refine ⟨L.new w 1,h1.of_below hb,fun k hk hn=>?_,fun i T hi=>T.stay (h3 i T hi) hb.size (fun k _ hl=>hb.block k hl) (fun k e hl=>(Lab.zy hl).trans e) fun k e hl=>(Lab.zy hl).trans e⟩;have:=h2 k hk hn;rw [Lab.zy (VX hk h1.size)];exact this
theorem dY.drew (h:dY F Z W ts w):dY F Z W ts w.drew:=h.own (bS w 1)
theorem dY.drewN (h:dY F Z W ts w) (n:Nat):dY F Z W ts (w.drewN n):=h.own (bS w n)
theorem dY.alloc (h:dY F Z W ts w) (o:Obj):dY F Z W ts (w.alloc o):=h.own (aK w o)
theorem dY.get (h:dY F Z W ts w) (i:Nat) {T:Th} (hi:ts[i]? = some T):∃G Y,T.on w G Y:=by obtain ⟨L,_,_,h⟩:=h;exact ⟨_,_,h i T hi⟩
theorem aA {α : Type} {l:List α} {i:Nat} {a : α} (h:l[i]? = some a):i < l.length:=by
 rcases WV i l.length with h'|h'
 ·exact h'
 ·rw [VT h'] at h;cases h
theorem dY.use (h:dY F Z W ts w) (i:Nat) {T:Th} (hi:ts[i]? = some T):∃G Y,T.on w G Y/\Dj G Y/\(∀k,k < W.heap.size->¬F k->¬G k/\(Z k->Y k))/\(∀j (T':Th),j≠i->ts[j]? = some T'->∃H,Dj G H/\Dj H Y/\T'.on w H Y) /\
  ∀w' (T':Th) (rest:List Th),lS w G Y (T'::rest) w'->dY F Z W (ts.set i T'++rest) w':=by
 obtain ⟨L,h1,h2,h3⟩:=h;have hil:=aA hi;refine ⟨L.is (i+2),L.is 1,h3 i T hi,fun k a b=>?_,fun k hk hn=>⟨fun hG=>?_,(h2 k hk hn).2.2⟩,fun j T' hj hT=>⟨L.is (j+2),fun k a b=>?_,fun k a b=>?_,h3 j T' hT⟩,fun w' T' rest hst=>?_⟩
 ·have a':L k=i+2:=a
  have b':L k=1:=b;omega
 ·have:=(h2 k hk hn).1
  have hG':L k=i+2:=hG;omega
 ·have a':L k=i+2:=a
  have b':L k=j+2:=b;omega
 ·have a':L k=j+2:=a
  have b':L k=1:=b;omega
 ·classical
  obtain ⟨hf,Y,hY,M,m1,m2⟩:=hst;let L':Lab:=fun k=>if Y k then 1 else if M k=0 then (if k < w.heap.size then (if L k=i+2 then 0 else L k) else 0) else if M k=1 then i+2 else ts.length+M k
  have hold:∀k,k < w.heap.size->L k≠i+2->¬(Y k/\L k≠1)->L' k=L k:=fun k hl hn hy=>by
   by_cases y:Y k
   ·have:L k=1:=by
     by_cases h:L k=1
     ·exact h
     ·exact (hy ⟨y,h⟩).elim
    show (if Y k then 1 else _)=_;rw [if_pos y,this]
   ·have hm:M k=0:=by
     by_cases hm:M k=0
     ·exact hm
     ·exact ((m2 k hm).1.elim (fun g=>(hn g).elim) fun g=>by omega)
    show (if Y k then 1 else if M k=0 then (if k < w.heap.size then (if L k=i+2 then 0 else L k) else 0) else _)=_;rw [if_neg y,if_pos hm,if_pos hl,if_neg hn]
  have Qk:∀k,k < w.heap.size->L k≠i+2->¬(Y k/\L k≠1):=fun k hl hn ⟨y,h⟩=>(hY k y).elim (fun z=>h z) fun g=>g.elim (fun g=>hn g) fun g=>by omega
  refine ⟨L',?_,?_,?_⟩
  ·exact h1.trans hf fun x hx=>by
    by_cases hl:x < W.heap.size
    ·refine .inl ?_
     by_cases hF:F x
     ·exact hF
     ·have:=(h2 x hl hF).1
      have hx':L x=i+2:=hx;omega
    ·exact .inr (by omega)
  ·intro k hk hn
   have hkw:=VX hk h1.size;have h0:=h2 k hk hn;have hne:L k≠i+2:=by have:=h0.1;omega
   rw [hold k hkw hne (Qk k hkw hne)];exact h0
  ·have aab:∀k,L k=1->k < w.heap.size->L' k=1:=fun k e hl=>by
    rw [hold k hl (by omega) (fun h=>h.2 e)];exact e
   intro j T'' hj;by_cases hjl:j < ts.length
   ·rw [VO (by simpa using hjl)] at hj
    by_cases hji:j=i
    ·subst hji
     rw [List.getElem?_set_self hjl] at hj;obtain rfl:=VM hj;refine T'.mono (m1 0 T' rfl) (fun k hk=>?_) fun k hk=>?_
     ·have hk':M k=1:=hk
      have hny:=(m2 k (by omega)).2;show (if Y k then 1 else if M k=0 then _ else if M k=1 then j+2 else _)=j+2;rw [if_neg hny,if_neg (by omega),if_pos hk']
     ·show (if Y k then 1 else _)=1
      rw [if_pos hk]
    ·rw [List.getElem?_set_ne (fun e=>hji e.symm)] at hj
     refine T''.stay (h3 j T'' hj) hf.size (fun k hk hl=>hf.block k hl fun g=>?_) (fun k hk hl=>?_) fun k hk hl=>aab k hk hl
     ·have h4:L k=i+2:=g
      rcases hk with hk|hk
      ·have h3:L k=j+2:=hk
       omega
      ·have h3:L k=1:=hk
       omega
     ·have h3:L k=j+2:=hk
      show L' k=j+2;rw [hold k hl (by omega) (Qk k hl (by omega))];exact h3
   ·rw [VP (by simpa using XI hjl),List.length_set] at hj
    have:=m1 (j - ts.length+1) T'' (by simpa using hj);refine T''.mono this (fun k hk=>?_) fun k hk=>?_
    ·have hk':M k=j - ts.length+1+1:=hk
     have hny:=(m2 k (by omega)).2;show (if Y k then 1 else if M k=0 then _ else if M k=1 then i+2 else ts.length+M k)=j+2;rw [if_neg hny,if_neg (by omega),if_neg (by omega),hk'];omega
    ·show (if Y k then 1 else _)=1
     rw [if_pos hk]
theorem dY.adds (h : dY F Z W ts w) {rest : List Th} (hn : lS w (fun _ => False) (fun k => k < W.heap.size ∧ Z k ∧ ¬ F k) rest w') : dY F Z W (ts ++ rest) w' := by
  classical
  obtain ⟨L, h1, h2, h3⟩ := h;obtain ⟨hf, Y, hY, M, m1, m2⟩ := hn;let L' : Lab := fun k => if k < w.heap.size then L k else if Y k then 1 else if M k = 0 then 0 else ts.length + M k + 1
  have hold : ∀ k, k < w.heap.size → L' k = L k := fun k hl => if_pos hl
  have hYp : ∀ k, Y k → L' k = 1 := fun k y => by
    by_cases hl : k < w.heap.size
    · rw [hold k hl]
      rcases hY k y with ⟨h4, h5, h6⟩ | h4 | h4
      · exact (h2 k h4 h6).2.2 h5
      · exact h4.elim
      · omega
    · show (if k < w.heap.size then _ else if Y k then 1 else _) = 1
      rw [if_neg hl, if_pos y]
  refine ⟨L', ⟨hf.os.trans h1.os, hf.tape.trans h1.tape, hf.output.trans h1.output, VC h1.size hf.size, fun k hk hn => (hf.block k (VX hk h1.size) fun f => f).trans (h1.block k hk hn)⟩, fun k hk hn => ?_, fun j T hj => ?_⟩
  · rw [hold k (VX hk h1.size)]; exact h2 k hk hn
  · by_cases hjl : j < ts.length
    · rw [VO hjl] at hj
      exact T.stay (h3 j T hj) hf.size (fun k _ hl => hf.block k hl fun f => f) (fun k hk hl => (hold k hl).trans hk) fun k hk hl => (hold k hl).trans hk
    · rw [VP (XI hjl)] at hj
      refine T.mono (m1 _ T hj) (fun k hk => ?_) hYp;have hk' : M k = j - ts.length + 1 := hk;have hm := m2 k (by omega)
      have hl : ¬ k < w.heap.size := by rcases hm.1 with h | h
                                        · exact h.elim
                                        · omega
      show (if k < w.heap.size then _ else if Y k then 1 else if M k = 0 then 0 else ts.length + M k + 1) = j + 2;rw [if_neg hl, if_neg hm.2, if_neg (by omega), hk']; omega
theorem lS.news {rest:List Th} (hb:Below w.heap.size w w') (hn:Star rest w' (fun k=>w.heap.size<=k) Z) (hz:∀k,Z k->k < w.heap.size):lS w (fun _=>False) Z rest w':=
 ⟨⟨hb.os,hb.tape,hb.output,hb.size,fun k hl _=>hb.block k hl⟩,Z,fun k h=>.inl h,hn.mono (fun k h=>⟨.inr h,fun z=>by have:=hz k z;omega⟩) fun _ h=>h⟩
theorem dY.add (h:dY F Z W ts w) {T:Th} (hb:Below w.heap.size w w') (hn:T.on w' (fun k=>w.heap.size<=k) (fun _=>False)):dY F Z W (ts++[T]) w':=
 h.adds ⟨⟨hb.os,hb.tape,hb.output,hb.size,fun k hl _=>hb.block k hl⟩,fun _=>False,fun _ f=>f.elim,Star.one (T.mono hn (fun _ h=>⟨.inr h,id⟩) fun _ f=>f)⟩
theorem dY.mM (h:dY F Z W ts w) {T:Th} (hb:Below w.heap.size w w') (hn:T.on w' (fun _=>False) (fun k=>w.heap.size<=k)):dY F Z W (ts++[T]) w':=
 h.adds ⟨⟨hb.os,hb.tape,hb.output,hb.size,fun k hl _=>hb.block k hl⟩,fun k=>w.heap.size<=k,fun _ f=>.inr (.inr f),Star.one (T.mono hn (fun _ h=>h.elim) fun _ f=>f)⟩
theorem dY.r_ (h:dY F Z W ts w) {T:Th} (hn:T.on W (fun _=>False) (fun k=>Z k/\¬F k)):dY F Z W (ts++[T]) w:=by
 obtain ⟨L,h1,h2,h3⟩:=h;refine ⟨L,h1,h2,fun j T' hj=>?_⟩;by_cases hjl:j < ts.length
 ·rw [VO hjl] at hj;exact h3 j T' hj
 ·rw [VP (XI hjl)] at hj
  obtain rfl:T=T':=by
   have:j - ts.length=0:=by have:=aA hj;simp at this;omega
   rw [this] at hj;simpa using hj
  exact T.stay hn h1.size (fun k hk hl=>h1.block k hl fun f=>hk.elim id fun z=>z.2 f) (fun k f _=>f.elim) fun k hz hl=>(h2 k hl hz.2).2.2 hz.1
theorem dY.pick (h:dY F Z W ts w) (js:List Nat) (us:List Th) (hn:js.Nodup) (he:js.map (fun j=>ts[j]?)=us.map some):dY F Z W us w:=by
 obtain ⟨L,h1,h2,h3⟩:=h;have hlen:js.length=us.length:=by have:=congrArg List.length he;simpa using this
 obtain ⟨L',hL⟩:∃L':Lab,∀k,L' k=if L k<=1 then L k else (match js.idxOf? (L k - 2) with|some m=>m+2|none=>0):=⟨_,fun _=>rfl⟩
 refine ⟨L',h1,fun k hk hF=>?_,fun m T hm=>?_⟩
 ·have:=h2 k hk hF
  rw [show L' k=L k by rw [hL,if_pos (by have:=this.1;omega)]];exact this
 ·have Dn:m < js.length:=by rw [hlen];exact aA hm
  have e1:(js.map (fun j=>ts[j]?))[m]? = (us.map some)[m]?:=by rw [he]
  rw [VG,VG,hm,Vw Dn] at e1;have e2:ts[js[m]]? = some T:=by simpa using e1
  refine T.mono (h3 _ T e2) (fun k hk=>?_) fun k hk=>?_
  ·have hk':L k=js[m]+2:=hk
   show L' k=m+2
   have hidx:js.idxOf? js[m]=some m:=by
    rw [List.idxOf?_eq_some_iff];refine ⟨Dn,by simp,fun j hj e=>?_⟩;have e':js[j]=js[m]:=by simpa using e
    exact List.pairwise_iff_getElem.1 hn j m (by omega) Dn hj e'
   rw [hL,if_neg (by omega),hk',Nat.add_sub_cancel,hidx]
  ·have hk':L k=1:=hk
   show L' k=1;rw [hL,if_pos (by omega),hk']
theorem dY.fold {Da:List Th} (h:dY F Z W (Da++ts) w) {T:Th} (hT:∀G Y,Dj G Y->Star Da w G Y->T.on w G Y):dY F Z W (T::ts) w:=by
 obtain ⟨L,h1,h2,h3⟩:=h;obtain ⟨L',hL⟩:∃L':Lab,∀k,L' k=if L k<=1 then L k else if L k<=Da.length+1 then 2 else L k+1 - Da.length:=⟨_,fun _=>rfl⟩
 refine ⟨L',h1,fun k hk hF=>?_,fun m T' hm=>?_⟩
 ·have:=h2 k hk hF
  rw [show L' k=L k by rw [hL,if_pos (by have:=this.1;omega)]];exact this
 ·have hz:∀k,L.is 1 k->L'.is 1 k:=fun k hk=>by
   have hk':L k=1:=hk;show L' k=1;rw [hL,if_pos (by omega),hk']
  match m,hm with
  |0,hm=>
   obtain rfl:T=T':=by simpa using hm
   obtain ⟨M,hM⟩:∃M:Lab,∀k,M k=if 2<=L k/\L k<=Da.length+1 then L k - 1 else 0:=⟨_,fun _=>rfl⟩
   refine T.mono (hT (fun k=>2<=L k/\L k<=Da.length+1) (L.is 1) (fun k a b=>by have b':L k=1:=b;omega) ⟨M,fun j T' hj=>?_,fun k hk=>?_⟩) (fun k hk=>?_) hz
   ·have hjl:=aA hj
    refine T'.mono (h3 j T' (by rw [VO hjl];exact hj)) (fun k hk=>?_) fun _ h=>h
    have hk':L k=j+2:=hk;show M k=j+1;rw [hM,if_pos (by omega),hk'];rfl
   ·by_cases hl:2<=L k/\L k<=Da.length+1
    ·exact hl
    ·exact absurd (by rw [hM,if_neg hl]) hk
   ·show L' k=0+2
    rw [hL,if_neg (by omega),if_pos hk.2]
  |m+1,hm=>
   refine T'.mono (h3 (m+Da.length) T' (by rw [VP (by omega)];simpa using hm)) (fun k hk=>?_) hz;have hk':L k=m+Da.length+2:=hk;show L' k=m+1+2;rw [hL,if_neg (by omega),if_neg (by omega),hk'];omega
theorem dY.unfold {Da:List Th} {T:Th} (h:dY F Z W (T::ts) w) (hT:∀G Y,Dj G Y->T.on w G Y->Star Da w G Y):dY F Z W (Da++ts) w:=by
 obtain ⟨L,h1,h2,h3⟩:=h;obtain ⟨M,m1,m2⟩:=hT _ _ (fun k a b=>by have a':L k=0+2:=a;have b':L k=1:=b;omega) (h3 0 T rfl);obtain ⟨L',hL⟩:∃L':Lab,∀k,L' k=if L k<=1 then L k else if L k=2 then (if M k=0 then 0 else M k+1) else L k+Da.length - 1:=⟨_,fun _=>rfl⟩
 refine ⟨L',h1,fun k hk hF=>?_,fun j T' hj=>?_⟩
 ·have:=h2 k hk hF
  rw [show L' k=L k by rw [hL,if_pos (by have:=this.1;omega)]];exact this
 ·have hz:∀k,L.is 1 k->L'.is 1 k:=fun k hk=>by
   have hk':L k=1:=hk;show L' k=1;rw [hL,if_pos (by omega),hk']
  by_cases hjl:j < Da.length
  ·rw [VO hjl] at hj
   refine T'.mono (m1 j T' hj) (fun k hk=>?_) hz;have hk':M k=j+1:=hk;have hL2:L k=0+2:=m2 k (by omega);show L' k=j+2;rw [hL,if_neg (by omega),if_pos (by omega),if_neg (by omega),hk']
  ·rw [VP (XI hjl)] at hj
   refine T'.mono (h3 (j - Da.length+1) T' (by simpa using hj)) (fun k hk=>?_) hz;have hk':L k=j - Da.length+1+2:=hk;show L' k=j+2;rw [hL,if_neg (by omega),if_neg (by omega),hk'];omega
theorem dY.did (h:dY F Z W ts w):lS W F Z ts w:=by
 obtain ⟨L,h1,h2,h3⟩:=h;refine ⟨h1,L.is 1,fun k hk=>?_,fun k=>if L k<=1 then 0 else L k - 1,fun j T hj=>T.mono (h3 j T hj) (fun k hk=>?_) fun _ h=>h,fun k hk=>?_⟩
 ·have hk':L k=1:=hk
  by_cases hl:k < W.heap.size
  ·by_cases hF:F k
   ·exact .inr (.inl hF)
   ·exact .inl ((h2 k hl hF).2.1 hk')
  ·exact .inr (.inr (by omega))
 ·have hk':L k=j+2:=hk
  show (if L k<=1 then 0 else L k - 1)=j+1;rw [if_neg (by omega),hk'];rfl
 ·have hL:¬L k<=1:=fun h=>hk (if_pos h)
  refine ⟨?_,fun h=>hL (by have h':L k=1:=h;omega)⟩;by_cases hl:k < W.heap.size
  ·by_cases hF:F k
   ·exact .inl hF
   ·have:=(h2 k hl hF).1;omega
  ·exact .inr (by omega)
theorem dY.below (h:dY (fun _=>False) Z W ts w):Below W.heap.size W w:=h.fr.below (Vu _) fun _ f=>f.elim
end
def dJ (p:Nat) (o:Obj):Th:=⟨fun w F _=>Blk p o w F,fun h hs hk=>(Blk.thing p o).keep h hs fun k f hl=>hk k (.inl f) hl,fun h hF _=>(Blk.thing p o).mono h hF⟩
def aay {O:World->BS->Prop} (T:KL O):Th:=⟨fun w F _=>O w F,fun h hs hk=>T.keep h hs fun k f hl=>hk k (.inl f) hl,fun h hF _=>T.mono h hF⟩
section
variable {F Z:BS} {W w w':World} {ts:List Th}
theorem dY.blk (h:dY F Z W ts w) (i:Nat) {p:Nat} {o:Obj} (hi:ts[i]? = some (dJ p o)):w.heap[p]? = some o:=by obtain ⟨G,Y,h⟩:=h.get i hi;exact h.1
theorem dY.new (h:dY F Z W ts w) (o:Obj):dY F Z W (ts++[dJ w.heap.size o]) (w.alloc o):=h.add (aK w o) ⟨heap_alloc_new w o,Vu _⟩
theorem dY.set (h:dY F Z W ts w) (i:Nat) {p:Nat} {o:Obj} (hi:ts[i]? = some (dJ p o)) (o':Obj) (hf:Fr (fun k=>k=p) w w') (hr:w'.heap[p]? = some o'):dY F Z W (ts.set i (dJ p o')) w':=by
 obtain ⟨G,Y,h1,hd,_,_,h4⟩:=h.use i hi;have:=h4 w' (dJ p o') [] ⟨hf.mono fun k hk=>by subst hk;exact h1.2,Y,fun _ h=>.inl h,Star.one ⟨hr,.inl h1.2,fun y=>hd p h1.2 y⟩⟩;rwa [Wp] at this
theorem dY.nT {T:Th} (h:T.on W F Z) (hd:Dj F Z):dY F Z W [T] W:=dY.start (Star.one h) hd
theorem lS.same {T:Th} {G Y:BS} (hf:Fr G w w') (h:T.on w' G Y) (hd:Dj G Y):lS w G Y [T] w':=⟨hf,Y,fun _ h=>.inl h,Star.one (T.mono h (fun k g=>⟨.inl g,fun y=>hd k g y⟩) fun _ h=>h)⟩
theorem dY.upd (h:dY F Z W ts w) (i:Nat) {T T':Th} (hi:ts[i]? = some T) (k:∀G Y,T.on w G Y->Dj G Y->T'.on w' G Y/\Fr G w w'):dY F Z W (ts.set i T') w':=by
 obtain ⟨G,Y,h1,hd,_,_,h4⟩:=h.use i hi;obtain ⟨h5,h6⟩:=k G Y h1 hd;have:=h4 w' T' [] (lS.same h6 h5 hd);rwa [Wp] at this
theorem dY.grow (h:dY F Z W ts w) (i:Nat) {T T':Th} (hi:ts[i]? = some T) (k:∀G Y,T.on w G Y->Dj G Y->∃H X,(∀k,H k->G k\/w.heap.size<=k)/\(∀k,X k->(Y k/\k < w.heap.size)\/w.heap.size<=k)/\Dj H X/\T'.on w' H X/\Fr G w w'):dY F Z W (ts.set i T') w':=by
 obtain ⟨G,Y,h1,hd,_,_,h4⟩:=h.use i hi;obtain ⟨H,X,h5,h6,h7,h8,h9⟩:=k G Y h1 hd;have:=h4 w' T' [] ⟨h9,X,fun k hx=>(h6 k hx).imp (·.1) .inr,Star.one (T'.mono h8 (fun k hk=>⟨h5 k hk,h7 k hk⟩) fun _ h=>h)⟩;rwa [Wp] at this
theorem Star.two {A B:Th} {G H:BS} (ha:A.on w G Z) (hb:B.on w H Z) (hd:Dj G H) (hG:∀k,G k->F k) (hH:∀k,H k->F k):Star [A,B] w F Z:=Star.cons (G:=H) ha (Star.one hb) hd hG hH
theorem dY.Ko {T:Th} (h:dY F Z W (T::ts) w):lS W F Z [T] w:=(h.pick [0] [T] (by simp) rfl).did
end
def Made (w:World) (T:Th) (w':World):Prop:=Below w.heap.size w w'/\∃N Y:BS,(∀k,N k->w.heap.size<=k)/\(∀k,Y k->w.heap.size<=k)/\Dj N Y/\T.on w' N Y
theorem dY.made {F Z:BS} {W w w':World} {ts:List Th} {T:Th} (h:dY F Z W ts w) (hm:Made w T w'):dY F Z W (ts++[T]) w':=by
 obtain ⟨hb,N,Y,h1,h2,h3,h4⟩:=hm;exact h.adds ⟨⟨hb.os,hb.tape,hb.output,hb.size,fun k hl _=>hb.block k hl⟩,Y,fun k hk=>.inr (.inr (h2 k hk)),Star.one (T.mono h4 (fun k h=>⟨.inr (h1 k h),h3 k h⟩) fun _ h=>h)⟩
theorem lS.aaB {G Z:BS} {w w':World} {T:Th} (hf:Fr G w w') (h:T.on w' (fun k=>G k\/w.heap.size<=k) (fun _=>False)):lS w G Z [T] w':=
 ⟨hf,fun _=>False,fun _ f=>f.elim,Star.one (T.mono h (fun _ g=>⟨g,id⟩) fun _ f=>f)⟩

structure El (α : Type) where
 size:Nat
 rd:World->BS->BS->List Value -> α -> Prop
 len:∀ {w F Z cs a},rd w F Z cs a->cs.length=size
 keep:∀ {w w':World} {F Z cs a},rd w F Z cs a->w.heap.size<=w'.heap.size->(∀k,F k\/Z k->k < w.heap.size->w'.heap[k]? = w.heap[k]?)->rd w' (fun k=>F k/\k < w.heap.size) (fun k=>Z k/\k < w.heap.size) cs a
 mono:∀ {w F Z G Y cs a},rd w F Z cs a->(∀k,F k->G k)->(∀k,Z k->Y k)->rd w G Y cs a
 one:∀ {w F Z cs a},rd w F Z cs a->∀u ∈ cs,u.oneCell'=true
def oV (k:IntKind):El Int where
 size:=1
 rd _ _ _ cs n:=cs=[.int k n]
 len h:=by rw [h];rfl
 keep h _ _:=h
 mono h _ _:=h
 one h u hu:=by rw [h] at hu;obtain rfl:=Wj.1 hu;rfl
def dK:El Nat where
 size:=1
 rd _ _ _ cs n:=cs=[.int .i64 (n:Int)]
 len h:=by rw [h];rfl
 keep h _ _:=h
 mono h _ _:=h
 one h u hu:=by rw [h] at hu;obtain rfl:=Wj.1 hu;rfl
def gV:El Bool where
 size:=1
 rd _ _ _ cs b:=cs=[.bool b]
 len h:=by rw [h];rfl
 keep h _ _:=h
 mono h _ _:=h
 one h u hu:=by rw [h] at hu;obtain rfl:=Wj.1 hu;rfl
def fE (w:World) (Z:BS) (v:Value) (bs:List (BitVec 8)):Prop:=By w v bs/\(0 < bs.length->∀b,v.ownBlock=some b->Z b)
theorem Rd.lt {w:World} {s:Nat} {v:Value} {n:Nat} {us:List Value} (h:Rd w s v n us) (h0:0 < us.length) {b:Nat} (hb:v.ownBlock=some b):b < w.heap.size:=by
 obtain ⟨_,a,cap,rfl,_,_,_,h4⟩:=h
 cases a with
 |none=>cases hb
 |some a=>
  obtain rfl:a.block=b:=by simpa [YM] using hb
  obtain ⟨u,hu⟩:∃u,us[0]? = some u:=⟨us[0],Vw h0⟩;exact Vv w ⟨a.block,a.off+0,none⟩ (h4 a rfl 0 u hu).2
theorem Rd.stay {w w':World} {s:Nat} {v:Value} {n:Nat} {us:List Value} (h:Rd w s v n us) (hk:0 < us.length->∀k,v.ownBlock=some k->k < w.heap.size->w'.heap[k]? = w.heap[k]?):Rd w' s v n us:=by
 by_cases h0:0 < us.length
 ·exact h.keep (hk h0)
 ·obtain ⟨hl,a,cap,rfl,h1,h2,h3,h4⟩:=h
  exact ⟨hl,a,cap,rfl,h1,h2,h3,fun b hb j u hj=>by have:j < us.length:=aA hj;omega⟩
theorem fE.stay {w w':World} {Z:BS} {v:Value} {bs:List (BitVec 8)} (h:fE w Z v bs) (hk:∀k,Z k->k < w.heap.size->w'.heap[k]? = w.heap[k]?):fE w' (fun k=>Z k/\k < w.heap.size) v bs:=
 ⟨Rd.stay h.1 fun h0 k e hl=>hk k (h.2 (by rwa [di] at h0) k e) hl,fun h0 b hb=>⟨h.2 h0 b hb,Rd.lt h.1 (by rwa [di]) hb⟩⟩
theorem fE.mono {w:World} {Z Y:BS} {v:Value} {bs:List (BitVec 8)} (h:fE w Z v bs) (hZ:∀k,Z k->Y k):fE w Y v bs:=⟨h.1,fun h0 b e=>hZ b (h.2 h0 b e)⟩
theorem fE.keep {w w':World} {Z:BS} {v:Value} {bs:List (BitVec 8)} (h:fE w Z v bs) (hk:∀k,Z k->k < w.heap.size->w'.heap[k]? = w.heap[k]?):fE w' Z v bs:=(h.stay hk).mono fun _ h=>h.1
theorem fE.below {w w':World} {Z:BS} {v:Value} {bs:List (BitVec 8)} (h:fE w Z v bs) (hb:Below w.heap.size w w'):fE w' Z v bs:=h.keep fun k _ hl=>hb.block k hl
theorem fE.slice {w:World} {Z:BS} {v:Value} {bs:List (BitVec 8)} (h:fE w Z v bs):∃a c,v=.slice a bs.length c:=by obtain ⟨⟨_,a,c,e,_⟩,_⟩:=h;exact ⟨a,c,e⟩
theorem fE.nil (w:World) (Z:BS):fE w Z (.slice none 0 0) []:=⟨By.of_nil w,fun h=>by simp at h⟩
def ψ:El (List (BitVec 8)) where
 size:=1
 rd w _ Z cs bs:=∃v,cs=[v]/\fE w Z v bs
 len h:=by obtain ⟨v,h,_⟩:=h;rw [h];rfl
 keep h _ hk:=by obtain ⟨v,e,h⟩:=h;exact ⟨v,e,h.stay fun k hz=>hk k (.inr hz)⟩
 mono h _ hZ:=by obtain ⟨v,e,h⟩:=h;exact ⟨v,e,h.mono hZ⟩
 one h u hu:=by
  obtain ⟨v,rfl,⟨_,a,c,rfl,_⟩,_⟩:=h;obtain rfl:u=_:=Wj.1 hu;rfl
def aah {α β : Type} (A:El α) (B:El β):El (α × β) where
 size:=A.size+B.size
 rd w F Z cs x:=∃c d G H,cs=c++d/\(∀k,G k->F k)/\(∀k,H k->F k)/\Dj G H/\A.rd w G Z c x.1/\B.rd w H Z d x.2
 len h:=by obtain ⟨c,d,G,H,rfl,_,_,_,h1,h2⟩:=h;rw [Vx,A.len h1,B.len h2]
 keep h hs hk:=by
  obtain ⟨c,d,G,H,e,g1,g2,g3,h1,h2⟩:=h;exact ⟨c,d,_,_,e,fun k h=>⟨g1 k h.1,h.2⟩,fun k h=>⟨g2 k h.1,h.2⟩,fun k a b=>g3 k a.1 b.1,A.keep h1 hs fun k hh=>hk k (hh.imp (g1 k) id),B.keep h2 hs fun k hh=>hk k (hh.imp (g2 k) id)⟩
 mono h hF hZ:=by
  obtain ⟨c,d,G,H,e,g1,g2,g3,h1,h2⟩:=h;exact ⟨c,d,G,H,e,fun k h=>hF k (g1 k h),fun k h=>hF k (g2 k h),g3,A.mono h1 (fun _ h=>h) hZ,B.mono h2 (fun _ h=>h) hZ⟩
 one h u hu:=by
  obtain ⟨c,d,G,H,rfl,_,_,_,h1,h2⟩:=h
  rcases WY.1 hu with hu|hu
  ·exact A.one h1 u hu
  ·exact B.one h2 u hu
def fK {α : Type} (E:El α) (w:World) (F Z:BS):List Value->List α -> Prop
 |us,[]=>us=[]
 |us,a::xs=>∃cs rest A B,us=cs++rest/\(∀k,A k->F k)/\(∀k,B k->F k)/\Dj A B/\E.rd w A Z cs a/\fK E w B Z rest xs
section
variable {α : Type} {E:El α} {w w':World} {F G Z Y:BS}
theorem fK.length:∀ {F:BS} {us:List Value} {xs:List α},fK E w F Z us xs->us.length=xs.length*E.size
 |_,_,[],h=>by rw [show _=[] from h];simp
 |_,_,a::xs,⟨cs,rest,A,B,e,_,_,_,h1,h2⟩=>by rw [e,Vx,E.len h1,h2.length,List.length_cons,WK];omega
theorem fK.keep:∀ {F:BS} {us:List Value} {xs:List α},fK E w F Z us xs->w.heap.size<=w'.heap.size->(∀k,F k\/Z k->k < w.heap.size->w'.heap[k]? = w.heap[k]?)->fK E w' (fun k=>F k/\k < w.heap.size) (fun k=>Z k/\k < w.heap.size) us xs
 |_,_,[],h,_,_=>h
 |_,_,_::_,⟨cs,rest,_,_,e,g1,g2,g3,h1,h2⟩,hs,hk=>⟨cs,rest,_,_,e,fun k h=>⟨g1 k h.1,h.2⟩,fun k h=>⟨g2 k h.1,h.2⟩,fun k a b=>g3 k a.1 b.1,E.keep h1 hs fun k hh=>hk k (hh.imp (g1 k) id),h2.keep hs fun k hh=>hk k (hh.imp (g2 k) id)⟩
theorem fK.mono:∀ {F G:BS} {us:List Value} {xs:List α},fK E w F Z us xs->(∀k,F k->G k)->(∀k,Z k->Y k)->fK E w G Y us xs
 |_,_,_,[],h,_,_=>h
 |_,_,_,_::_,⟨cs,rest,A,B,e,g1,g2,g3,h1,h2⟩,hF,hZ=>⟨cs,rest,A,B,e,fun k h=>hF k (g1 k h),fun k h=>hF k (g2 k h),g3,E.mono h1 (fun _ h=>h) hZ,h2.mono (fun _ h=>h) hZ⟩
theorem fK.one:∀ {F:BS} {us:List Value} {xs:List α},fK E w F Z us xs->∀u ∈ us,u.oneCell'=true
 |_,_,[],h,u,hu=>by rw [show _=[] from h] at hu;cases hu
 |_,_,a::xs,⟨cs,rest,A,B,e,_,_,_,h1,h2⟩,u,hu=>by
  rw [e] at hu
  rcases WY.1 hu with hu|hu
  ·exact E.one h1 u hu
  ·exact h2.one u hu
theorem fK.append:∀ {F G H:BS} {us vs:List Value} {xs ys:List α},fK E w F Z us xs->fK E w G Z vs ys->Dj F G->(∀k,F k->H k)->(∀k,G k->H k)->fK E w H Z (us++vs) (xs++ys)
 |_,_,_,us,vs,[],ys,h,k,_,_,hG=>by rw [show us=[] from h];exact k.mono hG fun _ h=>h
 |F,G,H,us,vs,a::xs,ys,⟨cs,rest,A,B,e,g1,g2,g3,h1,h2⟩,k,hd,hF,hG=>
  ⟨cs,rest++vs,A,fun k=>B k\/G k,by rw [e,VE],fun k a=>hF k (g1 k a),fun k h=>h.elim (fun b=>hF k (g2 k b)) (hG k),fun k a h=>h.elim (g3 k a) (hd k (g1 k a)),h1,
   fK.append h2 k (fun k b g=>hd k (g2 k b) g) (fun _ b=>.inl b) fun _ g=>.inr g⟩
theorem fK.single {cs:List Value} {a : α} (h:E.rd w F Z cs a):fK E w F Z cs [a]:=⟨cs,[],F,fun _=>False,by simp,fun _ h=>h,fun _ f=>f.elim,fun _ _ f=>f,h,rfl⟩
theorem fK.drop:∀ {F:BS} {us:List Value} {xs:List α} (k:Nat),fK E w F Z us xs->fK E w F Z (us.drop (k*E.size)) (xs.drop k)
 |_,us,[],k,h=>by rw [show us=[] from h];simp;exact rfl
 |_,us,a::xs,0,h=>by simpa using h
 |F,us,a::xs,k+1,⟨cs,rest,A,B,e,_,g2,_,h1,h2⟩=>by
  have:=(h2.drop k).mono g2 fun _ h=>h
  rw [e,Vz]
  have e2:(cs++rest).drop ((k+1)*E.size)=rest.drop (k*E.size):=by
   rw [Zk,E.len h1,Xy (by rw [E.len h1,WK];omega),WT];congr 1;rw [WK];omega
  rw [e2];exact this
theorem fK.get:∀ {F:BS} {us:List Value} {xs:List α} {i:Nat} {a : α},fK E w F Z us xs->xs[i]? = some a->∃cs A,E.rd w A Z cs a/\(∀k,A k->F k)/\∀j,j < E.size->us[i*E.size+j]? = cs[j]?
 |_,us,x::xs,0,a,⟨cs,rest,A,_,e,g1,_,_,h1,_⟩,hi=>by
  obtain rfl:x=a:=by simpa using hi
  refine ⟨cs,A,h1,g1,fun j hj=>?_⟩;rw [e,Nat.zero_mul,V5,VO (by rw [E.len h1];exact hj)]
 |_,us,x::xs,i+1,a,⟨cs,rest,A,B,e,_,g2,_,h1,h2⟩,hi=>by
  obtain ⟨cs',A',h3,h3',h4⟩:=h2.get (by simpa using hi);refine ⟨cs',A',h3,fun k h=>g2 k (h3' k h),fun j hj=>?_⟩;rw [<-h4 j hj,e,VP (by rw [E.len h1,WK];omega),E.len h1];congr 1;rw [WK];omega
theorem fK.focus:∀ {F:BS} {us:List Value} {xs:List α} {i:Nat} {a : α},fK E w F Z us xs->xs[i]? = some a->∃cs A B,E.rd w A Z cs a/\(∀k,A k->F k)/\(∀k,B k->F k)/\Dj A B/\us=us.take (i*E.size)++cs++us.drop ((i+1)*E.size) /\
  ∀(w':World) (cs':List Value) (a' : α) (A' H Y:BS),w.heap.size<=w'.heap.size->(∀k,B k\/Z k->k < w.heap.size->w'.heap[k]? = w.heap[k]?)->E.rd w' A' Y cs' a'->(∀k,A' k->H k/\¬(B k/\k < w.heap.size))->(∀k,B k->k < w.heap.size->H k)->(∀k,Z k->k < w.heap.size->Y k) ->
   fK E w' H Y (us.take (i*E.size)++cs'++us.drop ((i+1)*E.size)) (xs.set i a')
 |F,us,x::xs,0,a,⟨cs,rest,A,B,e,g1,g2,g3,h1,h2⟩,hi=>by
  obtain rfl:x=a:=by simpa using hi
  have hd:(cs++rest).drop E.size=rest:=by rw [<-E.len h1];exact List.drop_left
  refine ⟨cs,A,B,h1,g1,g2,g3,by rw [e];simp [hd],fun w' cs' a' A' H Y hs hk hr hA hB hZ=>?_⟩;refine ⟨cs',rest,A',fun k=>B k/\k < w.heap.size,by rw [e];simp [hd],fun k h=>(hA k h).1,fun k h=>hB k h.1 h.2,fun k a b=>(hA k a).2 b,hr,?_⟩;exact (h2.keep hs hk).mono (fun _ h=>h) fun k h=>hZ k h.1 h.2
 |F,us,x::xs,i+1,a,⟨cs,rest,A,B,e,g1,g2,g3,h1,h2⟩,hi=>by
  obtain ⟨cs1,A1,B1,q1,q2,q3,q4,q5,q6⟩:=h2.focus (i:=i) (by simpa using hi);have hl:=E.len h1
  have e3:∀n,(cs++rest).take ((n+1)*E.size)=cs++rest.take (n*E.size):=fun n=>by
   rw [List.take_append,Wn (by rw [hl,WK];omega),hl];congr 2;rw [WK];omega
  have e4:∀n,(cs++rest).drop ((n+1)*E.size)=rest.drop (n*E.size):=fun n=>by
   rw [Zk,Xy (by rw [hl,WK];omega),WT,hl];congr 1;rw [WK];omega
  refine ⟨cs1,A1,fun k=>A k\/B1 k,q1,fun k h=>g2 k (q2 k h),fun k h=>h.elim (g1 k) fun h=>g2 k (q3 k h),fun k a b=>b.elim (fun b=>g3 k b (q2 k a)) (q4 k a),?_,fun w' cs' a' A' H Y hs hk hr hA hB hZ=>?_⟩
  ·rw [e,e3,e4,VE,VE]
   congr 1;rw [<-VE];exact q5
  ·refine ⟨cs,rest.take (i*E.size)++cs'++rest.drop ((i+1)*E.size),fun k=>A k/\k < w.heap.size,fun k=>H k/\¬(A k/\k < w.heap.size),by rw [e,e3,e4];simp [VE],fun k h=>hB k (.inl h.1) h.2,fun k h=>h.1,fun k a b=>b.2 a,?_,?_⟩
   ·exact E.mono (E.keep h1 hs fun k hh=>hk k (hh.imp .inl id)) (fun _ h=>h) fun k h=>hZ k h.1 h.2
   ·exact q6 w' cs' a' A' _ Y hs (fun k hh=>hk k (hh.imp .inr id)) hr (fun k h=>⟨⟨(hA k h).1,fun h'=>(hA k h).2 ⟨.inl h'.1,h'.2⟩⟩,fun h'=>(hA k h).2 ⟨.inr h'.1,h'.2⟩⟩) (fun k h hl=>⟨hB k (.inr h) hl,fun h'=>g3 k h'.1 (q3 k h)⟩) hZ
end
theorem Sl.Qr {w : World} {F : Nat → Prop} {e : TypeId} {s g off n cap : Nat} {us : List Value} (h : Sl w F e s (.slice (some ⟨g, off, none⟩) n cap) n us) {k : Nat} (hk : k ≤ n) :
    Sl w F e s (.slice (if cap = k then some ⟨g, off, none⟩ else some ⟨g, off + k * s, none⟩) (n - k) (cap - k)) (n - k) (us.drop (k * s)) := by
  obtain ⟨hl, ⟨h, _⟩ | ⟨g', off', cap', cur, e1, hF, hg, h1, h2, h3, h4⟩⟩ := h
  · cases h
  · obtain ⟨⟨rfl, rfl⟩, rfl⟩ : (g = g' ∧ off = off') ∧ cap = cap' := by simpa using e1
    have hm : (n - k) * s = n * s - k * s := ZR n k s;have hm2 : (cap - k) * s = cap * s - k * s := ZR cap k s;have hle : k * s ≤ n * s := Xn s hk;have hle2 : n * s ≤ cap * s := Xn s h1;refine ⟨by rw [V9, hl, hm], .inr ?_⟩;by_cases hc : cap = k
    · rw [if_pos hc]
      have hn : n - k = 0 := by omega
      refine ⟨g, off, cap - k, cur, rfl, hF, hg, by omega, by omega, by rw [hm2]; omega, ?_⟩
      have : us.drop (k * s) = [] := Xy (by rw [hl]; have : n = k := by omega
                                            rw [this]; exact Vu _)
      rw [this, hn]; simp
    · rw [if_neg hc]
      refine ⟨g, off + k * s, cap - k, cur, rfl, hF, hg, by omega, by omega, by rw [hm2]; omega, ?_⟩;rw [← h4, YG, YH];congr 1
def dh {α : Type} (E:El α) (w:World) (Z:BS) (v:Value) (xs:List α):Prop:=∃us,Rd w E.size v xs.length us/\fK E w (fun _=>False) Z us xs/\(0 < us.length->∀b,v.ownBlock=some b->Z b)
section
variable {α : Type} {E:El α} {w w':World} {F G Z Y:BS} {v:Value} {xs:List α}
theorem dh.stay (h:dh E w Z v xs) (hs:w.heap.size<=w'.heap.size) (hk:∀k,Z k->k < w.heap.size->w'.heap[k]? = w.heap[k]?):dh E w' (fun k=>Z k/\k < w.heap.size) v xs:=by
 obtain ⟨us,h1,h2,h3⟩:=h;exact ⟨us,h1.stay fun h0 k e hl=>hk k (h3 h0 k e) hl,(h2.keep hs fun k hh=>hk k (hh.resolve_left id)).mono (fun k h=>h.1) fun _ h=>h,fun h0 b hb=>⟨h3 h0 b hb,h1.lt h0 hb⟩⟩
theorem dh.mono (h:dh E w Z v xs) (hZ:∀k,Z k->Y k):dh E w Y v xs:=by
 obtain ⟨us,h1,h2,h3⟩:=h;exact ⟨us,h1,h2.mono (fun _ h=>h) hZ,fun h0 b e=>hZ b (h3 h0 b e)⟩
theorem dh.keep (h:dh E w Z v xs) (hs:w.heap.size<=w'.heap.size) (hk:∀k,Z k->k < w.heap.size->w'.heap[k]? = w.heap[k]?):dh E w' Z v xs:=(h.stay hs hk).mono fun _ h=>h.1
theorem dh.below (h:dh E w Z v xs) (hb:Below w.heap.size w w'):dh E w' Z v xs:=h.keep hb.size fun k _ hl=>hb.block k hl
theorem dh.nil (E:El α) (w:World) (Z:BS):dh E w Z (.slice none 0 0) []:=
 ⟨[],⟨by simp,none,0,rfl,Vu _,VJ _,fun _=>⟨rfl,rfl⟩,fun b hb=>by cases hb⟩,rfl,fun h=>by simp at h⟩
theorem dh.shape (h:dh E w Z v xs):∃a cap,v=.slice a xs.length cap/\xs.length<=cap/\cap<=maxLen:=by
 obtain ⟨us,⟨_,a,cap,e,h1,h2,_⟩,_⟩:=h;exact ⟨a,cap,e,h1,h2⟩
theorem dh.at {a:Option Addr} {n c:Nat} (h:dh E w Z (.slice a n c) xs) (hpos:0 < E.size) {i:Nat} {x : α} (hi:xs[i]? = some x) :
  ∃b off cs,a=some ⟨b,off,none⟩/\Z b/\E.rd w (fun _=>False) Z cs x/\∀j u,cs[j]? = some u->w.cell? ⟨b,off+i*E.size+j,none⟩=some u:=by
 obtain ⟨us,⟨hl,a',cap,e,h1,h2,h3,h4⟩,h5,h6⟩:=h;obtain ⟨rfl,rfl,rfl⟩:a=a'/\n=xs.length/\c=cap:=by simpa using e
 obtain ⟨cs,A,hr,hA,hc⟩:=h5.get hi;have hil:=aA hi;have Jw:0 < us.length:=by rw [hl];exact Nat.mul_pos (by omega) hpos
 cases a with
 |none=>have:=(h3 rfl).1;omega
 |some b=>
  obtain ⟨b,off,spot⟩:=b;have hcl:=E.len hr;have h0:cs[0]? = some cs[0]:=Vw (by omega);obtain rfl:spot=none:=(h4 _ rfl _ _ ((hc 0 hpos).trans h0)).1;refine ⟨b,off,cs,rfl,h6 Jw b rfl,E.mono hr hA fun _ h=>h,fun j u hj=>?_⟩;have hjl:j < E.size:=by rw [<-hcl];exact aA hj
  have:=(h4 _ rfl _ _ ((hc j hjl).trans hj)).2;rw [<-ZG] at this;exact this
end
def Sq {α : Type} (E:El α) (T:TypeId) (w:World) (F Z:BS) (v:Value) (xs:List α):Prop:=
 ∃K D us,(∀k,K k\/D k->F k)/\Dj K D/\(∀k,K k->k < w.heap.size)/\Sl w K T E.size v xs.length us/\fK E w D Z us xs
section
variable {α : Type} {E:El α} {T:TypeId} {w w':World} {F G Z Y:BS} {v:Value} {xs:List α}
theorem Sq.keep (h:Sq E T w F Z v xs) (hs:w.heap.size<=w'.heap.size) (hk:∀k,F k\/Z k->k < w.heap.size->w'.heap[k]? = w.heap[k]?):Sq E T w' (fun k=>F k/\k < w.heap.size) (fun k=>Z k/\k < w.heap.size) v xs:=by
 obtain ⟨K,D,us,h1,h2,hK,h3,h4⟩:=h
 exact ⟨K,fun k=>D k/\k < w.heap.size,us,fun k hkd=>hkd.elim (fun h=>⟨h1 k (.inl h),hK k h⟩) fun h=>⟨h1 k (.inr h.1),h.2⟩,fun k a b=>h2 k a b.1,fun k h=>VX (hK k h) hs,h3.keep fun k h hl=>hk k (.inl (h1 k (.inl h))) hl,
  h4.keep hs fun k hh=>hk k (hh.imp (fun h=>h1 k (.inr h)) id)⟩
theorem Sq.mono (h:Sq E T w F Z v xs) (hG:∀k,F k->G k) (hZ:∀k,Z k->Y k):Sq E T w G Y v xs:=by
 obtain ⟨K,D,us,h1,h2,hK,h3,h4⟩:=h;exact ⟨K,D,us,fun k hkd=>hG k (h1 k hkd),h2,hK,h3,h4.mono (fun _ h=>h) hZ⟩
theorem Sq.stay (h:Sq E T w F Z v xs) (hs:w.heap.size<=w'.heap.size) (hk:∀k,F k\/Z k->k < w.heap.size->w'.heap[k]? = w.heap[k]?):Sq E T w' F Z v xs:=(h.keep hs hk).mono (fun _ h=>h.1) fun _ h=>h.1
theorem Sq.nil (E:El α) (T:TypeId) (w:World) (F Z:BS):Sq E T w F Z (.slice none 0 0) []:=
 ⟨fun _=>False,fun _=>False,[],fun _ h=>by rcases h with h|h <;> exact h.elim,fun _ h=>h.elim,fun _ h=>h.elim,Sl.nil _ _ _ _,rfl⟩
theorem Sq.shape (h:Sq E T w F Z v xs):∃a cap,v=.slice a xs.length cap:=by obtain ⟨K,D,us,_,_,_,h3,_⟩:=h;exact h3.shape
theorem Sq.le (h:Sq E T w F Z v xs):∃a cap,v=.slice a xs.length cap/\xs.length<=cap/\cap<=maxLen/\(a=none->xs.length=0/\cap=0):=by
 obtain ⟨K,D,us,_,_,_,h3,_⟩:=h;obtain ⟨_,a,cap,e,h1,h2,h4,_⟩:=h3.rd;exact ⟨a,cap,e,h1,h2,h4⟩
theorem Sq.at {a:Option Addr} {n c:Nat} (h:Sq E T w F Z (.slice a n c) xs) (_:0 < E.size) {i:Nat} {x : α} (hi:xs[i]? = some x) :
  ∃b off cs A,a=some ⟨b,off,none⟩/\F b/\E.rd w A Z cs x/\(∀k,A k->F k)/\∀j u,cs[j]? = some u->w.cell? ⟨b,off+i*E.size+j,none⟩=some u:=by
 obtain ⟨K,D,us,h1,h2,hK,h3,h4⟩:=h;obtain ⟨cs,A,hr,hA,hc⟩:=h4.get hi;have hil:=aA hi;obtain ⟨g,off,cap,e,hg,_⟩:=h3.head (by omega);obtain ⟨rfl,rfl,rfl⟩:a=some ⟨g,off,none⟩/\n=xs.length/\c=cap:=by simpa using e
 refine ⟨g,off,cs,A,rfl,h1 g (.inl hg),hr,fun k h=>h1 k (.inr (hA k h)),fun j u hj=>?_⟩;have hjl:j < E.size:=by rw [<-E.len hr];exact aA hj
 have:=h3.cell (i*E.size+j) u ((hc j hjl).trans hj);rw [<-ZG] at this;exact this
theorem Sq.drop {a:Option Addr} {n c:Nat} (h:Sq E T w F Z (.slice a n c) xs) {k:Nat} (h0:0 < k) (hk:k<=xs.length) :
  ∃g off,a=some ⟨g,off,none⟩/\n=xs.length/\xs.length<=c/\Sq E T w F Z (.slice (if c=k then some ⟨g,off,none⟩ else some ⟨g,off+k*E.size,none⟩) (xs.length - k) (c - k)) (xs.drop k):=by
 obtain ⟨K,D,us,h1,h2,hK,h3,h4⟩:=h;obtain ⟨g,off,cap,e,_,hc⟩:=h3.head (by omega);obtain ⟨rfl,rfl,rfl⟩:a=some ⟨g,off,none⟩/\n=xs.length/\c=cap:=by simpa using e
 refine ⟨g,off,rfl,rfl,hc,K,D,us.drop (k*E.size),h1,h2,hK,?_,h4.drop k⟩;rw [V9];exact h3.Qr hk
theorem Sq.rd (h:Sq E T w F Z v xs) (hc:∀ {A B cs a},E.rd w A B cs a->E.rd w (fun _=>False) (fun k=>A k\/B k) cs a):dh E w (fun k=>F k\/Z k) v xs:=by
 obtain ⟨K,D,us,h1,h2,hK,h3,h4⟩:=h;refine ⟨us,h3.rd,?_,fun h0 b hb=>?_⟩
 ·have hD:=fun k (d:D k)=>h1 k (.inr d)
  clear h1 h2 hK h3
  induction xs generalizing us D with
  |nil=>exact h4
  |cons a xs ih=>
   obtain ⟨cs,rest,A,B,e,g1,g2,g3,q1,q2⟩:=h4;exact ⟨cs,rest,_,_,e,fun _ h=>h,fun _ h=>h,fun _ f=>f.elim,E.mono (hc q1) (fun _ h=>h) (fun k h=>h.imp (fun h=>hD k (g1 k h)) id),ih B rest q2 fun k h=>hD k (g2 k h)⟩
 ·obtain ⟨_,⟨rfl,_⟩|⟨g,off,cap,cur,rfl,hK,_⟩⟩:=h3
  ·cases hb
  ·obtain rfl:g=b:=by simpa [YM] using hb
   exact .inl (h1 g (.inl hK))
end
def Gz {α : Type} (E:El α):El (List α) where
 size:=1
 rd w _ Z cs xs:=∃v,cs=[v]/\dh E w Z v xs
 len h:=by obtain ⟨v,h,_⟩:=h;rw [h];rfl
 keep h hs hk:=by obtain ⟨v,e,h⟩:=h;exact ⟨v,e,h.stay hs fun k hz=>hk k (.inr hz)⟩
 mono h _ hZ:=by obtain ⟨v,e,h⟩:=h;exact ⟨v,e,h.mono hZ⟩
 one h u hu:=by
  obtain ⟨v,rfl,h⟩:=h;obtain ⟨a,c,rfl,_⟩:=h.shape;obtain rfl:u=_:=Wj.1 hu;rfl
def df {α : Type} (E:El α) (T:TypeId):El (List α) where
 size:=1
 rd w F Z cs xs:=∃v,cs=[v]/\Sq E T w F Z v xs
 len h:=by obtain ⟨v,h,_⟩:=h;rw [h];rfl
 keep h hs hk:=by obtain ⟨v,e,h⟩:=h;exact ⟨v,e,h.keep hs hk⟩
 mono h hF hZ:=by obtain ⟨v,e,h⟩:=h;exact ⟨v,e,h.mono hF hZ⟩
 one h u hu:=by
  obtain ⟨v,rfl,h⟩:=h;obtain ⟨a,c,rfl⟩:=h.shape;obtain rfl:u=_:=Wj.1 hu;rfl
def ζ {α : Type} (E:El α) (T:TypeId) (v:Value) (xs:List α):Th:=⟨fun w F Z=>Sq E T w F Z v xs,Sq.keep,Sq.mono⟩
def a_ {α : Type} (E:El α) (v:Value) (xs:List α):Th:=⟨fun w _ Z=>dh E w Z v xs,fun h hs hk=>h.stay hs fun k hz=>hk k (.inr hz),fun h _ hZ=>h.mono hZ⟩
def dD (v:Value) (bs:List (BitVec 8)):Th:=⟨fun w _ Z=>fE w Z v bs,fun h _ hk=>h.stay fun k hz=>hk k (.inr hz),fun h _ hZ=>h.mono hZ⟩

section
open Go.ChangeShapes Go.WideShapes Go.ChangeAt Go.RowKit
theorem own:ownKnob Tryz.prog.godebug=none:=by kernel_rfl
theorem laidOut:laidOutB Tryz.prog=true:=by kernel_rfl
section
variable {H:Type} {enc:TypeId × Value->H} {P:Program} {W:World} {base:Nat} {t e:TypeId} {v:Value} {d:DataW H} {ps:List MemPlace} {r:Reach}
theorem MW {zs:List Int} (hz:∀n ∈ zs,(Yq .u8 n).wf=true):∃bs:List (BitVec 8),zs=bs.map U:=by
 refine ⟨zs.map (VU 8),?_⟩;rw [List.map_map]
 conv=>lhs;rw [<-List.map_id zs]
 refine List.map_congr_left fun n hn=>?_
 have:=bounds_u8 (hz n hn);exact (F6 (n:=8) n (by omega) (by omega)).symm
end
theorem pJ {H:Type} {enc:TypeId × Value->H} {P:Program} (hL:laidOutB P=true) {W W':World} (hb:Below W.heap.size W W'):∀(ts:List TypeId) (_:ts.all (fun t=>P.readableRec t && decide (t < P.types.size))=true) (vs:List Value) (ds:List (DataW H)) (ps:List MemPlace),
  ZB enc P W 0 (fun _=>true) true ts vs ds ps->ZB enc P W' 0 (fun b=>decide (b < W.heap.size)) true ts vs ds ps
 |[],_,[],[],_,h=>h
 |[],_,_::_,_,_,h=>h.elim
 |[],_,[],_::_,_,h=>h.elim
 |_::_,_,[],_,_,h=>h.elim
 |_::_,_,_::_,[],_,h=>h.elim
 |t::ts,hr,v::vs,d::ds,ps,h=>by
  obtain ⟨p,q,h1,h2,rfl⟩:=h;simp only [List.all_cons,Ww,decide_eq_true_eq] at hr;have lt:∀x ∈ p,x.block < W.heap.size:=by obtain ⟨m,hm⟩:=h1;exact DataW.trod_lt m _ _ _ hm
  exact ⟨p,q,Below.trod hL hr.1.1 hr.1.2 h1 hb lt,pJ hL hb ts hr.2 vs ds q h2,rfl⟩
end

section
open Go.ChangeShapes Go.WideShapes Go.ChangeAt Go.RowKit
structure R (α : Type) where
 size:Nat
 rd:World->List Value -> α -> Prop
 len:∀ {w cs a},rd w cs a->cs.length=size
 keep:∀ {w w' cs a},rd w cs a->(∀k,k < w.heap.size->w'.heap[k]? = w.heap[k]?)->rd w' cs a
def nP (k:IntKind):R Int where
 size:=1
 rd _ cs n:=cs=[.int k n]/\(Yq k n).wf=true
 len h:=by rw [h.1];rfl
 keep h _:=h
def KW:R (List (BitVec 8)) where
 size:=1
 rd w cs bs:=∃v,cs=[v]/\By w v bs
 len h:=by obtain ⟨v,h,_⟩:=h;rw [h];rfl
 keep h k:=by obtain ⟨v,h,h'⟩:=h;exact ⟨v,h,Rd.keep h' fun b _ hl=>k b hl⟩
def ll {α β : Type} (r:R α) (s:R β):R (α × β) where
 size:=r.size+s.size
 rd w cs a:=∃c1 c2,cs=c1++c2/\r.rd w c1 a.1/\s.rd w c2 a.2
 len h:=by obtain ⟨c1,c2,rfl,h1,h2⟩:=h;rw [Vx,r.len h1,s.len h2]
 keep h k:=by obtain ⟨c1,c2,e,h1,h2⟩:=h;exact ⟨c1,c2,e,r.keep h1 k,s.keep h2 k⟩
def J6 {α β : Type} (r:R α) (f : α -> β):R β where
 size:=r.size
 rd w cs b:=∃a,r.rd w cs a/\f a=b
 len h:=by obtain ⟨a,h,_⟩:=h;exact r.len h
 keep h k:=by obtain ⟨a,h,e⟩:=h;exact ⟨a,r.keep h k,e⟩
def At (w:World) (b off:Nat) (cs:List Value):Prop:=∀j u,cs[j]? = some u->w.cell? ⟨b,off+j,none⟩=some u
theorem At.keep {w w':World} {b off:Nat} {cs:List Value} (h:At w b off cs) (k:∀k,k < w.heap.size->w'.heap[k]? = w.heap[k]?):At w' b off cs:=fun j u hj=>by
 have hc:=h j u hj;exact (Vt (a:=⟨b,off+j,none⟩) (k b (Vv w _ hc))).trans hc
def gZ {α : Type} (r:R α):R (List α) where
 size:=1
 rd w cs xs:=∃a cap,cs=[.slice a xs.length cap]/\xs.length<=cap/\cap<=maxLen/\(a=none->cap=0) /\
  ∀i x,xs[i]? = some x->∃b off us,a=some ⟨b,off,none⟩/\At w b (off+i*r.size) us/\r.rd w us x
 len h:=by obtain ⟨a,cap,h,_⟩:=h;rw [h];rfl
 keep h k:=by
  obtain ⟨a,cap,e,h1,h2,h3,h4⟩:=h;refine ⟨a,cap,e,h1,h2,h3,fun i x hx=>?_⟩;obtain ⟨b,off,us,e,h5,h6⟩:=h4 i x hx;exact ⟨b,off,us,e,h5.keep k,r.keep h6 k⟩
section
variable {H:Type} {enc:TypeId × Value->H} {P:Program} {W:World}
def jv (enc:TypeId × Value->H) (P:Program) (W:World) {α : Type} (t:TypeId) (r:R α):Prop:=
 P.cellsOf t=r.size/\∀fuel cs x,ZM enc P W 0 (fun _=>true) true fuel t cs=some x->∃a,r.rd W cs a
theorem cN {t:TypeId} {k:IntKind} (ht:P.underlying t=some (.int k)) (hc:P.cellsOf t=1):jv enc P W t (nP k):=
 ⟨hc,fun fuel cs x h=>by obtain ⟨n,e,_,hw⟩:=DataW.trod_int ht h;exact ⟨n,e,hw⟩⟩
theorem oN {α β : Type} {t:TypeId} {r:R α} (h:jv enc P W t r) (f : α -> β):jv enc P W t (J6 r f):=
 ⟨h.1,fun fuel cs x hx=>by obtain ⟨a,ha⟩:=h.2 fuel cs x hx;exact ⟨f a,a,ha,rfl⟩⟩
theorem t_ {α : Type} {p:Nat -> α -> Prop}:∀n,(∀i,i < n->∃a,p i a)->∃l:List α,l.length=n/\∀i a,l[i]? = some a->p i a
 |0,_=>⟨[],rfl,fun i a h=>by simp at h⟩
 |n+1,h=>by
  obtain ⟨l,hl,h1⟩:=t_ n fun i hi=>h i (by omega)
  obtain ⟨a,ha⟩:=h n (by omega);refine ⟨l++[a],by simp [hl],fun i b hb=>?_⟩;rw [YX] at hb;split at hb
  ·exact h1 i b hb
  ·have:i - l.length=0:=by
    rcases Nat.eq_zero_or_pos (i - l.length) with h|h
    ·exact h
    ·rw [VT (by simp;omega)] at hb;cases hb
   rw [this] at hb;obtain rfl:a=b:=by simpa using hb
   obtain rfl:i=n:=by omega
   exact ha
theorem jM {α : Type} {t e:TypeId} {r:R α} (ht:P.underlying t=some (.slice e)) (hc:P.cellsOf t=1) (he:jv enc P W e r) (hpos:0 < r.size):jv enc P W t (gZ r):=by
 refine ⟨hc,fun fuel cs x h=>?_⟩
 rcases Go.Deep.open_slice ht h with ⟨rfl,rfl⟩|⟨a,len,cap,m,n,D,Pl,rfl,hb,hl,hm,hmm,rfl,hx⟩
 ·exact ⟨[],none,0,rfl,Vu _,VJ _,fun _=>rfl,fun i x h=>by cases h⟩
 ·simp only [if_true] at hmm
  obtain rfl:m=cap:=hmm
  have hs0:0 < len->a.spot=none:=fun hl0=>by
   obtain ⟨us,h1,h2⟩:=hx 0 (by omega);obtain ⟨_,hlen,hcell⟩:=Y8 h1;have h0:=hcell 0 (by rw [he.1];exact hpos);rw [Vw (by rw [hlen,he.1];exact hpos)] at h0;have:=World.cell?_spot h0;simpa [ZZ] using this
  obtain ⟨xs,hxl,hxs⟩:=t_ (p:=fun i x=>∃us,a.spot=none/\At W a.block (a.off+i*r.size) us/\r.rd W us x) len fun i hi=>by
   obtain ⟨us,h1,h2⟩:=hx i (by omega);obtain ⟨x,hx⟩:=he.2 _ _ _ h2;obtain ⟨_,hlen,hcell⟩:=Y8 h1;rw [he.1] at hcell hlen;have hs:=hs0 (by omega);refine ⟨x,us,hs,fun j u hj=>?_,hx⟩
   have hj':j < r.size:=by
    rw [<-hlen]
    rcases WV j us.length with h|h
    ·exact h
    ·rw [VT h] at hj;cases hj
   have h0:=hcell j hj';rw [hj,add_eq a _ hs,add_eq _ _ rfl] at h0;exact h0
  refine ⟨xs,some a,m,by rw [hxl],by omega,hm,(fun e=>by cases e),fun i x hi=>?_⟩;obtain ⟨us,hs,h1,h2⟩:=hxs i x hi;obtain ⟨b,off,spot⟩:=a;obtain rfl:spot=none:=hs;exact ⟨b,off,us,rfl,h1,h2⟩
theorem CS {t e:TypeId} (ht:P.underlying t=some (.slice e)) (hc:P.cellsOf t=1) (he:P.underlying e=some (.int .u8)) (hce:P.cellsOf e=1):jv enc P W t KW:=by
 refine ⟨hc,fun fuel cs x h=>?_⟩;obtain ⟨xs,hx⟩:=(jM (enc:=enc) (W:=W) ht hc (cN he hce) (by decide)).2 fuel cs x h;obtain ⟨a,cap,rfl,h1,h2,h3,h4⟩:=hx
 have hwz:∀n ∈ xs,(Yq .u8 n).wf=true:=fun n hn=>by
  obtain ⟨i,hi⟩:=Yh hn;obtain ⟨_,_,_,_,_,_,hw⟩:=h4 i n hi;exact hw
 obtain ⟨bs,rfl⟩:=MW hwz;refine ⟨bs,_,rfl,⟨by rw [di,Nat.mul_one],a,cap,by rw [VL],by simpa using h1,h2,fun e=>?_,fun b hb j u hj=>?_⟩⟩
 ·have:=h3 e;rw [VL] at h1;exact ⟨by omega,this⟩
 ·rw [cu,VG] at hj
  cases hx:bs[j]? with
  |none=>rw [hx] at hj;cases hj
  |some y=>
   rw [hx] at hj;obtain rfl:=VM hj;obtain ⟨b',off,us,e,hat,rfl,_⟩:=h4 j (U y) (by rw [VG,hx];rfl);obtain rfl:b=⟨b',off,none⟩:=VM (hb.symm.trans e);refine ⟨rfl,?_⟩;have:=hat 0 _ rfl;simpa [nP] using this
inductive sj (enc:TypeId × Value->H) (P:Program) (W:World):(off:Nat)->List Field->{α : Type}->R α -> Prop
 |one {off:Nat} {f:Field} {α : Type} {r:R α} (h:jv enc P W f.type r) (ho:f.offset=off):sj enc P W off [f] r
 |cons {off:Nat} {f:Field} {fs:List Field} {α β : Type} {r:R α} {s:R β} (h:jv enc P W f.type r) (ho:f.offset=off) (hs:sj enc P W (off+r.size) fs s):sj enc P W off (f::fs) (ll r s)
theorem sj.reads {off:Nat} {fs:List Field} {α : Type} {r:R α} (h:sj enc P W off fs r):∀(n:Nat) (cs:List Value),cs.length=off+r.size->(∀f ∈ fs,∃x,ZM enc P W 0 (fun _=>true) true n f.type ((cs.drop f.offset).take (P.cellsOf f.type))=some x) ->
  ∃a,r.rd W (cs.drop off) a:=by
 induction h with
 |one h ho=>
  intro n cs hl hf;obtain ⟨x,hx⟩:=hf _ (Wj.2 rfl);rw [ho,h.1,Wn (by rw [V9];omega)] at hx;exact h.2 _ _ _ hx
 |@cons off f fs α β r s h ho hs ih=>
  intro n cs hl hf;have hl':cs.length=off+(r.size+s.size):=hl;obtain ⟨x,hx⟩:=hf _ (List.mem_cons_self);rw [ho,h.1] at hx;obtain ⟨a,ha⟩:=h.2 _ _ _ hx;obtain ⟨b,hb⟩:=ih n cs (by omega) fun g hg=>hf g (List.mem_cons_of_mem _ hg)
  refine ⟨(a,b),(cs.drop off).take r.size,(cs.drop (off+r.size)),?_,ha,hb⟩;rw [<-YH,List.take_append_drop]
theorem kz {t:TypeId} {fs:Array Field} {α : Type} {r:R α} (ht:P.underlying t=some (.struct fs)) (hc:P.cellsOf t=r.size) (h:sj enc P W 0 fs.toList r):jv enc P W t r:=by
 refine ⟨hc,fun fuel cs x hx=>?_⟩;obtain ⟨xs,n,rfl,_,hlen,hxl,hf⟩:=DataW.trod_struct ht hx
 have:=h.reads n cs (by rw [hlen,hc,V5]) fun f hm=>by
  obtain ⟨i,hi⟩:=Yh hm;have hi':fs[i]? = some f:=by simpa using hi
  have hlt:i < xs.length:=by
   rw [hxl]
   rcases WV i fs.size with h|h
   ·exact h
   ·rw [XZ h] at hi';cases hi'
  exact ⟨xs[i],by rw [hf i f hi',Vw hlt]⟩
 simpa using this
def IsR {α : Type} (r:R α) (W:World) (v:Value):Prop:=∃a,r.rd W v.cells.toList a
theorem BG {α : Type} {t:TypeId} {v:Value} {d:DataW H} {ps:List MemPlace} {r:R α} (h:jv enc P W t r) (hd:ZN enc P W 0 (fun _=>true) true t v d ps):IsR r W v:=by
 obtain ⟨fuel,hf⟩:=hd;exact h.2 _ _ _ hf
end
def Vb {α : Type} (r:R α) (W:World) (v:Value):Prop:=∃xs,(gZ r).rd W [v] xs
theorem IL {H:Type} {enc:TypeId × Value->H} {P:Program} {W:World} {α : Type} {t e:TypeId} {v:Value} {d:DataW H} {ps:List MemPlace} {r:R α} {q:Reach} {base:Nat} (ht:P.underlying t=some (.slice e)) (h:jv enc P W t (gZ r))
  (hval:Value.okWide P W q base t v) (hd:ZN enc P W 0 (fun _=>true) true t v d ps):Vb r W v:=by
 obtain ⟨a,len,cap,rfl⟩:=okWide_slice ht hval;obtain ⟨xs,hx⟩:=BG h hd;exact ⟨xs,hx⟩
end

def Old (W:World):BS:=fun k=>k < W.heap.size
theorem At.cons {w:World} {b off:Nat} {cs ds:List Value} (h:At w b off cs) (k:At w b (off+cs.length) ds):At w b off (cs++ds):=fun j u hj=>by
 rw [YX] at hj;split at hj
 ·exact h j u hj
 ·have:=k _ u hj
  rwa [show off+cs.length+(j - cs.length)=off+j by omega] at this
theorem Lh {α : Type} {r:R α} {E:El α} (hsz:r.size=E.size) {W:World} (hr:∀cs a,r.rd W cs a->E.rd W (fun _=>False) (Old W) cs a) {b:Nat}:∀(xs:List α) (o:Nat),(∀(i:Nat) x,xs[i]? = some x->∃us,At W b (o+i*r.size) us/\r.rd W us x)->∃vs,At W b o vs/\fK E W (fun _=>False) (Old W) vs xs
 |[],o,_=>⟨[],fun j u h=>by simp at h,rfl⟩
 |a::xs,o,h=>by
  obtain ⟨us,h1,h2⟩:=h 0 a rfl
  obtain ⟨vs,h3,h4⟩:=Lh hsz hr xs (o+r.size) fun i x hx=>by
   obtain ⟨us,h5,h6⟩:=h (i+1) x (by simpa using hx);exact ⟨us,by rwa [show o+r.size+i*r.size=o+(i+1)*r.size by rw [WK];omega],h6⟩
  have hl:=r.len h2;refine ⟨us++vs,At.cons (by simpa using h1) (by rw [hl];exact h3),us,vs,fun _=>False,fun _=>False,rfl,fun _ f=>f,fun _ f=>f,fun _ f=>f.elim,hr _ _ h2,h4⟩
theorem y_ {α : Type} {r:R α} {E:El α} (hsz:r.size=E.size) (_:0 < r.size) {W:World} (hr:∀cs a,r.rd W cs a->E.rd W (fun _=>False) (Old W) cs a) {v:Value} {xs:List α} (h:(gZ r).rd W [v] xs):dh E W (Old W) v xs:=by
 obtain ⟨a,cap,e,h1,h2,h3,h4⟩:=h;obtain rfl:v=.slice a xs.length cap:=by simpa using e
 cases a with
 |none=>
  have:=h3 rfl;have hx:xs=[]:=Wh (by omega);subst hx;exact ⟨[],⟨by simp,none,cap,rfl,h1,h2,fun _=>⟨rfl,this⟩,fun b hb=>by cases hb⟩,rfl,fun h=>by simp at h⟩
 |some ad=>
  by_cases h0:xs=[]
  ·subst h0
   exact ⟨[],⟨by simp,some ad,cap,rfl,h1,h2,(fun e=>by cases e),fun b hb j u hj=>by simp at hj⟩,rfl,fun h=>by simp at h⟩
  ·obtain ⟨x0,hx0⟩:∃x,xs[0]? = some x:=by cases xs with
    |nil=>exact absurd rfl h0
    |cons a l=>exact ⟨a,rfl⟩
   obtain ⟨b,off,us,e,_,_⟩:=h4 0 x0 hx0;obtain rfl:ad=⟨b,off,none⟩:=VM e
   obtain ⟨vs,h5,h6⟩:=Lh hsz hr (b:=b) xs off fun i x hx=>by
    obtain ⟨b',off',us,e,h5,h6⟩:=h4 i x hx;obtain ⟨rfl,rfl⟩:b=b'/\off=off':=by simpa using e
    exact ⟨us,h5,h6⟩
   have hrd:Rd W E.size (.slice (some ⟨b,off,none⟩) xs.length cap) xs.length vs:=⟨h6.length,_,cap,rfl,h1,h2,(fun e=>by cases e),fun b' hb j u hj=>by
     obtain rfl:=VM hb;exact ⟨rfl,h5 j u hj⟩⟩
   exact ⟨vs,hrd,h6,fun h0 b' hb=>hrd.lt h0 hb⟩
theorem SG {W:World} {v:Value} {bs:List (BitVec 8)} (h:By W v bs):fE W (Old W) v bs:=⟨h,fun h0 b hb=>Rd.lt h (by rwa [di]) hb⟩

theorem aU {w:World} {p i:Nat} {cs:Array Value} {T:TypeId} {u:Value} (h:w.heap[p]? = some (.cells cs T (0,0))):(w.setCell ⟨p,i,none⟩ u).heap[p]? = some (.cells (cs.setIfInBounds i u) T (0,0)):=heap_setCell_same w p i cs T u h
theorem aP {w:World} {p n:Nat} {o:Option Obj} (h:w.heap[p]? = o):(w.drewN n).heap[p]? = o:=h
theorem aF {w:World} {p:Nat} {o:Option Obj} (h:w.heap[p]? = o):w.drew.heap[p]? = o:=h
theorem aS {w:World} {p:Nat} {cs cs':Array Value} {T:TypeId} (h:w.heap[p]? = some (.cells cs T (0,0))) (e:cs=cs'):w.heap[p]? = some (.cells cs' T (0,0)):=by subst e;exact h
theorem bC {w:World} {p:Nat} {o:Obj} (o':Obj) (h:w.heap[p]? = some o):(w.alloc o').heap[p]? = some o:=(WA w o' p (lt_of_block h)).trans h
theorem bN {w:World} {p q i:Nat} {o:Option Obj} {u:Value} (hq:p≠q) (h:w.heap[p]? = o):(w.setCell ⟨q,i,none⟩ u).heap[p]? = o:=(heap_setCell_other w ⟨q,i,none⟩ p u hq).trans h
theorem aI (w:World) (o:Obj) {a:Addr} {v:Value} (h:w.cell? a=some v):(w.alloc o).cell? a=some v:=
 (Vt (WA w o _ (Vv w _ h))).trans h
theorem Bw.alloc {w w':World} (h:Below w.heap.size w w') (o:Obj):Below w.heap.size w (w'.alloc o):=Below.alloc h h.size o
theorem Bw.drew {w w':World} (h:Below w.heap.size w w'):Below w.heap.size w w'.drew:=⟨h.os,h.tape,h.output,h.size,h.block⟩
theorem Bw.drewN {w w':World} (h:Below w.heap.size w w') (n:Nat):Below w.heap.size w (w'.drewN n):=⟨h.os,h.tape,h.output,h.size,h.block⟩
theorem Sl.drewN {w:World} {F:Nat->Prop} {e:TypeId} {size:Nat} {v:Value} {n:Nat} {us:List Value} (h:Sl w F e size v n us) (k:Nat):Sl (w.drewN k) F e size v n us:=h.keep fun _ _ _=>rfl

section
variable {F Z:BS} {W wr:World} {ts:List Th}
def zi (ts:List Th) (i:Nat) (w:World) (Y:BS):Prop:=∀j (T':Th),j≠i->ts[j]? = some T'->∃H,Dj H Y/\T'.on w H Y
theorem dY.app {α : Type} {E:El α} {T:TypeId} {av:Value} {xs:List α} (h:dY F Z W ts wr) (i:Nat) (hi:ts[i]? = some (ζ E T av xs)) :
  ∃K us,Sl wr K T E.size av xs.length us/\(∀(b:Nat) (j:Nat) (T':Th),j≠i->ts[j]? = some T'->(∀H Y,T'.on wr H Y->H b\/Y b)->¬K b) /\
   ∀(w1 w2:World) (news:List Value) (ys:List α) (u2:Value),Below wr.heap.size wr w1->Sl w2 (fun k=>K k\/w1.heap.size<=k) T E.size u2 (xs.length+ys.length) (us++news)->Fr K w1 w2 ->
    (∀Y:BS,zi ts i wr Y->∃N X:BS,(∀k,N k->wr.heap.size<=k)/\(∀k,X k->Y k\/wr.heap.size<=k)/\Dj N X/\fK E w1 N X news ys)->dY F Z W (ts.set i (ζ E T u2 (xs++ys))) w2:=by
 obtain ⟨G,Y,⟨K,D,us,uz,hdj,hKs,hsl,hel⟩,hd,_,hoth,hback⟩:=h.use i hi;refine ⟨K,us,hsl,fun b j T' hj hT hb hK=>?_,fun w1 w2 news ys u2 hb hsl2 hf hnew=>?_⟩
 ·obtain ⟨H,h1,_,h3⟩:=hoth j T' hj hT
  exact (hb H Y h3).elim (fun hh=>h1 b (uz b (.inl hK)) hh) fun hy=>hd b (uz b (.inl hK)) hy
 ·obtain ⟨N,X,n1,n2,n3,n4⟩:=hnew Y fun j T' hj hT=>by obtain ⟨H,_,h2,h3⟩:=hoth j T' hj hT;exact ⟨H,h2,h3⟩
  have hs1:=hb.size;have hs2:=hf.size;have hfw:Fr K wr w2:=⟨hf.os.trans hb.os,hf.tape.trans hb.tape,hf.output.trans hb.output,VC hs1 hs2,fun k hl hn=>(hf.block k (by omega) hn).trans (hb.block k hl)⟩
  have nI:fK E w2 (fun k=>N k/\k < w1.heap.size) (fun k=>X k/\k < w1.heap.size) news ys:=n4.keep hs2 fun k hh hl=>hf.block k hl fun hK=>by
   have hkl:=hKs k hK
   rcases hh with hh|hh
   ·have:=n1 k hh;omega
   ·rcases n2 k hh with hy|hy
    ·exact hd k (uz k (.inl hK)) hy
    ·omega
  have Ka:Sq E T w2 (fun k=>(G k\/wr.heap.size<=k)/\¬((Y k/\k < wr.heap.size)\/(X k/\k < w1.heap.size))) (fun k=>(Y k/\k < wr.heap.size)\/(X k/\k < w1.heap.size)) u2 (xs++ys):=by
   obtain ⟨K',D',Gs,k1,k2,k3,k4,k5⟩:Sq E T w2 (fun k=>(K k\/w1.heap.size<=k)\/((D k/\k < wr.heap.size)\/(N k/\k < w1.heap.size))) (fun k=>(Y k/\k < wr.heap.size)\/(X k/\k < w1.heap.size)) u2 (xs++ys):=by
    refine ⟨fun k=>(K k\/w1.heap.size<=k)/\k < w2.heap.size,fun k=>(D k/\k < wr.heap.size)\/(N k/\k < w1.heap.size),us++news,?_,?_,fun k h=>h.2,?_,?_⟩
    ·rintro k (h|h)
     ·exact .inl h.1
     ·exact .inr h
    ·rintro k ⟨h|h,h0⟩ (h'|h')
     ·exact hdj k h h'.1
     ·have:=hKs k h;have:=n1 k h'.1;omega
     ·omega
     ·omega
    ·rw [Vx];exact hsl2.bound
    ·refine ((hel.keep hfw.size fun k hh hl=>hfw.block k hl fun h=>hh.elim (fun d=>hdj k h d) fun z=>hd k (uz k (.inl h)) z).mono (fun _ h=>h) fun k h=>.inl h).append (nI.mono (fun _ h=>h) fun k h=>.inr h) (fun k a b=>?_) (fun k h=>.inl h) fun k h=>.inr h
     have:=n1 k b.1;omega
   refine ⟨K',D',Gs,fun k hk=>⟨?_,?_⟩,k2,k3,k4,k5⟩
   ·rcases k1 k hk with (h|h)|h|h
    ·exact .inl (uz k (.inl h))
    ·exact .inr (by omega)
    ·exact .inl (uz k (.inr h.1))
    ·exact .inr (n1 k h.1)
   ·rcases k1 k hk with (h|h)|h|h
    ·have hkl:=hKs k h
     rintro (⟨hy,_⟩|⟨hx,_⟩)
     ·exact hd k (uz k (.inl h)) hy
     ·rcases n2 k hx with hy|hy
      ·exact hd k (uz k (.inl h)) hy
      ·omega
    ·rintro (⟨_,hl⟩|⟨_,hl⟩) <;> omega
    ·rintro (⟨hy,_⟩|⟨hx,_⟩)
     ·exact hd k (uz k (.inr h.1)) hy
     ·rcases n2 k hx with hy|hy
      ·exact hd k (uz k (.inr h.1)) hy
      ·omega
    ·have hn:=n1 k h.1
     rintro (⟨_,hl⟩|⟨hx,_⟩)
     ·omega
     ·exact n3 k h.1 hx
  have hg:Fr G wr w2:=hfw.mono fun k hk=>uz k (.inl hk)
  have:=hback w2 (ζ E T u2 (xs++ys)) [] ⟨hg,_,fun k hk=>?_,Star.one Ka⟩
  ·rwa [Wp] at this
  ·rcases hk with hk|hk
   ·exact .inl hk.1
   ·rcases n2 k hk.1 with hy|hy
    ·exact .inl hy
    ·exact .inr (.inr hy)
end

def over (cur:List Value) (o:Nat) (news:List Value):List Value:=cur.take o++news++cur.drop (o+news.length)
theorem jL {cur news:List Value} {o:Nat} (h:o+news.length<=cur.length):(over cur o news).length=cur.length:=by
 unfold over;simp only [Vx,VW,V9];omega
theorem BC {cur news:List Value} {o j:Nat} (h:o+news.length<=cur.length):(over cur o news)[j]? = if j < o then cur[j]? else if j < o+news.length then news[j - o]? else cur[j]?:=by
 unfold over;have hl:(cur.take o).length=o:=by rw [VW];omega
 by_cases h1:j < o
 ·rw [if_pos h1,VO (by rw [Vx,hl];omega),VO (by omega),WR,if_pos h1]
 ·rw [if_neg h1]
  by_cases h2:j < o+news.length
  ·rw [if_pos h2,VO (by rw [Vx,hl];omega),VP (by omega),hl]
  ·rw [if_neg h2,VP (by rw [Vx,hl];omega),Vx,hl,Wl]
   congr 1;omega
theorem EF {cur news:List Value} {o a n:Nat} (h:o+news.length<=cur.length) (hd:a+n<=o\/o+news.length<=a):((over cur o news).drop a).take n=(cur.drop a).take n:=by
 apply WQ;intro j;rw [WR,WR];by_cases hj:j < n
 ·rw [if_pos hj,if_pos hj,Wl,Wl,BC h]
  rcases hd with hd|hd
  ·rw [if_pos (by omega)]
  ·rw [if_neg (by omega),if_neg (by omega)]
 ·rw [if_neg hj,if_neg hj]
theorem xY {cur news:List Value} {o:Nat} (h:o+news.length<=cur.length):((over cur o news).drop o).take news.length=news:=by
 apply WQ;intro j;rw [WR];by_cases hj:j < news.length
 ·rw [if_pos hj,Wl,BC h,if_neg (by omega),if_pos (by omega)];congr 1;omega
 ·rw [if_neg hj,VT (by omega)]
section
variable {P:Program}
def jr (w:World) (g:Nat) (cur:Array Value) (o:Nat) (news:List Value):World:=w.setRow g (over cur.toList o news).toArray
theorem om {w:World} {g:Nat} {cur:Array Value} {e:TypeId} (hg:w.heap[g]? = some (.cells cur e (0,0))) (o:Nat) (news:List Value):(jr w g cur o news).heap[g]? = some (.cells (over cur.toList o news).toArray e (0,0)):=setRow_heap w g cur _ e _ hg
theorem uF {w:World} {g:Nat} (cur:Array Value) (o:Nat) (news:List Value):Fr (fun k=>k=g) w (jr w g cur o news):=
 ⟨rfl,rfl,rfl,by simp [jr],fun k _ hk=>setRow_other w g k _ hk⟩
theorem uq {t e:TypeId} {z:Value} {size bytes:Nat} (S:o8 P t e z size bytes) (w:World) (ty:TypeId) (g off n cap:Nat) (cur:Array Value) (hg:w.heap[g]? = some (.cells cur e (0,0)))
  (a:Addr) (m c:Nat) (news:List Value) (hr:Rd w size (.slice (some a) m c) m news) (h1:∀u ∈ news,u.oneCell'=true) (hroom:n+m<=cap) (hfit:off+cap*size<=cur.size) :
  (Xf #[t,t] ty #[.slice (some ⟨g,off,none⟩) n cap,.slice (some a) m c]).run P w=.ok (.slice (some ⟨g,off,none⟩) (n+m) cap) (jr w g cur (off+n*size) news):=by
 obtain ⟨i,hi,hz,rfl,rfl⟩:=S.info;obtain ⟨hl,ad,c',e1,r1,r2,r3,r4⟩:=hr;obtain ⟨rfl,rfl⟩:some a=ad/\c=c':=by simpa using e1
 have hnews:∀j u,news[j]? = some u->w.cell? (a.add j)=some u:=fun j u hj=>by
  have:=r4 a rfl j u hj;rw [add_eq _ _ this.1];exact this.2
 have aae:off+n*i.size+news.length<=cur.size:=by
  have:(n+m)*i.size<=cap*i.size:=Xn _ hroom;rw [WK] at this;rw [hl];omega
 have:=kU (P:=P) w t ty e i S.under hi g off n cap cur hg a m c news hl hnews h1 hroom aae;rw [this];simp [jr,over]
theorem pM {t e:TypeId} {z:Value} {size bytes:Nat} (S:o8 P t e z size bytes) {ops:Array Oper} {o:Oper} {a:Act} {w:World} {K:Act->World->Prop} {Q:Exit->Act->World->Prop} {E:Prop}
  (hg:o.guard=none) (s x:Operand) (hop:o.op=Yy { callee:=Xg Xw,args := #[s,x],argTypes := #[t,t] })
  (g off n cap:Nat) (hs:a.eval s=.slice (some ⟨g,off,none⟩) n cap) (cur:Array Value) (hrow:w.heap[g]? = some (.cells cur e (0,0)))
  (ad:Addr) (m c:Nat) (news:List Value) (hx:a.eval x=.slice (some ad) m c) (hr:Rd w size (.slice (some ad) m c) m news) (h1:∀u ∈ news,u.oneCell'=true) (hroom:n+m<=cap) (hfit:off+cap*size<=cur.size)
  (hK:K (a.put o.dst (.slice (some ⟨g,off,none⟩) (n+m) cap)) (jr w g cur (off+n*size) news)) :
  if VN o (yielded ops a.tmps)=true then WZ P o a w K Q else E:=by
 have hw:VN o (yielded ops a.tmps)=true:=by simp [VN,hg]
 rw [if_pos hw];have hrun:=uq S w o.type g off n cap cur hrow ad m c news hr h1 hroom hfit;unfold WZ execOp;simp only [hop,resolve,invoke,builtin,Yp,Yo,XL,XQ,Yd,Yl,hs,hx,hrun];exact hK
theorem mH (z:Array Value) (n:Nat):(WJ z n).toList.length=n*z.size:=by
 rw [X9,size_zeroCells]
theorem lF {t e:TypeId} {z:Value} {size bytes:Nat} (S:o8 P t e z size bytes) (hzv:∀w,(zeroValue e).run P w=.ok z w) (hz1:∀u ∈ z.cells,u.oneCell'=true) {w:World} {ops:Array Oper} {rest:List Oper} {o:Oper} {a:Act} {Q:Exit->Act->World->Prop}
  (hg:o.guard=none) (s:Operand) (hop:o.op=Yy { callee:=Xg Builtin.clear,args := #[s],argTypes := #[t] })
  (g off n cap:Nat) (hn:0 < n) (hs:a.eval s=.slice (some ⟨g,off,none⟩) n cap) (cur:Array Value) (hrow:w.heap[g]? = some (.cells cur e (0,0))) (hfit:off+n*size<=cur.size)
  (hK:∀zs,zs.length=n*size->wpList P ops Q rest (a.put o.dst (.tuple #[])) (jr w g cur off zs)) :
  wpList P ops Q (o::rest) a w:=by
 refine wpList_plain hg fun K hK'=>?_
 have hzl:(WJ z.cells n).toList.length=n*size:=by rw [mH,S.zs]
 have hone:∀u ∈ (WJ z.cells n).toList,u.oneCell'=true:=by
  intro u hu;simp only [WJ,Array.mem_toList_iff,Array.mem_map] at hu;obtain ⟨j,_,rfl⟩:=hu;have hlt:j % z.cells.size < z.cells.size:=Nat.mod_lt _ (by rw [S.zs];exact S.pos);rw [getElem!_pos z.cells _ hlt];exact hz1 _ (Array.getElem_mem hlt)
 have hst:=run_storeCells_at P g off e (WJ z.cells n).toList 0 cur w hrow (by rw [hzl];simpa using hfit) hone;simp only [Xp] at hst;obtain ⟨m,rfl⟩:∃m,n=m+1:=⟨n - 1,by omega⟩
 have hrun:(YC #[t] o.type #[.slice (some ⟨g,off,none⟩) (m+1) cap]).run P w=.ok (.tuple #[]) (jr w g cur off (WJ z.cells (m+1)).toList):=by
  simp [YC,run_underlying S.under,hzv,hst,jr,over]
 unfold WZ execOp;simp only [hop,resolve,invoke,builtin,Yp,Yo,XL,XQ,Yd,Yl,hs,hrun];exact hK' _ _ (hK _ hzl)
end

def Dr (w w':World):Prop:=∃n,w'=w.drewN n
theorem aJ {w:World} {p:Nat} {cs:Array Value} {T:TypeId} {i:Nat} {u:Value} (h:w.heap[p]? = some (.cells cs T (0,0))) (hi:cs[i]? = some u):w.cell? ⟨p,i,none⟩=some u:=by
 simp only [XF,h];exact hi
theorem aD {w:World} {p:Nat} {cs:Array Value} {T:TypeId} (h:w.heap[p]? = some (.cells cs T (0,0))) (i:Nat):w.frozen? ⟨p,i,none⟩=false:=frozen_of_row w p i cs T h

section
variable {P:Program} {ops:Array Oper} {Q:Exit->Act->World->Prop} {md:Xc} {S:World->Prop}
def gF (P:Program) (ops:Array Oper) (S:World->Prop) (o:Oper) (v:Value) (a:Act):Prop:=
 YieldsIf P ops S o v a\/(VN o (yielded ops a.tmps)=true/\∃(f:FuncId) (args:Array Value),∀w,S w->(execOp a.eval o).run P w=.ok (.enter f args) w/\Calls P f args w (fun e w'=>e=.returned v/\w=w'))
theorem gF.wpOp {i:Nat} {o:Oper} {v:Value} {a:Act} (hi:ops[i]? = some o) (hy:gF P ops S o v a)
  {K:Act->World->Prop} {w:World} (hS:S w) (h:K (a.put o.dst v) w):wpOp P ops Q i K a w:=by
 rcases hy with hy|⟨hw,f,args,hv⟩
 ·exact hy.wpOp hi hS h
 ·unfold Go.wpOp
  simp only [hi];obtain ⟨h1,h2⟩:=hv w hS;simp only [hw,if_true,WZ,h1,YN];refine .inl (Y6 h2 fun e w' he=>?_);obtain ⟨rfl,rfl⟩:=he;exact h
theorem gF.of_same {o:Oper} {v:Value} {a a':Act} (hy:gF P ops S o v a) (he:execOp a'.eval o=execOp a.eval o)
  (hw:VN o (yielded ops a'.tmps)=VN o (yielded ops a.tmps)):gF P ops S o v a':=by
 unfold gF YieldsIf at *;rw [he,hw];exact hy
theorem su {j:Nat} {oi oj:Oper} {v:Value} (hj:ops[j]? = some oj) (hap:oi.apart ops oj=true)
  (hsi:∀cs b,oi.op≠.select cs b) (hsj:∀cs b,oj.op≠.select cs b)
  (hQ:∀c a w,Q (.panic c) (a.put oi.dst v) w->Q (.panic c) a w) {K:Act->World->Prop} {a:Act} {w:World}
  (hy:gF P ops S oi v a) (h:wpOp P ops Q j K (a.put oi.dst v) w) :
  wpOp P ops Q j (fun a' w'=>gF P ops S oi v a'/\K (a'.put oi.dst v) w') a w:=by
 obtain ⟨h1,h2,h3⟩:=Oper.apart_spec hap
 have keep:∀(a:Act),gF P ops S oi v a->∀u,gF P ops S oi v (a.put oj.dst u):=fun a hy u=>
  hy.of_same (execOp_put oi hsi a oj.dst u h3) (wanted_put oi a oj.dst u h3)
 have keepD:∀d,gF P ops S oi v { a with defers:=d::a.defers }:=fun d=>hy.of_same rfl rfl
 unfold Go.wpOp at *;simp only [hj] at *;rw [wanted_put oj a oi.dst v h1] at h;split
 ·rename_i hw
  simp only [hw,if_true] at h
  rcases h with h|⟨hasks,hlets⟩
  case inr=>exact .inr ⟨by unfold Oper.asks at *;rw [execOp_put oj hsj a oi.dst v h1] at hasks;exact hasks,hlets⟩
  refine .inl ?_;unfold WZ at *;rw [execOp_put oj hsj a oi.dst v h1] at h;generalize (execOp a.eval oj).run P w=r at *
  cases r with
  |ok n w'=>
   cases n <;> simp only [YN] at h ⊢
   case value u=>exact ⟨keep a hy u,by rw [<-XK a v u h2];exact h⟩
   case skip=>exact ⟨keep a hy _,by rw [<-XK a v undef h2];exact h⟩
   case defer d=>
    refine ⟨keep _ (keepD d) _,?_⟩;rw [<-XK _ v undef h2,<-Act.put_defers];exact h
   case enter f args=>
    refine Y6 h fun e w'' he=>?_
    cases e with
    |returned u=>exact ⟨keep a hy u,by rw [<-XK a v u h2];exact he⟩
    |panicked c=>exact hQ _ _ _ he
    |outgrown=>exact he
   case row row args=>exact Rows.mono h fun u w'' he=>⟨keep a hy u,by rw [<-XK a v u h2];exact he⟩
  |halt x w'=>
   cases x <;> simp only [YN] at h ⊢
   case panic u=>exact hQ _ _ _ h
 ·rename_i hw
  simp only [hw] at h;exact ⟨keep a hy _,by rw [<-XK a v undef h2];exact h⟩
theorem w_ {i:Nat} {oi:Oper} {v:Value} (hi:ops[i]? = some oi) (hsel:∀(j:Nat) (o:Oper) cs b,ops[j]? = some o->o.op≠.select cs b)
  (hQ:∀c a w,Q (.panic c) (a.put oi.dst v) w->Q (.panic c) a w) :
  ∀(fuel:Nat) (listed:Array Bool) (a:Act) (w:World),
   (∀j oj,ops[j]? = some oj->j≠i->listed.getD j true=false->(∀e ∈ oj.after,WC md e=true->e.on≠i)->oi.apart ops oj=true) ->
   i ∈ Wt md ops listed->gF P ops S oi v a->S w ->
   wpAnyH P md ops Q S fuel (listed.setIfInBounds i true) (a.put oi.dst v) w->wpAnyH P md ops Q S (fuel+1) listed a w:=by
 intro fuel
 induction fuel with
 |zero=>
  intro listed a w _ hr hy hS H;refine ⟨fun h=>(by rw [h] at hr;cases hr),fun j hj=>?_⟩;by_cases hji:j=i
  ·subst hji;exact hy.wpOp hi hS ⟨hS,H⟩
  ·have:=ready_mono hj hji
   rw [H.1] at this
   cases this
 |succ fuel ih=>
  intro listed a w hfree hr hy hS H;refine ⟨fun h=>(by rw [h] at hr;cases hr),fun j hj=>?_⟩;by_cases hji:j=i
  ·subst hji;exact hy.wpOp hi hS ⟨hS,H⟩
  ·have h1:=H.2 j (ready_mono hj hji)
   obtain ⟨hjun,oj,hoj,hall⟩:=mem_ready.1 hj
   have hnot:∀e ∈ oj.after,WC md e=true->e.on≠i:=fun e he hb heq=>by
    have h1:=hall e he hb;have h0:=(mem_ready.1 hr).1;rw [heq] at h1
    rcases WV i listed.size with h'|h'
    ·simp [h'] at h0 h1;rw [h0] at h1;cases h1
    ·simp [XZ h'] at h1
   have h2:=su hoj (hfree j oj hoj hji hjun hnot) (fun cs b=>hsel i oi cs b hi) (fun cs b=>hsel j oj cs b hoj) hQ hy h1
   have hfree':∀k ok,ops[k]? = some ok->k≠i->(listed.setIfInBounds j true).getD k true=false ->
     (∀e ∈ ok.after,WC md e=true->e.on≠i)->oi.apart ops ok=true:=fun k ok hk hki hun hno=>by
    refine hfree k ok hk hki ?_ hno;by_cases hjk:j=k
    ·subst hjk;exact hjun
    ·rw [getD_set_ne true hjk] at hun;exact hun
   refine wpOp_mono (fun a' w' h3=>⟨h3.2.1,ih (listed.setIfInBounds j true) a' w' hfree' (ready_mono hr (Ne.symm hji)) h3.1 h3.2.1 ?_⟩) h2;rw [Array.setIfInBounds_comm _ _ hji];exact h3.2.2
def dU (P:Program) (ops:Array Oper) (S:World->Prop) (Q:Act->Prop):List Oper->Act->Prop
 |[],a=>Q a
 |o::rest,a=>∃v,gF P ops S o v a/\dU P ops S Q rest (a.put o.dst v)
theorem aT {Q:Act->Prop} {a:Act} (h:Q a):dU P ops S Q [] a:=h
theorem aR {Q:Act->Prop} {a:Act} {o:Oper} {rest:List Oper} {v:Value} (hw:VN o (yielded ops a.tmps)=true)
  (hv:∀w,S w->(execOp a.eval o).run P w=.ok (.value v) w) (h:dU P ops S Q rest (a.put o.dst v)):dU P ops S Q (o::rest) a:=
 ⟨v,.inl (.inl ⟨hw,hv⟩),h⟩
theorem vO {Q:Act->Prop} {a:Act} {o:Oper} {rest:List Oper} (hw:VN o (yielded ops a.tmps)=false)
  (h:dU P ops S Q rest (a.put o.dst undef)):dU P ops S Q (o::rest) a:=
 ⟨undef,.inl (.inr ⟨hw,rfl⟩),h⟩
theorem gT {Q:Act->Prop} {a:Act} {o:Oper} {rest:List Oper} {v:Value} {f:FuncId} {args:Array Value} (hw:VN o (yielded ops a.tmps)=true)
  (hv:∀w,(execOp a.eval o).run P w=.ok (.enter f args) w) (hc:∀w,S w->Calls P f args w (fun e w'=>e=.returned v/\w=w')) (h:dU P ops S Q rest (a.put o.dst v)):dU P ops S Q (o::rest) a:=
 ⟨v,.inr ⟨hw,f,args,fun w hS=>⟨hv w,hc w hS⟩⟩,h⟩
def dZ (md:Xc) (ops:Array Oper):Nat->Nat->Array Bool->Bool
 |_,0,_=>true
 |lo,n+1,listed=>Region.free md ops listed lo && (Wt md ops listed).contains lo && dZ md ops (lo+1) n (listed.setIfInBounds lo true)
def marks:Nat->Nat->Array Bool->Array Bool
 |_,0,listed=>listed
 |lo,n+1,listed=>marks (lo+1) n (listed.setIfInBounds lo true)
theorem pI (hs:WO ops=true) {w:World} (hS:S w) (hQ:∀c a w t v,Q (.panic c) (a.put (some t) v) w->Q (.panic c) a w) :
  ∀(n lo fuel:Nat) (listed:Array Bool) (a:Act) (l:List Oper),(∀j,j < n->ops[lo+j]? = l[j]?)->l.length=n->dZ md ops lo n listed=true ->
   dU P ops S (fun a'=>wpAnyH P md ops Q S fuel (marks lo n listed) a' w) l a->wpAnyH P md ops Q S (fuel+n) listed a w
 |0,lo,fuel,listed,a,l,_,hl,_,h=>by
  obtain rfl:=List.length_eq_zero_iff.1 hl;exact h
 |n+1,lo,fuel,listed,a,[],_,hl,_,_=>by simp at hl
 |n+1,lo,fuel,listed,a,o::l,hj,hl,hok,⟨v,hy,h⟩=>by
  simp only [dZ,Ww] at hok;obtain ⟨⟨hf,hr⟩,hok⟩:=hok;have h0:ops[lo]? = some o:=by have:=hj 0 (by omega);simpa using this
  refine w_ h0 (Region.noSelect_spec hs) (fun c a w=>by cases o.dst with|none=>exact id|some t=>exact hQ c a w t _) (fuel+n) listed a w (Region.free_spec h0 hf) (by simpa using hr) hy hS ?_;exact pI hs hS hQ n (lo+1) fuel _ _ l (fun j hjn=>by have:=hj (j+1) (by omega);rw [show lo+1+j=lo+(j+1) by omega,this];rfl) (by simpa using hl) hok h
theorem aH {l:List Oper} (lo n:Nat) {fuel:Nat} {listed:Array Bool} {a:Act} {w:World} (hs:(WO l.toArray && dZ md l.toArray lo n listed && decide (lo+n<=l.length))=true) (hS:S w) (hQ:∀c a w t v,Q (.panic c) (a.put (some t) v) w->Q (.panic c) a w)
  (h:dU P l.toArray S (fun a'=>wpAnyH P md l.toArray Q S fuel (marks lo n listed) a' w) ((l.drop lo).take n) a):wpAnyH P md l.toArray Q S (fuel+n) listed a w:=by
 simp only [Ww,decide_eq_true_eq] at hs;obtain ⟨⟨h1,h2⟩,h3⟩:=hs;refine pI h1 hS hQ n lo fuel listed a _ (fun j hj=>?_) ?_ h2 h
 ·rw [WR,if_pos hj,Wl];simp
 ·simp;omega
theorem ν {o:Oper} {a:Act} {w:World} {K:Act->World->Prop} {E:Prop} {f:FuncId} {args:Array Value} (hw:VN o (yielded ops a.tmps)=true) (hr:(execOp a.eval o).run P w=.ok (.enter f args) w)
  (hc:Calls P f args w (fun e w'=>∃v,e=.returned v/\K (a.put o.dst v) w')):if VN o (yielded ops a.tmps)=true then WZ P o a w K Q else E:=by
 rw [if_pos hw];unfold WZ;rw [hr];simp only [YN];refine Y6 hc fun e w' he=>?_
 obtain ⟨v,rfl,h⟩:=he;exact h
theorem nX {o:Oper} {a:Act} {w w':World} {K:Act->World->Prop} {E:Prop} {v:Value} (hw:VN o (yielded ops a.tmps)=true) (hr:(execOp a.eval o).run P w=.ok (.value v) w') (hc:K (a.put o.dst v) w'):if VN o (yielded ops a.tmps)=true then WZ P o a w K Q else E:=by
 rw [if_pos hw];unfold WZ;rw [hr];exact hc
theorem aM {l:List Oper} (i:Nat) {o:Oper} {rest:List Oper} {fuel:Nat} {listed:Array Bool} {a:Act} {w:World} (hr:Wt md l.toArray listed=[i]) (ho:l.drop i=o::rest)
  (h:∀K:Act->World->Prop,Shut (∀a w,S w->wpAnyH P md l.toArray Q S fuel (listed.setIfInBounds i true) a w->K a w)->if VN o (yielded l.toArray a.tmps)=true then WZ P o a w K Q else K (a.put o.dst undef) w) :
  wpAnyH P md l.toArray Q S (fuel+1) listed a w:=by
 have ho':l.toArray[i]? = some o:=by
  have:(l.drop i)[0]? = some o:=by rw [ho];rfl
  rw [Wl] at this;simpa using this
 refine wpAnyH_all hr (by simp) fun k hk=>?_
 obtain rfl:k=i:=by simpa using hk
 exact wpOp_step ho' fun K hK=>h K fun a w hS hW=>hK a w ⟨hS,hW⟩
theorem gm {l:List Oper} (i j:Nat) {o o':Oper} {rest rest':List Oper} {fuel:Nat} {listed:Array Bool} {a:Act} {w:World} (hr:Wt md l.toArray listed=[i,j]) (ho:l.drop i=o::rest) (ho':l.drop j=o'::rest')
  (h:∀K:Act->World->Prop,Shut (∀a w,S w->wpAnyH P md l.toArray Q S fuel (listed.setIfInBounds i true) a w->K a w)->if VN o (yielded l.toArray a.tmps)=true then WZ P o a w K Q else K (a.put o.dst undef) w)
  (h':∀K:Act->World->Prop,Shut (∀a w,S w->wpAnyH P md l.toArray Q S fuel (listed.setIfInBounds j true) a w->K a w)->if VN o' (yielded l.toArray a.tmps)=true then WZ P o' a w K Q else K (a.put o'.dst undef) w) :
  wpAnyH P md l.toArray Q S (fuel+1) listed a w:=by
 have hget:∀(k:Nat) (p:Oper) (r:List Oper),l.drop k=p::r->l.toArray[k]? = some p:=fun k p r hk=>by
  have:(l.drop k)[0]? = some p:=by rw [hk];rfl
  rw [Wl] at this;simpa using this
 refine wpAnyH_all hr (by simp) fun k hk=>?_
 rcases List.mem_cons.1 hk with rfl|hk
 ·exact wpOp_step (hget _ _ _ ho) fun K hK=>h K fun a w hS hW=>hK a w ⟨hS,hW⟩
 ·obtain rfl:k=j:=by simpa using hk
  exact wpOp_step (hget _ _ _ ho') fun K hK=>h' K fun a w hS hW=>hK a w ⟨hS,hW⟩
theorem dI {a:Act} {o:Oper} {rest:List Oper} {v:Value} {a':Act} {R:Act->Prop} (h:dU P ops S R rest a') (hw:Region.wanted o (yielded ops a.tmps)=true:=by rfl) (hv:∀w,S w->(execOp a.eval o).run P w=.ok (.value v) w:=by ((intro w' hS';go_simp);try with_reducible rfl)) (hp:a.put o.dst v=a':=by (simp only [Act.put,ag,Ψ,ae];exact rfl)):dU P ops S R (o::rest) a:=aR hw hv (hp ▸ h)
theorem Φ {l l':List Oper} (lo n:Nat) {fuel:Nat} {listed:Array Bool} {a:Act} {w:World} (hS:S w) (h:dU P l.toArray S (fun a'=>wpAnyH P md l.toArray Q S fuel (marks lo n listed) a' w) l' a) (hs:(Region.noSelect l.toArray && dZ md l.toArray lo n listed && decide (lo+n<=l.length))=true:=by kernel_rfl) (hQ:∀c a w t v,Q (.panic c) (a.put (some t) v) w->Q (.panic c) a w:=by exact fun _ _ _ _ _ h=>h)
  (hl:(l.drop lo).take n=l':=by (simp only [List.drop_zero,List.drop_succ_cons,List.take_succ_cons,List.take_zero];exact rfl)):wpAnyH P md l.toArray Q S (fuel+n) listed a w:=aH lo n hs hS hQ (hl ▸ h)
theorem ah {l:List Oper} (i:Nat) {o:Oper} {rest:List Oper} {fuel:Nat} {listed:Array Bool} {a:Act} {w:World}
  (h:∀K:Act->World->Prop,Shut (∀a w,S w->wpAnyH P md l.toArray Q S fuel (listed.setIfInBounds i true) a w->K a w)->if Region.wanted o (yielded l.toArray a.tmps)=true then Oper.wp P o a w K Q else K (a.put o.dst undef) w) (hr:Region.ready md l.toArray listed=[i]:=by kernel_rfl) (ho:l.drop i=o::rest:=by exact rfl) :
  wpAnyH P md l.toArray Q S (fuel+1) listed a w:=aM i hr ho h
theorem fZ {listed:Array Bool} {a:Act} {w:World} {fuel:Nat} (h:Q .normal a w) (hr:Region.ready md ops listed=[]:=by kernel_rfl):wpAnyH P md ops Q S fuel listed a w:=wpAnyH_done hr h fuel
theorem dC {R:Prop} (h:R:=by (with_reducible (repeat (first|exact Below.refl _ _|refine Bw.alloc ?_ _|refine Bw.drewN ?_ _|refine Bw.drew ?_)))):R:=h
theorem eZ {R:Prop} (h:R:=by (repeat (first|(with_reducible (first|exact Fr.refl _ _|refine Fr.setCell ?_ ?_ _|refine Fr.drewN ?_ _|refine Fr.drew ?_))|exact Or.inl rfl))):R:=h
theorem Ξ {R T:Prop} (h:T) (g:T->R:=by (intro hT;with_reducible (repeat (first|exact hT|apply aU|apply aP|apply aF)))):R:=g h
theorem FN {R T:Prop} (h:T) (g:T->R:=by (intro hT;with_reducible (repeat (first|exact hT|apply aP|apply aF|apply bC)))):R:=g h
theorem fe {R T:Prop} (h:T) (g:T->R:=by (intro hT;repeat (first|(with_reducible exact hT)|(with_reducible apply aU)|(with_reducible apply aP)|(with_reducible apply aF)|(with_reducible apply bC)|(apply bN (by first|omega|(simp <;> omega)))))):R:=g h
end

end Go.Proofs.YtjnbanjjoomecaaGreatDoor
