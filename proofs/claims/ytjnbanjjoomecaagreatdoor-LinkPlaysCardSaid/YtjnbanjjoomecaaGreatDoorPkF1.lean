/- Lemmas; no condition on the program. -/
import Derived.Test.YtjnbanjjoomecaaGreatDoorPkE1
import Derived.Deep.RegionLaw
import Derived.Test.YtjnbanjjoomecaaGreatDoorPkA1
namespace Go.Proofs.YtjnbanjjoomecaaGreatDoor
open Go.RowKit
open _root_.Go.Proofs.Tryz renaming prog→Vs
open Nat renaming le_refl→Vu, le_trans→VC, zero_le→VJ, lt_of_lt_of_le→VX
open List renaming getElem?_eq_getElem→Vw, getD_eq_getElem?_getD→We
open Option.some renaming inj→VM
open _root_.Go.RowKit.Below renaming refl→VQ, heap_alloc→WA
open World renaming ownsRow_nil→Y7
set_option maxRecDepth 100000
set_option maxHeartbeats 64000000
abbrev dV:=List (BitVec 8)
structure bg where
 cA:Nat
 aN:Nat
 cT:List dV
 aG:Nat
 pos:Nat
 cP:Nat
 timer:Nat
structure bg.Ok (s:bg):Prop where
 w1:1<=s.cA
 w2:s.cA<=128
 t1:1<=s.aN
 t2:s.aN<=1000
 cT:s.cT.length<=s.cA
 pos:s.pos<=s.cP
 cP:s.cP<=s.cT.length
 timer:s.timer<=s.aN
 small:∀d ∈ s.cT,d.length<=64
def eH (cA aN:Nat):bg:=⟨cA,aN,[],0,0,0,0⟩
def bg.dQ (s:bg) (d:dV):Nat × bg:=
 if 64 < d.length then (2,s) else if s.cA<=s.cT.length then (5,s) else (0,{ s with cT:=s.cT++[d] })
def bg.send (s:bg):(Nat × dV) × bg:=
 (((s.aG+s.pos) % 256,s.cT.getD s.pos []),{ s with pos:=s.pos+1,cP:=max s.cP (s.pos+1),timer:=0 })
def bg.cR (s:bg):Option (Nat × dV) × bg:=
 if s.cT.length=0 then (none,s)
 else if s.cT.length<=s.pos then
  if s.timer+1 < s.aN then (none,{ s with timer:=s.timer+1 })
  else (some ({ s with pos:=0 }.send).1,({ s with pos:=0 }.send).2)
 else (some s.send.1,s.send.2)
def bg.count (s:bg) (n:Int):Option Nat:=
 if n < 0\/256<=n then none
 else if s.cP < (n.toNat+256 - s.aG % 256) % 256 then none else some ((n.toNat+256 - s.aG % 256) % 256)
def bg.drop (s:bg) (k:Nat):bg:=
 if k=0 then s else { s with cT:=s.cT.drop k,aG:=s.aG+k,cP:=s.cP - k,pos:=s.pos - k,timer:=0 }
def bg.accept (s:bg) (n:Int):(Nat × Bool) × bg:=
 match s.count n with
 |none=>((0,false),s)
 |some k=>((k,true),s.drop k)
def bg.nJ (s:bg) (n:Int):Nat × bg:=((s.accept n).1.1,(s.accept n).2)
theorem yf {a b:Nat} (h1:1<=a) (h2:a<=128) (h3:1<=b) (h4:b<=1000):(eH a b).Ok:=
 ⟨h1,h2,h3,h4,by simp [eH],by simp [eH],by simp [eH],by simp [eH],by simp [eH]⟩
theorem Mo {s:bg} (h:s.Ok) (d:dV):(s.dQ d).2.Ok:=by
 unfold bg.dQ;split
 ·exact h
 ·split
  ·exact h
  ·rename_i h1 h2
   obtain ⟨a1,a2,a3,a4,a5,a6,a7,a8,a9⟩:=h;refine ⟨a1,a2,a3,a4,?_,a6,?_,a8,?_⟩
   ·simp;omega
   ·simp;omega
   ·intro x hx
    rcases List.mem_append.1 hx with hx|hx
    ·exact a9 x hx
    ·have:x=d:=by simpa using hx
     subst this;omega
theorem kr {s:bg} (h:s.Ok) (hp:s.pos < s.cT.length):s.send.2.Ok:=by
 obtain ⟨a1,a2,a3,a4,a5,a6,a7,a8,a9⟩:=h;exact ⟨a1,a2,a3,a4,a5,Nat.le_max_right _ _,Nat.max_le.2 ⟨a7,hp⟩,VJ _,a9⟩
theorem zk {s:bg} (h:s.Ok):s.cR.2.Ok:=by
 unfold bg.cR;split
 ·exact h
 ·split
  ·split
   ·obtain ⟨a1,a2,a3,a4,a5,a6,a7,a8,a9⟩:=h
    exact ⟨a1,a2,a3,a4,a5,a6,a7,by simp;omega,a9⟩
   ·obtain ⟨a1,a2,a3,a4,a5,a6,a7,a8,a9⟩:=h
    refine kr (s:={ s with pos:=0 }) ⟨a1,a2,a3,a4,a5,VJ _,a7,a8,a9⟩ ?_;show 0 < s.cT.length;omega
  ·exact kr h (by omega)
theorem Pf {s:bg} (h:s.Ok) (k:Nat) (hk:k<=s.cP):(s.drop k).Ok:=by
 unfold bg.drop;split
 ·exact h
 ·obtain ⟨a1,a2,a3,a4,a5,a6,a7,a8,a9⟩:=h
  refine ⟨a1,a2,a3,a4,?_,?_,?_,VJ _,fun d hd=>a9 d (List.mem_of_mem_drop hd)⟩
  ·simp;omega
  ·simp;omega
  ·simp;omega
theorem count_le {s:bg} {n:Int} {k:Nat} (h:s.count n=some k):k<=s.cP:=by
 unfold bg.count at h;split at h
 ·cases h
 ·split at h
  ·cases h
  ·obtain rfl:=VM h;omega
theorem Jt {s:bg} (h:s.Ok) (n:Int):(s.accept n).2.Ok:=by
 unfold bg.accept
 cases hc:s.count n with
 |none=>exact h
 |some k=>exact Pf h k (count_le hc)
theorem SH {s:bg} (h:s.Ok) (n:Int):(s.nJ n).2.Ok:=Jt h n
def bg.total (s:bg):Nat:=s.aG+s.cT.length
theorem Ef (s:bg):s.cR.2.total=s.total:=by
 unfold bg.cR bg.total;split
 ·rfl
 ·split
  ·split <;> rfl
  ·rfl
theorem EZ {s:bg} (k:Nat) (h:k<=s.cT.length):(s.drop k).total=s.total:=by
 unfold bg.drop bg.total;split
 ·rfl
 ·simp;omega
theorem Ag {s:bg} (h:s.Ok) (n:Int):(s.accept n).2.total=s.total:=by
 unfold bg.accept
 cases hc:s.count n with
 |none=>rfl
 |some k=>exact EZ k (VC (count_le hc) h.cP)

theorem qA:o8 Vs 51 40 (.slice none 0 0) 1 24:=⟨Tryz.underlying51,info_parts (by kernel_rfl),rfl,by decide⟩
def iO (s:bg) (kv:Value):Array Value := #[.int .i64 (s.cA:Int),.int .i64 (s.aN:Int),kv,.int .i64 (s.aG:Int),.int .i64 (s.pos:Int),.int .i64 (s.cP:Int),.int .i64 (s.timer:Int)]
def Kept (w:World) (D:Nat->Prop) (ks:List dV) (vs:List Value):Prop:=vs.length=ks.length/\∀(i:Nat) (d:dV),ks[i]? = some d->∃v,vs[i]? = some v/\JX w D v d
structure dW (w:World) (p:Nat) (K D:Nat->Prop) (s:bg):Prop where
 row:∃kv vs,w.heap[p]? = some (.cells (iO s kv) 244 (0,0))/\Sl w K 40 1 kv s.cT.length vs/\Kept w D s.cT vs
 pK:¬K p
 pD:¬D p
 dj:Dj K D
 lt:∀k,K k\/D k->k < w.heap.size
theorem Kept.keep {w w':World} {D:Nat->Prop} {ks:List dV} {vs:List Value} (h:Kept w D ks vs) (hk:∀k,D k->k < w.heap.size->w'.heap[k]? = w.heap[k]?):Kept w' D ks vs:=
 ⟨h.1,fun i d hd=>by obtain ⟨v,h1,h2⟩:=h.2 i d hd;exact ⟨v,h1,h2.keep hk⟩⟩
theorem Kept.mono {w:World} {D E:Nat->Prop} {ks:List dV} {vs:List Value} (h:Kept w D ks vs) (hD:∀k,D k->E k):Kept w E ks vs:=
 ⟨h.1,fun i d hd=>by obtain ⟨v,h1,h2⟩:=h.2 i d hd;exact ⟨v,h1,h2.mono hD⟩⟩
theorem Kept.snoc {w:World} {D:Nat->Prop} {ks:List dV} {vs:List Value} (h:Kept w D ks vs) {v:Value} {d:dV} (hv:JX w D v d):Kept w D (ks++[d]) (vs++[v]):=by
 refine ⟨by simp [h.1],fun i d' hd=>?_⟩;rw [List.getElem?_append] at hd ⊢;by_cases hi:i < ks.length
 ·rw [if_pos hi] at hd
  rw [if_pos (by rw [h.1];exact hi)];exact h.2 i d' hd
 ·rw [if_neg hi] at hd
  rw [if_neg (by rw [h.1];exact hi),h.1]
  have:i - ks.length=0:=by
   rcases Nat.eq_zero_or_pos (i - ks.length) with h0|h0
   ·exact h0
   ·rw [List.getElem?_eq_none (by simp;omega)] at hd;cases hd
  rw [this] at hd ⊢;obtain rfl:d=d':=by simpa using hd
  exact ⟨v,rfl,hv⟩
theorem Kept.drop {w:World} {D:Nat->Prop} {ks:List dV} {vs:List Value} (h:Kept w D ks vs) (k:Nat):Kept w D (ks.drop k) (vs.drop k):=
 ⟨by simp [h.1],fun i d hd=>by rw [List.getElem?_drop] at hd ⊢;exact h.2 _ d hd⟩
theorem dW.keep {w w':World} {p:Nat} {K D:Nat->Prop} {s:bg} (h:dW w p K D s) (hs:w.heap.size<=w'.heap.size) (hk:∀k,(k=p\/K k\/D k)->k < w.heap.size->w'.heap[k]? = w.heap[k]?):dW w' p K D s:=by
 obtain ⟨⟨kv,vs,h1,h2,h3⟩,h4,h5,h6,h7⟩:=h;exact ⟨⟨kv,vs,(hk p (.inl rfl) (lt_of_block h1)).trans h1,h2.keep fun k f=>hk k (.inr (.inl f)),h3.keep fun k f=>hk k (.inr (.inr f))⟩,h4,h5,h6,fun k f=>VX (h7 k f) hs⟩
theorem cW {w:World} {p:Nat} {s:bg} {kv:Value} (h:w.heap[p]? = some (.cells (iO s kv) 244 (0,0))) :
  w.cell? ⟨p,0,none⟩=some (.int .i64 (s.cA:Int))/\w.cell? ⟨p,1,none⟩=some (.int .i64 (s.aN:Int))/\w.cell? ⟨p,2,none⟩=some kv/\w.cell? ⟨p,3,none⟩=some (.int .i64 (s.aG:Int)) /\
  w.cell? ⟨p,4,none⟩=some (.int .i64 (s.pos:Int))/\w.cell? ⟨p,5,none⟩=some (.int .i64 (s.cP:Int))/\w.cell? ⟨p,6,none⟩=some (.int .i64 (s.timer:Int)):=
 ⟨aJ h rfl,aJ h rfl,aJ h rfl,aJ h rfl,aJ h rfl,aJ h rfl,aJ h rfl⟩
theorem kN {w:World} {p:Nat} {s:bg} {kv:Value} (h:w.heap[p]? = some (.cells (iO s kv) 244 (0,0))) :
  w.frozen? ⟨p,2,none⟩=false/\w.frozen? ⟨p,3,none⟩=false/\w.frozen? ⟨p,4,none⟩=false/\w.frozen? ⟨p,5,none⟩=false/\w.frozen? ⟨p,6,none⟩=false:=
 ⟨aD h _,aD h _,aD h _,aD h _,aD h _⟩
def NP (p:Nat) (K:Nat->Prop):Nat->Prop:=fun k=>k=p\/K k
theorem EJ (p:Nat) (K D:Nat->Prop) (s:bg) (hok:s.Ok) (v:Value) (d:dV) (w:World) (hs:dW w p K D s) (hv:By w v d) (hd:d.length<=64) (hfull:s.cA<=s.cT.length) :
  Calls Vs 147 #[.pointer (some ⟨p,0,none⟩),v] w fun e w'=>e=.returned (.int .i64 5)/\Dr w w':=by
 obtain ⟨kv,vs,hrow,hsl,hk⟩:=hs.row;obtain ⟨a,cap,rfl⟩:=hv.slice;obtain ⟨ka,uj,rfl⟩:=hsl.shape;obtain ⟨c0,_,c2,_⟩:=cW hrow;have hw2:=hok.w2;have hk2:=hok.cT;clear hs hsl hk hv hrow;go_enter Tryz.func147,Tryz.ntmps147;go_wp2_with fail;go_quiet (fail);go_wp2_with fail;go_ret;exact ⟨rfl,_,rfl⟩
theorem IP (p:Option Nat) (v:Value) (d:dV) (w:World) (hv:By w v d) (hd:64 < d.length) :
  Calls Vs 147 #[.pointer (p.map fun p=>⟨p,0,none⟩),v] w fun e w'=>e=.returned (.int .i64 (if p.isSome then 2 else 1))/\w=w':=by
 obtain ⟨a,cap,rfl⟩:=hv.slice;clear hv
 cases p
 all_goals
  go_enter Tryz.func147,Tryz.ntmps147;go_wp2_with fail;go_ret;exact ⟨rfl,rfl⟩
theorem Ow.Ue {T:TypeId} {w:World} {base:Nat} {v:Value} {bs:List (BitVec 8)} (h:Ow T w base v bs):JX w (fun k=>base<=k/\k < w.heap.size) v bs:=by
 refine ⟨h.by,fun b hb=>?_⟩;obtain ⟨_,⟨rfl,_⟩|⟨g,cap,cur,rfl,h1,h2,_⟩⟩:=h
 ·cases hb
 ·obtain rfl:g=b:=by simpa [Value.ownBlock] using hb
  exact ⟨h1,lt_of_block h2⟩
theorem EK {w w1 w2:World} {p:Nat} {K D:Nat->Prop} {s:bg} {kv v1 u2:Value} {vs:List Value} {d:dV} {o:Obj} (hs:dW w p K D s) (hk:Kept w D s.cT vs)
  (hB1:Below w.heap.size w w1) (Db:Ow 5 w1 w.heap.size v1 d) (hsl:Sl w2 (fun k=>K k\/(w1.alloc o).heap.size<=k) 40 1 u2 (s.cT.length+1) (vs++[v1]))
  (hF:Fr K (w1.alloc o) w2) (hrow:w2.heap[p]? = some (.cells (iO s kv) 244 (0,0))) :
  ∃K' D',dW (w2.setCell ⟨p,2,none⟩ u2) p K' D' { s with cT:=s.cT++[d] }/\Fr (NP p K) w (w2.setCell ⟨p,2,none⟩ u2)/\Ext w K K'/\Ext w D D':=by
 have hp:p < w.heap.size:=by obtain ⟨kv,vs,h,_⟩:=hs.row;exact lt_of_block h
 have hsz:(w1.alloc o).heap.size=w1.heap.size+1:=by simp
 have hs1:=hB1.size;have hs2:=hF.size
 have hF1:Fr K w w2:=by
  refine Fr.trans (F:=K) (G:=K) ?_ hF fun x h=>.inl h
  exact ((Fr.refl K w).of_below hB1).alloc o
 have hFw:Fr (NP p K) w (w2.setCell ⟨p,2,none⟩ u2):=(hF1.mono fun k h=>.inr h).setCell (.inl (.inl rfl)) _;have hother:∀k,k≠p->(w2.setCell ⟨p,2,none⟩ u2).heap[k]? = w2.heap[k]?:=fun k hk=>heap_setCell_other w2 _ k _ hk
 refine ⟨fun k=>(K k\/(w1.alloc o).heap.size<=k)/\k < w2.heap.size,fun k=>D k\/(w.heap.size<=k/\k < w1.heap.size),?_,hFw,?_,?_⟩
 ·refine ⟨⟨u2,vs++[v1],?_,?_,?_⟩,?_,?_,?_,?_⟩
  ·have:=heap_setCell_same w2 p 2 _ _ u2 hrow
   exact this
  ·have h:=hsl.bound.keep (w':=w2.setCell ⟨p,2,none⟩ u2) fun k hk _=>hother k (by
    rintro rfl
    rcases hk.1 with h|h
    ·exact hs.pK h
    ·omega)
   simpa using h
  ·refine Kept.snoc ?_ ?_
   ·refine (hk.keep fun k hD hl=>?_).mono fun k h=>.inl h
    exact hFw.block k hl fun h=>by
     rcases h with rfl|h
     ·exact hs.pD hD
     ·exact hs.dj k h hD
   ·refine ((Db.Ue).keep fun k hk _=>?_).mono fun k h=>.inr h
    rw [hother k (by omega)];rw [hF.block k (by omega) fun h=>by have:=hs.lt k (.inl h);omega];exact WA w1 o k hk.2
  ·rintro ⟨h|h,_⟩
   ·exact hs.pK h
   ·omega
  ·rintro (h|h)
   ·exact hs.pD h
   ·omega
  ·rintro k ⟨h|h,_⟩ (h'|h')
   ·exact hs.dj k h h'
   ·have:=hs.lt k (.inl h);omega
   ·have:=hs.lt k (.inr h');omega
   ·omega
  ·intro k h
   show k < (w2.setCell ⟨p,2,none⟩ u2).heap.size;have:(w2.setCell ⟨p,2,none⟩ u2).heap.size=w2.heap.size:=by simp
   rw [this]
   rcases h with h|h|h
   ·exact h.2
   ·have:=hs.lt k (.inr h);omega
   ·omega
 ·rintro k ⟨h|h,_⟩
  ·exact .inl h
  ·exact .inr (by omega)
 ·rintro k (h|h)
  ·exact .inl h
  ·exact .inr h.1
theorem EI (p:Nat) (K D:Nat->Prop) (s:bg) (hok:s.Ok) (v:Value) (d:dV) (w:World) (hs:dW w p K D s) (hv:By w v d) (hd:d.length<=64) (hroom:s.cT.length < s.cA) :
  Calls Vs 147 #[.pointer (some ⟨p,0,none⟩),v] w fun e w'=>e=.returned (.int .i64 0)/\∃K' D',dW w' p K' D' { s with cT:=s.cT++[d] }/\Fr (NP p K) w w'/\Ext w K K'/\Ext w D D':=by
 obtain ⟨kv,vs,hrow,hsl,hk⟩:=hs.row;obtain ⟨a,cap,rfl⟩:=hv.slice;obtain ⟨ka,uj,rfl⟩:=hsl.shape;obtain ⟨c0,_,c2,_⟩:=cW hrow;have hlt:=lt_of_block hrow;have hw2:=hok.w2;have hk2:=hok.cT;have HS:=aQ hs;clear hs;have gK:=aQ hsl;clear hsl;have HK:=aQ hk;clear hk;have HV:=aQ hv;clear hv;have θ:=aQ hrow;clear hrow;go_enter Tryz.func147,Tryz.ntmps147;go_wp2_with fail;go_quiet (fail);go_wp2_with fail
 go_region_law (first
  |(refine υ qA rfl _ _ rfl K _ s.cT.length vs rfl (Oe.out.alloc _) _ 1 [.slice a1 d.length Ry] rfl (iA _ _ _ _ rfl) (by intro u hu;simp at hu;subst hu;rfl) (by unfold maxLen;omega) (by omega) ?_;intro v2 w2 hsl2 hfr2;obtain ⟨g2,cz,cap2,rfl,_⟩:=Sl.head hsl2 (by omega);have Od:=aQ hsl2;have aa8:=aQ hfr2;have ay:=aQ (hfr2.keep ((WA _ _ p (lt_of_block ξ.out)).trans ξ.out) HS.out.pK);have abY:=(cW ay.out).2.2.1;have abX:=(kN ay.out).1;clear hsl2 hfr2)
  |(go_simp;go_at_call 69;refine (cV _ d _ (by exact HV.out.drewN _) (by omega)).mono ?_;rintro e w1 ⟨v1,rfl,Db,hB1⟩;obtain ⟨a1,Ry,rfl⟩:=gX Db;have Dk:=aQ Db;have HB1:=aQ hB1;have Oe:=aQ (gK.out.keep fun k hk hl=>hB1.block k hl);have ξ:=aQ ((hB1.block p hlt).trans θ.out);have c2':=(cW ξ.out).2.2.1;have l1:=lt_of_block ξ.out;clear Db hB1))
 all_goals go_wp2_with fail
 all_goals go_ret
 all_goals exact ⟨rfl,EK HS.out HK.out ⟨HB1.out.os,HB1.out.tape,HB1.out.output,HB1.out.size,HB1.out.block⟩ Dk.out Od.out aa8.out ay.out⟩

theorem dW.put {w w':World} {p:Nat} {K D:Nat->Prop} {s s':bg} {kv:Value} {vs:List Value} (h:dW w p K D s) (hsl:Sl w K 40 1 kv s'.cT.length vs) (hk:Kept w D s'.cT vs)
  (hF:Fr (fun k=>k=p) w w') (hrow:w'.heap[p]? = some (.cells (iO s' kv) 244 (0,0))):dW w' p K D s':=
 ⟨⟨kv,vs,hrow,hsl.keep fun k hk hl=>hF.block k hl fun e=>h.pK (e ▸ hk),hk.keep fun k hk hl=>hF.block k hl fun e=>h.pD (e ▸ hk)⟩,h.pK,h.pD,h.dj,fun k f=>VX (h.lt k f) hF.size⟩
theorem MB (p:Nat) (K D:Nat->Prop) (s:bg) (w:World) (hs:dW w p K D s) :
  Calls Vs 143 #[.pointer (some ⟨p,0,none⟩)] w fun e w'=>e=.returned (.int .i64 (s.cT.length:Int))/\w=w':=by
 obtain ⟨kv,vs,hrow,hsl,hk⟩:=hs.row;obtain ⟨ka,uj,rfl⟩:=hsl.shape;obtain ⟨_,_,c2,_⟩:=cW hrow;clear hs hsl hk hrow;go_enter Tryz.func143,Tryz.ntmps143;go_wp2_with fail;go_ret;exact ⟨rfl,rfl⟩
theorem G8 (p:Nat) (K D:Nat->Prop) (s:bg) (_:s.Ok) (ht:s.total < 1000000000000) (w:World) (hs:dW w p K D s) :
  Calls Vs 148 #[.pointer (some ⟨p,0,none⟩)] w fun e w'=>e=.returned (.tuple #[.int .i64 ((s.aG:Int)+(s.cT.length:Int)),.int .i64 (s.aG:Int)])/\Dr w w':=by
 obtain ⟨kv,vs,hrow,hsl,hk⟩:=hs.row;obtain ⟨ka,uj,rfl⟩:=hsl.shape;obtain ⟨_,_,c2,c3,_⟩:=cW hrow;unfold bg.total at ht;clear hs hsl hk hrow;go_enter Tryz.func148,Tryz.ntmps148;go_wp2_with fail;go_quiet (fail);go_wp2_with fail;go_ret2;exact ⟨rfl,_,rfl⟩
theorem Aa (a b:Nat) (w:World) (h1:1<=a) (h2:a<=128) (h3:1<=b) (h4:b<=1000) :
  Calls Vs 126 #[.int .i64 (a:Int),.int .i64 (b:Int)] w fun e w'=>e=.returned (.tuple #[.pointer (some ⟨w.heap.size,0,none⟩),.int .i64 0]) /\
   dW w' w.heap.size (fun _=>False) (fun _=>False) (eH a b)/\Below w.heap.size w w':=by
 go_enter Tryz.func126,Tryz.ntmps126;go_wp2_with fail;go_ret2;refine ⟨rfl,⟨⟨.slice none 0 0,[],heap_alloc_new w _,Sl.nil _ _ _ _,rfl,fun i d h=>by cases h⟩,id,id,fun _ h=>h.elim,fun _ h=>by rcases h with h|h <;> exact h.elim⟩,(VQ _ _).alloc (Vu _) _⟩
theorem Fs (p:Nat) (K D:Nat->Prop) (s:bg) (hok:s.Ok) (_:s.total < 1000000000000) (n:Int) (w:World) (hs:dW w p K D s) (hn:s.count n=none) :
  Calls Vs 166 #[.pointer (some ⟨p,0,none⟩),.int .i64 n] w fun e w'=>e=.returned (.tuple #[.int .i64 0,.bool false])/\w=w':=by
 obtain ⟨kv,vs,hrow,hsl,hk⟩:=hs.row;obtain ⟨_,_,_,c3,_,c5,_⟩:=cW hrow;have qI:=hok.cP;have hkl:=hok.cT;have hw2:=hok.w2
 have hn':n < 0\/256<=n\/(0<=n/\n < 256/\(s.cP:Int) < (n+256 - (s.aG:Int) % 256) % 256):=by
  unfold bg.count at hn;split at hn
  ·omega
  ·split at hn
   ·omega
   ·cases hn
 clear hs hsl hk hrow hok hn;go_enter Tryz.func166,Tryz.ntmps166;go_wp2_with fail
 all_goals go_ret2
 all_goals exact ⟨rfl,rfl⟩
theorem Fq (p:Nat) (K D:Nat->Prop) (s:bg) (hok:s.Ok) (ht:s.total < 1000000000000) (n:Int) (w:World) (hs:dW w p K D s) (k:Nat) (hn:s.count n=some k) :
  Calls Vs 166 #[.pointer (some ⟨p,0,none⟩),.int .i64 n] w fun e w'=>e=.returned (.tuple #[.int .i64 (k:Int),.bool true])/\dW w' p K D (s.drop k)/\Fr (fun k=>k=p) w w':=by
 obtain ⟨kv,vs,hrow,hsl,hk⟩:=hs.row;obtain ⟨_,_,c2,c3,c4,c5,c6⟩:=cW hrow;obtain ⟨f2,f3,f4,f5,f6⟩:=kN hrow;have qI:=hok.cP;have hpos:=hok.pos;have hkl:=hok.cT;have hw2:=hok.w2
 have hn':0<=n/\n < 256/\(n - (s.aG:Int)) % 256=(k:Int)/\k<=s.cP/\(n - (s.aG:Int) % 256+256) % 256=(k:Int):=by
  unfold bg.count at hn;split at hn
  ·cases hn
  ·split at hn
   ·cases hn
   ·have:=VM hn;omega
 obtain ⟨n0,n1,nk,ks,nk2⟩:=hn';unfold bg.total at ht;have HS:=aQ hs;clear hs;have gK:=aQ hsl;clear hsl;have HK:=aQ hk;clear hk;have θ:=aQ hrow;clear hrow;clear hok hn;by_cases hz:k=0
 ·subst hz
  clear f2 f3 f4 f5 f6 c2 c4 c6;go_enter Tryz.func166,Tryz.ntmps166;go_wp2_with fail;go_ret2;exact ⟨by simp [nk2],by simpa [bg.drop] using HS.out,Fr.refl _ _⟩
 ·have kp:0 < s.cT.length:=by omega
  obtain ⟨kg,J9,uj,rfl,_,kc⟩:=gK.out.head kp;go_enter Tryz.func166,Tryz.ntmps166;go_wp2_with fail
  all_goals go_ret2
  all_goals refine ⟨by first|rfl|(simp [nk2]),dW.put (kv:=.slice (if uj=k then some ⟨kg,J9,none⟩ else some ⟨kg,J9+k,none⟩) (s.cT.length - k) (uj - k)) (vs:=vs.drop k) HS.out (by simpa [bg.drop,hz] using gK.out.drop (k:=k) (by omega)) (by simpa [bg.drop,hz] using HK.out.drop k) (by exact eZ) (by (refine aS (Ξ θ.out) ?_);simp [iO,bg.drop, *];try omega),by exact eZ⟩

theorem Fu (p:Nat) (K D:Nat->Prop) (s:bg) (hok:s.Ok) (ht:s.total < 1000000000000) (n:Int) (w:World) (hs:dW w p K D s) :
  Calls Vs 166 #[.pointer (some ⟨p,0,none⟩),.int .i64 n] w fun e w'=>
   e=.returned (.tuple #[.int .i64 ((s.accept n).1.1:Int),.bool (s.accept n).1.2])/\dW w' p K D (s.accept n).2/\Fr (fun k=>k=p) w w':=by
 cases hc:s.count n with
 |none=>
  refine (Fs p K D s hok ht n w hs hc).mono fun e w' ⟨he,hw⟩=>?_
  subst hw;have:s.accept n=((0,false),s):=by simp [bg.accept,hc]
  rw [this];exact ⟨he,hs,Fr.refl _ _⟩
 |some k=>
  have:s.accept n=((k,true),s.drop k):=by simp [bg.accept,hc]
  rw [this];exact Fq p K D s hok ht n w hs k hc
theorem Pv (p:Nat) (K D:Nat->Prop) (s:bg) (hok:s.Ok) (ht:s.total < 1000000000000) (n:Int) (w:World) (hs:dW w p K D s) :
  Calls Vs 160 #[.pointer (some ⟨p,0,none⟩),.int .i64 n] w fun e w'=>
   e=.returned (.int .i64 ((s.nJ n).1:Int))/\dW w' p K D (s.nJ n).2/\Fr (fun k=>k=p) w w':=by
 unfold bg.nJ;have HC:=aQ (Fu p K D s hok ht n w hs);generalize s.accept n=r at *;clear hs hok ht;go_enter Tryz.func160,Tryz.ntmps160;go_wp2_with (go_at_call 166;refine HC.out.mono ?_;rintro e w1 ⟨rfl,hs1,hf1⟩;have jU:=aQ hs1;have NI:=aQ hf1;clear hs1 hf1);go_ret;exact ⟨rfl,jU.out,NI.out⟩
theorem Eh (p:Nat) (K D:Nat->Prop) (s:bg) (w:World) (hs:dW w p K D s) (h0:s.cT.length=0) :
  Calls Vs 104 #[.pointer (some ⟨p,0,none⟩)] w fun e w'=>e=.returned (.tuple #[.int .i64 0,.slice none 0 0,.bool false])/\w=w':=by
 obtain ⟨kv,vs,hrow,hsl,hk⟩:=hs.row;obtain ⟨ka,uj,rfl⟩:=hsl.shape;obtain ⟨_,_,c2,_⟩:=cW hrow;clear hs hsl hk hrow;go_enter Tryz.func104,Tryz.ntmps104;go_wp2_with fail
 go_ret3
 exact ⟨rfl,rfl⟩
theorem G9 (p:Nat) (K D:Nat->Prop) (s:bg) (hok:s.Ok) (w:World) (hs:dW w p K D s) (h0:0 < s.cT.length) (h1:s.cT.length<=s.pos) (h2:s.timer+1 < s.aN) :
  Calls Vs 104 #[.pointer (some ⟨p,0,none⟩)] w fun e w'=>e=.returned (.tuple #[.int .i64 0,.slice none 0 0,.bool false])/\dW w' p K D { s with timer:=s.timer+1 }/\Fr (fun k=>k=p) w w':=by
 obtain ⟨kv,vs,hrow,hsl,hk⟩:=hs.row;obtain ⟨ka,uj,rfl⟩:=hsl.shape;obtain ⟨_,c1,c2,c3,c4,c5,c6⟩:=cW hrow;obtain ⟨_,_,_,_,f6⟩:=kN hrow;have hpos:=hok.pos;have qI:=hok.cP;have hkl:=hok.cT;have hw2:=hok.w2;have ht2:=hok.t2;have HS:=aQ hs;clear hs;have gK:=aQ hsl;clear hsl;have HK:=aQ hk;clear hk;have θ:=aQ hrow;clear hrow;clear hok;go_enter Tryz.func104,Tryz.ntmps104;go_wp2_with fail;go_quiet (fail);go_wp2_with fail;go_quiet (fail);go_wp2_with fail
 go_ret3
 exact ⟨rfl,dW.put (kv:=.slice ka s.cT.length uj) (vs:=vs) HS.out gK.out HK.out (by exact eZ) (by (refine aS (Ξ θ.out) ?_);rfl),by exact eZ⟩

theorem Kept.at {w:World} {D:Nat->Prop} {ks:List dV} {vs:List Value} (h:Kept w D ks vs) {i:Nat} (hi:i < ks.length):∃v,vs[i]? = some v/\JX w D v (ks.getD i []):=by
 refine h.2 i _ ?_;rw [Vw hi];simp [List.getD,hi]
theorem Ow.fr {T:TypeId} {w w':World} {base:Nat} {v:Value} {bs:List (BitVec 8)} (h:Ow T w base v bs) {F:Nat->Prop} (hF:Fr F w w') (hb:∀k,F k->k < base):Ow T w' base v bs:=by
 obtain ⟨hl,h|⟨g,cap,cur,rfl,hg,hrow,h1⟩⟩:=h
 ·exact ⟨hl,.inl h⟩
 ·exact ⟨hl,.inr ⟨g,cap,cur,rfl,hg,hF.keep hrow fun f=>by have:=hb g f;omega,h1⟩⟩
theorem xO {w w0 w1 w2:World} {p:Nat} {K D:Nat->Prop} {s s':bg} {kv v:Value} {vs:List Value} {d:dV} (hs:dW w p K D s) (hk:Kept w D s.cT vs) (hsl:Sl w K 40 1 kv s.cT.length vs)
  (Tk:Fr (fun k=>k=p) w w0) (hB:Below w.heap.size w0 w1) (hO:Ow 5 w1 w.heap.size v d) (hF:Fr (fun k=>k=p) w1 w2)
  (hrow:w2.heap[p]? = some (.cells (iO s' kv) 244 (0,0))) (hkept:s'.cT=s.cT) :
  Ow 5 w2 w.heap.size v d/\dW w2 p K D s'/\Fr (fun k=>k=p) w w2:=by
 have hp:p < w.heap.size:=by obtain ⟨kv,vs,h,_⟩:=hs.row;exact lt_of_block h
 have hsz:=Tk.size;have h01:Fr (fun k=>k=p) w w1:=⟨hB.os.trans Tk.os,hB.tape.trans Tk.tape,hB.output.trans Tk.output,VC Tk.size hB.size,fun k hk hn=>(hB.block k hk).trans (Tk.block k hk hn)⟩;have hall:Fr (fun k=>k=p) w w2:=h01.trans hF fun x h=>.inl h
 refine ⟨hO.fr hF fun k hk=>by subst hk;exact hp,?_,hall⟩;exact dW.put hs (by rw [hkept];exact hsl) (by rw [hkept];exact hk) hall hrow
theorem G_ (p:Nat) (K D:Nat->Prop) (s:bg) (hok:s.Ok) (ht:s.total < 1000000000000) (w:World) (hs:dW w p K D s) (h0:s.pos < s.cT.length) :
  Calls Vs 104 #[.pointer (some ⟨p,0,none⟩)] w fun e w'=>∃v,e=.returned (.tuple #[.int .i64 (s.send.1.1:Int),v,.bool true])/\Ow 5 w' w.heap.size v s.send.1.2/\dW w' p K D s.send.2/\Fr (fun k=>k=p) w w':=by
 obtain ⟨kv,vs,hrow,hsl,hk⟩:=hs.row;obtain ⟨kg,J9,uj,rfl,_,kc⟩:=hsl.head (by omega);obtain ⟨u,hu,hud⟩:=hk.at h0;have cu:=hsl.cell _ _ hu;have hsend:s.send.1.2=s.cT.getD s.pos []:=rfl;obtain ⟨d0,hd0⟩:∃d,d=s.cT.getD s.pos []:=⟨_,rfl⟩
 have TK:(s.cT.getD s.pos []).length<=64:=by
  refine hok.small _ ?_;rw [We,Vw h0];simp
 rw [hsend];clear hsend;rw [<-hd0] at hud TK ⊢;clear hd0;obtain ⟨ua,aax,rfl⟩:=hud.1.slice;obtain ⟨_,c1,c2,c3,c4,c5,c6⟩:=cW hrow;obtain ⟨_,_,f4,f5,f6⟩:=kN hrow;have hpos:=hok.pos;have qI:=hok.cP;have hkl:=hok.cT;have hw2:=hok.w2;have hlt:=lt_of_block hrow;unfold bg.total at ht;have HS:=aQ hs;clear hs;have gK:=aQ hsl;clear hsl;have HK:=aQ hk;clear hk;have θ:=aQ hrow;clear hrow;have HUD:=aQ hud;clear hud;have HU:=aQ hu;clear hu;clear hok;go_enter Tryz.func104,Tryz.ntmps104;go_wp2_with fail;go_quiet (fail);go_wp2_with fail;go_quiet (fail);go_wp2_with fail
 go_region_law (go_simp;go_at_call 69;refine (cV _ _ _ (by exact HUD.out.1.drewN _) (by omega)).mono ?_;rintro e w1 ⟨v1,rfl,Db,hB1⟩;obtain ⟨a1,Ry,rfl⟩:=gX Db;have Dk:=aQ Db;have HB1:=aQ hB1;have ξ:=aQ ((hB1.block p hlt).trans θ.out);obtain ⟨_,_,_,_,c4',c5',c6'⟩:=cW ξ.out;obtain ⟨_,_,f4',f5',f6'⟩:=kN ξ.out;clear Db hB1)
 all_goals go_wp2_with fail
 all_goals go_region
 all_goals go_wp2_with fail
 all_goals go_ret3
 all_goals refine ⟨_,rfl,xO HS.out HK.out gK.out (Fr.refl _ _) ⟨HB1.out.os,HB1.out.tape,HB1.out.output,HB1.out.size,HB1.out.block⟩ Dk.out (by exact eZ) (by (refine aS (Ξ ξ.out) ?_);simp [iO,bg.send];omega) rfl⟩
theorem Cn (p:Nat) (K D:Nat->Prop) (s:bg) (hok:s.Ok) (ht:s.total < 1000000000000) (w:World) (hs:dW w p K D s) (h0:0 < s.cT.length) (h1:s.cT.length<=s.pos) (h2:s.aN<=s.timer+1) :
  Calls Vs 104 #[.pointer (some ⟨p,0,none⟩)] w fun e w'=>∃v,e=.returned (.tuple #[.int .i64 (({ s with pos:=0 }:bg).send.1.1:Int),v,.bool true])/\Ow 5 w' w.heap.size v ({ s with pos:=0 }:bg).send.1.2/\dW w' p K D ({ s with pos:=0 }:bg).send.2/\Fr (fun k=>k=p) w w':=by
 obtain ⟨kv,vs,hrow,hsl,hk⟩:=hs.row;obtain ⟨kg,J9,uj,rfl,hKg,kc⟩:=hsl.head (by omega);have hne:¬kg=p:=fun e=>hs.pK (e ▸ hKg)
 have hne':¬p=kg:=fun e=>hne e.symm
 have ht2:=hok.t2;have htm:=hok.timer;obtain ⟨u,hu,hud⟩:=hk.at h0;have cu:=hsl.cell _ _ hu;rw [Nat.add_zero] at cu;have hsend:({ s with pos:=0 }:bg).send.1.2=s.cT.getD 0 []:=rfl;obtain ⟨d0,hd0⟩:∃d,d=s.cT.getD 0 []:=⟨_,rfl⟩
 have TK:(s.cT.getD 0 []).length<=64:=by
  refine hok.small _ ?_;rw [We,Vw h0];simp
 rw [hsend];clear hsend;rw [<-hd0] at hud TK ⊢;clear hd0;obtain ⟨ua,aax,rfl⟩:=hud.1.slice;obtain ⟨_,c1,c2,c3,c4,c5,c6⟩:=cW hrow;obtain ⟨_,_,f4,f5,f6⟩:=kN hrow;have hpos:=hok.pos;have qI:=hok.cP;have hkl:=hok.cT;have hw2:=hok.w2;have hlt:=lt_of_block hrow;unfold bg.total at ht;have HS:=aQ hs;clear hs;have gK:=aQ hsl;clear hsl;have HK:=aQ hk;clear hk;have θ:=aQ hrow;clear hrow;have HUD:=aQ hud;clear hud;have HU:=aQ hu;clear hu;clear hok;go_enter Tryz.func104,Tryz.ntmps104;go_wp2_with fail;go_quiet (fail);go_wp2_with fail;go_quiet (fail);go_wp2_with fail;go_quiet (fail);go_wp2_with fail
 go_region_law (go_simp;go_at_call 69;refine (cV _ d0 _ (by exact (HUD.out.keep fun k hk hl=>(show Fr (fun k=>k=p) w _ by exact eZ).block k hl fun e=>HS.out.pD (e ▸ hk)).1) (by omega)).mono ?_;rintro e w1 ⟨v1,rfl,Db,hB1⟩;obtain ⟨a1,Ry,rfl⟩:=gX Db;have Dk:=aQ Db;have HB1:=aQ hB1;have ξ:=aQ (show w1.heap[p]? = some (.cells (iO { s with pos:=0,timer:=s.timer+1 } (.slice (some ⟨kg,J9,none⟩) s.cT.length uj)) 244 (0,0)) from (hB1.block p (by simpa using hlt)).trans (by (refine aS (Ξ θ.out) ?_);rfl));obtain ⟨_,_,_,_,c4',c5',c6'⟩:=cW ξ.out;obtain ⟨_,_,f4',f5',f6'⟩:=kN ξ.out;clear Db hB1)
 all_goals go_wp2_with fail
 all_goals go_region
 all_goals go_wp2_with fail
 all_goals go_ret3
 all_goals refine ⟨_,rfl,xO HS.out HK.out gK.out (w1:=w1) (show Fr (fun k=>k=p) w _ by exact eZ) ⟨HB1.out.os,HB1.out.tape,HB1.out.output,by simpa using HB1.out.size,fun k hk=>HB1.out.block k (by simpa using hk)⟩ (by simpa using Dk.out) (by exact eZ) (by (refine aS (Ξ ξ.out) ?_);simp [iO,bg.send];omega) rfl⟩

theorem Lu (p:Nat) (K D:Nat->Prop) (s:bg) (hok:s.Ok) (ht:s.total < 1000000000000) (w:World) (hs:dW w p K D s) :
  Calls Vs 104 #[.pointer (some ⟨p,0,none⟩)] w fun e w'=>∃v,e=.returned (.tuple #[.int .i64 ((s.cR.1.elim 0 (·.1):Nat):Int),v,.bool s.cR.1.isSome]) /\
   Ow 5 w' w.heap.size v (s.cR.1.elim [] (·.2))/\dW w' p K D s.cR.2/\Fr (fun k=>k=p) w w':=by
 unfold bg.cR;by_cases h0:s.cT.length=0
 ·rw [if_pos h0]
  refine (Eh p K D s w hs h0).mono fun e w' ⟨he,hw⟩=>?_
  subst hw;exact ⟨_,he,Y7 _ _ _ _,hs,Fr.refl _ _⟩
 ·rw [if_neg h0]
  by_cases h1:s.cT.length<=s.pos
  ·rw [if_pos h1]
   by_cases h2:s.timer+1 < s.aN
   ·rw [if_pos h2]
    refine (G9 p K D s hok w hs (by omega) h1 h2).mono fun e w' ⟨he,h3,h4⟩=>?_
    exact ⟨_,he,Y7 _ _ _ _,h3,h4⟩
   ·rw [if_neg h2]
    exact Cn p K D s hok ht w hs (by omega) h1 (by omega)
  ·rw [if_neg h1]
   exact G_ p K D s hok ht w hs (by omega)
theorem IQ (p:Nat) (K D:Nat->Prop) (s:bg) (hok:s.Ok) (v:Value) (d:dV) (w:World) (hs:dW w p K D s) (hv:By w v d) :
  Calls Vs 147 #[.pointer (some ⟨p,0,none⟩),v] w fun e w'=>e=.returned (.int .i64 ((s.dQ d).1:Int))/\∃K' D',dW w' p K' D' (s.dQ d).2/\Fr (NP p K) w w'/\Ext w K K'/\Ext w D D':=by
 unfold bg.dQ;by_cases h0:64 < d.length
 ·rw [if_pos h0]
  refine (IP (some p) v d w hv h0).mono fun e w' ⟨he,hw⟩=>?_
  subst hw;exact ⟨he,K,D,hs,Fr.refl _ _,fun _ h=>.inl h,fun _ h=>.inl h⟩
 ·rw [if_neg h0]
  by_cases h1:s.cA<=s.cT.length
  ·rw [if_pos h1]
   refine (EJ p K D s hok v d w hs hv (by omega) h1).mono fun e w' ⟨he,n,hw⟩=>?_
   subst hw;exact ⟨he,K,D,hs.keep (Vu _) fun _ _ _=>rfl,(Fr.refl _ _).drewN n,fun _ h=>.inl h,fun _ h=>.inl h⟩
  ·rw [if_neg h1]
   exact EI p K D s hok v d w hs hv (by omega) (by omega)

def pE (w:World) (p:Nat) (n:Nat):Prop:=w.heap[p]? = some (.cells #[.int .i64 (n:Int)] 238 (0,0))
theorem vE {w:World} {p n:Nat} (h:pE w p n):w.cell? ⟨p,0,none⟩=some (.int .i64 (n:Int)):=aJ (i:=0) h rfl
theorem wK (w:World):Calls Vs 127 #[] w fun e w'=>e=.returned (.pointer (some ⟨w.heap.size,0,none⟩))/\pE w' w.heap.size 0/\Below w.heap.size w w':=by
 go_enter Tryz.func127,Tryz.ntmps127;go_wp2_with fail;go_ret;exact ⟨rfl,heap_alloc_new w _,(VQ _ _).alloc (Vu _) _⟩
theorem Ae (p n:Nat) (w:World) (h:pE w p n):Calls Vs 101 #[.pointer (some ⟨p,0,none⟩)] w fun e w'=>e=.returned (.int .i64 ((n:Int) % 256))/\w=w':=by
 have c0:=vE h;clear h;go_enter Tryz.func101,Tryz.ntmps101;go_wp2_with fail;go_ret;exact ⟨rfl,rfl⟩
theorem EA (p k:Nat) (n:Int) (v:Value) (d:dV) (w:World) (h:pE w p k) (hv:By w v d) (hn:n≠(k:Int) % 256):Calls Vs 159 #[.pointer (some ⟨p,0,none⟩),.int .i64 n,v] w fun e w'=>e=.returned (.tuple #[.slice none 0 0,.bool false])/\w=w':=by
 obtain ⟨a,cap,rfl⟩:=hv.slice;have c0:=vE h;clear hv h;go_enter Tryz.func159,Tryz.ntmps159;go_wp2_with fail;go_ret2;exact ⟨rfl,rfl⟩
theorem ry (p k:Nat) (v:Value) (d:dV) (w:World) (h:pE w p k) (hk:k < 1000000000000) (hv:By (w.setCell ⟨p,0,none⟩ (.int .i64 ((k:Int)+1))) v d) (hd:d.length<=1048576) :
  Calls Vs 159 #[.pointer (some ⟨p,0,none⟩),.int .i64 ((k:Int) % 256),v] w fun e w'=>∃v',e=.returned (.tuple #[v',.bool true])/\Ow 5 w' w.heap.size v' d/\pE w' p (k+1)/\Fr (fun x=>x=p) w w':=by
 have c0:=vE h;have f0:=aD h 0;have hlt:=lt_of_block h;have HF:=aQ (show Fr (fun x=>x=p) w (w.setCell ⟨p,0,none⟩ (.int .i64 ((k:Int)+1))) by exact eZ);have HV:=aQ hv;have HR:=aQ (show pE (w.setCell ⟨p,0,none⟩ (.int .i64 ((k:Int)+1))) p (k+1) by have h':w.heap[p]? = some (.cells #[.int .i64 (k:Int)] 238 (0,0)):=h;unfold pE;(refine aS (Ξ h') ?_);rfl);obtain ⟨a,cap,rfl⟩:=hv.slice;clear hv h;go_enter Tryz.func159,Tryz.ntmps159;go_wp2_with (go_at_call 69;refine (cV _ d _ (by exact HV.out) hd).mono ?_;rintro e w1 ⟨v1,rfl,Db,hB1⟩;have Dk:=aQ Db;have HB1:=aQ hB1;clear Db hB1);go_ret2;refine ⟨_,rfl,by simpa using Dk.out,(HB1.out.block p (by simpa using hlt)).trans HR.out,HF.out.of_below HB1.out⟩
theorem CG (p k:Nat) (v:Value) (d:dV) (w:World) (h:pE w p k) (hk:k < 1000000000000) (hv:By w v d) (hd:d.length<=1048576) (hn:∀b,v.ownBlock=some b->b≠p) :
  Calls Vs 159 #[.pointer (some ⟨p,0,none⟩),.int .i64 ((k:Int) % 256),v] w fun e w'=>∃v',e=.returned (.tuple #[v',.bool true])/\Ow 5 w' w.heap.size v' d/\pE w' p (k+1)/\Fr (fun x=>x=p) w w':=
 ry p k v d w h hk (Rd.keep hv fun b hb _=>heap_setCell_other w _ b _ (hn b hb)) hd

theorem dW.plt {w:World} {p:Nat} {K D:Nat->Prop} {s:bg} (h:dW w p K D s):p < w.heap.size:=by obtain ⟨kv,vs,h,_⟩:=h.row;exact lt_of_block h

def Al (w:World) (F:Nat->Prop) (p:Nat) (s:bg):Prop:=∃K D,dW w p K D s/\∀k,(k=p\/K k\/D k)->F k
theorem Al.thing (p:Nat) (s:bg):KL (fun w F=>Al w F p s) where
 keep:=fun ⟨K,D,h,hF⟩ hs hk=>⟨K,D,h.keep hs fun k hkd hl=>hk k (hF k hkd) hl,fun k hkd=>⟨hF k hkd,by
  rcases hkd with rfl|hkd
  ·exact h.plt
  ·exact h.lt k hkd⟩⟩
 mono:=fun ⟨K,D,h,hF⟩ hG=>⟨K,D,h,fun k hk=>hG k (hF k hk)⟩
theorem Al.old {w w':World} {F K D:Nat->Prop} {p:Nat} {s s':bg} (h:dW w p K D s) (hF:∀k,(k=p\/K k\/D k)->F k) (h':dW w' p K D s'):Al w' (fun k=>F k/\k < w.heap.size) p s':=
 ⟨K,D,h',fun k hkd=>⟨hF k hkd,by
  rcases hkd with rfl|hkd
  ·exact h.plt
  ·exact h.lt k hkd⟩⟩
theorem OW {w:World} {F:Nat->Prop} {p:Nat} {s:bg} (h:Al w F p s) (hok:s.Ok) (v:Value) (d:dV) (hv:By w v d) :
  Calls Vs 147 #[.pointer (some ⟨p,0,none⟩),v] w fun e w'=>e=.returned (.int .i64 ((s.dQ d).1:Int))/\Al w' (fun k=>F k\/w.heap.size<=k) p (s.dQ d).2/\Fr F w w':=by
 obtain ⟨K,D,hs,hx⟩:=h;refine (IQ p K D s hok v d w hs hv).mono fun e w' ⟨he,K',D',h1,h2,h3,h4⟩=>⟨he,⟨K',D',h1,fun k hk=>?_⟩,h2.mono fun k hk=>hx k ?_⟩
 ·rcases hk with rfl|hk|hk
  ·exact .inl (hx k (.inl rfl))
  ·exact (h3 k hk).imp (fun h=>hx k (.inr (.inl h))) id
  ·exact (h4 k hk).imp (fun h=>hx k (.inr (.inr h))) id
 ·rcases hk with rfl|hk
  ·exact .inl rfl
  ·exact .inr (.inl hk)
theorem RP {w:World} {F:Nat->Prop} {p:Nat} {s:bg} (h:Al w F p s) (hok:s.Ok) (ht:s.total < 1000000000000) :
  Calls Vs 104 #[.pointer (some ⟨p,0,none⟩)] w fun e w'=>∃v,e=.returned (.tuple #[.int .i64 ((s.cR.1.elim 0 (·.1):Nat):Int),v,.bool s.cR.1.isSome]) /\
   JX w' (fun k=>w.heap.size<=k) v (s.cR.1.elim [] (·.2))/\Al w' (fun k=>F k/\k < w.heap.size) p s.cR.2/\Fr F w w':=by
 obtain ⟨K,D,hs,hx⟩:=h;refine (Lu p K D s hok ht w hs).mono fun e w' ⟨v,he,h1,h2,h3⟩=>⟨v,he,h1.Ue.mono fun k h=>h.1,Al.old hs hx h2,h3.mono fun k hk=>hx k (.inl hk)⟩
theorem aao {w:World} {F:Nat->Prop} {p:Nat} {s:bg} (h:Al w F p s) (hok:s.Ok) (ht:s.total < 1000000000000) (n:Int) :
  Calls Vs 160 #[.pointer (some ⟨p,0,none⟩),.int .i64 n] w fun e w'=>e=.returned (.int .i64 ((s.nJ n).1:Int))/\Al w' (fun k=>F k/\k < w.heap.size) p (s.nJ n).2/\Fr F w w':=by
 obtain ⟨K,D,hs,hx⟩:=h;exact (Pv p K D s hok ht n w hs).mono fun e w' ⟨he,h2,h3⟩=>⟨he,Al.old hs hx h2,h3.mono fun k hk=>hx k (.inl hk)⟩
theorem Sr {w:World} {F:Nat->Prop} {p:Nat} {s:bg} (h:Al w F p s) :
  Calls Vs 143 #[.pointer (some ⟨p,0,none⟩)] w fun e w'=>e=.returned (.int .i64 (s.cT.length:Int))/\w=w':=by
 obtain ⟨K,D,hs,_⟩:=h;exact MB p K D s w hs
theorem Ol {w:World} {F:Nat->Prop} {p:Nat} {s:bg} (h:Al w F p s) (hok:s.Ok) (ht:s.total < 1000000000000) :
  Calls Vs 148 #[.pointer (some ⟨p,0,none⟩)] w fun e w'=>e=.returned (.tuple #[.int .i64 ((s.aG:Int)+(s.cT.length:Int)),.int .i64 (s.aG:Int)])/\Dr w w':=by
 obtain ⟨K,D,hs,_⟩:=h;exact G8 p K D s hok ht w hs
theorem aaa (a b:Nat) (w:World) (h1:1<=a) (h2:a<=128) (h3:1<=b) (h4:b<=1000) :
  Calls Vs 126 #[.int .i64 (a:Int),.int .i64 (b:Int)] w fun e w'=>e=.returned (.tuple #[.pointer (some ⟨w.heap.size,0,none⟩),.int .i64 0]) /\
   Al w' (fun k=>k=w.heap.size) w.heap.size (eH a b)/\Below w.heap.size w w':=by
 refine (Aa a b w h1 h2 h3 h4).mono fun e w' ⟨he,hs,hb⟩=>⟨he,⟨_,_,hs,fun k hk=>?_⟩,hb⟩
 rcases hk with rfl|hk|hk
 ·rfl
 ·exact hk.elim
 ·exact hk.elim

end Go.Proofs.YtjnbanjjoomecaaGreatDoor
