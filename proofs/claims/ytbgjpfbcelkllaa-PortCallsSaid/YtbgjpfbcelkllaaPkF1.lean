/- Lemmas of this proof (texts RetA RetM RetB RetC RetD RetE RetF RetG RetH RetQ). -/
import Derived.Test.YtbgjpfbcelkllaaPkA1
import Derived.Test.YtbgjpfbcelkllaaRows
import Derived.WalkLawsBesides
import Derived.Deep.QuietTactic
import Derived.BigQuiet
import Derived.BigRegion
import Derived.Deep.RegionWith
import Derived.Deep.RegionLaw
namespace Go.Proofs.Ytbgjpfbcelkllaa
set_option maxHeartbeats 64000000
section
open Go.RowKit
theorem slB:SlT Try.prog 27 5 (.int .u8 0) 1 1:=⟨Try.underlying27,info_parts (by kernel_rfl),rfl,by decide⟩
theorem By.slice {w:World} {v:Value} {bs:List (BitVec 8)} (h:By w v bs):∃a cap,v=.slice a bs.length cap:=by
 obtain ⟨_,a,cap,rfl,_⟩:=h;exact ⟨a,cap,rfl⟩
theorem By.parts {w:World} {a:Option Addr} {l c:Nat} {bs:List (BitVec 8)} (h:By w (.slice a l c) bs):l=bs.length/\l<=c/\c<=maxLen/\(a=none->l=0/\c=0):=by
 obtain ⟨_,a',c',e,h1,h2,h3,_⟩:=h
 obtain ⟨rfl,rfl,rfl⟩:a=a'/\l=bs.length/\c=c':=by simpa using e
 exact ⟨rfl,h1,h2,h3⟩
theorem By.alloc {w:World} {v:Value} {bs:List (BitVec 8)} (h:By w v bs) (o:Obj):By (w.alloc o) v bs:=h.below ((Below.refl _ _).alloc (Nat.le_refl _) _)
theorem By.drewN {w:World} {v:Value} {bs:List (BitVec 8)} (h:By w v bs) (n:Nat):By (w.drewN n) v bs:=Rd.keep h fun _ _ _=>rfl
theorem clone_nil (w:World):Calls Try.prog 32 #[.slice none 0 0] w fun e w'=>e=.returned (.slice none 0 0)/\w=w':=by
 have hn:=fun a n c n' c'=>Lib.run_eql_slice_nil (P:=Try.prog) w 27 5 a n c n' c' Try.underlying27
 go_enter Try.func32,Try.ntmps32
 go_wp2
 go_ret
 exact ⟨rfl,rfl⟩
theorem clone_some (ad:Addr) (cap:Nat) (bs:List (BitVec 8)) (w:World) (hv:By w (.slice (some ad) bs.length cap) bs) (hm:bs.length<=1048576) :
  Calls Try.prog 32 #[.slice (some ad) bs.length cap] w fun e w'=>∃v',e=.returned v'/\Ow 5 w' w.heap.size v' bs/\Below w.heap.size w w':=by
 have HV:=aQ hv;clear hv
 have hn:=fun a n c n' c'=>Lib.run_eql_slice_nil (P:=Try.prog) w 27 5 a n c n' c' Try.underlying27
 go_enter Try.func32,Try.ntmps32
 go_wp2_with (at_builtin;refine wpList_app slB rfl _ _ rfl w.heap.size _ 0 [] rfl (World.ownsRow_made _ _ 0 (Nat.le_refl _) (Nat.zero_le _) rfl) _ bs.length (cu bs) rfl (By.alloc HV.out _) cu_one (by unfold maxLen;omega) (by omega) (by simp) ?_;intro v2 w2 hown2 hg2 hiff;clear hiff;have HB2:=aQ (((Below.refl w.heap.size w).alloc (Nat.le_refl _) _).grown hg2 (by simp) (fun k e=>by cases e;exact Nat.le_refl _));have HO2:=aQ (show Ow _ w2 w.heap.size v2 bs by simpa [Ow] using hown2);clear hown2 hg2)
 go_ret
 exact ⟨_,rfl,HO2.out,HB2.out⟩
theorem cV (v:Value) (bs:List (BitVec 8)) (w:World) (hv:By w v bs) (hm:bs.length<=1048576) :
  Calls Try.prog 32 #[v] w fun e w'=>∃v',e=.returned v'/\Ow 5 w' w.heap.size v' bs/\Below w.heap.size w w':=by
 obtain ⟨a,cap,rfl⟩:=hv.slice
 cases a with
 |some ad=>exact clone_some ad cap bs w hv hm
 |none=>
  have hp:=hv.parts.2.2.2 rfl
  have:bs=[]:=List.eq_nil_of_length_eq_zero hp.1
  subst this
  obtain ⟨_,rfl⟩:=hp
  refine (clone_nil w).mono fun e w' ⟨he,hw⟩=>?_
  subst hw
  exact ⟨_,he,World.ownsRow_nil _ _ _ _,Below.refl _ _⟩
theorem ow_shape {w:World} {e:TypeId} {base:Nat} {v:Value} {bs:List (BitVec 8)} (h:Ow e w base v bs):∃a cap,v=.slice a bs.length cap:=by
 obtain ⟨_,⟨rfl,h0⟩|⟨g,cap,cur,rfl,_⟩⟩:=h
 ·exact ⟨none,0,by rw [h0]⟩
 ·exact ⟨_,cap,rfl⟩
end

section
abbrev dV:=List (BitVec 8)
structure Snd where
 cA:Nat
 aN:Nat
 cT:List dV
 aG:Nat
 pos:Nat
 cP:Nat
 timer:Nat
structure Snd.Ok (s:Snd):Prop where
 w1:1<=s.cA
 w2:s.cA<=128
 t1:1<=s.aN
 t2:s.aN<=1000
 cT:s.cT.length<=s.cA
 pos:s.pos<=s.cP
 cP:s.cP<=s.cT.length
 timer:s.timer<=s.aN
 small:∀d ∈ s.cT,d.length<=64
def newSnd (cA aN:Nat):Snd:=⟨cA,aN,[],0,0,0,0⟩
def Snd.dQ (s:Snd) (d:dV):Nat × Snd:=
 if 64 < d.length then (2,s) else if s.cA<=s.cT.length then (5,s) else (0,{ s with cT:=s.cT++[d] })
def Snd.send (s:Snd):(Nat × dV) × Snd:=
 (((s.aG+s.pos) % 256,s.cT.getD s.pos []),{ s with pos:=s.pos+1,cP:=max s.cP (s.pos+1),timer:=0 })
def Snd.cR (s:Snd):Option (Nat × dV) × Snd:=
 if s.cT.length=0 then (none,s)
 else if s.cT.length<=s.pos then
  if s.timer+1 < s.aN then (none,{ s with timer:=s.timer+1 })
  else (some ({ s with pos:=0 }.send).1,({ s with pos:=0 }.send).2)
 else (some s.send.1,s.send.2)
def Snd.count (s:Snd) (n:Int):Option Nat:=
 if n < 0\/256<=n then none
 else if s.cP < (n.toNat+256 - s.aG % 256) % 256 then none else some ((n.toNat+256 - s.aG % 256) % 256)
def Snd.drop (s:Snd) (k:Nat):Snd:=
 if k=0 then s else { s with cT:=s.cT.drop k,aG:=s.aG+k,cP:=s.cP - k,pos:=s.pos - k,timer:=0 }
def Snd.accept (s:Snd) (n:Int):(Nat × Bool) × Snd:=
 match s.count n with
 |none=>((0,false),s)
 |some k=>((k,true),s.drop k)
def Snd.ack (s:Snd) (n:Int):Nat × Snd:=((s.accept n).1.1,(s.accept n).2)
theorem newSnd_ok {a b:Nat} (h1:1<=a) (h2:a<=128) (h3:1<=b) (h4:b<=1000):(newSnd a b).Ok:=
 ⟨h1,h2,h3,h4,by simp [newSnd],by simp [newSnd],by simp [newSnd],by simp [newSnd],by simp [newSnd]⟩
theorem offer_ok {s:Snd} (h:s.Ok) (d:dV):(s.dQ d).2.Ok:=by
 unfold Snd.dQ
 split
 ·exact h
 ·split
  ·exact h
  ·rename_i h1 h2
   obtain ⟨a1,a2,a3,a4,a5,a6,a7,a8,a9⟩:=h
   refine ⟨a1,a2,a3,a4,?_,a6,?_,a8,?_⟩
   ·simp;omega
   ·simp;omega
   ·intro x hx
    rcases List.mem_append.1 hx with hx|hx
    ·exact a9 x hx
    ·have:x=d:=by simpa using hx
     subst this;omega
theorem send_ok {s:Snd} (h:s.Ok) (hp:s.pos < s.cT.length):s.send.2.Ok:=by
 obtain ⟨a1,a2,a3,a4,a5,a6,a7,a8,a9⟩:=h
 exact ⟨a1,a2,a3,a4,a5,Nat.le_max_right _ _,Nat.max_le.2 ⟨a7,hp⟩,Nat.zero_le _,a9⟩
theorem tick_ok {s:Snd} (h:s.Ok):s.cR.2.Ok:=by
 unfold Snd.cR
 split
 ·exact h
 ·split
  ·split
   ·obtain ⟨a1,a2,a3,a4,a5,a6,a7,a8,a9⟩:=h
    exact ⟨a1,a2,a3,a4,a5,a6,a7,by simp;omega,a9⟩
   ·obtain ⟨a1,a2,a3,a4,a5,a6,a7,a8,a9⟩:=h
    refine send_ok (s:={ s with pos:=0 }) ⟨a1,a2,a3,a4,a5,Nat.zero_le _,a7,a8,a9⟩ ?_
    show 0 < s.cT.length;omega
  ·exact send_ok h (by omega)
theorem drop_ok {s:Snd} (h:s.Ok) (k:Nat) (hk:k<=s.cP):(s.drop k).Ok:=by
 unfold Snd.drop
 split
 ·exact h
 ·obtain ⟨a1,a2,a3,a4,a5,a6,a7,a8,a9⟩:=h
  refine ⟨a1,a2,a3,a4,?_,?_,?_,Nat.zero_le _,fun d hd=>a9 d (List.mem_of_mem_drop hd)⟩
  ·simp;omega
  ·simp;omega
  ·simp;omega
theorem count_le {s:Snd} {n:Int} {k:Nat} (h:s.count n=some k):k<=s.cP:=by
 unfold Snd.count at h
 split at h
 ·cases h
 ·split at h
  ·cases h
  ·obtain rfl:=Option.some.inj h;omega
theorem accept_ok {s:Snd} (h:s.Ok) (n:Int):(s.accept n).2.Ok:=by
 unfold Snd.accept
 cases hc:s.count n with
 |none=>exact h
 |some k=>exact drop_ok h k (count_le hc)
theorem ack_ok {s:Snd} (h:s.Ok) (n:Int):(s.ack n).2.Ok:=accept_ok h n
def Snd.total (s:Snd):Nat:=s.aG+s.cT.length
theorem tick_total (s:Snd):s.cR.2.total=s.total:=by
 unfold Snd.cR Snd.total
 split
 ·rfl
 ·split
  ·split <;> rfl
  ·rfl
theorem drop_total {s:Snd} (k:Nat) (h:k<=s.cT.length):(s.drop k).total=s.total:=by
 unfold Snd.drop Snd.total
 split
 ·rfl
 ·simp;omega
theorem accept_total {s:Snd} (h:s.Ok) (n:Int):(s.accept n).2.total=s.total:=by
 unfold Snd.accept
 cases hc:s.count n with
 |none=>rfl
 |some k=>exact drop_total k (Nat.le_trans (count_le hc) h.cP)
end

section
open Go.RowKit
theorem slBB:SlT Try.prog 54 27 (.slice none 0 0) 1 24:=⟨Try.underlying54,info_parts (by kernel_rfl),rfl,by decide⟩
def sndCells (s:Snd) (kv:Value):Array Value := #[.int .i64 (s.cA:Int),.int .i64 (s.aN:Int),kv,.int .i64 (s.aG:Int),.int .i64 (s.pos:Int),.int .i64 (s.cP:Int),.int .i64 (s.timer:Int)]
def Kept (w:World) (D:Nat->Prop) (ks:List dV) (vs:List Value):Prop:=vs.length=ks.length/\∀(i:Nat) (d:dV),ks[i]? = some d->∃v,vs[i]? = some v/\ByD w D v d
structure dW (w:World) (p:Nat) (K D:Nat->Prop) (s:Snd):Prop where
 row:∃kv vs,w.heap[p]? = some (.cells (sndCells s kv) 131 (0,0))/\Sl w K 27 1 kv s.cT.length vs/\Kept w D s.cT vs
 pK:¬K p
 pD:¬D p
 dj:Dj K D
 lt:∀k,K k\/D k->k < w.heap.size
theorem Kept.keep {w w':World} {D:Nat->Prop} {ks:List dV} {vs:List Value} (h:Kept w D ks vs) (hk:∀k,D k->k < w.heap.size->w'.heap[k]? = w.heap[k]?):Kept w' D ks vs:=
 ⟨h.1,fun i d hd=>by obtain ⟨v,h1,h2⟩:=h.2 i d hd;exact ⟨v,h1,h2.keep hk⟩⟩
theorem Kept.mono {w:World} {D E:Nat->Prop} {ks:List dV} {vs:List Value} (h:Kept w D ks vs) (hD:∀k,D k->E k):Kept w E ks vs:=
 ⟨h.1,fun i d hd=>by obtain ⟨v,h1,h2⟩:=h.2 i d hd;exact ⟨v,h1,h2.mono hD⟩⟩
theorem Kept.snoc {w:World} {D:Nat->Prop} {ks:List dV} {vs:List Value} (h:Kept w D ks vs) {v:Value} {d:dV} (hv:ByD w D v d):Kept w D (ks++[d]) (vs++[v]):=by
 refine ⟨by simp [h.1],fun i d' hd=>?_⟩
 rw [List.getElem?_append] at hd ⊢
 by_cases hi:i < ks.length
 ·rw [if_pos hi] at hd
  rw [if_pos (by rw [h.1];exact hi)]
  exact h.2 i d' hd
 ·rw [if_neg hi] at hd
  rw [if_neg (by rw [h.1];exact hi),h.1]
  have:i - ks.length=0:=by
   rcases Nat.eq_zero_or_pos (i - ks.length) with h0|h0
   ·exact h0
   ·rw [List.getElem?_eq_none (by simp;omega)] at hd;cases hd
  rw [this] at hd ⊢
  obtain rfl:d=d':=by simpa using hd
  exact ⟨v,rfl,hv⟩
theorem Kept.drop {w:World} {D:Nat->Prop} {ks:List dV} {vs:List Value} (h:Kept w D ks vs) (k:Nat):Kept w D (ks.drop k) (vs.drop k):=
 ⟨by simp [h.1],fun i d hd=>by rw [List.getElem?_drop] at hd ⊢;exact h.2 _ d hd⟩
theorem dW.keep {w w':World} {p:Nat} {K D:Nat->Prop} {s:Snd} (h:dW w p K D s) (hs:w.heap.size<=w'.heap.size) (hk:∀k,(k=p\/K k\/D k)->k < w.heap.size->w'.heap[k]? = w.heap[k]?):dW w' p K D s:=by
 obtain ⟨⟨kv,vs,h1,h2,h3⟩,h4,h5,h6,h7⟩:=h
 exact ⟨⟨kv,vs,(hk p (.inl rfl) (lt_of_block h1)).trans h1,h2.keep fun k f=>hk k (.inr (.inl f)),h3.keep fun k f=>hk k (.inr (.inr f))⟩,h4,h5,h6,fun k f=>Nat.lt_of_lt_of_le (h7 k f) hs⟩
theorem dW.below {w w':World} {p:Nat} {K D:Nat->Prop} {s:Snd} (h:dW w p K D s) (hb:Below w.heap.size w w'):dW w' p K D s:=h.keep hb.size fun k _ hl=>hb.block k hl
theorem dW.fr {w w':World} {p:Nat} {K D G:Nat->Prop} {s:Snd} (h:dW w p K D s) (hf:Fr G w w') (hG:∀k,(k=p\/K k\/D k)->¬G k):dW w' p K D s:=h.keep hf.size fun k f hl=>hf.block k hl (hG k f)
theorem cW {w:World} {p:Nat} {s:Snd} {kv:Value} (h:w.heap[p]? = some (.cells (sndCells s kv) 131 (0,0))) :
  w.cell? ⟨p,0,none⟩=some (.int .i64 (s.cA:Int))/\w.cell? ⟨p,1,none⟩=some (.int .i64 (s.aN:Int))/\w.cell? ⟨p,2,none⟩=some kv/\w.cell? ⟨p,3,none⟩=some (.int .i64 (s.aG:Int)) /\
  w.cell? ⟨p,4,none⟩=some (.int .i64 (s.pos:Int))/\w.cell? ⟨p,5,none⟩=some (.int .i64 (s.cP:Int))/\w.cell? ⟨p,6,none⟩=some (.int .i64 (s.timer:Int)):=
 ⟨aJ h rfl,aJ h rfl,aJ h rfl,aJ h rfl,aJ h rfl,aJ h rfl,aJ h rfl⟩
theorem snd_free {w:World} {p:Nat} {s:Snd} {kv:Value} (h:w.heap[p]? = some (.cells (sndCells s kv) 131 (0,0))) :
  w.frozen? ⟨p,2,none⟩=false/\w.frozen? ⟨p,3,none⟩=false/\w.frozen? ⟨p,4,none⟩=false/\w.frozen? ⟨p,5,none⟩=false/\w.frozen? ⟨p,6,none⟩=false:=
 ⟨aD h _,aD h _,aD h _,aD h _,aD h _⟩
def sndF (p:Nat) (K:Nat->Prop):Nat->Prop:=fun k=>k=p\/K k
theorem offer_full (p:Nat) (K D:Nat->Prop) (s:Snd) (hok:s.Ok) (v:Value) (d:dV) (w:World) (hs:dW w p K D s) (hv:By w v d) (hd:d.length<=64) (hfull:s.cA<=s.cT.length) :
  Calls Try.prog 69 #[.pointer (some ⟨p,0,none⟩),v] w fun e w'=>e=.returned (.int .i64 5)/\Dr w w':=by
 obtain ⟨kv,vs,hrow,hsl,hk⟩:=hs.row
 obtain ⟨a,cap,rfl⟩:=hv.slice
 obtain ⟨ka,kcap,rfl⟩:=hsl.shape
 obtain ⟨c0,_,c2,_⟩:=cW hrow
 have hw2:=hok.w2
 have hk2:=hok.cT
 clear hs hsl hk hv hrow
 go_enter Try.func69,Try.ntmps69
 go_wp2_with fail
 go_quiet (fail)
 go_wp2_with fail
 go_ret
 exact ⟨rfl,_,rfl⟩
theorem offer_big (p:Option Nat) (v:Value) (d:dV) (w:World) (hv:By w v d) (hd:64 < d.length) :
  Calls Try.prog 69 #[.pointer (p.map fun p=>⟨p,0,none⟩),v] w fun e w'=>e=.returned (.int .i64 (if p.isSome then 2 else 1))/\w=w':=by
 obtain ⟨a,cap,rfl⟩:=hv.slice
 clear hv
 cases p
 all_goals
  go_enter Try.func69,Try.ntmps69
  go_wp2_with fail
  go_ret
  exact ⟨rfl,rfl⟩
theorem Ow.byD {T:TypeId} {w:World} {base:Nat} {v:Value} {bs:List (BitVec 8)} (h:Ow T w base v bs):ByD w (fun k=>base<=k/\k < w.heap.size) v bs:=by
 refine ⟨h.by,fun b hb=>?_⟩
 obtain ⟨_,⟨rfl,_⟩|⟨g,cap,cur,rfl,h1,h2,_⟩⟩:=h
 ·cases hb
 ·obtain rfl:g=b:=by simpa [Value.ownBlock] using hb
  exact ⟨h1,lt_of_block h2⟩
theorem offer_done {w w1 w2:World} {p:Nat} {K D:Nat->Prop} {s:Snd} {kv v1 u2:Value} {vs:List Value} {d:dV} {o:Obj} (hs:dW w p K D s) (hk:Kept w D s.cT vs)
  (hB1:Below w.heap.size w w1) (hO1:Ow 5 w1 w.heap.size v1 d) (hsl:Sl w2 (fun k=>K k\/(w1.alloc o).heap.size<=k) 27 1 u2 (s.cT.length+1) (vs++[v1]))
  (hF:Fr K (w1.alloc o) w2) (hrow:w2.heap[p]? = some (.cells (sndCells s kv) 131 (0,0))) :
  ∃K' D',dW (w2.setCell ⟨p,2,none⟩ u2) p K' D' { s with cT:=s.cT++[d] }/\Fr (sndF p K) w (w2.setCell ⟨p,2,none⟩ u2)/\Ext w K K'/\Ext w D D':=by
 have hp:p < w.heap.size:=by obtain ⟨kv,vs,h,_⟩:=hs.row;exact lt_of_block h
 have hsz:(w1.alloc o).heap.size=w1.heap.size+1:=by simp
 have hs1:=hB1.size
 have hs2:=hF.size
 have hF1:Fr K w w2:=by
  refine Fr.trans (F:=K) (G:=K) ?_ hF fun x h=>.inl h
  exact ((Fr.refl K w).of_below hB1).alloc o
 have hFw:Fr (sndF p K) w (w2.setCell ⟨p,2,none⟩ u2):=(hF1.mono fun k h=>.inr h).setCell (.inl (.inl rfl)) _
 have hother:∀k,k≠p->(w2.setCell ⟨p,2,none⟩ u2).heap[k]? = w2.heap[k]?:=fun k hk=>heap_setCell_other w2 _ k _ hk
 refine ⟨fun k=>(K k\/(w1.alloc o).heap.size<=k)/\k < w2.heap.size,fun k=>D k\/(w.heap.size<=k/\k < w1.heap.size),?_,hFw,?_,?_⟩
 ·refine ⟨⟨u2,vs++[v1],?_,?_,?_⟩,?_,?_,?_,?_⟩
  ·have:=heap_setCell_same w2 p 2 _ _ u2 hrow
   exact this
  ·have h:=hsl.bound.keep (w':=w2.setCell ⟨p,2,none⟩ u2) fun k hk _=>hother k (by
    rintro rfl
    rcases hk.1 with h|h
    ·exact hs.pK h
    ·omega)
   simpa using h
  ·refine Kept.snoc ?_ ?_
   ·refine (hk.keep fun k hD hl=>?_).mono fun k h=>.inl h
    exact hFw.block k hl fun h=>by
     rcases h with rfl|h
     ·exact hs.pD hD
     ·exact hs.dj k h hD
   ·refine ((hO1.byD).keep fun k hk _=>?_).mono fun k h=>.inr h
    rw [hother k (by omega)]
    rw [hF.block k (by omega) fun h=>by have:=hs.lt k (.inl h);omega]
    exact Below.heap_alloc w1 o k hk.2
  ·rintro ⟨h|h,_⟩
   ·exact hs.pK h
   ·omega
  ·rintro (h|h)
   ·exact hs.pD h
   ·omega
  ·rintro k ⟨h|h,_⟩ (h'|h')
   ·exact hs.dj k h h'
   ·have:=hs.lt k (.inl h);omega
   ·have:=hs.lt k (.inr h');omega
   ·omega
  ·intro k h
   show k < (w2.setCell ⟨p,2,none⟩ u2).heap.size
   have:(w2.setCell ⟨p,2,none⟩ u2).heap.size=w2.heap.size:=by simp
   rw [this]
   rcases h with h|h|h
   ·exact h.2
   ·have:=hs.lt k (.inr h);omega
   ·omega
 ·rintro k ⟨h|h,_⟩
  ·exact .inl h
  ·exact .inr (by omega)
 ·rintro k (h|h)
  ·exact .inl h
  ·exact .inr h.1
set_option maxRecDepth 100000 in
theorem offer_room (p:Nat) (K D:Nat->Prop) (s:Snd) (hok:s.Ok) (v:Value) (d:dV) (w:World) (hs:dW w p K D s) (hv:By w v d) (hd:d.length<=64) (hroom:s.cT.length < s.cA) :
  Calls Try.prog 69 #[.pointer (some ⟨p,0,none⟩),v] w fun e w'=>e=.returned (.int .i64 0)/\∃K' D',dW w' p K' D' { s with cT:=s.cT++[d] }/\Fr (sndF p K) w w'/\Ext w K K'/\Ext w D D':=by
 obtain ⟨kv,vs,hrow,hsl,hk⟩:=hs.row
 obtain ⟨a,cap,rfl⟩:=hv.slice
 obtain ⟨ka,kcap,rfl⟩:=hsl.shape
 obtain ⟨c0,_,c2,_⟩:=cW hrow
 have hlt:=lt_of_block hrow
 have hw2:=hok.w2
 have hk2:=hok.cT
 have HS:=aQ hs;clear hs
 have HSL:=aQ hsl;clear hsl
 have HK:=aQ hk;clear hk
 have HV:=aQ hv;clear hv
 have HROW:=aQ hrow;clear hrow
 go_enter Try.func69,Try.ntmps69
 go_wp2_with fail
 go_quiet (fail)
 go_wp2_with fail
 go_region_law (first
  |(refine step_app_sl slBB rfl _ _ rfl K _ s.cT.length vs rfl (HSL1.out.alloc _) _ 1 [.slice a1 d.length cap1] rfl (rd_one _ _ _ _ rfl) (by intro u hu;simp at hu;subst hu;rfl) (by unfold maxLen;omega) (by omega) ?_;intro v2 w2 hsl2 hfr2;obtain ⟨g2,off2,cap2,rfl,_⟩:=Sl.head hsl2 (by omega);have HSL2:=aQ hsl2;have HFR2:=aQ hfr2;have HROW2:=aQ (hfr2.keep ((Below.heap_alloc _ _ p (lt_of_block HROW1.out)).trans HROW1.out) HS.out.pK);have c2'':=(cW HROW2.out).2.2.1;have f2'':=(snd_free HROW2.out).1;clear hsl2 hfr2)
  |(go_simp;go_at_call 32;refine (cV _ d _ (by exact HV.out.drewN _) (by omega)).mono ?_;rintro e w1 ⟨v1,rfl,hO1,hB1⟩;obtain ⟨a1,cap1,rfl⟩:=ow_shape hO1;have HO1:=aQ hO1;have HB1:=aQ hB1;have HSL1:=aQ (HSL.out.keep fun k hk hl=>hB1.block k hl);have HROW1:=aQ ((hB1.block p hlt).trans HROW.out);have c2':=(cW HROW1.out).2.2.1;have l1:=lt_of_block HROW1.out;clear hO1 hB1))
 all_goals go_wp2_with fail
 all_goals go_ret
 all_goals exact ⟨rfl,offer_done HS.out HK.out ⟨HB1.out.os,HB1.out.tape,HB1.out.output,HB1.out.size,HB1.out.block⟩ HO1.out HSL2.out HFR2.out HROW2.out⟩
end

section
open Go.RowKit
theorem dW.put {w w':World} {p:Nat} {K D:Nat->Prop} {s s':Snd} {kv:Value} {vs:List Value} (h:dW w p K D s) (hsl:Sl w K 27 1 kv s'.cT.length vs) (hk:Kept w D s'.cT vs)
  (hF:Fr (fun k=>k=p) w w') (hrow:w'.heap[p]? = some (.cells (sndCells s' kv) 131 (0,0))):dW w' p K D s':=
 ⟨⟨kv,vs,hrow,hsl.keep fun k hk hl=>hF.block k hl fun e=>h.pK (e ▸ hk),hk.keep fun k hk hl=>hF.block k hl fun e=>h.pD (e ▸ hk)⟩,h.pK,h.pD,h.dj,fun k f=>Nat.lt_of_lt_of_le (h.lt k f) hF.size⟩
theorem kept_any (p:Nat) (K D:Nat->Prop) (s:Snd) (w:World) (hs:dW w p K D s) :
  Calls Try.prog 65 #[.pointer (some ⟨p,0,none⟩)] w fun e w'=>e=.returned (.int .i64 (s.cT.length:Int))/\w=w':=by
 obtain ⟨kv,vs,hrow,hsl,hk⟩:=hs.row
 obtain ⟨ka,kcap,rfl⟩:=hsl.shape
 obtain ⟨_,_,c2,_⟩:=cW hrow
 clear hs hsl hk hrow
 go_enter Try.func65,Try.ntmps65
 go_wp2_with fail
 go_ret
 exact ⟨rfl,rfl⟩
theorem total_any (p:Nat) (K D:Nat->Prop) (s:Snd) (_:s.Ok) (ht:s.total < 1000000000000) (w:World) (hs:dW w p K D s) :
  Calls Try.prog 70 #[.pointer (some ⟨p,0,none⟩)] w fun e w'=>e=.returned (.tuple #[.int .i64 ((s.aG:Int)+(s.cT.length:Int)),.int .i64 (s.aG:Int)])/\Dr w w':=by
 obtain ⟨kv,vs,hrow,hsl,hk⟩:=hs.row
 obtain ⟨ka,kcap,rfl⟩:=hsl.shape
 obtain ⟨_,_,c2,c3,_⟩:=cW hrow
 unfold Snd.total at ht
 clear hs hsl hk hrow
 go_enter Try.func70,Try.ntmps70
 go_wp2_with fail
 go_quiet (fail)
 go_wp2_with fail
 go_ret2
 exact ⟨rfl,_,rfl⟩
theorem newSender_ok (a b:Nat) (w:World) (h1:1<=a) (h2:a<=128) (h3:1<=b) (h4:b<=1000) :
  Calls Try.prog 51 #[.int .i64 (a:Int),.int .i64 (b:Int)] w fun e w'=>e=.returned (.tuple #[.pointer (some ⟨w.heap.size,0,none⟩),.int .i64 0]) /\
   dW w' w.heap.size (fun _=>False) (fun _=>False) (newSnd a b)/\Below w.heap.size w w':=by
 go_enter Try.func51,Try.ntmps51
 go_wp2_with fail
 go_ret2
 refine ⟨rfl,⟨⟨.slice none 0 0,[],heap_alloc_new w _,Sl.nil _ _ _ _,rfl,fun i d h=>by cases h⟩,id,id,fun _ h=>h.elim,fun _ h=>by rcases h with h|h <;> exact h.elim⟩,(Below.refl _ _).alloc (Nat.le_refl _) _⟩
theorem accept_bad (p:Nat) (K D:Nat->Prop) (s:Snd) (hok:s.Ok) (_:s.total < 1000000000000) (n:Int) (w:World) (hs:dW w p K D s) (hn:s.count n=none) :
  Calls Try.prog 89 #[.pointer (some ⟨p,0,none⟩),.int .i64 n] w fun e w'=>e=.returned (.tuple #[.int .i64 0,.bool false])/\w=w':=by
 obtain ⟨kv,vs,hrow,hsl,hk⟩:=hs.row
 obtain ⟨_,_,_,c3,_,c5,_⟩:=cW hrow
 have hsent:=hok.cP
 have hkl:=hok.cT
 have hw2:=hok.w2
 have hn':n < 0\/256<=n\/(0<=n/\n < 256/\(s.cP:Int) < (n+256 - (s.aG:Int) % 256) % 256):=by
  unfold Snd.count at hn
  split at hn
  ·omega
  ·split at hn
   ·omega
   ·cases hn
 clear hs hsl hk hrow hok hn
 go_enter Try.func89,Try.ntmps89
 go_wp2_with fail
 all_goals go_ret2
 all_goals exact ⟨rfl,rfl⟩
theorem accept_ok' (p:Nat) (K D:Nat->Prop) (s:Snd) (hok:s.Ok) (ht:s.total < 1000000000000) (n:Int) (w:World) (hs:dW w p K D s) (k:Nat) (hn:s.count n=some k) :
  Calls Try.prog 89 #[.pointer (some ⟨p,0,none⟩),.int .i64 n] w fun e w'=>e=.returned (.tuple #[.int .i64 (k:Int),.bool true])/\dW w' p K D (s.drop k)/\Fr (fun k=>k=p) w w':=by
 obtain ⟨kv,vs,hrow,hsl,hk⟩:=hs.row
 obtain ⟨_,_,c2,c3,c4,c5,c6⟩:=cW hrow
 obtain ⟨f2,f3,f4,f5,f6⟩:=snd_free hrow
 have hsent:=hok.cP
 have hpos:=hok.pos
 have hkl:=hok.cT
 have hw2:=hok.w2
 have hn':0<=n/\n < 256/\(n - (s.aG:Int)) % 256=(k:Int)/\k<=s.cP/\(n - (s.aG:Int) % 256+256) % 256=(k:Int):=by
  unfold Snd.count at hn
  split at hn
  ·cases hn
  ·split at hn
   ·cases hn
   ·have:=Option.some.inj hn;omega
 obtain ⟨n0,n1,nk,ks,nk2⟩:=hn'
 unfold Snd.total at ht
 have HS:=aQ hs;clear hs
 have HSL:=aQ hsl;clear hsl
 have HK:=aQ hk;clear hk
 have HROW:=aQ hrow;clear hrow
 clear hok hn
 by_cases hz:k=0
 ·subst hz
  clear f2 f3 f4 f5 f6 c2 c4 c6
  go_enter Try.func89,Try.ntmps89
  go_wp2_with fail
  go_ret2
  exact ⟨by simp [nk2],by simpa [Snd.drop] using HS.out,Fr.refl _ _⟩
 ·have kp:0 < s.cT.length:=by omega
  obtain ⟨kg,koff,kcap,rfl,_,kc⟩:=HSL.out.head kp
  go_enter Try.func89,Try.ntmps89
  go_wp2_with fail
  all_goals go_ret2
  all_goals refine ⟨by first|rfl|(simp [nk2]),dW.put (kv:=.slice (if kcap=k then some ⟨kg,koff,none⟩ else some ⟨kg,koff+k,none⟩) (s.cT.length - k) (kcap - k)) (vs:=vs.drop k) HS.out (by simpa [Snd.drop,hz] using HSL.out.drop (k:=k) (by omega)) (by simpa [Snd.drop,hz] using HK.out.drop k) (by (repeat (first|(with_reducible (first|exact Fr.refl _ _|refine Fr.setCell ?_ ?_ _|refine Fr.drewN ?_ _|refine Fr.drew ?_))|exact Or.inl rfl))) (by (apply aS;focus (with_reducible (repeat (first|exact HROW.out|apply aU|apply aP|apply aF))));simp [sndCells,Snd.drop, *];try omega),by (repeat (first|(with_reducible (first|exact Fr.refl _ _|refine Fr.setCell ?_ ?_ _|refine Fr.drewN ?_ _|refine Fr.drew ?_))|exact Or.inl rfl))⟩
end

section
open Go.RowKit
theorem accept_any (p:Nat) (K D:Nat->Prop) (s:Snd) (hok:s.Ok) (ht:s.total < 1000000000000) (n:Int) (w:World) (hs:dW w p K D s) :
  Calls Try.prog 89 #[.pointer (some ⟨p,0,none⟩),.int .i64 n] w fun e w'=>
   e=.returned (.tuple #[.int .i64 ((s.accept n).1.1:Int),.bool (s.accept n).1.2])/\dW w' p K D (s.accept n).2/\Fr (fun k=>k=p) w w':=by
 cases hc:s.count n with
 |none=>
  refine (accept_bad p K D s hok ht n w hs hc).mono fun e w' ⟨he,hw⟩=>?_
  subst hw
  have:s.accept n=((0,false),s):=by simp [Snd.accept,hc]
  rw [this]
  exact ⟨he,hs,Fr.refl _ _⟩
 |some k=>
  have:s.accept n=((k,true),s.drop k):=by simp [Snd.accept,hc]
  rw [this]
  exact accept_ok' p K D s hok ht n w hs k hc
theorem ack_any (p:Nat) (K D:Nat->Prop) (s:Snd) (hok:s.Ok) (ht:s.total < 1000000000000) (n:Int) (w:World) (hs:dW w p K D s) :
  Calls Try.prog 83 #[.pointer (some ⟨p,0,none⟩),.int .i64 n] w fun e w'=>
   e=.returned (.int .i64 ((s.ack n).1:Int))/\dW w' p K D (s.ack n).2/\Fr (fun k=>k=p) w w':=by
 unfold Snd.ack
 have HC:=aQ (accept_any p K D s hok ht n w hs)
 generalize s.accept n=r at *
 clear hs hok ht
 go_enter Try.func83,Try.ntmps83
 go_wp2_with (go_at_call 89;refine HC.out.mono ?_;rintro e w1 ⟨rfl,hs1,hf1⟩;have HS1:=aQ hs1;have HF1:=aQ hf1;clear hs1 hf1)
 go_ret
 exact ⟨rfl,HS1.out,HF1.out⟩
theorem tick_empty (p:Nat) (K D:Nat->Prop) (s:Snd) (w:World) (hs:dW w p K D s) (h0:s.cT.length=0) :
  Calls Try.prog 39 #[.pointer (some ⟨p,0,none⟩)] w fun e w'=>e=.returned (.tuple #[.int .i64 0,.slice none 0 0,.bool false])/\w=w':=by
 obtain ⟨kv,vs,hrow,hsl,hk⟩:=hs.row
 obtain ⟨ka,kcap,rfl⟩:=hsl.shape
 obtain ⟨_,_,c2,_⟩:=cW hrow
 clear hs hsl hk hrow
 go_enter Try.func39,Try.ntmps39
 go_wp2_with fail
 go_ret3
 exact ⟨rfl,rfl⟩
theorem tick_wait (p:Nat) (K D:Nat->Prop) (s:Snd) (hok:s.Ok) (w:World) (hs:dW w p K D s) (h0:0 < s.cT.length) (h1:s.cT.length<=s.pos) (h2:s.timer+1 < s.aN) :
  Calls Try.prog 39 #[.pointer (some ⟨p,0,none⟩)] w fun e w'=>e=.returned (.tuple #[.int .i64 0,.slice none 0 0,.bool false])/\dW w' p K D { s with timer:=s.timer+1 }/\Fr (fun k=>k=p) w w':=by
 obtain ⟨kv,vs,hrow,hsl,hk⟩:=hs.row
 obtain ⟨ka,kcap,rfl⟩:=hsl.shape
 obtain ⟨_,c1,c2,c3,c4,c5,c6⟩:=cW hrow
 obtain ⟨_,_,_,_,f6⟩:=snd_free hrow
 have hpos:=hok.pos
 have hsent:=hok.cP
 have hkl:=hok.cT
 have hw2:=hok.w2
 have ht2:=hok.t2
 have HS:=aQ hs;clear hs
 have HSL:=aQ hsl;clear hsl
 have HK:=aQ hk;clear hk
 have HROW:=aQ hrow;clear hrow
 clear hok
 go_enter Try.func39,Try.ntmps39
 go_wp2_with fail
 go_quiet (fail)
 go_wp2_with fail
 go_quiet (fail)
 go_wp2_with fail
 go_ret3
 exact ⟨rfl,dW.put (kv:=.slice ka s.cT.length kcap) (vs:=vs) HS.out HSL.out HK.out (by (repeat (first|(with_reducible (first|exact Fr.refl _ _|refine Fr.setCell ?_ ?_ _|refine Fr.drewN ?_ _|refine Fr.drew ?_))|exact Or.inl rfl))) (by (apply aS;focus (with_reducible (repeat (first|exact HROW.out|apply aU|apply aP|apply aF))));rfl),by (repeat (first|(with_reducible (first|exact Fr.refl _ _|refine Fr.setCell ?_ ?_ _|refine Fr.drewN ?_ _|refine Fr.drew ?_))|exact Or.inl rfl))⟩
end

section
open Go.RowKit
theorem Kept.at {w:World} {D:Nat->Prop} {ks:List dV} {vs:List Value} (h:Kept w D ks vs) {i:Nat} (hi:i < ks.length):∃v,vs[i]? = some v/\ByD w D v (ks.getD i []):=by
 refine h.2 i _ ?_
 rw [List.getElem?_eq_getElem hi];simp [List.getD,hi]
theorem Ow.fr {T:TypeId} {w w':World} {base:Nat} {v:Value} {bs:List (BitVec 8)} (h:Ow T w base v bs) {F:Nat->Prop} (hF:Fr F w w') (hb:∀k,F k->k < base):Ow T w' base v bs:=by
 obtain ⟨hl,h|⟨g,cap,cur,rfl,hg,hrow,h1⟩⟩:=h
 ·exact ⟨hl,.inl h⟩
 ·exact ⟨hl,.inr ⟨g,cap,cur,rfl,hg,hF.keep hrow fun f=>by have:=hb g f;omega,h1⟩⟩
theorem tick_done {w w0 w1 w2:World} {p:Nat} {K D:Nat->Prop} {s s':Snd} {kv v:Value} {vs:List Value} {d:dV} (hs:dW w p K D s) (hk:Kept w D s.cT vs) (hsl:Sl w K 27 1 kv s.cT.length vs)
  (hF0:Fr (fun k=>k=p) w w0) (hB:Below w.heap.size w0 w1) (hO:Ow 5 w1 w.heap.size v d) (hF:Fr (fun k=>k=p) w1 w2)
  (hrow:w2.heap[p]? = some (.cells (sndCells s' kv) 131 (0,0))) (hkept:s'.cT=s.cT) :
  Ow 5 w2 w.heap.size v d/\dW w2 p K D s'/\Fr (fun k=>k=p) w w2:=by
 have hp:p < w.heap.size:=by obtain ⟨kv,vs,h,_⟩:=hs.row;exact lt_of_block h
 have hsz:=hF0.size
 have h01:Fr (fun k=>k=p) w w1:=⟨hB.os.trans hF0.os,hB.tape.trans hF0.tape,hB.output.trans hF0.output,Nat.le_trans hF0.size hB.size,fun k hk hn=>(hB.block k hk).trans (hF0.block k hk hn)⟩
 have hall:Fr (fun k=>k=p) w w2:=h01.trans hF fun x h=>.inl h
 refine ⟨hO.fr hF fun k hk=>by subst hk;exact hp,?_,hall⟩
 exact dW.put hs (by rw [hkept];exact hsl) (by rw [hkept];exact hk) hall hrow
theorem tick_send (p:Nat) (K D:Nat->Prop) (s:Snd) (hok:s.Ok) (ht:s.total < 1000000000000) (w:World) (hs:dW w p K D s) (h0:s.pos < s.cT.length) :
  Calls Try.prog 39 #[.pointer (some ⟨p,0,none⟩)] w fun e w'=>∃v,e=.returned (.tuple #[.int .i64 (s.send.1.1:Int),v,.bool true])/\Ow 5 w' w.heap.size v s.send.1.2/\dW w' p K D s.send.2/\Fr (fun k=>k=p) w w':=by
 obtain ⟨kv,vs,hrow,hsl,hk⟩:=hs.row
 obtain ⟨kg,koff,kcap,rfl,_,kc⟩:=hsl.head (by omega)
 obtain ⟨u,hu,hud⟩:=hk.at h0
 have cu:=hsl.cell _ _ hu
 have hsend:s.send.1.2=s.cT.getD s.pos []:=rfl
 obtain ⟨d0,hd0⟩:∃d,d=s.cT.getD s.pos []:=⟨_,rfl⟩
 have usm:(s.cT.getD s.pos []).length<=64:=by
  refine hok.small _ ?_
  rw [List.getD_eq_getElem?_getD,List.getElem?_eq_getElem h0];simp
 rw [hsend];clear hsend
 rw [<-hd0] at hud usm ⊢
 clear hd0
 obtain ⟨ua,ucap,rfl⟩:=hud.1.slice
 obtain ⟨_,c1,c2,c3,c4,c5,c6⟩:=cW hrow
 obtain ⟨_,_,f4,f5,f6⟩:=snd_free hrow
 have hpos:=hok.pos
 have hsent:=hok.cP
 have hkl:=hok.cT
 have hw2:=hok.w2
 have hlt:=lt_of_block hrow
 unfold Snd.total at ht
 have HS:=aQ hs;clear hs
 have HSL:=aQ hsl;clear hsl
 have HK:=aQ hk;clear hk
 have HROW:=aQ hrow;clear hrow
 have HUD:=aQ hud;clear hud
 have HU:=aQ hu;clear hu
 clear hok
 go_enter Try.func39,Try.ntmps39
 go_wp2_with fail
 go_quiet (fail)
 go_wp2_with fail
 go_quiet (fail)
 go_wp2_with fail
 go_region_law (go_simp;go_at_call 32;refine (cV _ _ _ (by exact HUD.out.1.drewN _) (by omega)).mono ?_;rintro e w1 ⟨v1,rfl,hO1,hB1⟩;obtain ⟨a1,cap1,rfl⟩:=ow_shape hO1;have HO1:=aQ hO1;have HB1:=aQ hB1;have HROW1:=aQ ((hB1.block p hlt).trans HROW.out);obtain ⟨_,_,_,_,c4',c5',c6'⟩:=cW HROW1.out;obtain ⟨_,_,f4',f5',f6'⟩:=snd_free HROW1.out;clear hO1 hB1)
 all_goals go_wp2_with fail
 all_goals go_region
 all_goals go_wp2_with fail
 all_goals go_ret3
 all_goals refine ⟨_,rfl,tick_done HS.out HK.out HSL.out (Fr.refl _ _) ⟨HB1.out.os,HB1.out.tape,HB1.out.output,HB1.out.size,HB1.out.block⟩ HO1.out (by (repeat (first|(with_reducible (first|exact Fr.refl _ _|refine Fr.setCell ?_ ?_ _|refine Fr.drewN ?_ _|refine Fr.drew ?_))|exact Or.inl rfl))) (by (apply aS;focus (with_reducible (repeat (first|exact HROW1.out|apply aU|apply aP|apply aF))));simp [sndCells,Snd.send];omega) rfl⟩
theorem tick_resend (p:Nat) (K D:Nat->Prop) (s:Snd) (hok:s.Ok) (ht:s.total < 1000000000000) (w:World) (hs:dW w p K D s) (h0:0 < s.cT.length) (h1:s.cT.length<=s.pos) (h2:s.aN<=s.timer+1) :
  Calls Try.prog 39 #[.pointer (some ⟨p,0,none⟩)] w fun e w'=>∃v,e=.returned (.tuple #[.int .i64 (({ s with pos:=0 }:Snd).send.1.1:Int),v,.bool true])/\Ow 5 w' w.heap.size v ({ s with pos:=0 }:Snd).send.1.2/\dW w' p K D ({ s with pos:=0 }:Snd).send.2/\Fr (fun k=>k=p) w w':=by
 obtain ⟨kv,vs,hrow,hsl,hk⟩:=hs.row
 obtain ⟨kg,koff,kcap,rfl,hKg,kc⟩:=hsl.head (by omega)
 have hne:¬kg=p:=fun e=>hs.pK (e ▸ hKg)
 have hne':¬p=kg:=fun e=>hne e.symm
 have ht2:=hok.t2
 have htm:=hok.timer
 obtain ⟨u,hu,hud⟩:=hk.at h0
 have cu:=hsl.cell _ _ hu
 rw [Nat.add_zero] at cu
 have hsend:({ s with pos:=0 }:Snd).send.1.2=s.cT.getD 0 []:=rfl
 obtain ⟨d0,hd0⟩:∃d,d=s.cT.getD 0 []:=⟨_,rfl⟩
 have usm:(s.cT.getD 0 []).length<=64:=by
  refine hok.small _ ?_
  rw [List.getD_eq_getElem?_getD,List.getElem?_eq_getElem h0];simp
 rw [hsend];clear hsend
 rw [<-hd0] at hud usm ⊢
 clear hd0
 obtain ⟨ua,ucap,rfl⟩:=hud.1.slice
 obtain ⟨_,c1,c2,c3,c4,c5,c6⟩:=cW hrow
 obtain ⟨_,_,f4,f5,f6⟩:=snd_free hrow
 have hpos:=hok.pos
 have hsent:=hok.cP
 have hkl:=hok.cT
 have hw2:=hok.w2
 have hlt:=lt_of_block hrow
 unfold Snd.total at ht
 have HS:=aQ hs;clear hs
 have HSL:=aQ hsl;clear hsl
 have HK:=aQ hk;clear hk
 have HROW:=aQ hrow;clear hrow
 have HUD:=aQ hud;clear hud
 have HU:=aQ hu;clear hu
 clear hok
 go_enter Try.func39,Try.ntmps39
 go_wp2_with fail
 go_quiet (fail)
 go_wp2_with fail
 go_quiet (fail)
 go_wp2_with fail
 go_quiet (fail)
 go_wp2_with fail
 go_region_law (go_simp;go_at_call 32;refine (cV _ d0 _ (by exact (HUD.out.keep fun k hk hl=>(show Fr (fun k=>k=p) w _ by (repeat (first|(with_reducible (first|exact Fr.refl _ _|refine Fr.setCell ?_ ?_ _|refine Fr.drewN ?_ _|refine Fr.drew ?_))|exact Or.inl rfl))).block k hl fun e=>HS.out.pD (e ▸ hk)).1) (by omega)).mono ?_;rintro e w1 ⟨v1,rfl,hO1,hB1⟩;obtain ⟨a1,cap1,rfl⟩:=ow_shape hO1;have HO1:=aQ hO1;have HB1:=aQ hB1;have HROW1:=aQ (show w1.heap[p]? = some (.cells (sndCells { s with pos:=0,timer:=s.timer+1 } (.slice (some ⟨kg,koff,none⟩) s.cT.length kcap)) 131 (0,0)) from (hB1.block p (by simpa using hlt)).trans (by (apply aS;focus (with_reducible (repeat (first|exact HROW.out|apply aU|apply aP|apply aF))));rfl));obtain ⟨_,_,_,_,c4',c5',c6'⟩:=cW HROW1.out;obtain ⟨_,_,f4',f5',f6'⟩:=snd_free HROW1.out;clear hO1 hB1)
 all_goals go_wp2_with fail
 all_goals go_region
 all_goals go_wp2_with fail
 all_goals go_ret3
 all_goals refine ⟨_,rfl,tick_done HS.out HK.out HSL.out (w1:=w1) (show Fr (fun k=>k=p) w _ by (repeat (first|(with_reducible (first|exact Fr.refl _ _|refine Fr.setCell ?_ ?_ _|refine Fr.drewN ?_ _|refine Fr.drew ?_))|exact Or.inl rfl))) ⟨HB1.out.os,HB1.out.tape,HB1.out.output,by simpa using HB1.out.size,fun k hk=>HB1.out.block k (by simpa using hk)⟩ (by simpa using HO1.out) (by (repeat (first|(with_reducible (first|exact Fr.refl _ _|refine Fr.setCell ?_ ?_ _|refine Fr.drewN ?_ _|refine Fr.drew ?_))|exact Or.inl rfl))) (by (apply aS;focus (with_reducible (repeat (first|exact HROW1.out|apply aU|apply aP|apply aF))));simp [sndCells,Snd.send];omega) rfl⟩
end

section
open Go.RowKit
theorem tick_any (p:Nat) (K D:Nat->Prop) (s:Snd) (hok:s.Ok) (ht:s.total < 1000000000000) (w:World) (hs:dW w p K D s) :
  Calls Try.prog 39 #[.pointer (some ⟨p,0,none⟩)] w fun e w'=>∃v,e=.returned (.tuple #[.int .i64 ((s.cR.1.elim 0 (·.1):Nat):Int),v,.bool s.cR.1.isSome]) /\
   Ow 5 w' w.heap.size v (s.cR.1.elim [] (·.2))/\dW w' p K D s.cR.2/\Fr (fun k=>k=p) w w':=by
 unfold Snd.cR
 by_cases h0:s.cT.length=0
 ·rw [if_pos h0]
  refine (tick_empty p K D s w hs h0).mono fun e w' ⟨he,hw⟩=>?_
  subst hw
  exact ⟨_,he,World.ownsRow_nil _ _ _ _,hs,Fr.refl _ _⟩
 ·rw [if_neg h0]
  by_cases h1:s.cT.length<=s.pos
  ·rw [if_pos h1]
   by_cases h2:s.timer+1 < s.aN
   ·rw [if_pos h2]
    refine (tick_wait p K D s hok w hs (by omega) h1 h2).mono fun e w' ⟨he,h3,h4⟩=>?_
    exact ⟨_,he,World.ownsRow_nil _ _ _ _,h3,h4⟩
   ·rw [if_neg h2]
    exact tick_resend p K D s hok ht w hs (by omega) h1 (by omega)
  ·rw [if_neg h1]
   exact tick_send p K D s hok ht w hs (by omega)
theorem offer_any (p:Nat) (K D:Nat->Prop) (s:Snd) (hok:s.Ok) (v:Value) (d:dV) (w:World) (hs:dW w p K D s) (hv:By w v d) :
  Calls Try.prog 69 #[.pointer (some ⟨p,0,none⟩),v] w fun e w'=>e=.returned (.int .i64 ((s.dQ d).1:Int))/\∃K' D',dW w' p K' D' (s.dQ d).2/\Fr (sndF p K) w w'/\Ext w K K'/\Ext w D D':=by
 unfold Snd.dQ
 by_cases h0:64 < d.length
 ·rw [if_pos h0]
  refine (offer_big (some p) v d w hv h0).mono fun e w' ⟨he,hw⟩=>?_
  subst hw
  exact ⟨he,K,D,hs,Fr.refl _ _,fun _ h=>.inl h,fun _ h=>.inl h⟩
 ·rw [if_neg h0]
  by_cases h1:s.cA<=s.cT.length
  ·rw [if_pos h1]
   refine (offer_full p K D s hok v d w hs hv (by omega) h1).mono fun e w' ⟨he,n,hw⟩=>?_
   subst hw
   exact ⟨he,K,D,hs.keep (Nat.le_refl _) fun _ _ _=>rfl,(Fr.refl _ _).drewN n,fun _ h=>.inl h,fun _ h=>.inl h⟩
  ·rw [if_neg h1]
   exact offer_room p K D s hok v d w hs hv (by omega) (by omega)
end

section
open Go.RowKit
def RcvAt (w:World) (p:Nat) (n:Nat):Prop:=w.heap[p]? = some (.cells #[.int .i64 (n:Int)] 123 (0,0))
theorem rcv_cell {w:World} {p n:Nat} (h:RcvAt w p n):w.cell? ⟨p,0,none⟩=some (.int .i64 (n:Int)):=aJ (i:=0) h rfl
theorem newReceiver_ok (w:World):Calls Try.prog 52 #[] w fun e w'=>e=.returned (.pointer (some ⟨w.heap.size,0,none⟩))/\RcvAt w' w.heap.size 0/\Below w.heap.size w w':=by
 go_enter Try.func52,Try.ntmps52
 go_wp2_with fail
 go_ret
 exact ⟨rfl,heap_alloc_new w _,(Below.refl _ _).alloc (Nat.le_refl _) _⟩
theorem expected_any (p n:Nat) (w:World) (h:RcvAt w p n):Calls Try.prog 36 #[.pointer (some ⟨p,0,none⟩)] w fun e w'=>e=.returned (.int .i64 ((n:Int) % 256))/\w=w':=by
 have c0:=rcv_cell h
 clear h
 go_enter Try.func36,Try.ntmps36
 go_wp2_with fail
 go_ret
 exact ⟨rfl,rfl⟩
theorem receive_no (p k:Nat) (n:Int) (v:Value) (d:dV) (w:World) (h:RcvAt w p k) (hv:By w v d) (hn:n≠(k:Int) % 256):Calls Try.prog 82 #[.pointer (some ⟨p,0,none⟩),.int .i64 n,v] w fun e w'=>e=.returned (.tuple #[.slice none 0 0,.bool false])/\w=w':=by
 obtain ⟨a,cap,rfl⟩:=hv.slice
 have c0:=rcv_cell h
 clear hv h
 go_enter Try.func82,Try.ntmps82
 go_wp2_with fail
 go_ret2
 exact ⟨rfl,rfl⟩
theorem receive_yes' (p k:Nat) (v:Value) (d:dV) (w:World) (h:RcvAt w p k) (hk:k < 1000000000000) (hv:By (w.setCell ⟨p,0,none⟩ (.int .i64 ((k:Int)+1))) v d) (hd:d.length<=1048576) :
  Calls Try.prog 82 #[.pointer (some ⟨p,0,none⟩),.int .i64 ((k:Int) % 256),v] w fun e w'=>∃v',e=.returned (.tuple #[v',.bool true])/\Ow 5 w' w.heap.size v' d/\RcvAt w' p (k+1)/\Fr (fun x=>x=p) w w':=by
 have c0:=rcv_cell h
 have f0:=aD h 0
 have hlt:=lt_of_block h
 have HF:=aQ (show Fr (fun x=>x=p) w (w.setCell ⟨p,0,none⟩ (.int .i64 ((k:Int)+1))) by (repeat (first|(with_reducible (first|exact Fr.refl _ _|refine Fr.setCell ?_ ?_ _|refine Fr.drewN ?_ _|refine Fr.drew ?_))|exact Or.inl rfl)))
 have HV:=aQ hv
 have HR:=aQ (show RcvAt (w.setCell ⟨p,0,none⟩ (.int .i64 ((k:Int)+1))) p (k+1) by have h':w.heap[p]? = some (.cells #[.int .i64 (k:Int)] 123 (0,0)):=h;unfold RcvAt;(apply aS;focus (with_reducible (repeat (first|exact h'|apply aU|apply aP|apply aF))));rfl)
 obtain ⟨a,cap,rfl⟩:=hv.slice
 clear hv h
 go_enter Try.func82,Try.ntmps82
 go_wp2_with (go_at_call 32;refine (cV _ d _ (by exact HV.out) hd).mono ?_;rintro e w1 ⟨v1,rfl,hO1,hB1⟩;have HO1:=aQ hO1;have HB1:=aQ hB1;clear hO1 hB1)
 go_ret2
 refine ⟨_,rfl,by simpa using HO1.out,(HB1.out.block p (by simpa using hlt)).trans HR.out,HF.out.of_below HB1.out⟩
theorem receive_yes (p k:Nat) (v:Value) (d:dV) (w:World) (h:RcvAt w p k) (hk:k < 1000000000000) (hv:By w v d) (hd:d.length<=1048576) (hn:∀b,v.ownBlock=some b->b≠p) :
  Calls Try.prog 82 #[.pointer (some ⟨p,0,none⟩),.int .i64 ((k:Int) % 256),v] w fun e w'=>∃v',e=.returned (.tuple #[v',.bool true])/\Ow 5 w' w.heap.size v' d/\RcvAt w' p (k+1)/\Fr (fun x=>x=p) w w':=
 receive_yes' p k v d w h hk (Rd.keep hv fun b hb _=>heap_setCell_other w _ b _ (hn b hb)) hd
end

section
open Go.RowKit
structure Kp (X:Nat->Prop) (w w':World):Prop where
 os:w'.os=w.os
 tape:w'.tape=w.tape
 output:w'.output=w.output
 size:w.heap.size<=w'.heap.size
 block:∀k,X k->k < w.heap.size->w'.heap[k]? = w.heap[k]?
theorem Kp.refl (X:Nat->Prop) (w:World):Kp X w w:=⟨rfl,rfl,rfl,Nat.le_refl _,fun _ _ _=>rfl⟩
theorem Kp.trans {X:Nat->Prop} {a b c:World} (h:Kp X a b) (k:Kp X b c):Kp X a c:=
 ⟨k.os.trans h.os,k.tape.trans h.tape,k.output.trans h.output,Nat.le_trans h.size k.size,fun x hx hl=>(k.block x hx (Nat.lt_of_lt_of_le hl h.size)).trans (h.block x hx hl)⟩
theorem Kp.mono {X Y:Nat->Prop} {a b:World} (h:Kp X a b) (hY:∀k,Y k->X k):Kp Y a b:=⟨h.os,h.tape,h.output,h.size,fun x hx hl=>h.block x (hY x hx) hl⟩
theorem Kp.of_fr {X F:Nat->Prop} {a b:World} (h:Fr F a b) (hX:∀k,F k->¬X k):Kp X a b:=⟨h.os,h.tape,h.output,h.size,fun x hx hl=>h.block x hl fun f=>hX x f hx⟩
theorem Kp.of_below {X:Nat->Prop} {a b:World} (h:Below a.heap.size a b):Kp X a b:=⟨h.os,h.tape,h.output,h.size,fun x _ hl=>h.block x hl⟩
theorem Kp.below {X:Nat->Prop} {a b:World} (h:Kp X a b) {B:Nat} (hB:B<=a.heap.size) (hX:∀k,k < B->X k):Below B a b:=⟨h.os,h.tape,h.output,h.size,fun k hk=>h.block k (hX k hk) (by omega)⟩
theorem Kp.drewN {X:Nat->Prop} {a b:World} (h:Kp X a b) (n:Nat):Kp X a (b.drewN n):=⟨h.os,h.tape,h.output,h.size,h.block⟩
theorem Kp.alloc {X:Nat->Prop} {a b:World} (h:Kp X a b) (o:Obj):Kp X a (b.alloc o):=h.trans (Kp.of_fr ((Fr.refl (fun _=>False) b).alloc o) fun _ f=>f.elim)
def Sn (w:World) (X:Nat->Prop) (p:Nat) (s:Snd):Prop:=∃K D,dW w p K D s/\∀k,(k=p\/K k\/D k)->¬X k
theorem dW.plt {w:World} {p:Nat} {K D:Nat->Prop} {s:Snd} (h:dW w p K D s):p < w.heap.size:=by obtain ⟨kv,vs,h,_⟩:=h.row;exact lt_of_block h
theorem Sn.plt {w:World} {X:Nat->Prop} {p:Nat} {s:Snd} (h:Sn w X p s):p < w.heap.size:=by obtain ⟨K,D,h,_⟩:=h;exact h.plt
theorem Sn.fr {w w':World} {X F:Nat->Prop} {p:Nat} {s:Snd} (h:Sn w X p s) (hf:Fr F w w') (hF:∀k,F k->X k):Sn w' X p s:=by
 obtain ⟨K,D,h,hX⟩:=h
 exact ⟨K,D,h.fr hf fun k hk f=>hX k hk (hF k f),hX⟩
theorem Sn.below {w w':World} {X:Nat->Prop} {p:Nat} {s:Snd} (h:Sn w X p s) (hb:Below w.heap.size w w'):Sn w' X p s:=by
 obtain ⟨K,D,h,hX⟩:=h
 exact ⟨K,D,h.below hb,hX⟩
theorem Sn.more {w : World} {X Y : Nat → Prop} {p : Nat} {s : Snd} (h : Sn w X p s) (hY : ∀ k, Y k → X k ∨ w.heap.size ≤ k) : Sn w Y p s := by
  obtain ⟨K, D, h, hX⟩ := h
  refine ⟨K, D, h, fun k hk hy => (hY k hy).elim (hX k hk) fun hl => ?_⟩
  have : k < w.heap.size := by rcases hk with rfl | hk
                               · exact h.plt
                               · exact h.lt k hk
  omega
end

section
open Go.RowKit
def SnO (w:World) (F:Nat->Prop) (p:Nat) (s:Snd):Prop:=∃K D,dW w p K D s/\∀k,(k=p\/K k\/D k)->F k
theorem SnO.thing (p:Nat) (s:Snd):Thing (fun w F=>SnO w F p s) where
 keep:=fun ⟨K,D,h,hF⟩ hs hk=>⟨K,D,h.keep hs fun k hkd hl=>hk k (hF k hkd) hl,fun k hkd=>⟨hF k hkd,by
  rcases hkd with rfl|hkd
  ·exact h.plt
  ·exact h.lt k hkd⟩⟩
 mono:=fun ⟨K,D,h,hF⟩ hG=>⟨K,D,h,fun k hk=>hG k (hF k hk)⟩
theorem SnO.old {w w':World} {F K D:Nat->Prop} {p:Nat} {s s':Snd} (h:dW w p K D s) (hF:∀k,(k=p\/K k\/D k)->F k) (h':dW w' p K D s'):SnO w' (fun k=>F k/\k < w.heap.size) p s':=
 ⟨K,D,h',fun k hkd=>⟨hF k hkd,by
  rcases hkd with rfl|hkd
  ·exact h.plt
  ·exact h.lt k hkd⟩⟩
theorem SnO.plt {w:World} {F:Nat->Prop} {p:Nat} {s:Snd} (h:SnO w F p s):p < w.heap.size:=by obtain ⟨K,D,h,_⟩:=h;exact h.plt
theorem SnO.at {w:World} {F:Nat->Prop} {p:Nat} {s:Snd} (h:SnO w F p s):F p:=by obtain ⟨K,D,_,h⟩:=h;exact h p (.inl rfl)
theorem offer_o {w:World} {F:Nat->Prop} {p:Nat} {s:Snd} (h:SnO w F p s) (hok:s.Ok) (v:Value) (d:dV) (hv:By w v d) :
  Calls Try.prog 69 #[.pointer (some ⟨p,0,none⟩),v] w fun e w'=>e=.returned (.int .i64 ((s.dQ d).1:Int))/\SnO w' (fun k=>F k\/w.heap.size<=k) p (s.dQ d).2/\Fr F w w':=by
 obtain ⟨K,D,hs,hx⟩:=h
 refine (offer_any p K D s hok v d w hs hv).mono fun e w' ⟨he,K',D',h1,h2,h3,h4⟩=>⟨he,⟨K',D',h1,fun k hk=>?_⟩,h2.mono fun k hk=>hx k ?_⟩
 ·rcases hk with rfl|hk|hk
  ·exact .inl (hx k (.inl rfl))
  ·exact (h3 k hk).imp (fun h=>hx k (.inr (.inl h))) id
  ·exact (h4 k hk).imp (fun h=>hx k (.inr (.inr h))) id
 ·rcases hk with rfl|hk
  ·exact .inl rfl
  ·exact .inr (.inl hk)
theorem tick_o {w:World} {F:Nat->Prop} {p:Nat} {s:Snd} (h:SnO w F p s) (hok:s.Ok) (ht:s.total < 1000000000000) :
  Calls Try.prog 39 #[.pointer (some ⟨p,0,none⟩)] w fun e w'=>∃v,e=.returned (.tuple #[.int .i64 ((s.cR.1.elim 0 (·.1):Nat):Int),v,.bool s.cR.1.isSome]) /\
   ByD w' (fun k=>w.heap.size<=k) v (s.cR.1.elim [] (·.2))/\SnO w' (fun k=>F k/\k < w.heap.size) p s.cR.2/\Fr F w w':=by
 obtain ⟨K,D,hs,hx⟩:=h
 refine (tick_any p K D s hok ht w hs).mono fun e w' ⟨v,he,h1,h2,h3⟩=>⟨v,he,h1.byD.mono fun k h=>h.1,SnO.old hs hx h2,h3.mono fun k hk=>hx k (.inl hk)⟩
theorem ack_o {w:World} {F:Nat->Prop} {p:Nat} {s:Snd} (h:SnO w F p s) (hok:s.Ok) (ht:s.total < 1000000000000) (n:Int) :
  Calls Try.prog 83 #[.pointer (some ⟨p,0,none⟩),.int .i64 n] w fun e w'=>e=.returned (.int .i64 ((s.ack n).1:Int))/\SnO w' (fun k=>F k/\k < w.heap.size) p (s.ack n).2/\Fr F w w':=by
 obtain ⟨K,D,hs,hx⟩:=h
 exact (ack_any p K D s hok ht n w hs).mono fun e w' ⟨he,h2,h3⟩=>⟨he,SnO.old hs hx h2,h3.mono fun k hk=>hx k (.inl hk)⟩
theorem kept_o {w:World} {F:Nat->Prop} {p:Nat} {s:Snd} (h:SnO w F p s) :
  Calls Try.prog 65 #[.pointer (some ⟨p,0,none⟩)] w fun e w'=>e=.returned (.int .i64 (s.cT.length:Int))/\w=w':=by
 obtain ⟨K,D,hs,_⟩:=h
 exact kept_any p K D s w hs
theorem total_o {w:World} {F:Nat->Prop} {p:Nat} {s:Snd} (h:SnO w F p s) (hok:s.Ok) (ht:s.total < 1000000000000) :
  Calls Try.prog 70 #[.pointer (some ⟨p,0,none⟩)] w fun e w'=>e=.returned (.tuple #[.int .i64 ((s.aG:Int)+(s.cT.length:Int)),.int .i64 (s.aG:Int)])/\Dr w w':=by
 obtain ⟨K,D,hs,_⟩:=h
 exact total_any p K D s hok ht w hs
theorem new_o (a b:Nat) (w:World) (h1:1<=a) (h2:a<=128) (h3:1<=b) (h4:b<=1000) :
  Calls Try.prog 51 #[.int .i64 (a:Int),.int .i64 (b:Int)] w fun e w'=>e=.returned (.tuple #[.pointer (some ⟨w.heap.size,0,none⟩),.int .i64 0]) /\
   SnO w' (fun k=>k=w.heap.size) w.heap.size (newSnd a b)/\Below w.heap.size w w':=by
 refine (newSender_ok a b w h1 h2 h3 h4).mono fun e w' ⟨he,hs,hb⟩=>⟨he,⟨_,_,hs,fun k hk=>?_⟩,hb⟩
 rcases hk with rfl|hk|hk
 ·rfl
 ·exact hk.elim
 ·exact hk.elim
end

end Go.Proofs.Ytbgjpfbcelkllaa
