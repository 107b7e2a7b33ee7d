/- Lemmas; no condition on the program. -/
import Derived.Test.YtjnbanjjoomecaaGreatDoorPkC1
import Derived.Test.YtjnbanjjoomecaaGreatDoorPkH1
import Derived.Test.YtjnbanjjoomecaaGreatDoorPkP1
import Derived.Lib.SlBytesConst
import Derived.Test.YtjnbanjjoomecaaGreatDoorPkG3
import Derived.Test.YtjnbanjjoomecaaGreatDoorPkA1
import Derived.Test.YtjnbanjjoomecaaGreatDoorPkE1
import Derived.Test.YtjnbanjjoomecaaGreatDoorPkR2
namespace Go.Proofs.YtjnbanjjoomecaaGreatDoor
open Go.RowKit
open _root_.Go.Proofs.Tryz renaming prog→Vs
open Nat renaming le_refl→Vu, le_trans→VC, mul_one→Xi, add_zero→Xp
open List renaming getElem?_eq_getElem→Vw, length_append→Vx, mem_of_getElem?→VD, length_map→VL, getD_eq_getElem?_getD→We, mem_singleton→Wj, mem_replicate→Wu, mem_cons_self→WG, mem_append→WY, take_length→Xd, take_add_one→Xr, any_eq_true→Yv, getElem_mem→Zj
open Option.some renaming inj→VM
open _root_.Go.RowKit.Below renaming refl→VQ
open IntWalk renaming i64_in→V6
open Bool renaming eq_false_iff→XH, or_eq_false_iff→X7
open Int renaming toNat→YQ
set_option maxRecDepth 100000
set_option maxHeartbeats 64000000
theorem wV {w w1 w2:World} {ops:Array Oper} {rest:List Oper} {o:Oper} {ac:Act} {Q:Exit->Act->World->Prop} {a:Option Addr} {c:Nat} {xs:List iw} {e:iw} {v:Value}
  (hg:o.guard=none) (s x:Operand) (hop:o.op=Op.call { callee:=Callee.builtin Builtin.append,args := #[s,x],argTypes := #[51,51] })
  (h:dY (fun _=>False) (fun _=>False) w [JG (.slice a xs.length c) xs] w1) (hb:Below w1.heap.size w1 w2) (hl:xs.length<=1000000000) (hv:Nb w2 w1.heap.size v e) (hs:ac.eval s=.slice a xs.length c) (vb:Nat) (hx:ac.eval x=.slice (some ⟨vb,0,none⟩) 1 1) (hrow:Rd w2 1 (.slice (some ⟨vb,0,none⟩) 1 1) 1 [v])
  (hK:∀a' c' w3,dY (fun _=>False) (fun _=>False) w [JG (.slice a' (xs++[e]).length c') (xs++[e])] w3->wpList Vs ops Q rest (ac.put o.dst (.slice a' (xs.length+1) c')) w3):wpList Vs ops Q (o::rest) ac w2:=by
 obtain ⟨va,vc,rfl⟩:=hv.slice;obtain ⟨K,us,hsl,hKn,hback⟩:=h.app 0 rfl;refine cQ qA hg s x hop K (.slice a xs.length c) xs.length us hs (Sl.keep hsl fun k _ hl=>hb.block k hl) _ 1 [.slice va e.length vc] hx hrow (by intro u hu;obtain rfl:=Wj.1 hu;rfl) (by unfold maxLen;omega) (by omega) ?_;intro v' w' hs2 hf2;obtain ⟨g2,cz,cap2,rfl,_⟩:=Sl.head hs2 (by omega);refine hK _ _ _ ?_;have:=hback w2 w' [.slice va e.length vc] [e] _ hb hs2 hf2 fun Y _=>⟨fun k=>w1.heap.size<=k,fun _=>False,fun _ h=>h,fun _ f=>f.elim,fun _ _ f=>f,fK.single (E:=df Nv 5) ⟨_,rfl,hv.sq⟩⟩
 rw [Vx];exact this
def FR (w:World) (v:Value) (iI:List (List iw)) (cl:Int):Prop:=
 ∃a n c,v=.slice a n c/\n=iI.length/\∀(m:Nat),cl=(m:Int)->m < n->∃b o ia ic,a=some ⟨b,o,none⟩/\n<=c/\w.cell? ⟨b,o+m,none⟩=some (.slice ia (iI.getD m []).length ic)/\(iI.getD m []).length<=ic /\
  ∀(k:Nat) (d:iw),(iI.getD m [])[k]? = some d->∃b' o' dv,ia=some ⟨b',o',none⟩/\w.cell? ⟨b',o'+k,none⟩=some dv/\By w dv d
def fG (iI:List (List iw)) (cl:Int):List iw:=if 0<=cl then iI.getD cl.toNat [] else []
theorem nz (v:Value) (iI:List (List iw)) (cl:Int) (w:World) (_:iI.length<=1000) (hl:∀l ∈ iI,l.length<=1000000000) (hd:∀l ∈ iI,∀d ∈ l,d.length<=1000000) (h:FR w v iI cl) :
  Calls Vs 48 #[v,.int .i64 cl] w fun e w'=>∃a c,e=.returned (.slice a (fG iI cl).length c)/\dY (fun _=>False) (fun _=>False) w [JG (.slice a (fG iI cl).length c) (fG iI cl)] w':=by
 obtain ⟨a,n,c,rfl,rfl,hat⟩:=h;have H0:=aQ (((dY.mO (fun _=>False) (fun _=>False) (fun _ f=>f.elim) w).add (VQ _ _) (T:=JG (.slice none 0 0) []) (Sq.nil _ _ _ _ _)));by_cases h0:cl < 0
 ·have HC:=aQ (show fG iI cl=[] by unfold fG;rw [if_neg (by omega)])
  clear hat hl hd;go_enter Tryz.func48,Tryz.ntmps48;go_wp2_with fail;go_ret;rw [HC.out];exact ⟨_,_,rfl,H0.out⟩
 ·obtain ⟨m,rfl⟩:∃m:Nat,cl=(m:Int):=⟨cl.toNat,by omega⟩
  have hcl:fG iI (m:Int)=iI.getD m []:=by unfold fG;rw [if_pos (by omega)];simp
  by_cases h1:iI.length<=m
  ·have HC:=aQ (show fG iI (m:Int)=[] by rw [hcl,We,List.getElem?_eq_none h1];rfl)
   clear hat hl hd hcl;go_enter Tryz.func48,Tryz.ntmps48;go_wp2_with fail;go_ret;rw [HC.out];exact ⟨_,_,rfl,H0.out⟩
  ·obtain ⟨b,o,ia,ic,rfl,k0,k1,k2,k3⟩:=hat m rfl (by omega)
   have hmem:iI.getD m [] ∈ iI:=by rw [We,Vw (by omega)];exact Zj _
   have hl2:=hl _ hmem;have HD:=aQ (hd _ hmem);have hm:m < iI.length:=by omega
   rw [hcl];clear hat hl hd hcl hmem;generalize iI.getD m []=xs at *;generalize iI.length=n at *;have HAT:=aQ k3;clear k3;go_enter Tryz.func48,Tryz.ntmps48;go_wp2_with fail;go_loopw [5,21] (fun u i wr=>∃k:Nat,k<=xs.length/\i=.int .i64 (k:Int)/\∃(a:Option Addr) (c:Nat),u=.slice a (xs.take k).length c/\Hid (dY (fun _=>False) (fun _=>False) w [JG (.slice a (xs.take k).length c) (xs.take k)] wr)) (fun _ i _=>xs.length - (intOf i).toNat)
   case atStart=>exact ⟨0,by omega,by go_num,_,_,rfl,H0⟩
   case round=>
    clear H0;obtain ⟨k,hk,rfl,a,c,rfl,HH⟩:=hrel;have htl:(xs.take k).length=k:=by rw [List.length_take];omega
    by_cases hlt:k < xs.length
    ·have hx:xs[k]? = some xs[k]:=Vw hlt
     obtain ⟨b',o',dv,rfl,hc,hby⟩:=HAT.out k _ hx;have FI:=aQ (show xs.take (k+1)=xs.take k++[xs[k]] from List.take_succ_eq_append_getElem hlt);have hdl:=HD.out xs[k] (Zj hlt);generalize xs[k]=d at *;have hB:=HH.out.below;have hc2:=cell_later hB hc;have nK:=aQ (By.below hby hB);obtain ⟨da,dc,rfl⟩:=hby.slice;generalize hy:xs.take k=ys at *;have HY:=aQ hy;have HYL:=aQ htl;have hyl:ys.length<=1000000000:=by omega
     clear hy htl hc hby hB hx;go_wp2_with fail;refine (cV _ d wr nK.out (by omega)).mono ?_;rintro e w3 ⟨v3,rfl,h3,hb3⟩;obtain ⟨va,vc,rfl⟩:=gX h3;have H3:=aQ (Nb.Qd h3);have HB3:=aQ hb3;clear h3 hb3;have HA:=aQ (H3.out.below (aK w3 (.cells #[.slice va d.length vc] 40)));have HBB:=aQ (HB3.out.trans ((aK w3 (.cells #[.slice va d.length vc] 40)).mono HB3.out.size));have Dq:=aQ (iA w3 w3.heap.size (.slice va d.length vc) 40 rfl);go_wp2_with (at_builtin;refine wV rfl _ _ rfl HH.out HBB.out hyl HA.out rfl w3.heap.size rfl Dq.out ?_;intro a' c' w5 h;have H5:=aQ h;clear h);go_roundw
     case rel=>exact ⟨k+1,by omega,by go_num,a',c',by rw [FI.out,Vx];rfl,by rw [FI.out];exact H5⟩
     case measure=>simp [intOf];omega
    ·have hkl:xs.take k=xs:=List.take_of_length_le (by omega)
     rw [hkl] at HH ⊢;clear hkl htl HD HAT;go_wp2_with fail;go_ret;exact ⟨_,_,rfl,HH.out⟩

def aj.eG (x:aj):Prop:=(∀l ∈ x.aV,∀d ∈ l,d.length<=1000)/\∀l ∈ x.cF,∀d ∈ l,d.length<=1000
def Lk.eG (L:Lk):Prop:=L.l.eG/\L.r.eG
theorem vT {l:List (List dV)} (h:∀l' ∈ l,∀d ∈ l',d.length<=1000) {d:dV} (hd:d.length<=1000) (c:Nat):∀l' ∈ l.set c (l.getD c []++[d]),∀e ∈ l',e.length<=1000:=
 mem_set (P:=fun l':List dV=>∀e ∈ l',e.length<=1000) h fun e he=>by
  rcases WY.1 he with he|he
  ·exact bM (P:=fun l':List dV=>∀e ∈ l',e.length<=1000) h (d:=[]) (by simp) c e he
  ·obtain rfl:=Wj.1 he;exact hd
theorem aj.eG.act {x:aj} {N:Nat} (h:x.eG) (ok:x.prt.Ok N) (e:iW):(x.act e).2.eG:=by
 unfold aj.act;split
 ·unfold aj.dQ
  split
  ·rename_i h0
   refine ⟨vT h.1 ?_ _,h.2⟩;unfold δ.dQ at h0;split at h0
   ·exact absurd h0 (by show ¬(2:Nat)=0;omega)
   ·rename_i h1
    have:¬ 64 < e.data.length:=fun q=>h1 (.inr q)
    omega
  ·exact h
 ·split
  ·unfold aj.take
   cases hp:x.prt.jY e.cls with
   |none=>
    have:x.prt.take e.cls=(none,x.prt):=by unfold δ.take;rw [hp]
    rw [this];exact h
   |some d=>
    have hd:d.length<=1000:=by
     unfold δ.jY at hp;split at hp
     ·have:=bM (P:=fun l':List dV=>∀e ∈ l',e.length<=1000) ok.yI (d:=[]) (by simp) e.cls.toNat
      generalize x.prt.aY.getD e.cls.toNat []=l at *
      cases l with
      |nil=>cases hp
      |cons y l=>injection hp with hp;subst hp;exact this _ WG
     ·cases hp
    have ht:∃q,x.prt.take e.cls=(Option.some d,q):=by unfold δ.take;rw [hp];exact ⟨_,rfl⟩
    obtain ⟨q,ht⟩:=ht;rw [ht];exact ⟨h.1,vT h.2 hd _⟩
  ·unfold aj.Ω
   split
   ·exact h
   ·exact h
theorem Lk.eG.act {L:Lk} {N:Nat} (h:L.eG) (f:L.Fit N) (e:iW):(L.act e).2.eG:=by
 unfold Lk.act;split
 ·exact h
 ·split
  ·exact h
  ·split
   ·exact h
   ·split
    ·exact ⟨h.1.act f.l.ok e,h.2⟩
    ·split
     ·exact ⟨h.1,h.2.act f.r.ok e⟩
     ·exact h
theorem Lk.eG.acts:∀(es:List iW) {L:Lk} {N:Nat},L.eG->L.Fit N->200<=N->(L.acts es).2.eG
 |[],_,_,h,_,_=>h
 |e::es,_,_,h,f,hN=>Lk.eG.acts es (h.act f e) (f.act hN e) (by omega)
theorem Lk.eG.cR {L:Lk} (h:L.eG):L.cR.eG:=by
 have s1:=L.l.cR.2.oL (ys:=L.r.cR.1);have s2:=L.r.cR.2.oL (ys:=L.l.cR.1);refine ⟨?_,?_⟩
 ·show (L.l.cR.2.send L.r.cR.1).eG
  unfold aj.eG;rw [s1.aV,s1.cF];exact h.1
 ·show (L.r.cR.2.send L.l.cR.1).eG
  unfold aj.eG;rw [s2.aV,s2.cF];exact h.2
theorem Lk.eG.step {L:Lk} {N:Nat} (h:L.eG) (f:L.Fit N) (hN:200<=N) (es:List iW):(L.step es).eG:=(Lk.eG.acts es h f hN).cR
theorem kC (inc:Nat) (aZ:List Nat) (w t d cB:Nat) (fs:List jV):(rY inc aZ w t d cB fs).eG:=
 ⟨fun l hl d hd=>(by obtain rfl:=(Wu.1 hl).2;cases hd),fun l hl d hd=>(by obtain rfl:=(Wu.1 hl).2;cases hd)⟩
def Lk.off (L:Lk) (s:Int):List (List dV):=if s=0 then L.l.aV else if s=1 then L.r.aV else []
def Lk.bu (L:Lk) (s:Int):List (List dV):=if s=0 then L.l.cF else if s=1 then L.r.cF else []

theorem dY.F_ {F Z:BS} {W w w':World} {ts:List Th} {T:Th} (h:dY F Z W ts w) (h2:dY (fun _=>False) (fun _=>False) w [T] w'):dY F Z W (T::ts) w':=by
 obtain ⟨a,Y,b,c⟩:=h2.Ko;exact (h.adds ⟨a,Y,fun k hk=>(b k hk).elim False.elim fun x=>.inr x,c⟩).front
theorem l_ {w:World} {A B:BS} {T:TypeId} {v:Value} {iI:List (List iw)} (h:Sq (df ψ 40) T w A B v iI) (cl:Int):FR w v iI cl:=by
 obtain ⟨a,c,rfl,hc,_,_⟩:=Sq.le h;refine ⟨a,_,c,rfl,rfl,fun m _ hm=>?_⟩;obtain ⟨b,o,cs,A',rfl,_,⟨vc,rfl,hr⟩,_,hk⟩:=Sq.at h (by decide) (bT (d:=[]) hm);have h0:=hk 0 vc rfl;simp only [df,Xi,Xp] at h0;obtain ⟨ia,ic,rfl,hic,_,_⟩:=Sq.le hr;refine ⟨b,o,ia,ic,rfl,hc,h0,hic,fun k d hkd=>?_⟩;obtain ⟨b',o',cs',A'',rfl,_,⟨dv,rfl,hby⟩,_,hk'⟩:=Sq.at hr (by decide) hkd;have h1:=hk' 0 dv rfl;simp only [ψ,Xi,Xp] at h1;exact ⟨b',o',dv,rfl,h1,hby.1⟩
section
variable {Z:BS} {W w:World} {ts:List Th} {p N:Nat} {L:Lk}
theorem Oo (hF:L.Fit N) (hS:L.eG) (hN:N<=1000000000) (s cl:Int) (h:dY (fun _=>False) Z W (bI p L::ts) w) :
  Calls Vs 21 #[.pointer (some ⟨p,0,none⟩),.int .i64 s,.int .i64 cl] w fun e w'=>∃a c,e=.returned (.slice a (fG (L.bu s) cl).length c)/\dY (fun _=>False) Z W (JG (.slice a (fG (L.bu s) cl).length c) (fG (L.bu s) cl)::bI p L::ts) w':=by
 obtain ⟨cs,v,u,e1,e2,e3,h0⟩:=h.link;obtain ⟨_,_,_,_,_,c5,_⟩:=dL e1 (h0.blk 0 rfl);obtain ⟨_,_,_,_,_,d5,_⟩:=dR e2 (h0.blk 0 rfl);obtain ⟨A5,B5,q5⟩:=h0.get 5 rfl;obtain ⟨A6,B6,q6⟩:=h0.get 11 rfl;have HH:=aQ h;have HE:=aQ (iP s);by_cases hs:s=0\/s=1
 ·have hx:decide (s=0\/s=1)=true:=by simpa using hs
  rw [hx] at HE
  rcases hs with rfl|rfl
  ·have HC:=aQ (nz v.tv L.l.cF cl w (by have:=hF.l.tl;have i:=hF.l;have:=i.ok.n4;omega) (fun l hl=>by have i:=hF.l;exact VC (i.tb l hl) hN) (fun l hl d hd=>VC (hS.1.2 l hl d hd) (by decide)) (l_ (show Sq (df ψ 40) 51 w A5 B5 v.tv L.l.cF from q5) cl))
   have HT:=aQ (show L.bu 0=L.l.cF from rfl);clear h h0 e1 e2 e3 hF hS hx q5 q6;go_enter Tryz.func21,Tryz.ntmps21;go_wp2_with (go_at_call 44;refine (HE.out _).mono ?_;rintro e' w1 ⟨rfl,rfl⟩);refine HC.out.mono ?_;rintro e' w2 ⟨a,c,rfl,h2⟩;have H2:=aQ h2;clear h2;go_wp2_with fail;go_ret;rw [HT.out];exact ⟨_,_,rfl,HH.out.F_ H2.out⟩
  ·have HC:=aQ (nz u.tv L.r.cF cl w (by have:=hF.r.tl;have i:=hF.r;have:=i.ok.n4;omega) (fun l hl=>by have i:=hF.r;exact VC (i.tb l hl) hN) (fun l hl d hd=>VC (hS.2.2 l hl d hd) (by decide)) (l_ (show Sq (df ψ 40) 51 w A6 B6 u.tv L.r.cF from q6) cl))
   have HT:=aQ (show L.bu 1=L.r.cF from rfl);clear h h0 e1 e2 e3 hF hS hx q5 q6;go_enter Tryz.func21,Tryz.ntmps21;go_wp2_with (go_at_call 44;refine (HE.out _).mono ?_;rintro e' w1 ⟨rfl,rfl⟩);refine HC.out.mono ?_;rintro e' w2 ⟨a,c,rfl,h2⟩;have H2:=aQ h2;clear h2;go_wp2_with fail;go_ret;rw [HT.out];exact ⟨_,_,rfl,HH.out.F_ H2.out⟩
 ·have hx:decide (s=0\/s=1)=false:=by simpa using hs
  rw [hx] at HE
  have HT:=aQ (show fG (L.bu s) cl=[] by
   have:L.bu s=[]:=by unfold Lk.bu;rw [if_neg fun e=>hs (.inl e),if_neg fun e=>hs (.inr e)]
   rw [this];unfold fG;split <;> rfl)
  clear h h0 e1 e2 e3 hF hS hx q5 q6;go_enter Tryz.func21,Tryz.ntmps21;go_wp2_with (go_at_call 44;refine (HE.out _).mono ?_;rintro e' w1 ⟨rfl,rfl⟩);go_ret;rw [HT.out];exact ⟨_,_,rfl,(HH.out.add (VQ _ _) (T:=JG (.slice none 0 0) []) (Sq.nil _ _ _ _ _)).front⟩
end

def awk:Lk:=qG ⟨5,[2],4,4,9⟩ ⟨7,[2],4,4,9⟩ 1 [] []
def N_:Lk:=((((((awk.step []).step []).step []).step []).step [⟨1,0,0,[97,98]⟩]).step []).step [⟨2,1,0,[]⟩]
theorem Jp:N_.r.cF=[[[97,98]]]:=by decide +kernel

theorem DX (w:World) (g s n:Nat) (us:List Value) (T:TypeId) (f:Nat × Nat) (hg:g=w.heap.size) (hs:us.length=n*s) (hn:n<=1000):Rd (w.alloc (.cells us.toArray T f)) s (.slice (some ⟨g,0,none⟩) n n) n us:=by
 subst hg;refine ⟨hs,_,_,rfl,Vu _,by unfold maxLen;omega,(fun e=>by cases e),fun b hb j u hj=>?_⟩;obtain rfl:=VM hb;refine ⟨rfl,?_⟩;have h0:(w.alloc (.cells us.toArray T f)).heap[w.heap.size]? = some (.cells us.toArray T f):=heap_alloc_new w _;simp only [World.cell?,h0,Nat.zero_add];simpa using hj
theorem zw {g n k b:Nat} (h:(Value.slice (some ⟨g,0,none⟩) n k).ownBlock=some b):g<=b:=by
 obtain rfl:g=b:=by simpa [Value.ownBlock] using h
 exact Vu _
section
variable {F Z:BS} {W w:World} {ts:List Th}
theorem dY.F8 (h:dY F Z W ts w) (x:Nat) (T:TypeId):dY F Z W (a_ dK (.slice (some ⟨w.heap.size,0,none⟩) 1 1) [x]::ts) (w.alloc (.cells #[.int .i64 (x:Int)] T)):=
 (h.mM (T:=a_ dK (.slice (some ⟨w.heap.size,0,none⟩) 1 1) [x]) (aK w _) ⟨_,DX w _ 1 1 [.int .i64 (x:Int)] T _ rfl rfl (by decide),fK.single (E:=dK) rfl,fun _ b hb=>zw hb⟩).front
theorem dY.Sm (h:dY F Z W ts w) (bs:iw) (f:Nat × Nat) (hn:bs.length<=1000):dY F Z W (dD (.slice (some ⟨w.heap.size,0,none⟩) bs.length bs.length) bs::ts) (w.alloc (.cells (cu bs).toArray 5 f)):=
 (h.mM (T:=dD (.slice (some ⟨w.heap.size,0,none⟩) bs.length bs.length) bs) (aK w _) ⟨DX w _ 1 bs.length (cu bs) _ _ rfl (by rw [di];omega) hn,fun _ b hb=>zw hb⟩).front
theorem dY.F9 (h:dY F Z W ts w) (e:iW) (j:Nat) {v:Value} (hj:ts[j]? = some (dD v e.data)):dY F Z W (ts.set j (a_ eU (.slice (some ⟨w.heap.size,0,none⟩) 1 1) [e])) (w.alloc (.cells #[.int .i64 e.kind,.int .i64 e.cS,.int .i64 e.cls,v] 42)):=
 h.grow j hj fun G Y hby hd=>by
  have hby:fE w Y v e.data:=hby;have hb:=aK w (.cells #[.int .i64 e.kind,.int .i64 e.cS,.int .i64 e.cls,v] 42);refine ⟨fun _=>False,fun k=>(Y k/\k < w.heap.size)\/w.heap.size<=k,fun _ f=>f.elim,fun _ h=>h,fun _ f=>f.elim,?_,(Fr.refl G w).alloc _⟩;refine ⟨_,DX w _ 4 1 [.int .i64 e.kind,.int .i64 e.cS,.int .i64 e.cls,v] _ _ rfl rfl (by decide),fK.single (E:=eU) ⟨v,rfl,(hby.stay (w':=w.alloc _) fun k _ hl=>hb.block k hl).mono fun k hk=>.inl hk⟩,fun _ b hb=>.inr (zw hb)⟩
end
theorem F5 (i:Int) (a:Option Addr) (n k:Nat) (w:World):Calls Vs 23 #[.int .i64 i,.slice a n k] w fun e w'=>e=.returned (qd i a n k 4 4 9)/\Below w.heap.size w w':=by
 go_enter Tryz.func23,Tryz.ntmps23;go_wp2_with fail;obtain ⟨q0,q1,q2,q3,q4⟩:=aO (heap_alloc_new w (.cells #[.int .i64 i,.slice a n k,.int .i64 4,.int .i64 4,.int .i64 9] 24));exact bodyPost_ret (v:=qd i a n k 4 4 9) (by simp [results,Tryz.results23,go_sem,q0,q1,q2,q3,q4]) rfl ⟨rfl,aK w _⟩
def qD:Nat->Lk
 |0=>awk
 |n+1=>(qD n).step []
def yS:Lk:=(qD 4).step [⟨1,0,0,[97,98]⟩]
theorem aan:((qD 4).acts [⟨1,0,0,[97,98]⟩]).1=[0]:=by decide +kernel
theorem aam:((yS.step []).acts [⟨2,1,0,[]⟩]).1=[0]:=by decide +kernel
def GR:Lk:=(yS.step []).step [⟨2,1,0,[]⟩]
theorem Pq:GR=N_:=rfl
theorem Fh:fG (GR.bu 1) 0=[[97,98]]:=by
 rw [Pq];have:N_.bu 1=N_.r.cF:=rfl;rw [this,Jp];rfl
theorem Jq:awk.Fit 200:=
 yh (a:=⟨5,[2],4,4,9⟩) (b:=⟨7,[2],4,4,9⟩) ⟨by decide,by decide,by decide,by decide,by decide,by decide,by decide,by decide,by decide,by decide,by decide⟩ ⟨by decide,by decide,by decide,by decide,by decide,by decide,by decide,by decide,by decide,by decide,by decide⟩ (by decide) (by decide) rfl rfl (by decide) (by decide)
theorem yB:qD 0=awk:=rfl
theorem yC (n:Nat):qD (n+1)=(qD n).step []:=rfl
theorem mf:∀n,(qD n).Fit (200+13000*n)
 |0=>by rw [yB];exact Jq
 |n+1=>by rw [yC];exact ((mf n).step (by omega) []).mono (by simp;omega)
theorem yA:∀n,(qD n).eG
 |0=>by rw [yB];exact ⟨kC _ _ _ _ _ _ _,kC _ _ _ _ _ _ _⟩
 |n+1=>by rw [yC];exact (yA n).step (mf n) (by omega) []
theorem Ps (w:World) (ht:lH w):Calls Vs 4 #[] w fun e w'=>e=.returned (.bool true)/\Below w.heap.size w w':=by
 have HT:=aQ ht;clear ht;have kc:=fun (w:World) (C:Array Value) (n c:Nat)=>Lib.run_convert_bytes_const (P:=Vs) w 40 5 C n c Tryz.underlying40 Tryz.underlying5
 have H0:=aQ (((dY.mO (fun _=>False) (fun _=>False) (fun _ f=>f.elim) w).add (VQ _ _) (T:=a_ dO (.slice none 0 0) []) (dh.nil _ _ _)).add (VQ _ _) (T:=a_ eU (.slice none 0 0) []) (dh.nil _ _ _));go_enter Tryz.func4,Tryz.ntmps4;go_wp2_with fail;refine (F5 5 _ _ _ _).mono ?_;rintro e w1 ⟨rfl,hb⟩;have H1:=aQ ((H0.out.F8 2 3).own hb);clear hb H0;go_wp2_with fail;refine (F5 7 _ _ _ _).mono ?_;rintro e w2 ⟨rfl,hb⟩;have H2:=aQ ((H1.out.F8 2 3).own hb);clear hb H1;go_wp2_with fail;refine (K4 ⟨5,[2],4,4,9⟩ ⟨7,[2],4,4,9⟩ ⟨by decide,by decide,by decide,by decide,by decide,by decide,by decide,by decide,by decide,by decide,by decide⟩ ⟨by decide,by decide,by decide,by decide,by decide,by decide,by decide,by decide,by decide,by decide,by decide⟩ 1 (by decide) (by decide) [] [] rfl rfl (by decide) (by decide) (some ⟨w.heap.size,0,none⟩) (some ⟨w1.heap.size,0,none⟩) 1 1 _ _ 1 0 2 2 rfl rfl rfl rfl H2.out).mono ?_;rintro e w3 ⟨p,rfl,h3⟩;have H3:=aQ (show dY (fun _=>False) (fun _=>False) w [bI p (qD 0),a_ dK (.slice (some ⟨w1.heap.size,0,none⟩) 1 1) [2],a_ dK (.slice (some ⟨w.heap.size,0,none⟩) 1 1) [2],a_ dO (.slice none 0 0) [],a_ eU (.slice none 0 0) []] w3 from h3);have H4:=aQ (H3.out.pick [0,4] [bI p (qD 0),a_ eU (.slice none 0 0) []] (by decide) rfl);clear h3 H2 H3;go_wp2_with fail;go_loopw [20] (fun i wr=>∃n:Nat,n<=4/\i=.int .i64 (n:Int)/\Hid (dY (fun _=>False) (fun _=>False) w [bI p (qD n),a_ eU (.slice none 0 0) []] wr)) (fun i _=>4 - (intOf i).toNat)
 case atStart=>exact ⟨0,by decide,rfl,H4⟩
 case round=>
  clear H4;obtain ⟨n,hn,rfl,HK⟩:=hrel;by_cases hlt:n < 4
  ·go_wp2_with fail
   refine (qJ (mf n) (by omega) [] (by decide) (by simp;omega) (by simp) (.slice none 0 0) 0 rfl HT.out HK.out).mono ?_;rintro e w4 ⟨a4,c4,rfl,h4⟩;have H4:=aQ (show dY (fun _=>False) (fun _=>False) w [bI p (qD (n+1)),a_ eU (.slice none 0 0) []] w4 from h4.tail);clear h4 HK;go_wp2_with fail;go_roundw
   case rel=>exact ⟨n+1,by omega,by go_num,H4⟩
   case measure=>simp [intOf];omega
  ·obtain rfl:n=4:=by omega
   go_wp2_with fail
   have HA:=aQ (show dY (fun _=>False) (fun _=>False) w [bI p (qD 4),a_ eU (.slice (some ⟨wr.heap.size+1,0,none⟩) 1 1) [⟨1,0,0,[97,98]⟩],a_ eU (.slice none 0 0) []] ((wr.alloc (.cells #[.int .u8 97,.int .u8 98] 5 (2,3))).alloc (.cells #[.int .i64 1,.int .i64 0,.int .i64 0,.slice (some ⟨wr.heap.size,0,none⟩) 2 2] 42)) from by
    have h:=((HK.out.Sm [97,98] (2,3) (by decide)).F9 ⟨1,0,0,[97,98]⟩ 0 rfl).pick [1,0,2] [bI p (qD 4),a_ eU (.slice (some ⟨(wr.alloc (.cells #[.int .u8 97,.int .u8 98] 5 (2,3))).heap.size,0,none⟩) 1 1) [⟨1,0,0,[97,98]⟩],a_ eU (.slice none 0 0) []] (by decide) rfl;rw [World.size_alloc] at h;exact h)
   clear HK;go_wp2_with fail;refine (qJ (mf 4) (by omega) [⟨1,0,0,[97,98]⟩] (by decide) (by decide) (by simp) _ 0 rfl HT.out HA.out).mono ?_;rintro e w4 ⟨a4,c4,rfl,h4⟩;rw [aan] at h4 ⊢;have H4:=aQ ((show dY (fun _=>False) (fun _=>False) w [ζ dK 43 (.slice a4 1 c4) [0],bI p yS,a_ eU (.slice (some ⟨wr.heap.size+1,0,none⟩) 1 1) [⟨1,0,0,[97,98]⟩],a_ eU (.slice none 0 0) []] w4 from h4).pick [1,3,0] [bI p yS,a_ eU (.slice none 0 0) [],ζ dK 43 (.slice a4 1 c4) [0]] (by decide) rfl);have NI:=aQ (show yS.Fit 100000 from ((mf 4).step (by omega) [⟨1,0,0,[97,98]⟩]).mono (by simp));have jU:=aQ (show yS.eG from (yA 4).step (mf 4) (by omega) _);rw [show [0].length=1 from rfl];clear h4 HA;go_wp2_with fail;refine (qJ NI.out (by omega) [] (by decide) (by simp) (by simp) (.slice none 0 0) 0 rfl HT.out H4.out).mono ?_;rintro e w5 ⟨a5,c5,rfl,h5⟩;have H5:=aQ (((show dY (fun _=>False) (fun _=>False) w [bI p (yS.step []),a_ eU (.slice none 0 0) [],ζ dK 43 (.slice a4 1 c4) [0]] w5 from h5.tail).add (VQ _ _) (T:=dD (.slice none 0 0) []) (fE.nil _ _)).front);have xE:=aQ (show (yS.step []).Fit 200000 from (NI.out.step (by omega) []).mono (by simp));have HS2:=aQ (jU.out.step NI.out (by omega) []);clear h5 H4;go_wp2_with fail;have H6:=aQ ((H5.out.F9 ⟨2,1,0,[]⟩ 0 rfl).pick [1,0,3] [bI p (yS.step []),a_ eU (.slice (some ⟨w5.heap.size,0,none⟩) 1 1) [⟨2,1,0,[]⟩],ζ dK 43 (.slice a4 1 c4) [0]] (by decide) rfl);clear H5;refine (qJ xE.out (by omega) [⟨2,1,0,[]⟩] (by decide) (by simp) (by simp) _ 0 rfl HT.out H6.out).mono ?_;rintro e w6 ⟨a6,c6,rfl,h6⟩;rw [aam] at h6 ⊢;have H7:=aQ ((show dY (fun _=>False) (fun _=>False) w [ζ dK 43 (.slice a6 1 c6) [0],bI p GR,a_ eU (.slice (some ⟨w5.heap.size,0,none⟩) 1 1) [⟨2,1,0,[]⟩],ζ dK 43 (.slice a4 1 c4) [0]] w6 from h6).pick [1,0,3] [bI p GR,ζ dK 43 (.slice a6 1 c6) [0],ζ dK 43 (.slice a4 1 c4) [0]] (by decide) rfl);have UA:=aQ (show GR.Fit 300000 from (xE.out.step (by omega) [⟨2,1,0,[]⟩]).mono (by simp));have Df:=aQ (show GR.eG from HS2.out.step xE.out (by omega) [⟨2,1,0,[]⟩]);rw [show [0].length=1 from rfl];clear h6 H6;go_wp2_with fail;refine (Oo UA.out Df.out (by omega) 1 0 H7.out).mono ?_;rintro e w7 ⟨a7,c7,rfl,h7⟩;rw [Fh] at h7 ⊢;obtain ⟨_,_,r1⟩:=h7.get 2 rfl;obtain ⟨_,_,r2⟩:=h7.get 3 rfl;obtain ⟨b1,o1,rfl,k1⟩:=kM (show Sq dK 43 w7 _ _ (.slice a6 1 c6) [0] from r1) (i:=0) (x:=0) rfl;obtain ⟨b2,o2,rfl,k2⟩:=kM (show Sq dK 43 w7 _ _ (.slice a4 1 c4) [0] from r2) (i:=0) (x:=0) rfl;obtain ⟨b3,o3,k3,v3,e3,m3,k4,hby⟩:=h7.aal 0 rfl (c:=0) (xs:=[97,98]) rfl;obtain ⟨rfl,rfl⟩:a7=some ⟨b3,o3,none⟩/\c7=k3:=by simpa using e3
   rw [show ([[97,98]]:List iw).length=1 from rfl];have HB:=aQ h7.below;have hstr:=LM (P:=Vs) (dst := 9) Tryz.underlying40 Tryz.underlying5 Tryz.underlying9 hby;rw [show Dw [97,98]=⟨#[97,98]⟩ by decide +kernel] at hstr;obtain ⟨va,vc,rfl⟩:=hby.slice;clear h7 hby r1 r2 e3 H7;simp only [Xp] at k1 k2 k4;rw [show ([97,98]:iw).length=2 from rfl] at hstr k4;have hse:((⟨#[97,98]⟩:ByteArray).toList == (⟨#[97,98]⟩:ByteArray).toList)=true:=by simp
   go_wp2_with fail;go_ret;exact ⟨rfl,HB.out⟩

theorem EU {w:World} {b:Nat} {u0 u1 u2 u3 u4:Value} {T:TypeId} (h:w.heap[b]? = some (.cells #[u0,u1,u2,u3,u4] T)):w.cell? ⟨b,0,none⟩=some u0/\w.cell? ⟨b,1,none⟩=some u1/\w.cell? ⟨b,2,none⟩=some u2/\w.cell? ⟨b,3,none⟩=some u3/\w.cell? ⟨b,4,none⟩=some u4:=
 ⟨aJ h rfl,aJ h rfl,aJ h rfl,aJ h rfl,aJ h rfl⟩
def V8 (i d:Int):Prop:=1<=i/\i<=1099511627775/\1<=d/\d<=1000
instance (i d:Int):Decidable (V8 i d):=by unfold V8;infer_instance
def V7 (aZ:List Int):Prop:=1<=aZ.length/\aZ.length<=4/\∀x ∈ aZ,1<=x/\x<=64
instance (l:List Int):Decidable (V7 l):=by unfold V7;infer_instance
def Nh (i:Int) (aZ:List Int) (wi ti de:Int):Prop:=V8 i de/\V7 aZ/\1<=wi/\wi<=128/\1<=ti/\ti<=1000
instance (i:Int) (l:List Int) (a b c:Int):Decidable (Nh i l a b c):=by unfold Nh;infer_instance
theorem GZ (i d:Int) (w:World):Calls Vs 54 #[.int .i64 i,.int .i64 d] w fun e w'=>e=.returned (.bool (decide (V8 i d)))/\w=w':=by
 have hc:i < 1\/(1<=i/\1099511627776<=i)\/(1<=i/\i < 1099511627776/\d < 1)\/(1<=i/\i < 1099511627776/\1<=d/\1000 < d)\/(1<=i/\i < 1099511627776/\1<=d/\d<=1000):=by omega
 rcases hc with h1|⟨h1,h2⟩|⟨h1,h2,h3⟩|⟨h1,h2,h3,h4⟩|⟨h1,h2,h3,h4⟩
 iterate 3
  focus
   have HD:=aQ (show decide (V8 i d)=false from decide_eq_false (by unfold V8;omega));go_enter Tryz.func54,Tryz.ntmps54;go_wp2_with fail;go_ret;exact ⟨by rw [HD.out];rfl,rfl⟩
 focus
  have HD:=aQ (show decide (V8 i d)=false from decide_eq_false (by unfold V8;omega));have HE:=aQ (show decide (d<=1000)=false from decide_eq_false (by omega));go_enter Tryz.func54,Tryz.ntmps54;go_wp2_with fail;go_ret;exact ⟨by rw [HD.out,HE.out];rfl,rfl⟩
 have HD:=aQ (show decide (V8 i d)=true from decide_eq_true (by unfold V8;omega));go_enter Tryz.func54,Tryz.ntmps54;go_wp2_with fail;go_ret;exact ⟨by rw [HD.out];rfl,rfl⟩
theorem Io {aZ:List Int} {ra:Option Addr} {rc:Nat} (w:World) (hl:aZ.length<=9223372036854775807) (hr:wU w ra aZ) :
  Calls Vs 55 #[.slice ra aZ.length rc] w fun e w'=>e=.returned (.bool (decide (V7 aZ)))/\w=w':=by
 by_cases hn:aZ.length < 1\/(1<=aZ.length/\4 < aZ.length)
 ·have HD:=aQ (show decide (V7 aZ)=false from decide_eq_false fun h=>by have:=h.1;have:=h.2.1;omega)
  clear hr
  rcases hn with h1|⟨h1,h2⟩
  all_goals
   go_enter Tryz.func55,Tryz.ntmps55;go_wp2_with fail;go_ret;exact ⟨by rw [HD.out];rfl,rfl⟩
 ·have n1:1<=aZ.length:=by omega
  have n4:aZ.length<=4:=by omega
  have HR:=aQ hr;clear hr hn;go_enter Tryz.func55,Tryz.ntmps55;go_wp2_with fail
  go_loop [3] (fun i=>∃k:Nat,k<=aZ.length/\i=.int .i64 (k:Int)/\Hid (∀x ∈ aZ.take k,1<=x/\x<=64)) (fun i=>aZ.length - (intOf i).toNat)
  case atStart=>exact ⟨0,Nat.zero_le _,rfl,aQ (by simp)⟩
  case round=>
   obtain ⟨k,hk,rfl,HK⟩:=hrel;by_cases hlt:k < aZ.length
   ·have hx:aZ[k]? = some (aZ.getD k 0):=bT hlt
    obtain ⟨b,o,e,hc⟩:=HR.out k _ hx;subst e;have HM:=aQ (VD hx);have HS:=aQ (show aZ.take (k+1)=aZ.take k++[aZ.getD k 0] by rw [Xr,hx];rfl);generalize aZ.getD k 0=x at *;clear hx;have hcc:x < 1\/(1<=x/\64 < x)\/(1<=x/\x<=64):=by omega
    rcases hcc with q|⟨q,q2⟩|⟨q,q2⟩
    iterate 2
     focus
      have HD:=aQ (show decide (V7 aZ)=false from decide_eq_false fun h=>by have:=h.2.2 x HM.out;omega);go_wp2_with fail;go_ret;exact ⟨by rw [HD.out];rfl,rfl⟩
    go_wp2_with fail
    go_round
    case rel=>exact ⟨k+1,by omega,by go_num,aQ (by
     rw [HS.out];intro y hy
     rcases WY.1 hy with hy|hy
     ·exact HK.out y hy
     ·obtain rfl:=Wj.1 hy;exact ⟨q,q2⟩)⟩
    case measure=>simp [intOf];omega
   ·obtain rfl:aZ.length=k:=by omega
    have HD:=aQ (show decide (V7 aZ)=true from decide_eq_true ⟨n1,n4,by have:=HK.out;rwa [Xd] at this⟩);go_wp2_with fail;go_ret;exact ⟨by rw [HD.out];rfl,rfl⟩
theorem xL {inc wi ti de:Int} {aZ:List Int} {ra:Option Addr} {rc:Nat} (w:World) (hl:aZ.length<=9223372036854775807) (hr:wU w ra aZ) :
  Calls Vs 28 #[qd inc ra aZ.length rc wi ti de] w fun e w'=>e=.returned (.bool (decide (Nh inc aZ wi ti de)))/\Below w.heap.size w w':=by
 have hrow:=heap_alloc_new w (.cells #[.int .i64 inc,.slice ra aZ.length rc,.int .i64 wi,.int .i64 ti,.int .i64 de] 36);have HR:=aQ (Io (rc:=rc) (w.alloc (.cells #[.int .i64 inc,.slice ra aZ.length rc,.int .i64 wi,.int .i64 ti,.int .i64 de] 36)) hl (hr.below (aK w _)));have HB:=aQ (aK w (.cells #[.int .i64 inc,.slice ra aZ.length rc,.int .i64 wi,.int .i64 ti,.int .i64 de] 36));clear hr;obtain ⟨c0,c1,c2,c3,c4⟩:=EU hrow;clear hrow
 have hcc:¬V8 inc de\/(V8 inc de/\¬V7 aZ)\/(V8 inc de/\V7 aZ/\wi < 1)\/(V8 inc de/\V7 aZ/\1<=wi/\128 < wi)\/(V8 inc de/\V7 aZ/\1<=wi/\wi<=128/\ti < 1)\/(V8 inc de/\V7 aZ/\1<=wi/\wi<=128/\1<=ti/\1000 < ti)\/(V8 inc de/\V7 aZ/\1<=wi/\wi<=128/\1<=ti/\ti<=1000):=by
  by_cases a:V8 inc de
  ·by_cases b:V7 aZ
   ·have:wi < 1\/(1<=wi/\128 < wi)\/(1<=wi/\wi<=128/\ti < 1)\/(1<=wi/\wi<=128/\1<=ti/\1000 < ti)\/(1<=wi/\wi<=128/\1<=ti/\ti<=1000):=by omega
    rcases this with h|h|h|h|h
    ·exact .inr (.inr (.inl ⟨a,b,h⟩))
    ·exact .inr (.inr (.inr (.inl ⟨a,b,h⟩)))
    ·exact .inr (.inr (.inr (.inr (.inl ⟨a,b,h⟩))))
    ·exact .inr (.inr (.inr (.inr (.inr (.inl ⟨a,b,h⟩)))))
    ·exact .inr (.inr (.inr (.inr (.inr (.inr ⟨a,b,h⟩)))))
   ·exact .inr (.inl ⟨a,b⟩)
  ·exact .inl a
 have PW:=aQ (GZ inc de (w.alloc (.cells #[.int .i64 inc,.slice ra aZ.length rc,.int .i64 wi,.int .i64 ti,.int .i64 de] 36)));have HD:Hid (∀(h:¬Nh inc aZ wi ti de),decide (Nh inc aZ wi ti de)=false):=aQ fun h=>decide_eq_false h
 rcases hcc with h8|⟨h8,h7⟩|⟨h8,h7,h1⟩|⟨h8,h7,h1,h2⟩|⟨h8,h7,h1,h2,h3⟩|⟨h8,h7,h1,h2,h3,h4⟩|⟨h8,h7,h1,h2,h3,h4⟩
 focus
  rw [decide_eq_false (fun (h:Nh inc aZ wi ti de)=>h8 h.1)];rw [decide_eq_false h8] at PW;clear h8 HD HR;go_enter Tryz.func28,Tryz.ntmps28;go_wp2_with (go_at_call 54;refine PW.out.mono ?_;rintro e w1 ⟨rfl,rfl⟩);go_ret;exact ⟨rfl,HB.out⟩
 focus
  rw [decide_eq_false (fun (h:Nh inc aZ wi ti de)=>h7 h.2.1)];rw [decide_eq_true h8] at PW;rw [decide_eq_false h7] at HR;clear h8 h7 HD;go_enter Tryz.func28,Tryz.ntmps28;go_wp2_with (first|(go_at_call 54;refine PW.out.mono ?_;rintro e w1 ⟨rfl,rfl⟩)|(go_at_call 55;refine HR.out.mono ?_;rintro e w1 ⟨rfl,rfl⟩));go_ret;exact ⟨rfl,HB.out⟩
 iterate 4
  focus
   rw [decide_eq_false (fun (h:Nh inc aZ wi ti de)=>by have:=h.2.2;omega)];rw [decide_eq_true h8] at PW;rw [decide_eq_true h7] at HR;have HE:Hid (1000 < ti->decide (ti<=1000)=false):=aQ fun _=>decide_eq_false (by omega)
   clear h8 h7 HD;go_enter Tryz.func28,Tryz.ntmps28;go_wp2_with (first|(go_at_call 54;refine PW.out.mono ?_;rintro e w1 ⟨rfl,rfl⟩)|(go_at_call 55;refine HR.out.mono ?_;rintro e w1 ⟨rfl,rfl⟩));go_ret
   first
    |exact ⟨rfl,HB.out⟩
    |exact ⟨by rw [HE.out h4];rfl,HB.out⟩
 rw [decide_eq_true (show Nh inc aZ wi ti de from ⟨h8,h7,h1,h2,h3,h4⟩)];rw [decide_eq_true h8] at PW;rw [decide_eq_true h7] at HR;clear h8 h7 HD;go_enter Tryz.func28,Tryz.ntmps28;go_wp2_with (first|(go_at_call 54;refine PW.out.mono ?_;rintro e w1 ⟨rfl,rfl⟩)|(go_at_call 55;refine HR.out.mono ?_;rintro e w1 ⟨rfl,rfl⟩));go_ret;exact ⟨rfl,HB.out⟩

section
open Go.RowKit Go.ChangeShapes Go.WideShapes Go.ChangeAt
structure nR where
 inc:Int
 aZ:List Int
 w:Int
 t:Int
 d:Int
structure oZ where
 a:nR
 b:nR
 cB:Int
 there:List jV
 back:List jV
def Rb:R nR:=J6 (ll (nP .i64) (ll (gZ (nP .i64)) (ll (nP .i64) (ll (nP .i64) (nP .i64))))) fun x=>⟨x.1,x.2.1,x.2.2.1,x.2.2.2.1,x.2.2.2.2⟩
def UJ:R oZ:=J6 (ll Rb (ll Rb (ll (nP .i64) (ll (gZ J7) (gZ J7))))) fun x=>⟨x.1,x.2.1,x.2.2.1,x.2.2.2.1,x.2.2.2.2⟩
theorem IJ {H:Type} {enc:TypeId × Value->H} {W:World}:jv enc Vs W 22 (gZ (nP .i64)):=
 jM Tryz.underlying22 (by kernel_rfl) (cN Tryz.underlying3 (by kernel_rfl)) (by decide)
theorem BF {H:Type} {enc:TypeId × Value->H} {W:World}:jv enc Vs W 24 Rb:=
 oN (kz Tryz.underlying24 (by kernel_rfl)
  (.cons (cN Tryz.underlying3 (by kernel_rfl)) rfl (.cons IJ rfl (.cons (cN Tryz.underlying3 (by kernel_rfl)) rfl (.cons (cN Tryz.underlying3 (by kernel_rfl)) rfl (.one (cN Tryz.underlying3 (by kernel_rfl)) rfl)))))) _
theorem Ml {H:Type} {enc:TypeId × Value->H} {W:World}:jv enc Vs W 27 UJ:=
 oN (kz Tryz.underlying27 (by kernel_rfl)
  (.cons BF rfl (.cons BF rfl (.cons (cN Tryz.underlying3 (by kernel_rfl)) rfl (.cons xZ rfl (.one xZ rfl)))))) _
abbrev JY (s:oZ) (aa:Option Addr) (ak:Nat) (ba:Option Addr) (bk:Nat) (ta:Option Addr) (tk:Nat) (ya:Option Addr) (yk:Nat):Value:=
 .agg #[.int .i64 s.a.inc,.slice aa s.a.aZ.length ak,.int .i64 s.a.w,.int .i64 s.a.t,.int .i64 s.a.d,.int .i64 s.b.inc,.slice ba s.b.aZ.length bk,.int .i64 s.b.w,.int .i64 s.b.t,.int .i64 s.b.d,
  .int .i64 s.cB,.slice ta s.there.length tk,.slice ya s.back.length yk]
def KM (W:World) (v:Value):Prop:=∃(s:oZ) (aa:Option Addr) (ak:Nat) (ba:Option Addr) (bk:Nat) (ta:Option Addr) (tk:Nat) (ya:Option Addr) (yk:Nat),v=JY s aa ak ba bk ta tk ya yk /\
 dh (oV .i64) W (Old W) (.slice aa s.a.aZ.length ak) s.a.aZ/\dh (oV .i64) W (Old W) (.slice ba s.b.aZ.length bk) s.b.aZ/\dh dO W (Old W) (.slice ta s.there.length tk) s.there/\dh dO W (Old W) (.slice ya s.back.length yk) s.back
theorem Ga {W:World} {v:Value} {l:List Int} (h:(gZ (nP .i64)).rd W [v] l):dh (oV .i64) W (Old W) v l:=y_ (r:=nP .i64) (E:=oV .i64) rfl (by decide) (fun cs a h=>show cs=[.int .i64 a] from h.1) h
theorem MC {W:World} {cs:Array Value} (h:IsR UJ W (.agg cs)):KM W (.agg cs):=by
 obtain ⟨s,⟨⟨a,b,d,th,bk⟩,⟨_,_,h1,ha,_,_,rfl,hb,c3,_,rfl,⟨rfl,_⟩,c4,c5,rfl,ht,hy⟩,rfl⟩⟩:=h;obtain ⟨⟨i1,r1,w1,t1,d1⟩,⟨_,_,rfl,⟨rfl,_⟩,e2,_,rfl,hr1,_,_,rfl,⟨rfl,_⟩,_,_,rfl,⟨rfl,_⟩,rfl,_⟩,rfl⟩:=ha;obtain ⟨⟨i2,r2,w2,t2,d2⟩,⟨_,_,rfl,⟨rfl,_⟩,e3,_,rfl,hr2,_,_,rfl,⟨rfl,_⟩,_,_,rfl,⟨rfl,_⟩,rfl,_⟩,rfl⟩:=hb;obtain ⟨aa,ak,rfl,_⟩:=id hr1;obtain ⟨ba,bk',rfl,_⟩:=id hr2;obtain ⟨ta,tk,rfl,_⟩:=id ht;obtain ⟨ya,yk,rfl,_⟩:=id hy;refine ⟨⟨⟨i1,r1,w1,t1,d1⟩,⟨i2,r2,w2,t2,d2⟩,d,th,bk⟩,aa,ak,ba,bk',ta,tk,ya,yk,?_,Ga hr1,Ga hr2,Gd ht,Gd hy⟩;congr 1;apply Array.ext';exact h1
theorem EH {H:Type} {enc:TypeId × Value->H} {W:World} {v:Value} {d:DataW H} {ps:List MemPlace} {q:Reach} {base:Nat} (hval:Value.okWide Vs W q base 27 v) (hd:DataW.Trod enc Vs W 0 (fun _=>true) true 27 v d ps):KM W v:=by
 obtain ⟨cs,rfl,_⟩:=okWide_struct Tryz.underlying27 hval;exact MC (BG Ml hd)
def Dx:R iW:=J6 (ll (nP .i64) (ll (nP .i64) (ll (nP .i64) KW))) fun a=>⟨a.1,a.2.1,a.2.2.1,a.2.2.2⟩
theorem Pe {W:World} {cs:List Value} {e:iW} (h:Dx.rd W cs e):eU.rd W (fun _=>False) (Old W) cs e:=by
 obtain ⟨⟨k,s,c,d⟩,⟨_,_,rfl,⟨rfl,_⟩,_,_,rfl,⟨rfl,_⟩,_,_,rfl,⟨rfl,_⟩,v,rfl,h3⟩,rfl⟩:=h;exact ⟨v,rfl,SG h3⟩
theorem Mm {H:Type} {enc:TypeId × Value->H} {W:World}:jv enc Vs W 42 Dx:=
 oN (kz Tryz.underlying42 (by kernel_rfl)
  (.cons (cN Tryz.underlying3 (by kernel_rfl)) rfl (.cons (cN Tryz.underlying3 (by kernel_rfl)) rfl (.cons (cN Tryz.underlying3 (by kernel_rfl)) rfl
   (.one (CS Tryz.underlying40 (by kernel_rfl) Tryz.underlying5 (by kernel_rfl)) rfl))))) _
theorem IK {H:Type} {enc:TypeId × Value->H} {W:World}:jv enc Vs W 37 (gZ Dx):=
 jM Tryz.underlying37 (by kernel_rfl) Mm (by decide)
theorem EG {H:Type} {enc:TypeId × Value->H} {W:World}:jv enc Vs W 28 (gZ (gZ Dx)):=
 jM Tryz.underlying28 (by kernel_rfl) IK (by decide)
theorem Jb {W:World} {cs:List Value} {l:List iW} (h:(gZ Dx).rd W cs l):(Gz eU).rd W (fun _=>False) (Old W) cs l:=by
 obtain ⟨a,c,rfl,_⟩:=id h;exact ⟨_,rfl,y_ rfl (by decide) (fun _ _ h=>Pe h) h⟩
theorem MN {W:World} {v:Value} {l:List (List iW)} (h:(gZ (gZ Dx)).rd W [v] l):dh (Gz eU) W (Old W) v l:=y_ rfl (by decide) (fun _ _ h=>Jb h) h
theorem zz {w:World} {Z:BS} {a:Option Addr} {n c:Nat} {l:List (List iW)} (h:dh (Gz eU) w Z (.slice a n c) l) {j:Nat} {es:List iW} (hj:l[j]? = some es) :
  ∃b off ea ec,a=some ⟨b,off,none⟩/\w.cell? ⟨b,off+j,none⟩=some (.slice ea es.length ec)/\dh eU w Z (.slice ea es.length ec) es:=by
 obtain ⟨b,off,cs,e,hb,⟨v,rfl,hv⟩,hc⟩:=h.at (by decide) hj;obtain ⟨ea,ec,rfl,_,_⟩:=hv.shape;have:=hc 0 _ rfl;rw [show off+j*(Gz eU).size+0=off+j by show off+j*1+0=_;omega] at this;exact ⟨b,off,ea,ec,e,this,hv⟩
end

def iB (fs:List jV) (i:Nat):Int:=if i=0 then -1 else match fs[i - 1]? with|some f=>f.at'|none => -1
theorem uf (w:World) (Z:BS) (v:Value) (fs:List jV) (h:dh dO w Z v fs) (hl:fs.length<=9223372036854775807) :
  Calls Vs 29 #[v] w fun e w'=>e=.returned (.bool (okF (-1) fs))/\Below w.heap.size w w':=by
 obtain ⟨a,c,rfl,hc1,hc2⟩:=h.shape;have H:=aQ h;clear h;go_enter Tryz.func29,Tryz.ntmps29;go_wp2_with fail;go_loopw [3] (fun i wr=>∃j:Nat,j<=fs.length/\i=.int .i64 j/\Hid (okF (iB fs j) (fs.drop j)=okF (-1) fs /\ -1<=iB fs j)/\Hid (Below w.heap.size w wr)) (fun i _=>fs.length - (intOf i).toNat)
 case atStart=>exact ⟨0,by omega,rfl,aQ ⟨rfl,Int.le_refl _⟩,aQ (VQ _ _)⟩
 case round=>
  obtain ⟨j,hj,rfl,HP,HB⟩:=hrel;have hz:=HB.out.size;by_cases hlt:j < fs.length
  ·obtain ⟨f,hf⟩:∃f,fs[j]? = some f:=⟨fs[j],Vw hlt⟩
   obtain ⟨b,off,rfl,c0,c1,c2,w0,w1,w2⟩:=nV (H.out.below HB.out) hf
   have hd:fs.drop j=f::fs.drop (j+1):=by
    have:=Vw hlt;rw [this] at hf;obtain rfl:=VM hf;exact List.drop_eq_getElem_cons hlt
   have hn:iB fs (j+1)=f.at':=by unfold iB;rw [if_neg (by omega),Nat.add_sub_cancel,hf]
   have bz:Hid (okF (-1) fs=(decide (iB fs j < f.at') && decide (1<=f.kind) && decide (f.kind<=3) && decide (0<=f.arg) && okF f.at' (fs.drop (j+1)))):=aQ (by rw [<-HP.out.1,hd];rfl);have HN:=aQ hn;have hpv:j=0->iB fs j = -1:=fun e=>by unfold iB;rw [if_pos e]
   have hge:=HP.out.2
   obtain ⟨g,hg⟩:∃g:jV,0 < j->fs[j - 1]? = some g/\iB fs j=g.at':=by
    by_cases h0:0 < j
    ·exact ⟨fs[j - 1],fun _=>⟨Vw (by omega),by unfold iB;rw [if_neg (by omega),Vw (by omega)]⟩⟩
    ·exact ⟨f,fun h=>absurd h h0⟩
   clear hn hd HP;have HG:=aQ hg;have HPV:=aQ hpv;clear hg hpv hf;have hcase:f.at' < 0\/(0<=f.at'/\f.kind < 1)\/(0<=f.at'/\1<=f.kind/\3 < f.kind)\/(0<=f.at'/\1<=f.kind/\f.kind<=3/\f.arg < 0)\/(0<=f.at'/\1<=f.kind/\f.kind<=3/\0<=f.arg/\j < 1)\/(0<=f.at'/\1<=f.kind/\f.kind<=3/\0<=f.arg/\0 < j/\f.at'<=g.at')\/(0<=f.at'/\1<=f.kind/\f.kind<=3/\0<=f.arg/\0 < j/\g.at' < f.at'):=by omega
   rcases hcase with q1|⟨q1,q2⟩|⟨q1,q2,q3⟩|⟨q1,q2,q3,q4⟩|⟨q1,q2,q3,q4,q5⟩|⟨q1,q2,q3,q4,q5,q6⟩|⟨q1,q2,q3,q4,q5,q6⟩
   ·skip
    have t0:decide (f.at' < 0)=true:=by simp <;> omega
    have HBAD:Hid (okF (-1) fs=false):=aQ (by
     rw [bz.out];have:¬iB fs j < f.at':=by omega
     simp [this])
    go_wp2_with fail;go_quiet (fail);go_wp2_with fail;go_ret;exact ⟨by rw [HBAD.out];rfl,HB.out.trans ((bS _ _).mono hz)⟩
   ·skip
    have t0:decide (f.at' < 0)=false:=by simp <;> omega
    have t1:decide (f.kind < 1)=true:=by simp <;> omega
    have HBAD:Hid (okF (-1) fs=false):=aQ (by
     rw [bz.out];have:¬ 1<=f.kind:=by omega
     simp [this])
    go_wp2_with fail;go_quiet (fail);go_wp2_with fail;go_ret;exact ⟨by rw [HBAD.out];rfl,HB.out.trans ((bS _ _).mono hz)⟩
   ·skip
    have t0:decide (f.at' < 0)=false:=by simp <;> omega
    have t1:decide (f.kind < 1)=false:=by simp <;> omega
    have t2:decide (3 < f.kind)=true:=by simp <;> omega
    have HBAD:Hid (okF (-1) fs=false):=aQ (by
     rw [bz.out];have:¬f.kind<=3:=by omega
     simp [this])
    go_wp2_with fail;go_quiet (fail);go_wp2_with fail;go_ret;exact ⟨by rw [HBAD.out];rfl,HB.out.trans ((bS _ _).mono hz)⟩
   ·skip
    have t0:decide (f.at' < 0)=false:=by simp <;> omega
    have t1:decide (f.kind < 1)=false:=by simp <;> omega
    have t2:decide (3 < f.kind)=false:=by simp <;> omega
    have t3:decide (f.arg < 0)=true:=by simp <;> omega
    have HBAD:Hid (okF (-1) fs=false):=aQ (by
     rw [bz.out];have:¬ 0<=f.arg:=by omega
     simp [this])
    go_wp2_with fail;go_quiet (fail);go_wp2_with fail;go_ret;exact ⟨by rw [HBAD.out];rfl,HB.out.trans ((bS _ _).mono hz)⟩
   ·have hp0:iB fs j < f.at':=by rw [HPV.out (by omega)];omega
    have Tv:=aQ hp0;clear hp0;have t0:decide (f.at' < 0)=false:=by simp <;> omega
    have t1:decide (f.kind < 1)=false:=by simp <;> omega
    have t2:decide (3 < f.kind)=false:=by simp <;> omega
    have t3:decide (f.arg < 0)=false:=by simp <;> omega
    have t4:decide (0 < (j:Int))=false:=by simp <;> omega
    have t5:decide (0 < j)=false:=by simp <;> omega
    have KO:Hid (okF (iB fs (j+1)) (fs.drop (j+1))=okF (-1) fs /\ -1<=iB fs (j+1)):=aQ (by
     rw [HN.out,bz.out];refine ⟨?_,by omega⟩;have:=Tv.out;simp [this,q2,q3,q4])
    go_wp2_with fail;go_quiet (fail);go_wp2_with fail;go_roundw
    case rel=>exact ⟨j+1,by omega,by go_num,KO,aQ (HB.out.trans ((bS _ _).mono hz))⟩
    case measure=>simp [intOf];omega
   ·obtain ⟨g1,g2⟩:=HG.out q5
    obtain ⟨b',off',e',d0,_⟩:=nV (H.out.below HB.out) g1;obtain ⟨rfl,rfl⟩:b=b'/\off=off':=by simpa using e'
    have G2:=aQ g2;have hjm:IntKind.i64.wrap ((j:Int) - 1)=((j - 1:Nat):Int):=by rw [V6 _ (by omega)];omega
    clear g1 g2 e';have t0:decide (f.at' < 0)=false:=by simp <;> omega
    have t1:decide (f.kind < 1)=false:=by simp <;> omega
    have t2:decide (3 < f.kind)=false:=by simp <;> omega
    have t3:decide (f.arg < 0)=false:=by simp <;> omega
    have t4:decide (0 < (j:Int))=true:=by simp <;> omega
    have t5:decide (0 < j)=true:=by simp <;> omega
    have t6:decide (f.at'<=g.at')=true:=by simp <;> omega
    have HBAD:Hid (okF (-1) fs=false):=aQ (by
     rw [bz.out];have:¬iB fs j < f.at':=by rw [G2.out];omega
     simp [this])
    go_wp2_with fail;go_quiet (fail);go_wp2_with fail;go_ret;exact ⟨by rw [HBAD.out];rfl,HB.out.trans ((bS _ _).mono hz)⟩
   ·obtain ⟨g1,g2⟩:=HG.out q5
    obtain ⟨b',off',e',d0,_⟩:=nV (H.out.below HB.out) g1;obtain ⟨rfl,rfl⟩:b=b'/\off=off':=by simpa using e'
    have G2:=aQ g2;have hjm:IntKind.i64.wrap ((j:Int) - 1)=((j - 1:Nat):Int):=by rw [V6 _ (by omega)];omega
    clear g1 g2 e';have t0:decide (f.at' < 0)=false:=by simp <;> omega
    have t1:decide (f.kind < 1)=false:=by simp <;> omega
    have t2:decide (3 < f.kind)=false:=by simp <;> omega
    have t3:decide (f.arg < 0)=false:=by simp <;> omega
    have t4:decide (0 < (j:Int))=true:=by simp <;> omega
    have t5:decide (0 < j)=true:=by simp <;> omega
    have t6:decide (f.at'<=g.at')=false:=by simp <;> omega
    have KO:Hid (okF (iB fs (j+1)) (fs.drop (j+1))=okF (-1) fs /\ -1<=iB fs (j+1)):=aQ (by
     rw [HN.out,bz.out];refine ⟨?_,by omega⟩;have:iB fs j < f.at':=by rw [G2.out];omega
     simp [this,q2,q3,q4])
    go_wp2_with fail;go_quiet (fail);go_wp2_with fail;go_roundw
    case rel=>exact ⟨j+1,by omega,by go_num,KO,aQ (HB.out.trans ((bS _ _).mono hz))⟩
    case measure=>simp [intOf];omega
  ·have GI:=aQ (show okF (-1) fs=true by rw [<-HP.out.1,List.drop_of_length_le (by omega)];rfl)
   clear HP;go_wp2_with fail;go_ret;exact ⟨by rw [GI.out];rfl,HB.out⟩

def nR.V (c:nR):Prop:=Nh c.inc c.aZ c.w c.t c.d
instance (c:nR):Decidable c.V:=by unfold nR.V;infer_instance
abbrev VA (s:oZ):Prop:=s.a.V
abbrev VB (s:oZ):Prop:=s.b.V
def Small (s:oZ):Prop:=VA s/\VB s/\1<=s.cB/\s.cB<=6/\3<=s.a.d/\3<=s.b.d/\s.a.t<=40/\s.b.t<=40/\okF (-1) s.there=true/\okF (-1) s.back=true/\s.there.length<=200/\s.back.length<=200
instance (s:oZ):Decidable (Small s):=by unfold Small;infer_instance
theorem aC {w:World} {p:Nat} {u0 u1 u2 u3 u4 u5 u6 u7 u8 u9 u10 u11 u12:Value} {T:TypeId} (h:w.heap[p]? = some (.cells #[u0,u1,u2,u3,u4,u5,u6,u7,u8,u9,u10,u11,u12] T)) :
  w.cell? ⟨p,0,none⟩=some u0/\w.cell? ⟨p,1,none⟩=some u1/\w.cell? ⟨p,2,none⟩=some u2/\w.cell? ⟨p,3,none⟩=some u3/\w.cell? ⟨p,4,none⟩=some u4/\w.cell? ⟨p,5,none⟩=some u5/\w.cell? ⟨p,6,none⟩=some u6/\w.cell? ⟨p,7,none⟩=some u7/\w.cell? ⟨p,8,none⟩=some u8/\w.cell? ⟨p,9,none⟩=some u9/\w.cell? ⟨p,10,none⟩=some u10/\w.cell? ⟨p,11,none⟩=some u11/\w.cell? ⟨p,12,none⟩=some u12:=
 ⟨aJ h rfl,aJ h rfl,aJ h rfl,aJ h rfl,aJ h rfl,aJ h rfl,aJ h rfl,aJ h rfl,aJ h rfl,aJ h rfl,aJ h rfl,aJ h rfl,aJ h rfl⟩
section
variable {w:World} {Z:BS} {s:oZ} {aa ba ta ya:Option Addr} {ak bk tk yk:Nat}
theorem Ox (ha:dh (oV .i64) w Z (.slice aa s.a.aZ.length ak) s.a.aZ) (hb:dh (oV .i64) w Z (.slice ba s.b.aZ.length bk) s.b.aZ) (ht:dh dO w Z (.slice ta s.there.length tk) s.there) (hy:dh dO w Z (.slice ya s.back.length yk) s.back) :
  Calls Vs 7 #[JY s aa ak ba bk ta tk ya yk] w fun e w'=>e=.returned (.bool (decide (Small s)))/\Below w.heap.size w w':=by
 have θ:=aQ (heap_alloc_new w (.cells #[.int .i64 s.a.inc,.slice aa s.a.aZ.length ak,.int .i64 s.a.w,.int .i64 s.a.t,.int .i64 s.a.d,.int .i64 s.b.inc,.slice ba s.b.aZ.length bk,.int .i64 s.b.w,.int .i64 s.b.t,.int .i64 s.b.d,.int .i64 s.cB,.slice ta s.there.length tk,.slice ya s.back.length yk] 27));have HB:=aQ (aK w (.cells #[.int .i64 s.a.inc,.slice aa s.a.aZ.length ak,.int .i64 s.a.w,.int .i64 s.a.t,.int .i64 s.a.d,.int .i64 s.b.inc,.slice ba s.b.aZ.length bk,.int .i64 s.b.w,.int .i64 s.b.t,.int .i64 s.b.d,.int .i64 s.cB,.slice ta s.there.length tk,.slice ya s.back.length yk] 27))
 have hlen:∀ {α : Type} {E:El α} {a:Option Addr} {c:Nat} {l:List α},dh E w Z (.slice a l.length c) l->l.length<=9223372036854775807:=fun h=>by
  obtain ⟨_,c,e,h1,h2⟩:=h.shape;unfold maxLen at h2;omega
 have GG:Hid (∀w',Below w.heap.size w w'->Calls Vs 28 #[qd s.a.inc aa s.a.aZ.length ak s.a.w s.a.t s.a.d] w' fun e w''=>e=.returned (.bool (decide (VA s)))/\Below w'.heap.size w' w''):=aQ fun w' h=>xL w' (hlen ha) ((F7 ha).below h)
 have JA:Hid (∀w',Below w.heap.size w w'->Calls Vs 28 #[qd s.b.inc ba s.b.aZ.length bk s.b.w s.b.t s.b.d] w' fun e w''=>e=.returned (.bool (decide (VB s)))/\Below w'.heap.size w' w''):=aQ fun w' h=>xL w' (hlen hb) ((F7 hb).below h)
 have Uj:Hid (∀w',Below w.heap.size w w'->Calls Vs 29 #[.slice ta s.there.length tk] w' fun e w''=>e=.returned (.bool (okF (-1) s.there))/\Below w'.heap.size w' w''):=aQ fun w' h=>uf w' Z _ _ (ht.below h) (hlen ht)
 have HVY:Hid (∀w',Below w.heap.size w w'->Calls Vs 29 #[.slice ya s.back.length yk] w' fun e w''=>e=.returned (.bool (okF (-1) s.back))/\Below w'.heap.size w' w''):=aQ fun w' h=>uf w' Z _ _ (hy.below h) (hlen hy)
 have ht0:=hlen ht;have hy0:=hlen hy;clear ha hb ht hy hlen;by_cases g0:VA s;rotate_left
 focus
  have HD:=aQ (show decide (Small s)=false from decide_eq_false fun h=>g0 (by obtain ⟨q0,q1,q2,q3,q4,q5,q6,q7,q8,q9,Fy,Fx⟩:=h;exact q0));have HZ0:=aQ (decide_eq_false g0);clear g0;obtain ⟨x0,x1,x2,x3,x4,x5,x6,x7,x8,x9,fJ,fI,fH⟩:=aC θ.out;go_enter Tryz.func7,Tryz.ntmps7;go_wp2_with fail;refine (GG.out _ HB.out).mono ?_;rintro e w1 ⟨rfl,hbb⟩;rw [HZ0.out];have HB1:=aQ (HB.out.trans (hbb.mono HB.out.size));have ξ:=aQ ((hbb.block _ (lt_of_block θ.out)).trans θ.out);clear hbb x0 x1 x2 x3 x4 x5 x6 x7 x8 x9 fJ fI fH;obtain ⟨x0,x1,x2,x3,x4,x5,x6,x7,x8,x9,fJ,fI,fH⟩:=aC ξ.out;go_wp2_with fail;go_ret;exact ⟨by rw [HD.out];rfl,HB1.out⟩
 by_cases g1:VB s;rotate_left
 focus
  have HD:=aQ (show decide (Small s)=false from decide_eq_false fun h=>g1 (by obtain ⟨q0,q1,q2,q3,q4,q5,q6,q7,q8,q9,Fy,Fx⟩:=h;exact q1));have HZ0:=aQ (decide_eq_true g0);have HZ1:=aQ (decide_eq_false g1);clear g0 g1;obtain ⟨x0,x1,x2,x3,x4,x5,x6,x7,x8,x9,fJ,fI,fH⟩:=aC θ.out;go_enter Tryz.func7,Tryz.ntmps7;go_wp2_with fail;refine (GG.out _ HB.out).mono ?_;rintro e w1 ⟨rfl,hbb⟩;rw [HZ0.out];have HB1:=aQ (HB.out.trans (hbb.mono HB.out.size));have ξ:=aQ ((hbb.block _ (lt_of_block θ.out)).trans θ.out);clear hbb x0 x1 x2 x3 x4 x5 x6 x7 x8 x9 fJ fI fH;obtain ⟨x0,x1,x2,x3,x4,x5,x6,x7,x8,x9,fJ,fI,fH⟩:=aC ξ.out;go_wp2_with fail;refine (JA.out _ HB1.out).mono ?_;rintro e w2 ⟨rfl,hbb⟩;rw [HZ1.out];have HB2:=aQ (HB1.out.trans (hbb.mono HB1.out.size));have ay:=aQ ((hbb.block _ (lt_of_block ξ.out)).trans ξ.out);clear hbb x0 x1 x2 x3 x4 x5 x6 x7 x8 x9 fJ fI fH;obtain ⟨x0,x1,x2,x3,x4,x5,x6,x7,x8,x9,fJ,fI,fH⟩:=aC ay.out;go_wp2_with fail;go_ret;exact ⟨by rw [HD.out];rfl,HB2.out⟩
 by_cases g2:1<=s.cB;rotate_left
 focus
  have HD:=aQ (show decide (Small s)=false from decide_eq_false fun h=>g2 (by obtain ⟨q0,q1,q2,q3,q4,q5,q6,q7,q8,q9,Fy,Fx⟩:=h;exact q2));have n2:s.cB < 1:=by omega
  have HZ0:=aQ (decide_eq_true g0);have HZ1:=aQ (decide_eq_true g1);clear g0 g1 g2;obtain ⟨x0,x1,x2,x3,x4,x5,x6,x7,x8,x9,fJ,fI,fH⟩:=aC θ.out;go_enter Tryz.func7,Tryz.ntmps7;go_wp2_with fail;refine (GG.out _ HB.out).mono ?_;rintro e w1 ⟨rfl,hbb⟩;rw [HZ0.out];have HB1:=aQ (HB.out.trans (hbb.mono HB.out.size));have ξ:=aQ ((hbb.block _ (lt_of_block θ.out)).trans θ.out);clear hbb x0 x1 x2 x3 x4 x5 x6 x7 x8 x9 fJ fI fH;obtain ⟨x0,x1,x2,x3,x4,x5,x6,x7,x8,x9,fJ,fI,fH⟩:=aC ξ.out;go_wp2_with fail;refine (JA.out _ HB1.out).mono ?_;rintro e w2 ⟨rfl,hbb⟩;rw [HZ1.out];have HB2:=aQ (HB1.out.trans (hbb.mono HB1.out.size));have ay:=aQ ((hbb.block _ (lt_of_block ξ.out)).trans ξ.out);clear hbb x0 x1 x2 x3 x4 x5 x6 x7 x8 x9 fJ fI fH;obtain ⟨x0,x1,x2,x3,x4,x5,x6,x7,x8,x9,fJ,fI,fH⟩:=aC ay.out;go_wp2_with fail;go_ret;exact ⟨by rw [HD.out];rfl,HB2.out⟩
 by_cases g3:s.cB<=6;rotate_left
 focus
  have HD:=aQ (show decide (Small s)=false from decide_eq_false fun h=>g3 (by obtain ⟨q0,q1,q2,q3,q4,q5,q6,q7,q8,q9,Fy,Fx⟩:=h;exact q3));have n3:6 < s.cB:=by omega
  have HZ0:=aQ (decide_eq_true g0);have HZ1:=aQ (decide_eq_true g1);clear g0 g1 g3;obtain ⟨x0,x1,x2,x3,x4,x5,x6,x7,x8,x9,fJ,fI,fH⟩:=aC θ.out;go_enter Tryz.func7,Tryz.ntmps7;go_wp2_with fail;refine (GG.out _ HB.out).mono ?_;rintro e w1 ⟨rfl,hbb⟩;rw [HZ0.out];have HB1:=aQ (HB.out.trans (hbb.mono HB.out.size));have ξ:=aQ ((hbb.block _ (lt_of_block θ.out)).trans θ.out);clear hbb x0 x1 x2 x3 x4 x5 x6 x7 x8 x9 fJ fI fH;obtain ⟨x0,x1,x2,x3,x4,x5,x6,x7,x8,x9,fJ,fI,fH⟩:=aC ξ.out;go_wp2_with fail;refine (JA.out _ HB1.out).mono ?_;rintro e w2 ⟨rfl,hbb⟩;rw [HZ1.out];have HB2:=aQ (HB1.out.trans (hbb.mono HB1.out.size));have ay:=aQ ((hbb.block _ (lt_of_block ξ.out)).trans ξ.out);clear hbb x0 x1 x2 x3 x4 x5 x6 x7 x8 x9 fJ fI fH;obtain ⟨x0,x1,x2,x3,x4,x5,x6,x7,x8,x9,fJ,fI,fH⟩:=aC ay.out;go_wp2_with fail;go_ret;exact ⟨by rw [HD.out];rfl,HB2.out⟩
 by_cases g4:3<=s.a.d;rotate_left
 focus
  have HD:=aQ (show decide (Small s)=false from decide_eq_false fun h=>g4 (by obtain ⟨q0,q1,q2,q3,q4,q5,q6,q7,q8,q9,Fy,Fx⟩:=h;exact q4));have n4:s.a.d < 3:=by omega
  have HZ0:=aQ (decide_eq_true g0);have HZ1:=aQ (decide_eq_true g1);clear g0 g1 g4;obtain ⟨x0,x1,x2,x3,x4,x5,x6,x7,x8,x9,fJ,fI,fH⟩:=aC θ.out;go_enter Tryz.func7,Tryz.ntmps7;go_wp2_with fail;refine (GG.out _ HB.out).mono ?_;rintro e w1 ⟨rfl,hbb⟩;rw [HZ0.out];have HB1:=aQ (HB.out.trans (hbb.mono HB.out.size));have ξ:=aQ ((hbb.block _ (lt_of_block θ.out)).trans θ.out);clear hbb x0 x1 x2 x3 x4 x5 x6 x7 x8 x9 fJ fI fH;obtain ⟨x0,x1,x2,x3,x4,x5,x6,x7,x8,x9,fJ,fI,fH⟩:=aC ξ.out;go_wp2_with fail;refine (JA.out _ HB1.out).mono ?_;rintro e w2 ⟨rfl,hbb⟩;rw [HZ1.out];have HB2:=aQ (HB1.out.trans (hbb.mono HB1.out.size));have ay:=aQ ((hbb.block _ (lt_of_block ξ.out)).trans ξ.out);clear hbb x0 x1 x2 x3 x4 x5 x6 x7 x8 x9 fJ fI fH;obtain ⟨x0,x1,x2,x3,x4,x5,x6,x7,x8,x9,fJ,fI,fH⟩:=aC ay.out;go_wp2_with fail;go_ret;exact ⟨by rw [HD.out];rfl,HB2.out⟩
 by_cases g5:3<=s.b.d;rotate_left
 focus
  have HD:=aQ (show decide (Small s)=false from decide_eq_false fun h=>g5 (by obtain ⟨q0,q1,q2,q3,q4,q5,q6,q7,q8,q9,Fy,Fx⟩:=h;exact q5));have n5:s.b.d < 3:=by omega
  have HZ0:=aQ (decide_eq_true g0);have HZ1:=aQ (decide_eq_true g1);clear g0 g1 g5;obtain ⟨x0,x1,x2,x3,x4,x5,x6,x7,x8,x9,fJ,fI,fH⟩:=aC θ.out;go_enter Tryz.func7,Tryz.ntmps7;go_wp2_with fail;refine (GG.out _ HB.out).mono ?_;rintro e w1 ⟨rfl,hbb⟩;rw [HZ0.out];have HB1:=aQ (HB.out.trans (hbb.mono HB.out.size));have ξ:=aQ ((hbb.block _ (lt_of_block θ.out)).trans θ.out);clear hbb x0 x1 x2 x3 x4 x5 x6 x7 x8 x9 fJ fI fH;obtain ⟨x0,x1,x2,x3,x4,x5,x6,x7,x8,x9,fJ,fI,fH⟩:=aC ξ.out;go_wp2_with fail;refine (JA.out _ HB1.out).mono ?_;rintro e w2 ⟨rfl,hbb⟩;rw [HZ1.out];have HB2:=aQ (HB1.out.trans (hbb.mono HB1.out.size));have ay:=aQ ((hbb.block _ (lt_of_block ξ.out)).trans ξ.out);clear hbb x0 x1 x2 x3 x4 x5 x6 x7 x8 x9 fJ fI fH;obtain ⟨x0,x1,x2,x3,x4,x5,x6,x7,x8,x9,fJ,fI,fH⟩:=aC ay.out;go_wp2_with fail;go_ret;exact ⟨by rw [HD.out];rfl,HB2.out⟩
 by_cases g6:s.a.t<=40;rotate_left
 focus
  have HD:=aQ (show decide (Small s)=false from decide_eq_false fun h=>g6 (by obtain ⟨q0,q1,q2,q3,q4,q5,q6,q7,q8,q9,Fy,Fx⟩:=h;exact q6));have n6:40 < s.a.t:=by omega
  have HZ0:=aQ (decide_eq_true g0);have HZ1:=aQ (decide_eq_true g1);clear g0 g1 g6;obtain ⟨x0,x1,x2,x3,x4,x5,x6,x7,x8,x9,fJ,fI,fH⟩:=aC θ.out;go_enter Tryz.func7,Tryz.ntmps7;go_wp2_with fail;refine (GG.out _ HB.out).mono ?_;rintro e w1 ⟨rfl,hbb⟩;rw [HZ0.out];have HB1:=aQ (HB.out.trans (hbb.mono HB.out.size));have ξ:=aQ ((hbb.block _ (lt_of_block θ.out)).trans θ.out);clear hbb x0 x1 x2 x3 x4 x5 x6 x7 x8 x9 fJ fI fH;obtain ⟨x0,x1,x2,x3,x4,x5,x6,x7,x8,x9,fJ,fI,fH⟩:=aC ξ.out;go_wp2_with fail;refine (JA.out _ HB1.out).mono ?_;rintro e w2 ⟨rfl,hbb⟩;rw [HZ1.out];have HB2:=aQ (HB1.out.trans (hbb.mono HB1.out.size));have ay:=aQ ((hbb.block _ (lt_of_block ξ.out)).trans ξ.out);clear hbb x0 x1 x2 x3 x4 x5 x6 x7 x8 x9 fJ fI fH;obtain ⟨x0,x1,x2,x3,x4,x5,x6,x7,x8,x9,fJ,fI,fH⟩:=aC ay.out;go_wp2_with fail;go_ret;exact ⟨by rw [HD.out];rfl,HB2.out⟩
 by_cases g7:s.b.t<=40;rotate_left
 focus
  have HD:=aQ (show decide (Small s)=false from decide_eq_false fun h=>g7 (by obtain ⟨q0,q1,q2,q3,q4,q5,q6,q7,q8,q9,Fy,Fx⟩:=h;exact q7));have n7:40 < s.b.t:=by omega
  have HZ0:=aQ (decide_eq_true g0);have HZ1:=aQ (decide_eq_true g1);clear g0 g1 g7;obtain ⟨x0,x1,x2,x3,x4,x5,x6,x7,x8,x9,fJ,fI,fH⟩:=aC θ.out;go_enter Tryz.func7,Tryz.ntmps7;go_wp2_with fail;refine (GG.out _ HB.out).mono ?_;rintro e w1 ⟨rfl,hbb⟩;rw [HZ0.out];have HB1:=aQ (HB.out.trans (hbb.mono HB.out.size));have ξ:=aQ ((hbb.block _ (lt_of_block θ.out)).trans θ.out);clear hbb x0 x1 x2 x3 x4 x5 x6 x7 x8 x9 fJ fI fH;obtain ⟨x0,x1,x2,x3,x4,x5,x6,x7,x8,x9,fJ,fI,fH⟩:=aC ξ.out;go_wp2_with fail;refine (JA.out _ HB1.out).mono ?_;rintro e w2 ⟨rfl,hbb⟩;rw [HZ1.out];have HB2:=aQ (HB1.out.trans (hbb.mono HB1.out.size));have ay:=aQ ((hbb.block _ (lt_of_block ξ.out)).trans ξ.out);clear hbb x0 x1 x2 x3 x4 x5 x6 x7 x8 x9 fJ fI fH;obtain ⟨x0,x1,x2,x3,x4,x5,x6,x7,x8,x9,fJ,fI,fH⟩:=aC ay.out;go_wp2_with fail;go_ret;exact ⟨by rw [HD.out];rfl,HB2.out⟩
 by_cases g8:okF (-1) s.there=true;rotate_left
 focus
  have HD:=aQ (show decide (Small s)=false from decide_eq_false fun h=>g8 (by obtain ⟨q0,q1,q2,q3,q4,q5,q6,q7,q8,q9,Fy,Fx⟩:=h;exact q8));have HZ0:=aQ (decide_eq_true g0);have HZ1:=aQ (decide_eq_true g1);have HZ2:=aQ (XH.2 g8);clear g0 g1 g8;obtain ⟨x0,x1,x2,x3,x4,x5,x6,x7,x8,x9,fJ,fI,fH⟩:=aC θ.out;go_enter Tryz.func7,Tryz.ntmps7;go_wp2_with fail;refine (GG.out _ HB.out).mono ?_;rintro e w1 ⟨rfl,hbb⟩;rw [HZ0.out];have HB1:=aQ (HB.out.trans (hbb.mono HB.out.size));have ξ:=aQ ((hbb.block _ (lt_of_block θ.out)).trans θ.out);clear hbb x0 x1 x2 x3 x4 x5 x6 x7 x8 x9 fJ fI fH;obtain ⟨x0,x1,x2,x3,x4,x5,x6,x7,x8,x9,fJ,fI,fH⟩:=aC ξ.out;go_wp2_with fail;refine (JA.out _ HB1.out).mono ?_;rintro e w2 ⟨rfl,hbb⟩;rw [HZ1.out];have HB2:=aQ (HB1.out.trans (hbb.mono HB1.out.size));have ay:=aQ ((hbb.block _ (lt_of_block ξ.out)).trans ξ.out);clear hbb x0 x1 x2 x3 x4 x5 x6 x7 x8 x9 fJ fI fH;obtain ⟨x0,x1,x2,x3,x4,x5,x6,x7,x8,x9,fJ,fI,fH⟩:=aC ay.out;go_wp2_with fail;refine (Uj.out _ HB2.out).mono ?_;rintro e w3 ⟨rfl,hbb⟩;rw [HZ2.out];have HB3:=aQ (HB2.out.trans (hbb.mono HB2.out.size));have dF:=aQ ((hbb.block _ (lt_of_block ay.out)).trans ay.out);clear hbb x0 x1 x2 x3 x4 x5 x6 x7 x8 x9 fJ fI fH;obtain ⟨x0,x1,x2,x3,x4,x5,x6,x7,x8,x9,fJ,fI,fH⟩:=aC dF.out;go_wp2_with fail;go_ret;exact ⟨by rw [HD.out];rfl,HB3.out⟩
 by_cases g9:okF (-1) s.back=true;rotate_left
 focus
  have HD:=aQ (show decide (Small s)=false from decide_eq_false fun h=>g9 (by obtain ⟨q0,q1,q2,q3,q4,q5,q6,q7,q8,q9,Fy,Fx⟩:=h;exact q9));have HZ0:=aQ (decide_eq_true g0);have HZ1:=aQ (decide_eq_true g1);have HZ2:=aQ (g8);have HZ3:=aQ (XH.2 g9);clear g0 g1 g8 g9;obtain ⟨x0,x1,x2,x3,x4,x5,x6,x7,x8,x9,fJ,fI,fH⟩:=aC θ.out;go_enter Tryz.func7,Tryz.ntmps7;go_wp2_with fail;refine (GG.out _ HB.out).mono ?_;rintro e w1 ⟨rfl,hbb⟩;rw [HZ0.out];have HB1:=aQ (HB.out.trans (hbb.mono HB.out.size));have ξ:=aQ ((hbb.block _ (lt_of_block θ.out)).trans θ.out);clear hbb x0 x1 x2 x3 x4 x5 x6 x7 x8 x9 fJ fI fH;obtain ⟨x0,x1,x2,x3,x4,x5,x6,x7,x8,x9,fJ,fI,fH⟩:=aC ξ.out;go_wp2_with fail;refine (JA.out _ HB1.out).mono ?_;rintro e w2 ⟨rfl,hbb⟩;rw [HZ1.out];have HB2:=aQ (HB1.out.trans (hbb.mono HB1.out.size));have ay:=aQ ((hbb.block _ (lt_of_block ξ.out)).trans ξ.out);clear hbb x0 x1 x2 x3 x4 x5 x6 x7 x8 x9 fJ fI fH;obtain ⟨x0,x1,x2,x3,x4,x5,x6,x7,x8,x9,fJ,fI,fH⟩:=aC ay.out;go_wp2_with fail;refine (Uj.out _ HB2.out).mono ?_;rintro e w3 ⟨rfl,hbb⟩;rw [HZ2.out];have HB3:=aQ (HB2.out.trans (hbb.mono HB2.out.size));have dF:=aQ ((hbb.block _ (lt_of_block ay.out)).trans ay.out);clear hbb x0 x1 x2 x3 x4 x5 x6 x7 x8 x9 fJ fI fH;obtain ⟨x0,x1,x2,x3,x4,x5,x6,x7,x8,x9,fJ,fI,fH⟩:=aC dF.out;go_wp2_with fail;refine (HVY.out _ HB3.out).mono ?_;rintro e w4 ⟨rfl,hbb⟩;rw [HZ3.out];have ui:=aQ (HB3.out.trans (hbb.mono HB3.out.size));have kK:=aQ ((hbb.block _ (lt_of_block dF.out)).trans dF.out);clear hbb x0 x1 x2 x3 x4 x5 x6 x7 x8 x9 fJ fI fH;obtain ⟨x0,x1,x2,x3,x4,x5,x6,x7,x8,x9,fJ,fI,fH⟩:=aC kK.out;go_wp2_with fail;go_ret;exact ⟨by rw [HD.out];rfl,ui.out⟩
 by_cases g10:s.there.length<=200;rotate_left
 focus
  have HD:=aQ (show decide (Small s)=false from decide_eq_false fun h=>g10 (by obtain ⟨q0,q1,q2,q3,q4,q5,q6,q7,q8,q9,Fy,Fx⟩:=h;exact Fy));have n10:200 < s.there.length:=by omega
  have HZ0:=aQ (decide_eq_true g0);have HZ1:=aQ (decide_eq_true g1);have HZ2:=aQ (g8);have HZ3:=aQ (g9);clear g0 g1 g8 g9 g10;obtain ⟨x0,x1,x2,x3,x4,x5,x6,x7,x8,x9,fJ,fI,fH⟩:=aC θ.out;go_enter Tryz.func7,Tryz.ntmps7;go_wp2_with fail;refine (GG.out _ HB.out).mono ?_;rintro e w1 ⟨rfl,hbb⟩;rw [HZ0.out];have HB1:=aQ (HB.out.trans (hbb.mono HB.out.size));have ξ:=aQ ((hbb.block _ (lt_of_block θ.out)).trans θ.out);clear hbb x0 x1 x2 x3 x4 x5 x6 x7 x8 x9 fJ fI fH;obtain ⟨x0,x1,x2,x3,x4,x5,x6,x7,x8,x9,fJ,fI,fH⟩:=aC ξ.out;go_wp2_with fail;refine (JA.out _ HB1.out).mono ?_;rintro e w2 ⟨rfl,hbb⟩;rw [HZ1.out];have HB2:=aQ (HB1.out.trans (hbb.mono HB1.out.size));have ay:=aQ ((hbb.block _ (lt_of_block ξ.out)).trans ξ.out);clear hbb x0 x1 x2 x3 x4 x5 x6 x7 x8 x9 fJ fI fH;obtain ⟨x0,x1,x2,x3,x4,x5,x6,x7,x8,x9,fJ,fI,fH⟩:=aC ay.out;go_wp2_with fail;refine (Uj.out _ HB2.out).mono ?_;rintro e w3 ⟨rfl,hbb⟩;rw [HZ2.out];have HB3:=aQ (HB2.out.trans (hbb.mono HB2.out.size));have dF:=aQ ((hbb.block _ (lt_of_block ay.out)).trans ay.out);clear hbb x0 x1 x2 x3 x4 x5 x6 x7 x8 x9 fJ fI fH;obtain ⟨x0,x1,x2,x3,x4,x5,x6,x7,x8,x9,fJ,fI,fH⟩:=aC dF.out;go_wp2_with fail;refine (HVY.out _ HB3.out).mono ?_;rintro e w4 ⟨rfl,hbb⟩;rw [HZ3.out];have ui:=aQ (HB3.out.trans (hbb.mono HB3.out.size));have kK:=aQ ((hbb.block _ (lt_of_block dF.out)).trans dF.out);clear hbb x0 x1 x2 x3 x4 x5 x6 x7 x8 x9 fJ fI fH;obtain ⟨x0,x1,x2,x3,x4,x5,x6,x7,x8,x9,fJ,fI,fH⟩:=aC kK.out;go_wp2_with fail;go_ret;exact ⟨by rw [HD.out];rfl,ui.out⟩
 by_cases g11:s.back.length<=200;rotate_left
 focus
  have HD:=aQ (show decide (Small s)=false from decide_eq_false fun h=>g11 (by obtain ⟨q0,q1,q2,q3,q4,q5,q6,q7,q8,q9,Fy,Fx⟩:=h;exact Fx));have n11:200 < s.back.length:=by omega
  have HZ0:=aQ (decide_eq_true g0);have HZ1:=aQ (decide_eq_true g1);have HZ2:=aQ (g8);have HZ3:=aQ (g9);clear g0 g1 g8 g9 g11;obtain ⟨x0,x1,x2,x3,x4,x5,x6,x7,x8,x9,fJ,fI,fH⟩:=aC θ.out;go_enter Tryz.func7,Tryz.ntmps7;go_wp2_with fail;refine (GG.out _ HB.out).mono ?_;rintro e w1 ⟨rfl,hbb⟩;rw [HZ0.out];have HB1:=aQ (HB.out.trans (hbb.mono HB.out.size));have ξ:=aQ ((hbb.block _ (lt_of_block θ.out)).trans θ.out);clear hbb x0 x1 x2 x3 x4 x5 x6 x7 x8 x9 fJ fI fH;obtain ⟨x0,x1,x2,x3,x4,x5,x6,x7,x8,x9,fJ,fI,fH⟩:=aC ξ.out;go_wp2_with fail;refine (JA.out _ HB1.out).mono ?_;rintro e w2 ⟨rfl,hbb⟩;rw [HZ1.out];have HB2:=aQ (HB1.out.trans (hbb.mono HB1.out.size));have ay:=aQ ((hbb.block _ (lt_of_block ξ.out)).trans ξ.out);clear hbb x0 x1 x2 x3 x4 x5 x6 x7 x8 x9 fJ fI fH;obtain ⟨x0,x1,x2,x3,x4,x5,x6,x7,x8,x9,fJ,fI,fH⟩:=aC ay.out;go_wp2_with fail;refine (Uj.out _ HB2.out).mono ?_;rintro e w3 ⟨rfl,hbb⟩;rw [HZ2.out];have HB3:=aQ (HB2.out.trans (hbb.mono HB2.out.size));have dF:=aQ ((hbb.block _ (lt_of_block ay.out)).trans ay.out);clear hbb x0 x1 x2 x3 x4 x5 x6 x7 x8 x9 fJ fI fH;obtain ⟨x0,x1,x2,x3,x4,x5,x6,x7,x8,x9,fJ,fI,fH⟩:=aC dF.out;go_wp2_with fail;refine (HVY.out _ HB3.out).mono ?_;rintro e w4 ⟨rfl,hbb⟩;rw [HZ3.out];have ui:=aQ (HB3.out.trans (hbb.mono HB3.out.size));have kK:=aQ ((hbb.block _ (lt_of_block dF.out)).trans dF.out);clear hbb x0 x1 x2 x3 x4 x5 x6 x7 x8 x9 fJ fI fH;obtain ⟨x0,x1,x2,x3,x4,x5,x6,x7,x8,x9,fJ,fI,fH⟩:=aC kK.out;go_wp2_with fail;go_ret;have hlast:decide ((s.back.length:Int)<=200)=false:=decide_eq_false (by omega);exact ⟨by rw [HD.out,hlast];rfl,ui.out⟩
 have HD:=aQ (show decide (Small s)=true from decide_eq_true ⟨g0,g1,g2,g3,g4,g5,g6,g7,g8,g9,g10,g11⟩);have HZ0:=aQ (decide_eq_true g0);have HZ1:=aQ (decide_eq_true g1);have HZ2:=aQ (g8);have HZ3:=aQ (g9);clear g0 g1 g8 g9;obtain ⟨x0,x1,x2,x3,x4,x5,x6,x7,x8,x9,fJ,fI,fH⟩:=aC θ.out;go_enter Tryz.func7,Tryz.ntmps7;go_wp2_with fail;refine (GG.out _ HB.out).mono ?_;rintro e w1 ⟨rfl,hbb⟩;rw [HZ0.out];have HB1:=aQ (HB.out.trans (hbb.mono HB.out.size));have ξ:=aQ ((hbb.block _ (lt_of_block θ.out)).trans θ.out);clear hbb x0 x1 x2 x3 x4 x5 x6 x7 x8 x9 fJ fI fH;obtain ⟨x0,x1,x2,x3,x4,x5,x6,x7,x8,x9,fJ,fI,fH⟩:=aC ξ.out;go_wp2_with fail;refine (JA.out _ HB1.out).mono ?_;rintro e w2 ⟨rfl,hbb⟩;rw [HZ1.out];have HB2:=aQ (HB1.out.trans (hbb.mono HB1.out.size));have ay:=aQ ((hbb.block _ (lt_of_block ξ.out)).trans ξ.out);clear hbb x0 x1 x2 x3 x4 x5 x6 x7 x8 x9 fJ fI fH;obtain ⟨x0,x1,x2,x3,x4,x5,x6,x7,x8,x9,fJ,fI,fH⟩:=aC ay.out;go_wp2_with fail;refine (Uj.out _ HB2.out).mono ?_;rintro e w3 ⟨rfl,hbb⟩;rw [HZ2.out];have HB3:=aQ (HB2.out.trans (hbb.mono HB2.out.size));have dF:=aQ ((hbb.block _ (lt_of_block ay.out)).trans ay.out);clear hbb x0 x1 x2 x3 x4 x5 x6 x7 x8 x9 fJ fI fH;obtain ⟨x0,x1,x2,x3,x4,x5,x6,x7,x8,x9,fJ,fI,fH⟩:=aC dF.out;go_wp2_with fail;refine (HVY.out _ HB3.out).mono ?_;rintro e w4 ⟨rfl,hbb⟩;rw [HZ3.out];have ui:=aQ (HB3.out.trans (hbb.mono HB3.out.size));have kK:=aQ ((hbb.block _ (lt_of_block dF.out)).trans dF.out);clear hbb x0 x1 x2 x3 x4 x5 x6 x7 x8 x9 fJ fI fH;obtain ⟨x0,x1,x2,x3,x4,x5,x6,x7,x8,x9,fJ,fI,fH⟩:=aC kK.out;go_wp2_with fail;go_ret;have hlast:decide ((s.back.length:Int)<=200)=true:=decide_eq_true (by omega);exact ⟨by rw [HD.out,hlast];rfl,ui.out⟩
end

theorem Ch {α : Type} {l:List α} {p : α -> Bool} {j:Nat} {o : α} (h:(l.take j).any p=false) (ho:l[j]? = some o) (hp:p o=false):(l.take (j+1)).any p=false:=by
 rw [Xr,ho,List.any_append,h];simp [hp]
theorem Lp {α : Type} {l:List α} {p : α -> Bool} {j:Nat} {o : α} (ho:l[j]? = some o) (hp:p o=true):l.any p=true:=
 Yv.2 ⟨o,VD ho,hp⟩
section
variable {w:World} {Z:BS}
theorem Sw (fn:FuncId) (hfn:fn = 27 \/ fn = 27) (p:iW->Bool) (hp:∀(e:iW) (da:Option Addr) (dc:Nat) (w':World),Calls Vs fn #[dN e da dc] w' fun r w''=>r=.returned (.bool (p e))/\Below w'.heap.size w' w'') (v:Value) (es:List iW) (h:dh eU w Z v es) :
  Calls Vs 53 #[v,.func (.func fn) #[] #[]] w fun r w'=>∃k:Int,r=.returned (.int .i64 k)/\decide (0<=k)=es.any p/\Below w.heap.size w w':=by
 obtain ⟨a,c,rfl,hc1,hc2⟩:=h.shape;have H:=aQ h;have HP:=aQ hp;clear h hp;unfold maxLen at hc2
 rcases hfn with rfl|rfl
 all_goals
  go_enter Tryz.func53,Tryz.ntmps53;go_wp2_with fail;go_loopw [8] (fun i wr=>∃j:Nat,j<=es.length/\i=.int .i64 (j:Int)/\Hid ((es.take j).any p=false)/\Hid (Below w.heap.size w wr)) (fun i _=>es.length - (intOf i).toNat)
  case atStart=>exact ⟨0,by omega,by go_num,aQ rfl,aQ (VQ _ _)⟩
  case round=>
   obtain ⟨j,hj,rfl,HA,HB⟩:=hrel;by_cases hlt:j < es.length
   ·obtain ⟨e,he⟩:∃e,es[j]? = some e:=⟨es[j],Vw hlt⟩
    obtain ⟨b,off,da,dc,rfl,_,c0,c1,c2,c3⟩:=uW (H.out.below HB.out) he;have HE:=aQ he;clear he;have HC:=aQ (HP.out e da dc wr)
    cases hpe:p e with
    |true=>
     have HX:=aQ (show es.any p=true from Lp HE.out hpe);rw [hpe] at HC;clear hpe;go_wp2_with fail;refine HC.out.mono ?_;rintro r w1 ⟨rfl,hb⟩;have HB1:=aQ (HB.out.trans (hb.mono HB.out.size));clear hb;go_wp2_with fail;go_ret;exact ⟨_,rfl,by rw [HX.out];exact decide_eq_true (by omega),HB1.out⟩
    |false=>
     have HX:=aQ (Ch HA.out HE.out hpe);rw [hpe] at HC;clear hpe;go_wp2_with fail;refine HC.out.mono ?_;rintro r w1 ⟨rfl,hb⟩;have HB1:=aQ (HB.out.trans (hb.mono HB.out.size));clear hb;go_wp2_with fail;go_roundw
     case rel=>exact ⟨j+1,by omega,by go_num,HX,HB1⟩
     case measure=>simp [intOf];omega
   ·obtain rfl:es.length=j:=by omega
    have HX:=aQ (show es.any p=false by have:=HA.out;rwa [Xd] at this);go_wp2_with fail;go_ret;exact ⟨_,rfl,by rw [HX.out];rfl,HB.out⟩
theorem SA (fn:FuncId) (hfn:fn = 27 \/ fn = 27) (p:iW->Bool) (hp:∀(e:iW) (da:Option Addr) (dc:Nat) (w':World),Calls Vs fn #[dN e da dc] w' fun r w''=>r=.returned (.bool (p e))/\Below w'.heap.size w' w'') (v:Value) (es:List iW) (h:dh eU w Z v es) :
  Calls Vs 26 #[v,.func (.func fn) #[] #[]] w fun r w'=>r=.returned (.bool (es.any p))/\Below w.heap.size w w':=by
 have HC:=aQ (Sw fn hfn p hp v es h);clear h hp;go_enter Tryz.func26,Tryz.ntmps26;go_wp2_with fail;refine HC.out.mono ?_;rintro r w1 ⟨k,rfl,hk,hb⟩;have HK:=aQ hk;have HB1:=aQ hb;clear hb hk;go_wp2_with fail;go_ret;exact ⟨by rw [<-HK.out];rfl,HB1.out⟩
theorem Sv (fn:FuncId) (hfn:fn = 25 \/ fn = 25) (p:List iW->Bool) (hp:∀(e:List iW) (da:Option Addr) (dc:Nat) (w':World),dh eU w' Z (.slice da e.length dc) e->Calls Vs fn #[.slice da e.length dc] w' fun r w''=>r=.returned (.bool (p e))/\Below w'.heap.size w' w'') (v:Value) (es:List (List iW)) (h:dh (Gz eU) w Z v es) :
  Calls Vs 52 #[v,.func (.func fn) #[] #[]] w fun r w'=>∃k:Int,r=.returned (.int .i64 k)/\decide (0<=k)=es.any p/\Below w.heap.size w w':=by
 obtain ⟨a,c,rfl,hc1,hc2⟩:=h.shape;have H:=aQ h;have HP:=aQ hp;clear h hp;unfold maxLen at hc2
 rcases hfn with rfl|rfl
 all_goals
  go_enter Tryz.func52,Tryz.ntmps52;go_wp2_with fail;go_loopw [8] (fun i wr=>∃j:Nat,j<=es.length/\i=.int .i64 (j:Int)/\Hid ((es.take j).any p=false)/\Hid (Below w.heap.size w wr)) (fun i _=>es.length - (intOf i).toNat)
  case atStart=>exact ⟨0,by omega,by go_num,aQ rfl,aQ (VQ _ _)⟩
  case round=>
   obtain ⟨j,hj,rfl,HA,HB⟩:=hrel;by_cases hlt:j < es.length
   ·obtain ⟨e,he⟩:∃e,es[j]? = some e:=⟨es[j],Vw hlt⟩
    obtain ⟨b,off,da,dc,rfl,c0,hrd⟩:=zz (H.out.below HB.out) he;have HE:=aQ he;clear he;have HC:=aQ (HP.out e da dc wr hrd);clear hrd
    cases hpe:p e with
    |true=>
     have HX:=aQ (show es.any p=true from Lp HE.out hpe);rw [hpe] at HC;clear hpe;go_wp2_with fail;refine HC.out.mono ?_;rintro r w1 ⟨rfl,hb⟩;have HB1:=aQ (HB.out.trans (hb.mono HB.out.size));clear hb;go_wp2_with fail;go_ret;exact ⟨_,rfl,by rw [HX.out];exact decide_eq_true (by omega),HB1.out⟩
    |false=>
     have HX:=aQ (Ch HA.out HE.out hpe);rw [hpe] at HC;clear hpe;go_wp2_with fail;refine HC.out.mono ?_;rintro r w1 ⟨rfl,hb⟩;have HB1:=aQ (HB.out.trans (hb.mono HB.out.size));clear hb;go_wp2_with fail;go_roundw
     case rel=>exact ⟨j+1,by omega,by go_num,HX,HB1⟩
     case measure=>simp [intOf];omega
   ·obtain rfl:es.length=j:=by omega
    have HX:=aQ (show es.any p=false by have:=HA.out;rwa [Xd] at this);go_wp2_with fail;go_ret;exact ⟨_,rfl,by rw [HX.out];rfl,HB.out⟩
theorem Sz (fn:FuncId) (hfn:fn = 25 \/ fn = 25) (p:List iW->Bool) (hp:∀(e:List iW) (da:Option Addr) (dc:Nat) (w':World),dh eU w' Z (.slice da e.length dc) e->Calls Vs fn #[.slice da e.length dc] w' fun r w''=>r=.returned (.bool (p e))/\Below w'.heap.size w' w'') (v:Value) (es:List (List iW)) (h:dh (Gz eU) w Z v es) :
  Calls Vs 24 #[v,.func (.func fn) #[] #[]] w fun r w'=>r=.returned (.bool (es.any p))/\Below w.heap.size w w':=by
 have HC:=aQ (Sv fn hfn p hp v es h);clear h hp;go_enter Tryz.func24,Tryz.ntmps24;go_wp2_with fail;refine HC.out.mono ?_;rintro r w1 ⟨k,rfl,hk,hb⟩;have HK:=aQ hk;have HB1:=aQ hb;clear hb hk;go_wp2_with fail;go_ret;exact ⟨by rw [<-HK.out];rfl,HB1.out⟩
theorem Mv (e:iW) (da:Option Addr) (dc:Nat) (w:World):Calls Vs 27 #[dN e da dc] w fun r w'=>r=.returned (.bool (decide ((100:Int) < (e.data.length:Int))))/\Below w.heap.size w w':=by
 have c3:=aJ (i:=3) (heap_alloc_new w (.cells #[.int .i64 e.kind,.int .i64 e.cS,.int .i64 e.cls,.slice da e.data.length dc] 42)) rfl;go_enter Tryz.func27,Tryz.ntmps27;go_wp2_with fail;go_ret;exact ⟨rfl,aK _ _⟩
def qH (l:List iW):Bool:=decide ((6:Int) < (l.length:Int)) || l.any fun e=>decide ((100:Int) < (e.data.length:Int))
def xG (l:List (List iW)):Bool:=decide ((60:Int) < (l.length:Int)) || l.any qH
theorem O1 (es:List iW) (da:Option Addr) (dc:Nat) (w:World) (h:dh eU w Z (.slice da es.length dc) es):Calls Vs 25 #[.slice da es.length dc] w fun r w'=>r=.returned (.bool (qH es))/\Below w.heap.size w w':=by
 have HC:=aQ (SA 27 (.inl rfl) _ (fun e da dc w=>Mv e da dc w) _ es h);clear h;by_cases h6:6 < es.length
 ·have HL:=aQ (show qH es=true by unfold qH;rw [decide_eq_true (by omega)];rfl)
  clear HC;go_enter Tryz.func25,Tryz.ntmps25;go_wp2_with fail;go_ret;exact ⟨by rw [HL.out];rfl,VQ _ _⟩
 ·go_enter Tryz.func25,Tryz.ntmps25
  go_wp2_with fail;refine HC.out.mono ?_;rintro r w1 ⟨rfl,hb⟩;have HB:=aQ hb;clear hb;go_wp2_with fail;go_ret;exact ⟨rfl,HB.out⟩
theorem Sk (l:List (List iW)) (a:Option Addr) (c:Nat) (h:dh (Gz eU) w Z (.slice a l.length c) l):Calls Vs 6 #[.slice a l.length c] w fun r w'=>r=.returned (.bool (xG l))/\Below w.heap.size w w':=by
 have HC:=aQ (Sz 25 (.inl rfl) qH (fun e da dc w h=>O1 e da dc w h) _ l h);clear h;by_cases h6:60 < l.length
 ·have HL:=aQ (show xG l=true by unfold xG;rw [decide_eq_true (by omega)];rfl)
  clear HC;go_enter Tryz.func6,Tryz.ntmps6;go_wp2_with fail;go_ret;exact ⟨by rw [HL.out];rfl,VQ _ _⟩
 ·go_enter Tryz.func6,Tryz.ntmps6
  go_wp2_with fail;refine HC.out.mono ?_;rintro r w1 ⟨rfl,hb⟩;have HB:=aQ hb;clear hb;go_wp2_with fail;go_ret;exact ⟨rfl,HB.out⟩
end

def nR.cfg (c:nR):wP:=⟨c.inc.toNat,c.aZ.map YQ,c.w.toNat,c.t.toNat,c.d.toNat⟩
def oZ.lk (s:oZ):Lk:=qG s.a.cfg s.b.cfg s.cB.toNat s.there s.back
theorem nR.V.ok {c:nR} (h:c.V):c.cfg.Ok:=by
 obtain ⟨⟨h1,h2,h3,h4⟩,⟨h5,h6,h7⟩,h8,h9,h10,h11⟩:=h;refine ⟨by show 1<=(c.aZ.map YQ).length;rw [VL];exact h5,by show (c.aZ.map YQ).length<=4;rw [VL];exact h6,fun x hx=>?_,by show 1<=c.inc.toNat;omega,by show c.inc.toNat<=_;omega,by show 1<=c.w.toNat;omega,by show c.w.toNat<=_;omega,by show 1<=c.t.toNat;omega,by show c.t.toNat<=_;omega,by show 1<=c.d.toNat;omega,by show c.d.toNat<=_;omega⟩;obtain ⟨y,hy,rfl⟩:=List.mem_map.1 hx;have:=h7 y hy;omega
theorem nR.V.nums {c:nR} (h:c.V):(c.cfg.inc:Int)=c.inc/\(c.cfg.w:Int)=c.w/\(c.cfg.t:Int)=c.t/\(c.cfg.d:Int)=c.d/\c.cfg.aZ.length=c.aZ.length/\(c.cfg.aZ.map fun (x:Nat)=>(x:Int))=c.aZ:=by
 obtain ⟨⟨h1,h2,h3,h4⟩,⟨h5,h6,h7⟩,h8,h9,h10,h11⟩:=h;refine ⟨by show ((c.inc.toNat:Nat):Int)=_;omega,by show ((c.w.toNat:Nat):Int)=_;omega,by show ((c.t.toNat:Nat):Int)=_;omega,by show ((c.d.toNat:Nat):Int)=_;omega,VL ..,?_⟩;show ((c.aZ.map YQ).map fun (x:Nat)=>(x:Int))=c.aZ;rw [List.map_map];refine (List.map_congr_left fun x hx=>?_).trans (List.map_id _);have:=h7 x hx;show ((x.toNat:Nat):Int)=x;omega
theorem Small.full {s:oZ} (h:Small s):s.lk.Fit 200:=by
 obtain ⟨h1,h2,h3,h4,h5,h6,h7,h8,h9,h10,h11,h12⟩:=h;exact yh h1.ok h2.ok (by omega) (by omega) h9 h10 (by omega) (by omega)
theorem oZ.Mw (s:oZ):s.lk.eG:=⟨kC _ _ _ _ _ _ _,kC _ _ _ _ _ _ _⟩
section
variable {Z:BS} {W w:World} {ts:List Th} {j:Nat} {s:oZ} {aa ba ta ya:Option Addr} {ak bk tk yk:Nat}
structure xI (ts:List Th) (j:Nat) (s:oZ) (aa:Option Addr) (ak:Nat) (ba:Option Addr) (bk:Nat) (ta:Option Addr) (tk:Nat) (ya:Option Addr) (yk:Nat):Prop where
 a:ts[j]? = some (a_ (oV .i64) (.slice aa s.a.aZ.length ak) s.a.aZ)
 b:ts[j+1]? = some (a_ (oV .i64) (.slice ba s.b.aZ.length bk) s.b.aZ)
 t:ts[j+2]? = some (a_ dO (.slice ta s.there.length tk) s.there)
 y:ts[j+3]? = some (a_ dO (.slice ya s.back.length yk) s.back)
theorem xI.small (q:xI ts j s aa ak ba bk ta tk ya yk) (h:dY (fun _=>False) Z W ts w):Calls Vs 7 #[JY s aa ak ba bk ta tk ya yk] w fun e w'=>e=.returned (.bool (decide (Small s)))/\Below w.heap.size w w':=by
 obtain ⟨_,_,h1⟩:=h.get _ q.a;obtain ⟨_,_,h2⟩:=h.get _ q.b;obtain ⟨_,_,h3⟩:=h.get _ q.t;obtain ⟨_,_,h4⟩:=h.get _ q.y;exact Ox (Z:=fun _=>True) (dh.mono (show dh _ _ _ _ _ from h1) fun _ _=>trivial) (dh.mono (show dh _ _ _ _ _ from h2) fun _ _=>trivial) (dh.mono (show dh _ _ _ _ _ from h3) fun _ _=>trivial) (dh.mono (show dh _ _ _ _ _ from h4) fun _ _=>trivial)
theorem R5 (j:Nat) (q:xI ts j s aa ak ba bk ta tk ya yk) (hs:¬Small s) (h:dY (fun _=>False) Z W ts w) :
  Calls Vs 5 #[JY s aa ak ba bk ta tk ya yk] w fun e w'=>e=.returned (.pointer none)/\Below w.heap.size w w':=by
 have hb0:=aK w (.cells #[.int .i64 s.a.inc,.slice aa s.a.aZ.length ak,.int .i64 s.a.w,.int .i64 s.a.t,.int .i64 s.a.d,.int .i64 s.b.inc,.slice ba s.b.aZ.length bk,.int .i64 s.b.w,.int .i64 s.b.t,.int .i64 s.b.d,.int .i64 s.cB,.slice ta s.there.length tk,.slice ya s.back.length yk] 27);have HC:=aQ (q.small (h.own hb0));rw [decide_eq_false hs] at HC;have HB:=aQ hb0;obtain ⟨x0,x1,x2,x3,x4,x5,x6,x7,x8,x9,fJ,fI,fH⟩:=aC (heap_alloc_new w (.cells #[.int .i64 s.a.inc,.slice aa s.a.aZ.length ak,.int .i64 s.a.w,.int .i64 s.a.t,.int .i64 s.a.d,.int .i64 s.b.inc,.slice ba s.b.aZ.length bk,.int .i64 s.b.w,.int .i64 s.b.t,.int .i64 s.b.d,.int .i64 s.cB,.slice ta s.there.length tk,.slice ya s.back.length yk] 27));clear h q hs hb0;go_enter Tryz.func5,Tryz.ntmps5;go_wp2_with fail;refine HC.out.mono ?_;rintro e w1 ⟨rfl,hb⟩;have HB1:=aQ (HB.out.trans (hb.mono HB.out.size));clear hb;go_wp2_with fail;go_ret;exact ⟨rfl,HB1.out⟩
theorem OA (j:Nat) (q:xI ts j s aa ak ba bk ta tk ya yk) (hs:Small s) (h:dY (fun _=>False) Z W ts w) :
  Calls Vs 5 #[JY s aa ak ba bk ta tk ya yk] w fun e w'=>∃p,e=.returned (.pointer (some ⟨p,0,none⟩))/\dY (fun _=>False) Z W (bI p s.lk::ts) w':=by
 have hb0:=aK w (.cells #[.int .i64 s.a.inc,.slice aa s.a.aZ.length ak,.int .i64 s.a.w,.int .i64 s.a.t,.int .i64 s.a.d,.int .i64 s.b.inc,.slice ba s.b.aZ.length bk,.int .i64 s.b.w,.int .i64 s.b.t,.int .i64 s.b.d,.int .i64 s.cB,.slice ta s.there.length tk,.slice ya s.back.length yk] 27);have hrow:=heap_alloc_new w (.cells #[.int .i64 s.a.inc,.slice aa s.a.aZ.length ak,.int .i64 s.a.w,.int .i64 s.a.t,.int .i64 s.a.d,.int .i64 s.b.inc,.slice ba s.b.aZ.length bk,.int .i64 s.b.w,.int .i64 s.b.t,.int .i64 s.b.d,.int .i64 s.cB,.slice ta s.there.length tk,.slice ya s.back.length yk] 27);have HC:=aQ (q.small (h.own hb0));rw [decide_eq_true hs] at HC;have θ:=aQ hrow;have H0:=aQ (h.own hb0);obtain ⟨x0,x1,x2,x3,x4,x5,x6,x7,x8,x9,fJ,fI,fH⟩:=aC hrow
 have HN:Hid (∀w',dY (fun _=>False) Z W ts w'->Calls Vs 22 #[qd s.a.inc aa s.a.aZ.length ak s.a.w s.a.t s.a.d,qd s.b.inc ba s.b.aZ.length bk s.b.w s.b.t s.b.d,.int .i64 s.cB,.slice ta s.there.length tk,.slice ya s.back.length yk] w' fun e w''=>∃p,e=.returned (.tuple #[.pointer (some ⟨p,0,none⟩),.int .i64 0])/\dY (fun _=>False) Z W (bI p s.lk::ts) w''):=aQ fun w' h'=>by
  obtain ⟨h1,h2,h3,h4,h5,h6,h7,h8,h9,h10,h11,h12⟩:=hs;obtain ⟨a1,a2,a3,a4,a5,a6⟩:=h1.nums;obtain ⟨b1,b2,b3,b4,b5,b6⟩:=h2.nums;have hd:((s.cB.toNat:Nat):Int)=s.cB:=by omega
  have k1:=h'.weak (T:=a_ dK (.slice aa s.a.aZ.length ak) s.a.cfg.aZ) j q.a fun G Y hon=>uE (by rw [a6];exact hon)
  have k2:=k1.front.weak (T:=a_ dK (.slice ba s.b.aZ.length bk) s.b.cfg.aZ) (j+2) (by have:=q.b;exact this) fun G Y hon=>uE (by rw [b6];exact hon)
  have:=K4 (ts:=a_ dK (.slice ba s.b.aZ.length bk) s.b.cfg.aZ::a_ dK (.slice aa s.a.aZ.length ak) s.a.cfg.aZ::ts) s.a.cfg s.b.cfg h1.ok h2.ok s.cB.toNat (by omega) (by omega) s.there s.back h9 h10 (by omega) (by omega) aa ba ak bk (.slice ta s.there.length tk) (.slice ya s.back.length yk) 1 0 (j+4) (j+5) (by rw [a5];rfl) (by rw [b5];rfl) q.t q.y k2.front;rw [a1,a2,a3,a4,a5,b1,b2,b3,b4,b5,hd] at this;refine this.mono fun e w'' ⟨p,he,hh⟩=>⟨p,he,?_⟩
  exact dY.τ (us:=[bI p s.lk,a_ dK (.slice ba s.b.aZ.length bk) s.b.cfg.aZ,a_ dK (.slice aa s.a.aZ.length ak) s.a.cfg.aZ]) (vs:=[bI p s.lk]) hh [0] (by decide) rfl
 clear h q hs hb0 hrow;go_enter Tryz.func5,Tryz.ntmps5;go_wp2_with fail;refine HC.out.mono ?_;rintro e w1 ⟨rfl,hb⟩;have H1:=aQ (H0.out.own hb);obtain ⟨y0,y1,y2,y3,y4,y5,y6,y7,y8,y9,y10,y11,y12⟩:=aC ((hb.block _ (lt_of_block θ.out)).trans θ.out);clear hb x0 x1 x2 x3 x4 x5 x6 x7 x8 x9 fJ fI fH;go_wp2_with fail;refine (HN.out _ H1.out).mono ?_;rintro e w2 ⟨p,rfl,h2⟩;have H2:=aQ h2;clear h2;go_wp2_with fail;go_ret;exact ⟨p,rfl,H2.out⟩
end

def Lk.runs (L:Lk) (el:List (List iW)):Lk:=el.foldl Lk.step L
theorem Lk.H_ (L:Lk) (el:List (List iW)) (es:List iW):L.runs (el++[es])=(L.runs el).step es:=by unfold Lk.runs;rw [List.foldl_append];rfl
theorem Lk.Hz (L:Lk) {el:List (List iW)} {k:Nat} {es:List iW} (h:el[k]? = some es):L.runs (el.take (k+1))=(L.runs (el.take k)).step es:=by
 rw [Xr,h];exact L.H_ _ _
structure aa5 (el:List (List iW)):Prop where
 n:el.length<=60
 e:∀es ∈ el,es.length<=6
 d:∀es ∈ el,∀e ∈ es,e.data.length<=100
theorem O8 {el:List (List iW)} (h:xG el=false):aa5 el:=by
 unfold xG at h;rw [X7] at h;have h1:=of_decide_eq_false h.1
 have h2:∀es ∈ el,qH es=false:=fun es hes=>by
  cases hl:qH es with
  |false=>rfl
  |true=>exact absurd (Yv.2 ⟨es,hes,hl⟩) (by rw [h.2];decide)
 refine ⟨by omega,fun es hes=>?_,fun es hes e he=>?_⟩
 ·have:=h2 es hes
  unfold qH at this;rw [X7] at this;have:=of_decide_eq_false this.1;omega
 ·have:=h2 es hes
  unfold qH at this;rw [X7] at this;by_cases hx:e.data.length<=100
  ·exact hx
  ·have hy:(es.any fun e=>decide ((100:Int) < (e.data.length:Int)))=true:=Yv.2 ⟨e,he,decide_eq_true (by omega)⟩
   rw [this.2] at hy
   cases hy
theorem vB:∀(el:List (List iW)) {L:Lk} {N:Nat},L.Fit N->200<=N->(∀es ∈ el,es.length<=6)->(L.runs el).Fit (N+13400*el.length)
 |[],_,_,h,_,_=>h.mono (by simp)
 |es::el,L,N,h,hN,hl=>by
  have h1:=hl es WG;have:=vB el ((h.step hN es).mono (show _<=N+13400 by omega)) (by omega) fun x hx=>hl x (List.mem_cons_of_mem _ hx)
  exact this.mono (by rw [List.length_cons];omega)
theorem vW:∀(el:List (List iW)) {L:Lk} {N:Nat},L.eG->L.Fit N->200<=N->(L.runs el).eG
 |[],_,_,s,_,_=>s
 |es::el,_,_,s,h,hN=>vW el (s.step h hN es) (h.step hN es) (by omega)

abbrev Q8 (s:oZ) (aa:Option Addr) (ak:Nat) (ba:Option Addr) (bk:Nat) (ta:Option Addr) (tk:Nat) (ya:Option Addr) (yk:Nat):Obj:=
 .cells #[.int .i64 s.a.inc,.slice aa s.a.aZ.length ak,.int .i64 s.a.w,.int .i64 s.a.t,.int .i64 s.a.d,.int .i64 s.b.inc,.slice ba s.b.aZ.length bk,.int .i64 s.b.w,.int .i64 s.b.t,.int .i64 s.b.d,
  .int .i64 s.cB,.slice ta s.there.length tk,.slice ya s.back.length yk] 27
section
variable {Z:BS} {W w:World} {ts:List Th} {p:Nat} {L:Lk}
theorem KX {cs:Array Value} {v u:EV} (e1:gM cs 0 L.l v) (e2:gM cs 7 L.r u) (h0:dY (fun _=>False) Z W (dJ p (bG cs)::(bY L.l v++(bY L.r u++ts))) w) (s:Int) (hs:s=0\/s=1) :
  Calls Vs 12 #[.pointer (some ⟨p,0,none⟩),.int .i64 s] w fun e w'=>e=.returned (.pointer (some ⟨if s=0 then v.pp else u.pp,0,none⟩))/\w=w':=by
 obtain ⟨c0,_⟩:=dL e1 (h0.blk 0 rfl);obtain ⟨d0,_⟩:=dR e2 (h0.blk 0 rfl);have HX:=aQ (show decide (s=0\/s=1)=true by simpa using hs);clear h0 e1 e2
 rcases hs with rfl|rfl
 all_goals
  go_enter Tryz.func12,Tryz.ntmps12;go_wp2_with (go_at_call 44;refine (iP _ _).mono ?_;rw [HX.out];rintro e' w1 ⟨rfl,rfl⟩);go_ret;exact ⟨rfl,rfl⟩
end

end Go.Proofs.YtjnbanjjoomecaaGreatDoor
