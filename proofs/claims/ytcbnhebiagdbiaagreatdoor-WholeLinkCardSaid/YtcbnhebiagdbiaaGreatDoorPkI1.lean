/- Lemmas of this proof (texts LnkW LnkX LnkY LnkT LnkZ LsA LsB CabV LsC LsD LsE LsF LsH). -/
import Derived.Test.YtcbnhebiagdbiaaGreatDoorPkC1
import Derived.Test.YtcbnhebiagdbiaaGreatDoorPkH2
import Derived.Test.YtcbnhebiagdbiaaGreatDoorPkH1
import Derived.Lib.SlBytesConst
import Derived.Test.YtcbnhebiagdbiaaGreatDoorPkA1
import Derived.Test.YtcbnhebiagdbiaaGreatDoorPkE1
namespace Go.Proofs.YtcbnhebiagdbiaaGreatDoor
set_option maxHeartbeats 64000000
set_option maxRecDepth 100000
section
open Go.RowKit
theorem wpList_app_ow {w w1 w2:World} {ops:Array Oper} {rest:List Oper} {o:Oper} {ac:Act} {Q:Exit->Act->World->Prop} {a:Option Addr} {c:Nat} {xs:List Byt} {e:Byt} {v:Value}
  (hg:o.guard=none) (s x:Operand) (hop:o.op=Op.call { callee:=Callee.builtin Builtin.append,args := #[s,x],argTypes := #[40,40] })
  (h:dY (fun _=>False) (fun _=>False) w [tBB (.slice a xs.length c) xs] w1) (hb:Below w1.heap.size w1 w2) (hl:xs.length<=1000000000) (hv:Nb w2 w1.heap.size v e) (hs:ac.eval s=.slice a xs.length c) (vb:Nat) (hx:ac.eval x=.slice (some ⟨vb,0,none⟩) 1 1) (hrow:Rd w2 1 (.slice (some ⟨vb,0,none⟩) 1 1) 1 [v])
  (hK:∀a' c' w3,dY (fun _=>False) (fun _=>False) w [tBB (.slice a' (xs++[e]).length c') (xs++[e])] w3->wpList Tryz.prog ops Q rest (ac.put o.dst (.slice a' (xs.length+1) c')) w3):wpList Tryz.prog ops Q (o::rest) ac w2:=by
 obtain ⟨va,vc,rfl⟩:=hv.slice
 obtain ⟨K,us,hsl,hKn,hback⟩:=h.app 0 rfl
 refine cQ slBB hg s x hop K (.slice a xs.length c) xs.length us hs (Sl.keep hsl fun k _ hl=>hb.block k hl) _ 1 [.slice va e.length vc] hx hrow (by intro u hu;obtain rfl:=List.mem_singleton.1 hu;rfl) (by unfold maxLen;omega) (by omega) ?_
 intro v' w' hs2 hf2
 obtain ⟨g2,off2,cap2,rfl,_⟩:=Sl.head hs2 (by omega)
 refine hK _ _ _ ?_
 have:=hback w2 w' [.slice va e.length vc] [e] _ hb hs2 hf2 fun Y _=>⟨fun k=>w1.heap.size<=k,fun _=>False,fun _ h=>h,fun _ f=>f.elim,fun _ _ f=>f,Els.single (E:=eSq eU8 5) ⟨_,rfl,hv.sq⟩⟩
 rw [List.length_append]
 exact this
def ClsAt (w:World) (v:Value) (xss:List (List Byt)) (cl:Int):Prop:=
 ∃a n c,v=.slice a n c/\n=xss.length/\∀(m:Nat),cl=(m:Int)->m < n->∃b o ia ic,a=some ⟨b,o,none⟩/\n<=c/\w.cell? ⟨b,o+m,none⟩=some (.slice ia (xss.getD m []).length ic)/\(xss.getD m []).length<=ic /\
  ∀(k:Nat) (d:Byt),(xss.getD m [])[k]? = some d->∃b' o' dv,ia=some ⟨b',o',none⟩/\w.cell? ⟨b',o'+k,none⟩=some dv/\By w dv d
def clsOf (xss:List (List Byt)) (cl:Int):List Byt:=if 0<=cl then xss.getD cl.toNat [] else []
theorem copies_any (v:Value) (xss:List (List Byt)) (cl:Int) (w:World) (_:xss.length<=1000) (hl:∀l ∈ xss,l.length<=1000000000) (hd:∀l ∈ xss,∀d ∈ l,d.length<=1000000) (h:ClsAt w v xss cl) :
  Calls Tryz.prog 47 #[v,.int .i64 cl] w fun e w'=>∃a c,e=.returned (.slice a (clsOf xss cl).length c)/\dY (fun _=>False) (fun _=>False) w [tBB (.slice a (clsOf xss cl).length c) (clsOf xss cl)] w':=by
 obtain ⟨a,n,c,rfl,rfl,hat⟩:=h
 have H0:=aQ (((dY.start0 (fun _=>False) (fun _=>False) (fun _ f=>f.elim) w).add (Below.refl _ _) (T:=tBB (.slice none 0 0) []) (Sq.nil _ _ _ _ _)))
 by_cases h0:cl < 0
 ·have HC:=aQ (show clsOf xss cl=[] by unfold clsOf;rw [if_neg (by omega)])
  clear hat hl hd
  go_enter Tryz.func47,Tryz.ntmps47
  go_wp2_with fail
  go_ret
  rw [HC.out]
  exact ⟨_,_,rfl,H0.out⟩
 ·obtain ⟨m,rfl⟩:∃m:Nat,cl=(m:Int):=⟨cl.toNat,by omega⟩
  have hcl:clsOf xss (m:Int)=xss.getD m []:=by unfold clsOf;rw [if_pos (by omega)];simp
  by_cases h1:xss.length<=m
  ·have HC:=aQ (show clsOf xss (m:Int)=[] by rw [hcl,List.getD_eq_getElem?_getD,List.getElem?_eq_none h1];rfl)
   clear hat hl hd hcl
   go_enter Tryz.func47,Tryz.ntmps47
   go_wp2_with fail
   go_ret
   rw [HC.out]
   exact ⟨_,_,rfl,H0.out⟩
  ·obtain ⟨b,o,ia,ic,rfl,k0,k1,k2,k3⟩:=hat m rfl (by omega)
   have hmem:xss.getD m [] ∈ xss:=by rw [List.getD_eq_getElem?_getD,List.getElem?_eq_getElem (by omega)];exact List.getElem_mem _
   have hl2:=hl _ hmem
   have HD:=aQ (hd _ hmem)
   have hm:m < xss.length:=by omega
   rw [hcl]
   clear hat hl hd hcl hmem
   generalize xss.getD m []=xs at *
   generalize xss.length=n at *
   have HAT:=aQ k3
   clear k3
   go_enter Tryz.func47,Tryz.ntmps47
   go_wp2_with fail
   go_loopw [5,21] (fun u i wr=>∃k:Nat,k<=xs.length/\i=.int .i64 (k:Int)/\∃(a:Option Addr) (c:Nat),u=.slice a (xs.take k).length c/\Hid (dY (fun _=>False) (fun _=>False) w [tBB (.slice a (xs.take k).length c) (xs.take k)] wr)) (fun _ i _=>xs.length - (intOf i).toNat)
   case atStart=>exact ⟨0,by omega,by go_num,_,_,rfl,H0⟩
   case round=>
    clear H0
    obtain ⟨k,hk,rfl,a,c,rfl,HH⟩:=hrel
    have htl:(xs.take k).length=k:=by rw [List.length_take];omega
    by_cases hlt:k < xs.length
    ·have hx:xs[k]? = some xs[k]:=List.getElem?_eq_getElem hlt
     obtain ⟨b',o',dv,rfl,hc,hby⟩:=HAT.out k _ hx
     have HSN:=aQ (show xs.take (k+1)=xs.take k++[xs[k]] from List.take_succ_eq_append_getElem hlt)
     have hdl:=HD.out xs[k] (List.getElem_mem hlt)
     generalize xs[k]=d at *
     have hB:=HH.out.below
     have hc2:=cell_later hB hc
     have HBY:=aQ (By.below hby hB)
     obtain ⟨da,dc,rfl⟩:=hby.slice
     generalize hy:xs.take k=ys at *
     have HY:=aQ hy
     have HYL:=aQ htl
     have hyl:ys.length<=1000000000:=by omega
     clear hy htl hc hby hB hx
     go_wp2_with fail
     refine (cV _ d wr HBY.out (by omega)).mono ?_
     rintro e w3 ⟨v3,rfl,h3,hb3⟩
     obtain ⟨va,vc,rfl⟩:=ow_shape h3
     have H3:=aQ (Nb.of_ow h3)
     have HB3:=aQ hb3
     clear h3 hb3
     have HA:=aQ (H3.out.below (aK w3 (.cells #[.slice va d.length vc] 42)))
     have HBB:=aQ (HB3.out.trans ((aK w3 (.cells #[.slice va d.length vc] 42)).mono HB3.out.size))
     have HRD:=aQ (rd_one w3 w3.heap.size (.slice va d.length vc) 42 rfl)
     go_wp2_with (at_builtin;refine wpList_app_ow rfl _ _ rfl HH.out HBB.out hyl HA.out rfl w3.heap.size rfl HRD.out ?_;intro a' c' w5 h;have H5:=aQ h;clear h)
     go_roundw
     case rel=>exact ⟨k+1,by omega,by go_num,a',c',by rw [HSN.out,List.length_append];rfl,by rw [HSN.out];exact H5⟩
     case measure=>simp [intOf];omega
    ·have hkl:xs.take k=xs:=List.take_of_length_le (by omega)
     rw [hkl] at HH ⊢
     clear hkl htl HD HAT
     go_wp2_with fail
     go_ret
     exact ⟨_,_,rfl,HH.out⟩
end

section
def Lnd.Short (x:Lnd):Prop:=(∀l ∈ x.aV,∀d ∈ l,d.length<=1000)/\∀l ∈ x.cF,∀d ∈ l,d.length<=1000
def Lk.Short (L:Lk):Prop:=L.l.Short/\L.r.Short
theorem short_snoc {l:List (List dV)} (h:∀l' ∈ l,∀d ∈ l',d.length<=1000) {d:dV} (hd:d.length<=1000) (c:Nat):∀l' ∈ l.set c (l.getD c []++[d]),∀e ∈ l',e.length<=1000:=
 mem_set (P:=fun l':List dV=>∀e ∈ l',e.length<=1000) h fun e he=>by
  rcases List.mem_append.1 he with he|he
  ·exact bM (P:=fun l':List dV=>∀e ∈ l',e.length<=1000) h (d:=[]) (by simp) c e he
  ·obtain rfl:=List.mem_singleton.1 he;exact hd
theorem Lnd.Short.act {x:Lnd} {N:Nat} (h:x.Short) (ok:x.prt.Ok N) (e:Evt):(x.act e).2.Short:=by
 unfold Lnd.act
 split
 ·unfold Lnd.dQ
  split
  ·rename_i h0
   refine ⟨short_snoc h.1 ?_ _,h.2⟩
   unfold Prt.dQ at h0
   split at h0
   ·exact absurd h0 (by show ¬(2:Nat)=0;omega)
   ·rename_i h1
    have:¬ 64 < e.data.length:=fun q=>h1 (.inr q)
    omega
  ·exact h
 ·split
  ·unfold Lnd.take
   cases hp:x.prt.peek e.cls with
   |none=>
    have:x.prt.take e.cls=(none,x.prt):=by unfold Prt.take;rw [hp]
    rw [this]
    exact h
   |some d=>
    have hd:d.length<=1000:=by
     unfold Prt.peek at hp
     split at hp
     ·have:=bM (P:=fun l':List dV=>∀e ∈ l',e.length<=1000) ok.bsz (d:=[]) (by simp) e.cls.toNat
      generalize x.prt.aY.getD e.cls.toNat []=l at *
      cases l with
      |nil=>cases hp
      |cons y l=>injection hp with hp;subst hp;exact this _ List.mem_cons_self
     ·cases hp
    have ht:∃q,x.prt.take e.cls=(Option.some d,q):=by unfold Prt.take;rw [hp];exact ⟨_,rfl⟩
    obtain ⟨q,ht⟩:=ht
    rw [ht]
    exact ⟨h.1,short_snoc h.2 hd _⟩
  ·unfold Lnd.restart
   split
   ·exact h
   ·exact h
theorem Lk.Short.act {L:Lk} {N:Nat} {Z:Prop} (h:L.Short) (f:L.Full N Z) (e:Evt):(L.act e).2.Short:=by
 obtain ⟨wl,wr,oa,ga,pa,ob,gb,pb,da,db,i,_⟩:=f
 unfold Lk.act
 split
 ·exact h
 ·split
  ·exact h
  ·split
   ·exact h
   ·split
    ·exact ⟨h.1.act i.l.ok e,h.2⟩
    ·split
     ·exact ⟨h.1,h.2.act i.r.ok e⟩
     ·exact h
theorem Lk.Short.acts:∀(es:List Evt) {L:Lk} {N:Nat} {Z:Prop},L.Short->L.Full N Z->200<=N->(L.acts es).2.Short
 |[],_,_,_,h,_,_=>h
 |e::es,_,_,_,h,f,hN=>Lk.Short.acts es (h.act f e) (f.act hN e) (by omega)
theorem Lk.Short.cR {L:Lk} (h:L.Short):L.cR.Short:=by
 have s1:=L.l.cR.2.send_same (ys:=L.r.cR.1)
 have s2:=L.r.cR.2.send_same (ys:=L.l.cR.1)
 refine ⟨?_,?_⟩
 ·show (L.l.cR.2.send L.r.cR.1).Short
  unfold Lnd.Short
  rw [s1.aV,s1.cF]
  exact h.1
 ·show (L.r.cR.2.send L.l.cR.1).Short
  unfold Lnd.Short
  rw [s2.aV,s2.cF]
  exact h.2
theorem Lk.Short.step {L:Lk} {N:Nat} {Z:Prop} (h:L.Short) (f:L.Full N Z) (hN:200<=N) (es:List Evt):(L.step es).Short:=(Lk.Short.acts es h f hN).cR
theorem newLnd_short (inc:Nat) (aZ:List Nat) (w t d cB:Nat) (fs:List Flt):(newLnd inc aZ w t d cB fs).Short:=
 ⟨fun l hl d hd=>(by obtain rfl:=(List.mem_replicate.1 hl).2;cases hd),fun l hl d hd=>(by obtain rfl:=(List.mem_replicate.1 hl).2;cases hd)⟩
def Lk.off (L:Lk) (s:Int):List (List dV):=if s=0 then L.l.aV else if s=1 then L.r.aV else []
def Lk.tak (L:Lk) (s:Int):List (List dV):=if s=0 then L.l.cF else if s=1 then L.r.cF else []
end

set_option maxRecDepth 100000
section
open Go.RowKit
theorem dY.joinNew {F Z:BS} {W w w':World} {ts:List Th} {T:Th} (h:dY F Z W ts w) (h2:dY (fun _=>False) (fun _=>False) w [T] w'):dY F Z W (T::ts) w':=by
 obtain ⟨a,Y,b,c⟩:=h2.did'
 exact (h.adds ⟨a,Y,fun k hk=>(b k hk).elim False.elim fun x=>.inr x,c⟩).front
theorem clsAt_of {w:World} {A B:BS} {T:TypeId} {v:Value} {xss:List (List Byt)} (h:Sq (eSq eBy 42) T w A B v xss) (cl:Int):ClsAt w v xss cl:=by
 obtain ⟨a,c,rfl,hc,_,_⟩:=Sq.le h
 refine ⟨a,_,c,rfl,rfl,fun m _ hm=>?_⟩
 obtain ⟨b,o,cs,A',rfl,_,⟨vc,rfl,hr⟩,_,hk⟩:=Sq.at h (by decide) (bT (d:=[]) hm)
 have h0:=hk 0 vc rfl
 simp only [eSq,Nat.mul_one,Nat.add_zero] at h0
 obtain ⟨ia,ic,rfl,hic,_,_⟩:=Sq.le hr
 refine ⟨b,o,ia,ic,rfl,hc,h0,hic,fun k d hkd=>?_⟩
 obtain ⟨b',o',cs',A'',rfl,_,⟨dv,rfl,hby⟩,_,hk'⟩:=Sq.at hr (by decide) hkd
 have h1:=hk' 0 dv rfl
 simp only [eBy,Nat.mul_one,Nat.add_zero] at h1
 exact ⟨b',o',dv,rfl,h1,hby.1⟩
section
variable {Z:BS} {W w:World} {ts:List Th} {p N:Nat} {L:Lk} {Zp:Prop}
theorem taken_c (hF:L.Full N Zp) (hS:L.Short) (hN:N<=1000000000) (s cl:Int) (h:dY (fun _=>False) Z W (bI p L::ts) w) :
  Calls Tryz.prog 15 #[.pointer (some ⟨p,0,none⟩),.int .i64 s,.int .i64 cl] w fun e w'=>∃a c,e=.returned (.slice a (clsOf (L.tak s) cl).length c)/\dY (fun _=>False) Z W (tBB (.slice a (clsOf (L.tak s) cl).length c) (clsOf (L.tak s) cl)::bI p L::ts) w':=by
 obtain ⟨cs,v,u,e1,e2,e3,h0⟩:=h.link
 obtain ⟨_,_,_,_,_,c5,_⟩:=dL e1 (h0.blk 0 rfl)
 obtain ⟨_,_,_,_,_,d5,_⟩:=dR e2 (h0.blk 0 rfl)
 obtain ⟨A5,B5,q5⟩:=h0.get 5 rfl
 obtain ⟨A6,B6,q6⟩:=h0.get 11 rfl
 have HH:=aQ h
 have HE:=aQ (exists_c s)
 by_cases hs:s=0\/s=1
 ·have hx:decide (s=0\/s=1)=true:=by simpa using hs
  rw [hx] at HE
  rcases hs with rfl|rfl
  ·have HC:=aQ (copies_any v.tv L.l.cF cl w (by have:=hF.fit.tl;obtain ⟨_,i⟩:=hF.fit.l;have:=i.ok.n4;omega) (fun l hl=>by obtain ⟨_,i⟩:=hF.fit.l;exact Nat.le_trans (i.tb l hl) hN) (fun l hl d hd=>Nat.le_trans (hS.1.2 l hl d hd) (by decide)) (clsAt_of (show Sq (eSq eBy 42) 40 w A5 B5 v.tv L.l.cF from q5) cl))
   have HT:=aQ (show L.tak 0=L.l.cF from rfl)
   clear h h0 e1 e2 e3 hF hS hx q5 q6
   go_enter Tryz.func15,Tryz.ntmps15
   go_wp2_with (go_at_call 46;refine (HE.out _).mono ?_;rintro e' w1 ⟨rfl,rfl⟩)
   refine HC.out.mono ?_
   rintro e' w2 ⟨a,c,rfl,h2⟩
   have H2:=aQ h2
   clear h2
   go_wp2_with fail
   go_ret
   rw [HT.out]
   exact ⟨_,_,rfl,HH.out.joinNew H2.out⟩
  ·have HC:=aQ (copies_any u.tv L.r.cF cl w (by have:=hF.fit.tr;obtain ⟨_,i⟩:=hF.fit.r;have:=i.ok.n4;omega) (fun l hl=>by obtain ⟨_,i⟩:=hF.fit.r;exact Nat.le_trans (i.tb l hl) hN) (fun l hl d hd=>Nat.le_trans (hS.2.2 l hl d hd) (by decide)) (clsAt_of (show Sq (eSq eBy 42) 40 w A6 B6 u.tv L.r.cF from q6) cl))
   have HT:=aQ (show L.tak 1=L.r.cF from rfl)
   clear h h0 e1 e2 e3 hF hS hx q5 q6
   go_enter Tryz.func15,Tryz.ntmps15
   go_wp2_with (go_at_call 46;refine (HE.out _).mono ?_;rintro e' w1 ⟨rfl,rfl⟩)
   refine HC.out.mono ?_
   rintro e' w2 ⟨a,c,rfl,h2⟩
   have H2:=aQ h2
   clear h2
   go_wp2_with fail
   go_ret
   rw [HT.out]
   exact ⟨_,_,rfl,HH.out.joinNew H2.out⟩
 ·have hx:decide (s=0\/s=1)=false:=by simpa using hs
  rw [hx] at HE
  have HT:=aQ (show clsOf (L.tak s) cl=[] by
   have:L.tak s=[]:=by unfold Lk.tak;rw [if_neg fun e=>hs (.inl e),if_neg fun e=>hs (.inr e)]
   rw [this];unfold clsOf;split <;> rfl)
  clear h h0 e1 e2 e3 hF hS hx q5 q6
  go_enter Tryz.func15,Tryz.ntmps15
  go_wp2_with (go_at_call 46;refine (HE.out _).mono ?_;rintro e' w1 ⟨rfl,rfl⟩)
  go_ret
  rw [HT.out]
  exact ⟨_,_,rfl,(HH.out.add (Below.refl _ _) (T:=tBB (.slice none 0 0) []) (Sq.nil _ _ _ _ _)).front⟩
end
end


set_option maxRecDepth 100000
section
open Go.RowKit
theorem rd_lit (w:World) (g s n:Nat) (us:List Value) (T:TypeId) (f:Nat × Nat) (hg:g=w.heap.size) (hs:us.length=n*s) (hn:n<=1000):Rd (w.alloc (.cells us.toArray T f)) s (.slice (some ⟨g,0,none⟩) n n) n us:=by
 subst hg
 refine ⟨hs,_,_,rfl,Nat.le_refl _,by unfold maxLen;omega,(fun e=>by cases e),fun b hb j u hj=>?_⟩
 obtain rfl:=Option.some.inj hb
 refine ⟨rfl,?_⟩
 have h0:(w.alloc (.cells us.toArray T f)).heap[w.heap.size]? = some (.cells us.toArray T f):=heap_alloc_new w _
 simp only [World.cell?,h0,Nat.zero_add]
 simpa using hj
theorem own_lit {g n k b:Nat} (h:(Value.slice (some ⟨g,0,none⟩) n k).ownBlock=some b):g<=b:=by
 obtain rfl:g=b:=by simpa [Value.ownBlock] using h
 exact Nat.le_refl _
section
variable {F Z:BS} {W w:World} {ts:List Th}
theorem dY.lit_by (h:dY F Z W ts w) (bs:Byt) (f:Nat × Nat) (hn:bs.length<=1000):dY F Z W (tBy (.slice (some ⟨w.heap.size,0,none⟩) bs.length bs.length) bs::ts) (w.alloc (.cells (cu bs).toArray 5 f)):=
 (h.addZ (T:=tBy (.slice (some ⟨w.heap.size,0,none⟩) bs.length bs.length) bs) (aK w _) ⟨rd_lit w _ 1 bs.length (cu bs) _ _ rfl (by rw [cu_length];omega) hn,fun _ b hb=>own_lit hb⟩).front
theorem dY.lit_evt (h:dY F Z W ts w) (e:Evt) (j:Nat) {v:Value} (hj:ts[j]? = some (tBy v e.data)):dY F Z W (ts.set j (tRd eEvt (.slice (some ⟨w.heap.size,0,none⟩) 1 1) [e])) (w.alloc (.cells #[.int .i64 e.kind,.int .i64 e.cS,.int .i64 e.cls,v] 49)):=
 h.grow j hj fun G Y hby hd=>by
  have hby:ByZ w Y v e.data:=hby
  have hb:=aK w (.cells #[.int .i64 e.kind,.int .i64 e.cS,.int .i64 e.cls,v] 49)
  refine ⟨fun _=>False,fun k=>(Y k/\k < w.heap.size)\/w.heap.size<=k,fun _ f=>f.elim,fun _ h=>h,fun _ f=>f.elim,?_,(Fr.refl G w).alloc _⟩
  refine ⟨_,rd_lit w _ 4 1 [.int .i64 e.kind,.int .i64 e.cS,.int .i64 e.cls,v] _ _ rfl rfl (by decide),Els.single (E:=eEvt) ⟨v,rfl,(hby.stay (w':=w.alloc _) fun k _ hl=>hb.block k hl).mono fun k hk=>.inl hk⟩,fun _ b hb=>.inr (own_lit hb)⟩
end
end

set_option maxRecDepth 100000
section
open Go.RowKit
def V8 (i d:Int):Prop:=1<=i/\i<=1099511627775/\1<=d/\d<=1000
instance (i d:Int):Decidable (V8 i d):=by unfold V8;infer_instance
def V7 (aZ:List Int):Prop:=1<=aZ.length/\aZ.length<=4/\∀x ∈ aZ,1<=x/\x<=64
instance (l:List Int):Decidable (V7 l):=by unfold V7;infer_instance
def V11 (i:Int) (aZ:List Int) (wi ti de:Int):Prop:=V8 i de/\V7 aZ/\1<=wi/\wi<=128/\1<=ti/\ti<=1000
instance (i:Int) (l:List Int) (a b c:Int):Decidable (V11 i l a b c):=by unfold V11;infer_instance
theorem V11.ok {i:Int} {l:List Int} {a b c:Int} (h:V11 i l a b c):CfgOk i l a b c:=by
 obtain ⟨⟨h1,h2,h3,h4⟩,⟨h5,h6,h7⟩,h8,h9,h10,h11⟩:=h
 exact ⟨h5,h6,h7,h1,h2,h8,h9,h10,h11,h3,h4⟩
theorem V11.of {i:Int} {l:List Int} {a b c:Int} (h:CfgOk i l a b c):V11 i l a b c:=⟨⟨h.i1,h.i2,h.d1,h.d2⟩,⟨h.n1,h.n4,h.rm⟩,h.w1,h.w2,h.t1,h.t2⟩
end

set_option maxRecDepth 100000
section
open Go.RowKit Go.ChangeShapes Go.WideShapes Go.ChangeAt
structure RCfg where
 inc:Int
 aZ:List Int
 w:Int
 t:Int
 d:Int
structure RSet where
 a:RCfg
 b:RCfg
 cB:Int
 there:List Flt
 back:List Flt
def rCfg:R RCfg:=rMap (rPair (rInt .i64) (rPair (rSlice (rInt .i64)) (rPair (rInt .i64) (rPair (rInt .i64) (rInt .i64))))) fun x=>⟨x.1,x.2.1,x.2.2.1,x.2.2.2.1,x.2.2.2.2⟩
def rSet:R RSet:=rMap (rPair rCfg (rPair rCfg (rPair (rInt .i64) (rPair (rSlice rFlt) (rSlice rFlt))))) fun x=>⟨x.1,x.2.1,x.2.2.1,x.2.2.2.1,x.2.2.2.2⟩
theorem opensInts {H:Type} {enc:TypeId × Value->H} {W:World}:Opens enc Tryz.prog W 22 (rSlice (rInt .i64)):=
 opens_slice Tryz.underlying22 (by kernel_rfl) (cN Tryz.underlying3 (by kernel_rfl)) (by decide)
theorem opensCfg {H:Type} {enc:TypeId × Value->H} {W:World}:Opens enc Tryz.prog W 24 rCfg:=
 opens_map (opens_struct Tryz.underlying24 (by kernel_rfl)
  (.cons (cN Tryz.underlying3 (by kernel_rfl)) rfl (.cons opensInts rfl (.cons (cN Tryz.underlying3 (by kernel_rfl)) rfl (.cons (cN Tryz.underlying3 (by kernel_rfl)) rfl (.one (cN Tryz.underlying3 (by kernel_rfl)) rfl)))))) _
abbrev setV (s:RSet) (aa:Option Addr) (ak:Nat) (ba:Option Addr) (bk:Nat) (ta:Option Addr) (tk:Nat) (ya:Option Addr) (yk:Nat):Value:=
 .agg #[.int .i64 s.a.inc,.slice aa s.a.aZ.length ak,.int .i64 s.a.w,.int .i64 s.a.t,.int .i64 s.a.d,.int .i64 s.b.inc,.slice ba s.b.aZ.length bk,.int .i64 s.b.w,.int .i64 s.b.t,.int .i64 s.b.d,
  .int .i64 s.cB,.slice ta s.there.length tk,.slice ya s.back.length yk]
def IsSet (W:World) (v:Value):Prop:=∃(s:RSet) (aa:Option Addr) (ak:Nat) (ba:Option Addr) (bk:Nat) (ta:Option Addr) (tk:Nat) (ya:Option Addr) (yk:Nat),v=setV s aa ak ba bk ta tk ya yk /\
 RdS (eInt .i64) W (Old W) (.slice aa s.a.aZ.length ak) s.a.aZ/\RdS (eInt .i64) W (Old W) (.slice ba s.b.aZ.length bk) s.b.aZ/\RdS eFlt W (Old W) (.slice ta s.there.length tk) s.there/\RdS eFlt W (Old W) (.slice ya s.back.length yk) s.back
theorem ints_of {W:World} {v:Value} {l:List Int} (h:(rSlice (rInt .i64)).rd W [v] l):RdS (eInt .i64) W (Old W) v l:=rdS_of (r:=rInt .i64) (E:=eInt .i64) rfl (by decide) (fun cs a h=>show cs=[.int .i64 a] from h.1) h
theorem isSet_of {W:World} {cs:Array Value} (h:IsR rSet W (.agg cs)):IsSet W (.agg cs):=by
 obtain ⟨s,⟨⟨a,b,d,th,bk⟩,⟨_,_,h1,ha,_,_,rfl,hb,c3,_,rfl,⟨rfl,_⟩,c4,c5,rfl,ht,hy⟩,rfl⟩⟩:=h
 obtain ⟨⟨i1,r1,w1,t1,d1⟩,⟨_,_,rfl,⟨rfl,_⟩,e2,_,rfl,hr1,_,_,rfl,⟨rfl,_⟩,_,_,rfl,⟨rfl,_⟩,rfl,_⟩,rfl⟩:=ha
 obtain ⟨⟨i2,r2,w2,t2,d2⟩,⟨_,_,rfl,⟨rfl,_⟩,e3,_,rfl,hr2,_,_,rfl,⟨rfl,_⟩,_,_,rfl,⟨rfl,_⟩,rfl,_⟩,rfl⟩:=hb
 obtain ⟨aa,ak,rfl,_⟩:=id hr1
 obtain ⟨ba,bk',rfl,_⟩:=id hr2
 obtain ⟨ta,tk,rfl,_⟩:=id ht
 obtain ⟨ya,yk,rfl,_⟩:=id hy
 refine ⟨⟨⟨i1,r1,w1,t1,d1⟩,⟨i2,r2,w2,t2,d2⟩,d,th,bk⟩,aa,ak,ba,bk',ta,tk,ya,yk,?_,ints_of hr1,ints_of hr2,flts_of ht,flts_of hy⟩
 congr 1
 apply Array.ext'
 exact h1
end


set_option maxRecDepth 100000
section
open Go.RowKit
def RCfg.V (c:RCfg):Prop:=V11 c.inc c.aZ c.w c.t c.d
instance (c:RCfg):Decidable c.V:=by unfold RCfg.V;infer_instance
abbrev VA (s:RSet):Prop:=s.a.V
abbrev VB (s:RSet):Prop:=s.b.V
def Small (s:RSet):Prop:=VA s/\VB s/\1<=s.cB/\s.cB<=6/\3<=s.a.d/\3<=s.b.d/\s.a.t<=40/\s.b.t<=40/\okF (-1) s.there=true/\okF (-1) s.back=true/\s.there.length<=200/\s.back.length<=200
instance (s:RSet):Decidable (Small s):=by unfold Small;infer_instance
theorem nums_of {w:World} {Z:BS} {a:Option Addr} {n c:Nat} {l:List Int} (h:RdS (eInt .i64) w Z (.slice a n c) l):Nums w a l:=fun k x hk=>by
 obtain ⟨b,off,cs,e,_,hr,hc⟩:=h.at (by decide) hk
 have h1:cs=[.int .i64 x]:=hr
 subst h1
 refine ⟨b,off,e,?_⟩
 have:=hc 0 _ rfl
 rwa [show off+k*(eInt .i64).size+0=off+k by show off+k*1+0=_;omega] at this
theorem aC {w:World} {p:Nat} {u0 u1 u2 u3 u4 u5 u6 u7 u8 u9 u10 u11 u12:Value} {T:TypeId} (h:w.heap[p]? = some (.cells #[u0,u1,u2,u3,u4,u5,u6,u7,u8,u9,u10,u11,u12] T)) :
  w.cell? ⟨p,0,none⟩=some u0/\w.cell? ⟨p,1,none⟩=some u1/\w.cell? ⟨p,2,none⟩=some u2/\w.cell? ⟨p,3,none⟩=some u3/\w.cell? ⟨p,4,none⟩=some u4/\w.cell? ⟨p,5,none⟩=some u5/\w.cell? ⟨p,6,none⟩=some u6/\w.cell? ⟨p,7,none⟩=some u7/\w.cell? ⟨p,8,none⟩=some u8/\w.cell? ⟨p,9,none⟩=some u9/\w.cell? ⟨p,10,none⟩=some u10/\w.cell? ⟨p,11,none⟩=some u11/\w.cell? ⟨p,12,none⟩=some u12:=
 ⟨aJ h rfl,aJ h rfl,aJ h rfl,aJ h rfl,aJ h rfl,aJ h rfl,aJ h rfl,aJ h rfl,aJ h rfl,aJ h rfl,aJ h rfl,aJ h rfl,aJ h rfl⟩
section
variable {w:World} {Z:BS} {s:RSet} {aa ba ta ya:Option Addr} {ak bk tk yk:Nat}
end
end

set_option maxRecDepth 100000
section
open Go.RowKit
theorem any_take {α : Type} {l:List α} {p : α -> Bool} {j:Nat} {o : α} (h:(l.take j).any p=false) (ho:l[j]? = some o) (hp:p o=false):(l.take (j+1)).any p=false:=by
 rw [List.take_add_one,ho,List.any_append,h];simp [hp]
theorem any_at {α : Type} {l:List α} {p : α -> Bool} {j:Nat} {o : α} (ho:l[j]? = some o) (hp:p o=true):l.any p=true:=
 List.any_eq_true.2 ⟨o,List.mem_of_getElem? ho,hp⟩
section
variable {w:World} {Z:BS}
end
end

set_option maxRecDepth 100000
section
open Go.RowKit
def RCfg.cfg (c:RCfg):Cfg:=⟨c.inc.toNat,c.aZ.map Int.toNat,c.w.toNat,c.t.toNat,c.d.toNat⟩
def RSet.lk (s:RSet):Lk:=newLk s.a.cfg s.b.cfg s.cB.toNat s.there s.back
theorem RCfg.V.ok {c:RCfg} (h:c.V):c.cfg.Ok:=by
 obtain ⟨⟨h1,h2,h3,h4⟩,⟨h5,h6,h7⟩,h8,h9,h10,h11⟩:=h
 refine ⟨by show 1<=(c.aZ.map Int.toNat).length;rw [List.length_map];exact h5,by show (c.aZ.map Int.toNat).length<=4;rw [List.length_map];exact h6,fun x hx=>?_,by show 1<=c.inc.toNat;omega,by show c.inc.toNat<=_;omega,by show 1<=c.w.toNat;omega,by show c.w.toNat<=_;omega,by show 1<=c.t.toNat;omega,by show c.t.toNat<=_;omega,by show 1<=c.d.toNat;omega,by show c.d.toNat<=_;omega⟩
 obtain ⟨y,hy,rfl⟩:=List.mem_map.1 hx
 have:=h7 y hy
 omega
theorem RCfg.V.nums {c:RCfg} (h:c.V):(c.cfg.inc:Int)=c.inc/\(c.cfg.w:Int)=c.w/\(c.cfg.t:Int)=c.t/\(c.cfg.d:Int)=c.d/\c.cfg.aZ.length=c.aZ.length/\(c.cfg.aZ.map fun (x:Nat)=>(x:Int))=c.aZ:=by
 obtain ⟨⟨h1,h2,h3,h4⟩,⟨h5,h6,h7⟩,h8,h9,h10,h11⟩:=h
 refine ⟨by show ((c.inc.toNat:Nat):Int)=_;omega,by show ((c.w.toNat:Nat):Int)=_;omega,by show ((c.t.toNat:Nat):Int)=_;omega,by show ((c.d.toNat:Nat):Int)=_;omega,List.length_map ..,?_⟩
 show ((c.aZ.map Int.toNat).map fun (x:Nat)=>(x:Int))=c.aZ
 rw [List.map_map]
 refine (List.map_congr_left fun x hx=>?_).trans (List.map_id _)
 have:=h7 x hx
 show ((x.toNat:Nat):Int)=x
 omega
theorem els_nat {w:World} {F Z:BS}:∀ {F:BS} {us:List Value} (xs:List Nat),Els (eInt .i64) w F Z us (xs.map fun (x:Nat)=>(x:Int))->Els dK w F Z us xs
 |_,_,[],h=>h
 |_,_,_::xs,⟨cs,rest,A,B,e,g1,g2,g3,h1,h2⟩=>⟨cs,rest,A,B,e,g1,g2,g3,h1,els_nat (F:=F) xs h2⟩
theorem rd_nat {w:World} {Z:BS} {v:Value} {xs:List Nat} (h:RdS (eInt .i64) w Z v (xs.map fun (x:Nat)=>(x:Int))):RdS dK w Z v xs:=by
 obtain ⟨us,h1,h2,h3⟩:=h
 rw [List.length_map] at h1
 exact ⟨us,h1,els_nat (F:=Z) xs h2,h3⟩
theorem Small.full {s:RSet} (h:Small s):s.lk.Full 200 True:=by
 obtain ⟨h1,h2,h3,h4,h5,h6,h7,h8,h9,h10,h11,h12⟩:=h
 exact newLk_full h1.ok h2.ok (by omega) (by omega) h9 h10 (by omega) (by omega)
theorem RSet.lk_short (s:RSet):s.lk.Short:=⟨newLnd_short _ _ _ _ _ _ _,newLnd_short _ _ _ _ _ _ _⟩
section
variable {Z:BS} {W w:World} {ts:List Th} {j:Nat} {s:RSet} {aa ba ta ya:Option Addr} {ak bk tk yk:Nat}
structure SetAt (ts:List Th) (j:Nat) (s:RSet) (aa:Option Addr) (ak:Nat) (ba:Option Addr) (bk:Nat) (ta:Option Addr) (tk:Nat) (ya:Option Addr) (yk:Nat):Prop where
 a:ts[j]? = some (tRd (eInt .i64) (.slice aa s.a.aZ.length ak) s.a.aZ)
 b:ts[j+1]? = some (tRd (eInt .i64) (.slice ba s.b.aZ.length bk) s.b.aZ)
 t:ts[j+2]? = some (tRd eFlt (.slice ta s.there.length tk) s.there)
 y:ts[j+3]? = some (tRd eFlt (.slice ya s.back.length yk) s.back)
end
end

section
structure Lims (el:List (List Evt)):Prop where
 n:el.length<=60
 e:∀es ∈ el,es.length<=6
 d:∀es ∈ el,∀e ∈ es,e.data.length<=100
theorem offer_rooms (p:Prt) (c:Int) (d:dV):(p.dQ c d).2.aZ=p.aZ:=by
 unfold Prt.dQ
 split
 ·rfl
 ·split <;> rfl
theorem take_rooms (p:Prt) (c:Int):(p.take c).2.aZ=p.aZ:=by
 unfold Prt.take
 split <;> rfl
theorem restart_rooms (p:Prt) (c:Int):(p.restart c).2.aZ=p.aZ:=by
 unfold Prt.restart
 split <;> rfl
theorem act_rooms (x:Lnd) (e:Evt):(x.act e).2.prt.aZ=x.prt.aZ:=by
 unfold Lnd.act
 split
 ·unfold Lnd.dQ
  split
  ·exact offer_rooms _ _ _
  ·rfl
 ·split
  ·have:=take_rooms x.prt e.cls
   unfold Lnd.take
   rcases hp:x.prt.take e.cls with ⟨o,q⟩
   rw [hp] at this
   cases o with
   |none=>rfl
   |some d=>exact this
  ·unfold Lnd.restart
   split
   ·exact restart_rooms _ _
   ·rfl
def Lk.Rms (L:Lk) (a b:List Nat):Prop:=L.l.prt.aZ=a/\L.r.prt.aZ=b
theorem Lk.Rms.act {L:Lk} {a b:List Nat} (h:L.Rms a b) (e:Evt):(L.act e).2.Rms a b:=by
 unfold Lk.act
 split
 ·exact h
 ·split
  ·exact h
  ·split
   ·exact h
   ·split
    ·exact ⟨(act_rooms _ _).trans h.1,h.2⟩
    ·split
     ·exact ⟨h.1,(act_rooms _ _).trans h.2⟩
     ·exact h
theorem Lk.Rms.acts:∀(es:List Evt) {L:Lk} {a b:List Nat},L.Rms a b->(L.acts es).2.Rms a b
 |[],_,_,_,h=>h
 |e::es,_,_,_,h=>Lk.Rms.acts es (h.act e)
theorem Lk.Rms.cR {L:Lk} {a b:List Nat} (h:L.Rms a b):L.cR.Rms a b:=by
 have s1:=L.l.cR.2.send_same (ys:=L.r.cR.1)
 have s2:=L.r.cR.2.send_same (ys:=L.l.cR.1)
 refine ⟨?_,?_⟩
 ·show (L.l.cR.2.send L.r.cR.1).prt.aZ=a
  rw [s1.prt];exact (tick_rooms _ _).trans h.1
 ·show (L.r.cR.2.send L.l.cR.1).prt.aZ=b
  rw [s2.prt];exact (tick_rooms _ _).trans h.2
end

set_option maxRecDepth 100000
section
open Go.RowKit
section
variable {Z:BS} {W w:World} {ts:List Th} {p:Nat} {L:Lk}
theorem port_o {cs:Array Value} {v u:EV} (e1:EndAt cs 0 L.l v) (e2:EndAt cs 7 L.r u) (h0:dY (fun _=>False) Z W (dJ p (bG cs)::(bY L.l v++(bY L.r u++ts))) w) (s:Int) (hs:s=0\/s=1) :
  Calls Tryz.prog 13 #[.pointer (some ⟨p,0,none⟩),.int .i64 s] w fun e w'=>e=.returned (.pointer (some ⟨if s=0 then v.pp else u.pp,0,none⟩))/\w=w':=by
 obtain ⟨c0,_⟩:=dL e1 (h0.blk 0 rfl)
 obtain ⟨d0,_⟩:=dR e2 (h0.blk 0 rfl)
 have HX:=aQ (show decide (s=0\/s=1)=true by simpa using hs)
 clear h0 e1 e2
 rcases hs with rfl|rfl
 all_goals
  go_enter Tryz.func13,Tryz.ntmps13
  go_wp2_with (go_at_call 46;refine (exists_c _ _).mono ?_;rw [HX.out];rintro e' w1 ⟨rfl,rfl⟩)
  go_ret
  exact ⟨rfl,rfl⟩
end
end

end Go.Proofs.YtcbnhebiagdbiaaGreatDoor
