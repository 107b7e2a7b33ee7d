/- Lemmas of this proof (texts LnkW LnkX LnkY LnkT LnkZ LsA LsB CabV LsC LsD LsE LsF LsH). -/
import Derived.Test.YtcbnhebiagdbiaaGreatDoorPkC1
import Derived.Test.YtcbnhebiagdbiaaGreatDoorPkH2
import Derived.Test.YtcbnhebiagdbiaaGreatDoorPkH1
import Derived.Lib.SlBytesConst
import Derived.Test.YtcbnhebiagdbiaaGreatDoorPkA1
import Derived.Test.YtcbnhebiagdbiaaGreatDoorPkE1
namespace Go.Proofs.YtcbnhebiagdbiaaGreatDoor
set_option maxHeartbeats 64000000
section
open Go.RowKit
set_option maxRecDepth 100000
theorem wpList_app_ow {w w1 w2:World} {ops:Array Oper} {rest:List Oper} {o:Oper} {ac:Act} {Q:Exit->Act->World->Prop} {a:Option Addr} {c:Nat} {xs:List Byt} {e:Byt} {v:Value}
  (hg:o.guard=none) (s x:Operand) (hop:o.op=Op.call { callee:=Callee.builtin Builtin.append,args := #[s,x],argTypes := #[40,40] })
  (h:dY (fun _=>False) (fun _=>False) w [tBB (.slice a xs.length c) xs] w1) (hb:Below w1.heap.size w1 w2) (hl:xs.length<=1000000000) (hv:Nb w2 w1.heap.size v e) (hs:ac.eval s=.slice a xs.length c) (vb:Nat) (hx:ac.eval x=.slice (some ⟨vb,0,none⟩) 1 1) (hrow:Rd w2 1 (.slice (some ⟨vb,0,none⟩) 1 1) 1 [v])
  (hK:∀a' c' w3,dY (fun _=>False) (fun _=>False) w [tBB (.slice a' (xs++[e]).length c') (xs++[e])] w3->wpList Tryz.prog ops Q rest (ac.put o.dst (.slice a' (xs.length+1) c')) w3):wpList Tryz.prog ops Q (o::rest) ac w2:=by
 obtain ⟨va,vc,rfl⟩:=hv.slice
 obtain ⟨K,us,hsl,hKn,hback⟩:=h.app 0 rfl
 refine cQ slBB hg s x hop K (.slice a xs.length c) xs.length us hs (Sl.keep hsl fun k _ hl=>hb.block k hl) _ 1 [.slice va e.length vc] hx hrow (by intro u hu;obtain rfl:=List.mem_singleton.1 hu;rfl) (by unfold maxLen;omega) (by omega) ?_
 intro v' w' hs2 hf2
 obtain ⟨g2,off2,cap2,rfl,_⟩:=Sl.head hs2 (by omega)
 refine hK _ _ _ ?_
 have:=hback w2 w' [.slice va e.length vc] [e] _ hb hs2 hf2 fun Y _=>⟨fun k=>w1.heap.size<=k,fun _=>False,fun _ h=>h,fun _ f=>f.elim,fun _ _ f=>f,Els.single (E:=eSq eU8 5) ⟨_,rfl,hv.sq⟩⟩
 rw [List.length_append]
 exact this
def ClsAt (w:World) (v:Value) (xss:List (List Byt)) (cl:Int):Prop:=
 ∃a n c,v=.slice a n c/\n=xss.length/\∀(m:Nat),cl=(m:Int)->m < n->∃b o ia ic,a=some ⟨b,o,none⟩/\n<=c/\w.cell? ⟨b,o+m,none⟩=some (.slice ia (xss.getD m []).length ic)/\(xss.getD m []).length<=ic /\
  ∀(k:Nat) (d:Byt),(xss.getD m [])[k]? = some d->∃b' o' dv,ia=some ⟨b',o',none⟩/\w.cell? ⟨b',o'+k,none⟩=some dv/\By w dv d
def clsOf (xss:List (List Byt)) (cl:Int):List Byt:=if 0<=cl then xss.getD cl.toNat [] else []
theorem copies_any (v:Value) (xss:List (List Byt)) (cl:Int) (w:World) (_:xss.length<=1000) (hl:∀l ∈ xss,l.length<=1000000000) (hd:∀l ∈ xss,∀d ∈ l,d.length<=1000000) (h:ClsAt w v xss cl) :
  Calls Tryz.prog 47 #[v,.int .i64 cl] w fun e w'=>∃a c,e=.returned (.slice a (clsOf xss cl).length c)/\dY (fun _=>False) (fun _=>False) w [tBB (.slice a (clsOf xss cl).length c) (clsOf xss cl)] w':=by
 obtain ⟨a,n,c,rfl,rfl,hat⟩:=h
 have H0:=aQ (((dY.start0 (fun _=>False) (fun _=>False) (fun _ f=>f.elim) w).add (Below.refl _ _) (T:=tBB (.slice none 0 0) []) (Sq.nil _ _ _ _ _)))
 by_cases h0:cl < 0
 ·have HC:=aQ (show clsOf xss cl=[] by unfold clsOf;rw [if_neg (by omega)])
  clear hat hl hd
  go_enter Tryz.func47,Tryz.ntmps47
  go_wp2_with fail
  go_ret
  rw [HC.out]
  exact ⟨_,_,rfl,H0.out⟩
 ·obtain ⟨m,rfl⟩:∃m:Nat,cl=(m:Int):=⟨cl.toNat,by omega⟩
  have hcl:clsOf xss (m:Int)=xss.getD m []:=by unfold clsOf;rw [if_pos (by omega)];simp
  by_cases h1:xss.length<=m
  ·have HC:=aQ (show clsOf xss (m:Int)=[] by rw [hcl,List.getD_eq_getElem?_getD,List.getElem?_eq_none h1];rfl)
   clear hat hl hd hcl
   go_enter Tryz.func47,Tryz.ntmps47
   go_wp2_with fail
   go_ret
   rw [HC.out]
   exact ⟨_,_,rfl,H0.out⟩
  ·obtain ⟨b,o,ia,ic,rfl,k0,k1,k2,k3⟩:=hat m rfl (by omega)
   have hmem:xss.getD m [] ∈ xss:=by rw [List.getD_eq_getElem?_getD,List.getElem?_eq_getElem (by omega)];exact List.getElem_mem _
   have hl2:=hl _ hmem
   have HD:=aQ (hd _ hmem)
   have hm:m < xss.length:=by omega
   rw [hcl]
   clear hat hl hd hcl hmem
   generalize xss.getD m []=xs at *
   generalize xss.length=n at *
   have HAT:=aQ k3
   clear k3
   go_enter Tryz.func47,Tryz.ntmps47
   go_wp2_with fail
   go_loopw [5,21] (fun u i wr=>∃k:Nat,k<=xs.length/\i=.int .i64 (k:Int)/\∃(a:Option Addr) (c:Nat),u=.slice a (xs.take k).length c/\Hid (dY (fun _=>False) (fun _=>False) w [tBB (.slice a (xs.take k).length c) (xs.take k)] wr)) (fun _ i _=>xs.length - (intOf i).toNat)
   case atStart=>exact ⟨0,by omega,by go_num,_,_,rfl,H0⟩
   case round=>
    clear H0
    obtain ⟨k,hk,rfl,a,c,rfl,HH⟩:=hrel
    have htl:(xs.take k).length=k:=by rw [List.length_take];omega
    by_cases hlt:k < xs.length
    ·have hx:xs[k]? = some xs[k]:=List.getElem?_eq_getElem hlt
     obtain ⟨b',o',dv,rfl,hc,hby⟩:=HAT.out k _ hx
     have HSN:=aQ (show xs.take (k+1)=xs.take k++[xs[k]] from List.take_succ_eq_append_getElem hlt)
     have hdl:=HD.out xs[k] (List.getElem_mem hlt)
     generalize xs[k]=d at *
     have hB:=HH.out.below
     have hc2:=cell_later hB hc
     have HBY:=aQ (By.below hby hB)
     obtain ⟨da,dc,rfl⟩:=hby.slice
     generalize hy:xs.take k=ys at *
     have HY:=aQ hy
     have HYL:=aQ htl
     have hyl:ys.length<=1000000000:=by omega
     clear hy htl hc hby hB hx
     go_wp2_with fail
     refine (cV _ d wr HBY.out (by omega)).mono ?_
     rintro e w3 ⟨v3,rfl,h3,hb3⟩
     obtain ⟨va,vc,rfl⟩:=ow_shape h3
     have H3:=aQ (Nb.of_ow h3)
     have HB3:=aQ hb3
     clear h3 hb3
     have HA:=aQ (H3.out.below (aK w3 (.cells #[.slice va d.length vc] 42)))
     have HBB:=aQ (HB3.out.trans ((aK w3 (.cells #[.slice va d.length vc] 42)).mono HB3.out.size))
     have HRD:=aQ (rd_one w3 w3.heap.size (.slice va d.length vc) 42 rfl)
     go_wp2_with (at_builtin;refine wpList_app_ow rfl _ _ rfl HH.out HBB.out hyl HA.out rfl w3.heap.size rfl HRD.out ?_;intro a' c' w5 h;have H5:=aQ h;clear h)
     go_roundw
     case rel=>exact ⟨k+1,by omega,by go_num,a',c',by rw [HSN.out,List.length_append];rfl,by rw [HSN.out];exact H5⟩
     case measure=>simp [intOf];omega
    ·have hkl:xs.take k=xs:=List.take_of_length_le (by omega)
     rw [hkl] at HH ⊢
     clear hkl htl HD HAT
     go_wp2_with fail
     go_ret
     exact ⟨_,_,rfl,HH.out⟩
end

section
def Lnd.Short (x:Lnd):Prop:=(∀l ∈ x.aV,∀d ∈ l,d.length<=1000)/\∀l ∈ x.cF,∀d ∈ l,d.length<=1000
def Lk.Short (L:Lk):Prop:=L.l.Short/\L.r.Short
theorem short_snoc {l:List (List dV)} (h:∀l' ∈ l,∀d ∈ l',d.length<=1000) {d:dV} (hd:d.length<=1000) (c:Nat):∀l' ∈ l.set c (l.getD c []++[d]),∀e ∈ l',e.length<=1000:=
 mem_set (P:=fun l':List dV=>∀e ∈ l',e.length<=1000) h fun e he=>by
  rcases List.mem_append.1 he with he|he
  ·exact bM (P:=fun l':List dV=>∀e ∈ l',e.length<=1000) h (d:=[]) (by simp) c e he
  ·obtain rfl:=List.mem_singleton.1 he;exact hd
theorem Lnd.Short.act {x:Lnd} {N:Nat} (h:x.Short) (ok:x.prt.Ok N) (e:Evt):(x.act e).2.Short:=by
 unfold Lnd.act
 split
 ·unfold Lnd.dQ
  split
  ·rename_i h0
   refine ⟨short_snoc h.1 ?_ _,h.2⟩
   unfold Prt.dQ at h0
   split at h0
   ·exact absurd h0 (by show ¬(2:Nat)=0;omega)
   ·rename_i h1
    have:¬ 64 < e.data.length:=fun q=>h1 (.inr q)
    omega
  ·exact h
 ·split
  ·unfold Lnd.take
   cases hp:x.prt.peek e.cls with
   |none=>
    have:x.prt.take e.cls=(none,x.prt):=by unfold Prt.take;rw [hp]
    rw [this]
    exact h
   |some d=>
    have hd:d.length<=1000:=by
     unfold Prt.peek at hp
     split at hp
     ·have:=bM (P:=fun l':List dV=>∀e ∈ l',e.length<=1000) ok.bsz (d:=[]) (by simp) e.cls.toNat
      generalize x.prt.aY.getD e.cls.toNat []=l at *
      cases l with
      |nil=>cases hp
      |cons y l=>injection hp with hp;subst hp;exact this _ List.mem_cons_self
     ·cases hp
    have ht:∃q,x.prt.take e.cls=(Option.some d,q):=by unfold Prt.take;rw [hp];exact ⟨_,rfl⟩
    obtain ⟨q,ht⟩:=ht
    rw [ht]
    exact ⟨h.1,short_snoc h.2 hd _⟩
  ·unfold Lnd.restart
   split
   ·exact h
   ·exact h
theorem Lk.Short.act {L:Lk} {N:Nat} {Z:Prop} (h:L.Short) (f:L.Full N Z) (e:Evt):(L.act e).2.Short:=by
 obtain ⟨wl,wr,oa,ga,pa,ob,gb,pb,da,db,i,_⟩:=f
 unfold Lk.act
 split
 ·exact h
 ·split
  ·exact h
  ·split
   ·exact h
   ·split
    ·exact ⟨h.1.act i.l.ok e,h.2⟩
    ·split
     ·exact ⟨h.1,h.2.act i.r.ok e⟩
     ·exact h
theorem Lk.Short.acts:∀(es:List Evt) {L:Lk} {N:Nat} {Z:Prop},L.Short->L.Full N Z->200<=N->(L.acts es).2.Short
 |[],_,_,_,h,_,_=>h
 |e::es,_,_,_,h,f,hN=>Lk.Short.acts es (h.act f e) (f.act hN e) (by omega)
theorem Lk.Short.cR {L:Lk} (h:L.Short):L.cR.Short:=by
 have s1:=L.l.cR.2.send_same (ys:=L.r.cR.1)
 have s2:=L.r.cR.2.send_same (ys:=L.l.cR.1)
 refine ⟨?_,?_⟩
 ·show (L.l.cR.2.send L.r.cR.1).Short
  unfold Lnd.Short
  rw [s1.aV,s1.cF]
  exact h.1
 ·show (L.r.cR.2.send L.l.cR.1).Short
  unfold Lnd.Short
  rw [s2.aV,s2.cF]
  exact h.2
theorem Lk.Short.step {L:Lk} {N:Nat} {Z:Prop} (h:L.Short) (f:L.Full N Z) (hN:200<=N) (es:List Evt):(L.step es).Short:=(Lk.Short.acts es h f hN).cR
theorem newLnd_short (inc:Nat) (aZ:List Nat) (w t d cB:Nat) (fs:List Flt):(newLnd inc aZ w t d cB fs).Short:=
 ⟨fun l hl d hd=>(by obtain rfl:=(List.mem_replicate.1 hl).2;cases hd),fun l hl d hd=>(by obtain rfl:=(List.mem_replicate.1 hl).2;cases hd)⟩
def Lk.off (L:Lk) (s:Int):List (List dV):=if s=0 then L.l.aV else if s=1 then L.r.aV else []
def Lk.tak (L:Lk) (s:Int):List (List dV):=if s=0 then L.l.cF else if s=1 then L.r.cF else []
end

section
open Go.RowKit
set_option maxRecDepth 100000
theorem dY.joinNew {F Z:BS} {W w w':World} {ts:List Th} {T:Th} (h:dY F Z W ts w) (h2:dY (fun _=>False) (fun _=>False) w [T] w'):dY F Z W (T::ts) w':=by
 obtain ⟨a,Y,b,c⟩:=h2.did'
 exact (h.adds ⟨a,Y,fun k hk=>(b k hk).elim False.elim fun x=>.inr x,c⟩).front
theorem clsAt_of {w:World} {A B:BS} {T:TypeId} {v:Value} {xss:List (List Byt)} (h:Sq (eSq eBy 42) T w A B v xss) (cl:Int):ClsAt w v xss cl:=by
 obtain ⟨a,c,rfl,hc,_,_⟩:=Sq.le h
 refine ⟨a,_,c,rfl,rfl,fun m _ hm=>?_⟩
 obtain ⟨b,o,cs,A',rfl,_,⟨vc,rfl,hr⟩,_,hk⟩:=Sq.at h (by decide) (bT (d:=[]) hm)
 have h0:=hk 0 vc rfl
 simp only [eSq,Nat.mul_one,Nat.add_zero] at h0
 obtain ⟨ia,ic,rfl,hic,_,_⟩:=Sq.le hr
 refine ⟨b,o,ia,ic,rfl,hc,h0,hic,fun k d hkd=>?_⟩
 obtain ⟨b',o',cs',A'',rfl,_,⟨dv,rfl,hby⟩,_,hk'⟩:=Sq.at hr (by decide) hkd
 have h1:=hk' 0 dv rfl
 simp only [eBy,Nat.mul_one,Nat.add_zero] at h1
 exact ⟨b',o',dv,rfl,h1,hby.1⟩
section
variable {Z:BS} {W w:World} {ts:List Th} {p N:Nat} {L:Lk} {Zp:Prop}
theorem port_c (h:dY (fun _=>False) Z W (bI p L::ts) w) (s:Int) (hs:s=0\/s=1):∃cs v u,EndAt cs 0 L.l v/\EndAt cs 7 L.r u/\cs.size=14/\dY (fun _=>False) Z W (dJ p (bG cs)::(bY L.l v++(bY L.r u++ts))) w /\
  Calls Tryz.prog 13 #[.pointer (some ⟨p,0,none⟩),.int .i64 s] w fun e w'=>e=.returned (.pointer (some ⟨if s=0 then v.pp else u.pp,0,none⟩))/\w=w':=by
 obtain ⟨cs,v,u,e1,e2,e3,h0⟩:=h.link
 refine ⟨cs,v,u,e1,e2,e3,h0,?_⟩
 obtain ⟨c0,_⟩:=dL e1 (h0.blk 0 rfl)
 obtain ⟨d0,_⟩:=dR e2 (h0.blk 0 rfl)
 have HX:=aQ (show decide (s=0\/s=1)=true by simpa using hs)
 clear h h0 e1 e2 e3
 rcases hs with rfl|rfl
 all_goals
  go_enter Tryz.func13,Tryz.ntmps13
  go_wp2_with (go_at_call 46;refine (exists_c _ _).mono ?_;rw [HX.out];rintro e' w1 ⟨rfl,rfl⟩)
  go_ret
  exact ⟨rfl,rfl⟩
theorem taken_c (hF:L.Full N Zp) (hS:L.Short) (hN:N<=1000000000) (s cl:Int) (h:dY (fun _=>False) Z W (bI p L::ts) w) :
  Calls Tryz.prog 15 #[.pointer (some ⟨p,0,none⟩),.int .i64 s,.int .i64 cl] w fun e w'=>∃a c,e=.returned (.slice a (clsOf (L.tak s) cl).length c)/\dY (fun _=>False) Z W (tBB (.slice a (clsOf (L.tak s) cl).length c) (clsOf (L.tak s) cl)::bI p L::ts) w':=by
 obtain ⟨cs,v,u,e1,e2,e3,h0⟩:=h.link
 obtain ⟨_,_,_,_,_,c5,_⟩:=dL e1 (h0.blk 0 rfl)
 obtain ⟨_,_,_,_,_,d5,_⟩:=dR e2 (h0.blk 0 rfl)
 obtain ⟨A5,B5,q5⟩:=h0.get 5 rfl
 obtain ⟨A6,B6,q6⟩:=h0.get 11 rfl
 have HH:=aQ h
 have HE:=aQ (exists_c s)
 by_cases hs:s=0\/s=1
 ·have hx:decide (s=0\/s=1)=true:=by simpa using hs
  rw [hx] at HE
  rcases hs with rfl|rfl
  ·have HC:=aQ (copies_any v.tv L.l.cF cl w (by have:=hF.fit.tl;obtain ⟨_,i⟩:=hF.fit.l;have:=i.ok.n4;omega) (fun l hl=>by obtain ⟨_,i⟩:=hF.fit.l;exact Nat.le_trans (i.tb l hl) hN) (fun l hl d hd=>Nat.le_trans (hS.1.2 l hl d hd) (by decide)) (clsAt_of (show Sq (eSq eBy 42) 40 w A5 B5 v.tv L.l.cF from q5) cl))
   have HT:=aQ (show L.tak 0=L.l.cF from rfl)
   clear h h0 e1 e2 e3 hF hS hx q5 q6
   go_enter Tryz.func15,Tryz.ntmps15
   go_wp2_with (go_at_call 46;refine (HE.out _).mono ?_;rintro e' w1 ⟨rfl,rfl⟩)
   refine HC.out.mono ?_
   rintro e' w2 ⟨a,c,rfl,h2⟩
   have H2:=aQ h2
   clear h2
   go_wp2_with fail
   go_ret
   rw [HT.out]
   exact ⟨_,_,rfl,HH.out.joinNew H2.out⟩
  ·have HC:=aQ (copies_any u.tv L.r.cF cl w (by have:=hF.fit.tr;obtain ⟨_,i⟩:=hF.fit.r;have:=i.ok.n4;omega) (fun l hl=>by obtain ⟨_,i⟩:=hF.fit.r;exact Nat.le_trans (i.tb l hl) hN) (fun l hl d hd=>Nat.le_trans (hS.2.2 l hl d hd) (by decide)) (clsAt_of (show Sq (eSq eBy 42) 40 w A6 B6 u.tv L.r.cF from q6) cl))
   have HT:=aQ (show L.tak 1=L.r.cF from rfl)
   clear h h0 e1 e2 e3 hF hS hx q5 q6
   go_enter Tryz.func15,Tryz.ntmps15
   go_wp2_with (go_at_call 46;refine (HE.out _).mono ?_;rintro e' w1 ⟨rfl,rfl⟩)
   refine HC.out.mono ?_
   rintro e' w2 ⟨a,c,rfl,h2⟩
   have H2:=aQ h2
   clear h2
   go_wp2_with fail
   go_ret
   rw [HT.out]
   exact ⟨_,_,rfl,HH.out.joinNew H2.out⟩
 ·have hx:decide (s=0\/s=1)=false:=by simpa using hs
  rw [hx] at HE
  have HT:=aQ (show clsOf (L.tak s) cl=[] by
   have:L.tak s=[]:=by unfold Lk.tak;rw [if_neg fun e=>hs (.inl e),if_neg fun e=>hs (.inr e)]
   rw [this];unfold clsOf;split <;> rfl)
  clear h h0 e1 e2 e3 hF hS hx q5 q6
  go_enter Tryz.func15,Tryz.ntmps15
  go_wp2_with (go_at_call 46;refine (HE.out _).mono ?_;rintro e' w1 ⟨rfl,rfl⟩)
  go_ret
  rw [HT.out]
  exact ⟨_,_,rfl,(HH.out.add (Below.refl _ _) (T:=tBB (.slice none 0 0) []) (Sq.nil _ _ _ _ _)).front⟩
theorem offered_c (hF:L.Full N Zp) (hS:L.Short) (hN:N<=1000000000) (s cl:Int) (h:dY (fun _=>False) Z W (bI p L::ts) w) :
  Calls Tryz.prog 24 #[.pointer (some ⟨p,0,none⟩),.int .i64 s,.int .i64 cl] w fun e w'=>∃a c,e=.returned (.slice a (clsOf (L.off s) cl).length c)/\dY (fun _=>False) Z W (tBB (.slice a (clsOf (L.off s) cl).length c) (clsOf (L.off s) cl)::bI p L::ts) w':=by
 obtain ⟨cs,v,u,e1,e2,e3,h0⟩:=h.link
 obtain ⟨_,_,_,_,c5,_,_⟩:=dL e1 (h0.blk 0 rfl)
 obtain ⟨_,_,_,_,d5,_,_⟩:=dR e2 (h0.blk 0 rfl)
 obtain ⟨A5,B5,q5⟩:=h0.get 4 rfl
 obtain ⟨A6,B6,q6⟩:=h0.get 10 rfl
 have HH:=aQ h
 have HE:=aQ (exists_c s)
 by_cases hs:s=0\/s=1
 ·have hx:decide (s=0\/s=1)=true:=by simpa using hs
  rw [hx] at HE
  rcases hs with rfl|rfl
  ·have HC:=aQ (copies_any v.ov L.l.aV cl w (by have:=hF.fit.ol;obtain ⟨_,i⟩:=hF.fit.l;have:=i.ok.n4;omega) (fun l hl=>by obtain ⟨_,i⟩:=hF.fit.l;exact Nat.le_trans (i.ob l hl) hN) (fun l hl d hd=>Nat.le_trans (hS.1.1 l hl d hd) (by decide)) (clsAt_of (show Sq (eSq eBy 42) 40 w A5 B5 v.ov L.l.aV from q5) cl))
   have HT:=aQ (show L.off 0=L.l.aV from rfl)
   clear h h0 e1 e2 e3 hF hS hx q5 q6
   go_enter Tryz.func24,Tryz.ntmps24
   go_wp2_with (go_at_call 46;refine (HE.out _).mono ?_;rintro e' w1 ⟨rfl,rfl⟩)
   refine HC.out.mono ?_
   rintro e' w2 ⟨a,c,rfl,h2⟩
   have H2:=aQ h2
   clear h2
   go_wp2_with fail
   go_ret
   rw [HT.out]
   exact ⟨_,_,rfl,HH.out.joinNew H2.out⟩
  ·have HC:=aQ (copies_any u.ov L.r.aV cl w (by have:=hF.fit.or';obtain ⟨_,i⟩:=hF.fit.r;have:=i.ok.n4;omega) (fun l hl=>by obtain ⟨_,i⟩:=hF.fit.r;exact Nat.le_trans (i.ob l hl) hN) (fun l hl d hd=>Nat.le_trans (hS.2.1 l hl d hd) (by decide)) (clsAt_of (show Sq (eSq eBy 42) 40 w A6 B6 u.ov L.r.aV from q6) cl))
   have HT:=aQ (show L.off 1=L.r.aV from rfl)
   clear h h0 e1 e2 e3 hF hS hx q5 q6
   go_enter Tryz.func24,Tryz.ntmps24
   go_wp2_with (go_at_call 46;refine (HE.out _).mono ?_;rintro e' w1 ⟨rfl,rfl⟩)
   refine HC.out.mono ?_
   rintro e' w2 ⟨a,c,rfl,h2⟩
   have H2:=aQ h2
   clear h2
   go_wp2_with fail
   go_ret
   rw [HT.out]
   exact ⟨_,_,rfl,HH.out.joinNew H2.out⟩
 ·have hx:decide (s=0\/s=1)=false:=by simpa using hs
  rw [hx] at HE
  have HT:=aQ (show clsOf (L.off s) cl=[] by
   have:L.off s=[]:=by unfold Lk.off;rw [if_neg fun e=>hs (.inl e),if_neg fun e=>hs (.inr e)]
   rw [this];unfold clsOf;split <;> rfl)
  clear h h0 e1 e2 e3 hF hS hx q5 q6
  go_enter Tryz.func24,Tryz.ntmps24
  go_wp2_with (go_at_call 46;refine (HE.out _).mono ?_;rintro e' w1 ⟨rfl,rfl⟩)
  go_ret
  rw [HT.out]
  exact ⟨_,_,rfl,(HH.out.add (Below.refl _ _) (T:=tBB (.slice none 0 0) []) (Sq.nil _ _ _ _ _)).front⟩
theorem offered_nil (s cl:Int) (w:World):Calls Tryz.prog 24 #[.pointer none,.int .i64 s,.int .i64 cl] w fun e w'=>e=.returned (.slice none 0 0)/\w=w':=by
 go_enter Tryz.func24,Tryz.ntmps24
 go_wp2_with fail
 go_ret
 exact ⟨rfl,rfl⟩
theorem taken_nil (s cl:Int) (w:World):Calls Tryz.prog 15 #[.pointer none,.int .i64 s,.int .i64 cl] w fun e w'=>e=.returned (.slice none 0 0)/\w=w':=by
 go_enter Tryz.func15,Tryz.ntmps15
 go_wp2_with fail
 go_ret
 exact ⟨rfl,rfl⟩
theorem port_nil (s:Int) (w:World):Calls Tryz.prog 13 #[.pointer none,.int .i64 s] w fun e w'=>e=.returned (.pointer none)/\w=w':=by
 go_enter Tryz.func13,Tryz.ntmps13
 go_wp2_with fail
 go_ret
 exact ⟨rfl,rfl⟩
theorem port_none (p:Nat) (s:Int) (hs:¬(s=0\/s=1)) (w:World):Calls Tryz.prog 13 #[.pointer (some ⟨p,0,none⟩),.int .i64 s] w fun e w'=>e=.returned (.pointer none)/\w=w':=by
 have HX:=aQ (show decide (s=0\/s=1)=false by simpa using hs)
 clear hs
 go_enter Tryz.func13,Tryz.ntmps13
 go_wp2_with (go_at_call 46;refine (exists_c _ _).mono ?_;rw [HX.out];rintro e' w1 ⟨rfl,rfl⟩)
 go_ret
 exact ⟨rfl,rfl⟩
theorem quiet_nil (w:World):Calls Tryz.prog 19 #[.pointer none] w fun e w'=>e=.returned (.bool false)/\w=w':=by
 go_enter Tryz.func19,Tryz.ntmps19
 go_wp2_with fail
 go_ret
 exact ⟨rfl,rfl⟩
end
end

section
def awk:Lk:=newLk ⟨5,[2],4,4,9⟩ ⟨7,[2],4,4,9⟩ 1 [] []
def awk2:Lk:=((((((awk.step []).step []).step []).step []).step [⟨1,0,0,[97,98]⟩]).step []).step [⟨2,1,0,[]⟩]
theorem awk_taken:awk2.r.cF=[[[97,98]]]:=by decide +kernel
end

section
open Go.RowKit
set_option maxRecDepth 100000
theorem rd_lit (w:World) (g s n:Nat) (us:List Value) (T:TypeId) (f:Nat × Nat) (hg:g=w.heap.size) (hs:us.length=n*s) (hn:n<=1000):Rd (w.alloc (.cells us.toArray T f)) s (.slice (some ⟨g,0,none⟩) n n) n us:=by
 subst hg
 refine ⟨hs,_,_,rfl,Nat.le_refl _,by unfold maxLen;omega,(fun e=>by cases e),fun b hb j u hj=>?_⟩
 obtain rfl:=Option.some.inj hb
 refine ⟨rfl,?_⟩
 have h0:(w.alloc (.cells us.toArray T f)).heap[w.heap.size]? = some (.cells us.toArray T f):=heap_alloc_new w _
 simp only [World.cell?,h0,Nat.zero_add]
 simpa using hj
theorem own_lit {g n k b:Nat} (h:(Value.slice (some ⟨g,0,none⟩) n k).ownBlock=some b):g<=b:=by
 obtain rfl:g=b:=by simpa [Value.ownBlock] using h
 exact Nat.le_refl _
section
variable {F Z:BS} {W w:World} {ts:List Th}
theorem dY.lit_nat (h:dY F Z W ts w) (x:Nat) (T:TypeId):dY F Z W (tRd dK (.slice (some ⟨w.heap.size,0,none⟩) 1 1) [x]::ts) (w.alloc (.cells #[.int .i64 (x:Int)] T)):=
 (h.addZ (T:=tRd dK (.slice (some ⟨w.heap.size,0,none⟩) 1 1) [x]) (aK w _) ⟨_,rd_lit w _ 1 1 [.int .i64 (x:Int)] T _ rfl rfl (by decide),Els.single (E:=dK) rfl,fun _ b hb=>own_lit hb⟩).front
theorem dY.lit_by (h:dY F Z W ts w) (bs:Byt) (f:Nat × Nat) (hn:bs.length<=1000):dY F Z W (tBy (.slice (some ⟨w.heap.size,0,none⟩) bs.length bs.length) bs::ts) (w.alloc (.cells (cu bs).toArray 5 f)):=
 (h.addZ (T:=tBy (.slice (some ⟨w.heap.size,0,none⟩) bs.length bs.length) bs) (aK w _) ⟨rd_lit w _ 1 bs.length (cu bs) _ _ rfl (by rw [cu_length];omega) hn,fun _ b hb=>own_lit hb⟩).front
theorem dY.lit_evt (h:dY F Z W ts w) (e:Evt) (j:Nat) {v:Value} (hj:ts[j]? = some (tBy v e.data)):dY F Z W (ts.set j (tRd eEvt (.slice (some ⟨w.heap.size,0,none⟩) 1 1) [e])) (w.alloc (.cells #[.int .i64 e.kind,.int .i64 e.cS,.int .i64 e.cls,v] 49)):=
 h.grow j hj fun G Y hby hd=>by
  have hby:ByZ w Y v e.data:=hby
  have hb:=aK w (.cells #[.int .i64 e.kind,.int .i64 e.cS,.int .i64 e.cls,v] 49)
  refine ⟨fun _=>False,fun k=>(Y k/\k < w.heap.size)\/w.heap.size<=k,fun _ f=>f.elim,fun _ h=>h,fun _ f=>f.elim,?_,(Fr.refl G w).alloc _⟩
  refine ⟨_,rd_lit w _ 4 1 [.int .i64 e.kind,.int .i64 e.cS,.int .i64 e.cls,v] _ _ rfl rfl (by decide),Els.single (E:=eEvt) ⟨v,rfl,(hby.stay (w':=w.alloc _) fun k _ hl=>hb.block k hl).mono fun k hk=>.inl hk⟩,fun _ b hb=>.inr (own_lit hb)⟩
end
theorem plain_c (i:Int) (a:Option Addr) (n k:Nat) (w:World):Calls Tryz.prog 22 #[.int .i64 i,.slice a n k] w fun e w'=>e=.returned (cfgV i a n k 4 4 9)/\Below w.heap.size w w':=by
 go_enter Tryz.func22,Tryz.ntmps22
 go_wp2_with fail
 obtain ⟨q0,q1,q2,q3,q4⟩:=aO (heap_alloc_new w (.cells #[.int .i64 i,.slice a n k,.int .i64 4,.int .i64 4,.int .i64 9] 24))
 exact bodyPost_ret (v:=cfgV i a n k 4 4 9) (by simp [results,Tryz.results22,go_sem,q0,q1,q2,q3,q4]) rfl ⟨rfl,aK w _⟩
def awkN:Nat->Lk
 |0=>awk
 |n+1=>(awkN n).step []
def awk1:Lk:=(awkN 4).step [⟨1,0,0,[97,98]⟩]
theorem awk_f:((awkN 4).acts [⟨1,0,0,[97,98]⟩]).1=[0]:=by decide +kernel
theorem awk_g:((awk1.step []).acts [⟨2,1,0,[]⟩]).1=[0]:=by decide +kernel
def awk3:Lk:=(awk1.step []).step [⟨2,1,0,[]⟩]
theorem awk3_eq:awk3=awk2:=rfl
theorem awk3_taken:clsOf (awk3.tak 1) 0=[[97,98]]:=by
 rw [awk3_eq]
 have:awk2.tak 1=awk2.r.cF:=rfl
 rw [this,awk_taken];rfl
theorem awk_full0:awk.Full 200 True:=
 newLk_full (a:=⟨5,[2],4,4,9⟩) (b:=⟨7,[2],4,4,9⟩) ⟨by decide,by decide,by decide,by decide,by decide,by decide,by decide,by decide,by decide,by decide,by decide⟩ ⟨by decide,by decide,by decide,by decide,by decide,by decide,by decide,by decide,by decide,by decide,by decide⟩ (by decide) (by decide) rfl rfl (by decide) (by decide)
theorem awkN_zero:awkN 0=awk:=rfl
theorem awkN_succ (n:Nat):awkN (n+1)=(awkN n).step []:=rfl
theorem awk_full:∀n,(awkN n).Full (200+13000*n) False
 |0=>by rw [awkN_zero];exact awk_full0.mono (Nat.le_refl _) False.elim
 |n+1=>by rw [awkN_succ];exact ((awk_full n).step (by omega) []).mono (by simp;omega) False.elim
theorem awk_short:∀n,(awkN n).Short
 |0=>by rw [awkN_zero];exact ⟨newLnd_short _ _ _ _ _ _ _,newLnd_short _ _ _ _ _ _ _⟩
 |n+1=>by rw [awkN_succ];exact (awk_short n).step (awk_full n) (by omega) []
theorem awake_c (w:World) (ht:Tabs w):Calls Tryz.prog 21 #[] w fun e w'=>e=.returned (.bool true)/\Below w.heap.size w w':=by
 have HT:=aQ ht
 clear ht
 have kc:=fun (w:World) (C:Array Value) (n c:Nat)=>Lib.run_convert_bytes_const (P:=Tryz.prog) w 42 5 C n c Tryz.underlying42 Tryz.underlying5
 have H0:=aQ (((dY.start0 (fun _=>False) (fun _=>False) (fun _ f=>f.elim) w).add (Below.refl _ _) (T:=tRd eFlt (.slice none 0 0) []) (RdS.nil _ _ _)).add (Below.refl _ _) (T:=tRd eEvt (.slice none 0 0) []) (RdS.nil _ _ _))
 go_enter Tryz.func21,Tryz.ntmps21
 go_wp2_with fail
 refine (plain_c 5 _ _ _ _).mono ?_
 rintro e w1 ⟨rfl,hb⟩
 have H1:=aQ ((H0.out.lit_nat 2 3).own hb)
 clear hb H0
 go_wp2_with fail
 refine (plain_c 7 _ _ _ _).mono ?_
 rintro e w2 ⟨rfl,hb⟩
 have H2:=aQ ((H1.out.lit_nat 2 3).own hb)
 clear hb H1
 go_wp2_with fail
 refine (newL_c ⟨5,[2],4,4,9⟩ ⟨7,[2],4,4,9⟩ ⟨by decide,by decide,by decide,by decide,by decide,by decide,by decide,by decide,by decide,by decide,by decide⟩ ⟨by decide,by decide,by decide,by decide,by decide,by decide,by decide,by decide,by decide,by decide,by decide⟩ 1 (by decide) (by decide) [] [] rfl rfl (by decide) (by decide) (some ⟨w.heap.size,0,none⟩) (some ⟨w1.heap.size,0,none⟩) 1 1 _ _ 1 0 2 2 rfl rfl rfl rfl H2.out).mono ?_
 rintro e w3 ⟨p,rfl,h3⟩
 have H3:=aQ (show dY (fun _=>False) (fun _=>False) w [bI p (awkN 0),tRd dK (.slice (some ⟨w1.heap.size,0,none⟩) 1 1) [2],tRd dK (.slice (some ⟨w.heap.size,0,none⟩) 1 1) [2],tRd eFlt (.slice none 0 0) [],tRd eEvt (.slice none 0 0) []] w3 from h3)
 have H4:=aQ (H3.out.pick [0,4] [bI p (awkN 0),tRd eEvt (.slice none 0 0) []] (by decide) rfl)
 clear h3 H2 H3
 go_wp2_with fail
 go_loopw [20] (fun i wr=>∃n:Nat,n<=4/\i=.int .i64 (n:Int)/\Hid (dY (fun _=>False) (fun _=>False) w [bI p (awkN n),tRd eEvt (.slice none 0 0) []] wr)) (fun i _=>4 - (intOf i).toNat)
 case atStart=>exact ⟨0,by decide,rfl,H4⟩
 case round=>
  clear H4
  obtain ⟨n,hn,rfl,HK⟩:=hrel
  by_cases hlt:n < 4
  ·go_wp2_with fail
   refine (tickL_c (awk_full n) (by omega) [] (by decide) (by simp;omega) (by simp) (.slice none 0 0) 0 rfl HT.out HK.out).mono ?_
   rintro e w4 ⟨a4,c4,rfl,h4⟩
   have H4:=aQ (show dY (fun _=>False) (fun _=>False) w [bI p (awkN (n+1)),tRd eEvt (.slice none 0 0) []] w4 from h4.tail)
   clear h4 HK
   go_wp2_with fail
   go_roundw
   case rel=>exact ⟨n+1,by omega,by go_num,H4⟩
   case measure=>simp [intOf];omega
  ·obtain rfl:n=4:=by omega
   go_wp2_with fail
   have HA:=aQ (show dY (fun _=>False) (fun _=>False) w [bI p (awkN 4),tRd eEvt (.slice (some ⟨wr.heap.size+1,0,none⟩) 1 1) [⟨1,0,0,[97,98]⟩],tRd eEvt (.slice none 0 0) []] ((wr.alloc (.cells #[.int .u8 97,.int .u8 98] 5 (2,3))).alloc (.cells #[.int .i64 1,.int .i64 0,.int .i64 0,.slice (some ⟨wr.heap.size,0,none⟩) 2 2] 49)) from by
    have h:=((HK.out.lit_by [97,98] (2,3) (by decide)).lit_evt ⟨1,0,0,[97,98]⟩ 0 rfl).pick [1,0,2] [bI p (awkN 4),tRd eEvt (.slice (some ⟨(wr.alloc (.cells #[.int .u8 97,.int .u8 98] 5 (2,3))).heap.size,0,none⟩) 1 1) [⟨1,0,0,[97,98]⟩],tRd eEvt (.slice none 0 0) []] (by decide) rfl
    rw [World.size_alloc] at h
    exact h)
   clear HK
   go_wp2_with fail
   refine (tickL_c (awk_full 4) (by omega) [⟨1,0,0,[97,98]⟩] (by decide) (by decide) (by simp) _ 0 rfl HT.out HA.out).mono ?_
   rintro e w4 ⟨a4,c4,rfl,h4⟩
   rw [awk_f] at h4 ⊢
   have H4:=aQ ((show dY (fun _=>False) (fun _=>False) w [tSq dK 32 (.slice a4 1 c4) [0],bI p awk1,tRd eEvt (.slice (some ⟨wr.heap.size+1,0,none⟩) 1 1) [⟨1,0,0,[97,98]⟩],tRd eEvt (.slice none 0 0) []] w4 from h4).pick [1,3,0] [bI p awk1,tRd eEvt (.slice none 0 0) [],tSq dK 32 (.slice a4 1 c4) [0]] (by decide) rfl)
   have HF1:=aQ (show awk1.Full 100000 False from ((awk_full 4).step (by omega) [⟨1,0,0,[97,98]⟩]).mono (by simp) False.elim)
   have HS1:=aQ (show awk1.Short from (awk_short 4).step (awk_full 4) (by omega) _)
   rw [show [0].length=1 from rfl]
   clear h4 HA
   go_wp2_with fail
   refine (tickL_c HF1.out (by omega) [] (by decide) (by simp) (by simp) (.slice none 0 0) 0 rfl HT.out H4.out).mono ?_
   rintro e w5 ⟨a5,c5,rfl,h5⟩
   have H5:=aQ (((show dY (fun _=>False) (fun _=>False) w [bI p (awk1.step []),tRd eEvt (.slice none 0 0) [],tSq dK 32 (.slice a4 1 c4) [0]] w5 from h5.tail).add (Below.refl _ _) (T:=tBy (.slice none 0 0) []) (ByZ.nil _ _)).front)
   have HF2:=aQ (show (awk1.step []).Full 200000 False from (HF1.out.step (by omega) []).mono (by simp) False.elim)
   have HS2:=aQ (HS1.out.step HF1.out (by omega) [])
   clear h5 H4
   go_wp2_with fail
   have H6:=aQ ((H5.out.lit_evt ⟨2,1,0,[]⟩ 0 rfl).pick [1,0,3] [bI p (awk1.step []),tRd eEvt (.slice (some ⟨w5.heap.size,0,none⟩) 1 1) [⟨2,1,0,[]⟩],tSq dK 32 (.slice a4 1 c4) [0]] (by decide) rfl)
   clear H5
   refine (tickL_c HF2.out (by omega) [⟨2,1,0,[]⟩] (by decide) (by simp) (by simp) _ 0 rfl HT.out H6.out).mono ?_
   rintro e w6 ⟨a6,c6,rfl,h6⟩
   rw [awk_g] at h6 ⊢
   have H7:=aQ ((show dY (fun _=>False) (fun _=>False) w [tSq dK 32 (.slice a6 1 c6) [0],bI p awk3,tRd eEvt (.slice (some ⟨w5.heap.size,0,none⟩) 1 1) [⟨2,1,0,[]⟩],tSq dK 32 (.slice a4 1 c4) [0]] w6 from h6).pick [1,0,3] [bI p awk3,tSq dK 32 (.slice a6 1 c6) [0],tSq dK 32 (.slice a4 1 c4) [0]] (by decide) rfl)
   have HF3:=aQ (show awk3.Full 300000 False from (HF2.out.step (by omega) [⟨2,1,0,[]⟩]).mono (by simp) False.elim)
   have HS3:=aQ (show awk3.Short from HS2.out.step HF2.out (by omega) [⟨2,1,0,[]⟩])
   rw [show [0].length=1 from rfl]
   clear h6 H6
   go_wp2_with fail
   refine (taken_c HF3.out HS3.out (by omega) 1 0 H7.out).mono ?_
   rintro e w7 ⟨a7,c7,rfl,h7⟩
   rw [awk3_taken] at h7 ⊢
   obtain ⟨_,_,r1⟩:=h7.get 2 rfl
   obtain ⟨_,_,r2⟩:=h7.get 3 rfl
   obtain ⟨b1,o1,rfl,k1⟩:=nat_at (show Sq dK 32 w7 _ _ (.slice a6 1 c6) [0] from r1) (i:=0) (x:=0) rfl
   obtain ⟨b2,o2,rfl,k2⟩:=nat_at (show Sq dK 32 w7 _ _ (.slice a4 1 c4) [0] from r2) (i:=0) (x:=0) rfl
   obtain ⟨b3,o3,k3,v3,e3,m3,k4,hby⟩:=h7.bb_at 0 rfl (c:=0) (xs:=[97,98]) rfl
   obtain ⟨rfl,rfl⟩:a7=some ⟨b3,o3,none⟩/\c7=k3:=by simpa using e3
   rw [show ([[97,98]]:List Byt).length=1 from rfl]
   have HB:=aQ h7.below
   have hstr:=run_str8 (P:=Tryz.prog) (dst := 9) Tryz.underlying42 Tryz.underlying5 Tryz.underlying9 hby
   rw [show str8 [97,98]=⟨#[97,98]⟩ by decide +kernel] at hstr
   obtain ⟨va,vc,rfl⟩:=hby.slice
   clear h7 hby r1 r2 e3 H7
   simp only [Nat.add_zero] at k1 k2 k4
   rw [show ([97,98]:Byt).length=2 from rfl] at hstr k4
   have hse:((⟨#[97,98]⟩:ByteArray).toList == (⟨#[97,98]⟩:ByteArray).toList)=true:=by simp
   go_wp2_with fail
   go_ret
   exact ⟨rfl,HB.out⟩
end

section
open Go.RowKit
set_option maxRecDepth 100000
def V8 (i d:Int):Prop:=1<=i/\i<=1099511627775/\1<=d/\d<=1000
instance (i d:Int):Decidable (V8 i d):=by unfold V8;infer_instance
def V7 (aZ:List Int):Prop:=1<=aZ.length/\aZ.length<=4/\∀x ∈ aZ,1<=x/\x<=64
instance (l:List Int):Decidable (V7 l):=by unfold V7;infer_instance
def V11 (i:Int) (aZ:List Int) (wi ti de:Int):Prop:=V8 i de/\V7 aZ/\1<=wi/\wi<=128/\1<=ti/\ti<=1000
instance (i:Int) (l:List Int) (a b c:Int):Decidable (V11 i l a b c):=by unfold V11;infer_instance
theorem V11.ok {i:Int} {l:List Int} {a b c:Int} (h:V11 i l a b c):CfgOk i l a b c:=by
 obtain ⟨⟨h1,h2,h3,h4⟩,⟨h5,h6,h7⟩,h8,h9,h10,h11⟩:=h
 exact ⟨h5,h6,h7,h1,h2,h8,h9,h10,h11,h3,h4⟩
theorem V11.of {i:Int} {l:List Int} {a b c:Int} (h:CfgOk i l a b c):V11 i l a b c:=⟨⟨h.i1,h.i2,h.d1,h.d2⟩,⟨h.n1,h.n4,h.rm⟩,h.w1,h.w2,h.t1,h.t2⟩
theorem valid08_c (i d:Int) (w:World):Calls Tryz.prog 54 #[.int .i64 i,.int .i64 d] w fun e w'=>e=.returned (.bool (decide (V8 i d)))/\w=w':=by
 have hc:i < 1\/(1<=i/\1099511627776<=i)\/(1<=i/\i < 1099511627776/\d < 1)\/(1<=i/\i < 1099511627776/\1<=d/\1000 < d)\/(1<=i/\i < 1099511627776/\1<=d/\d<=1000):=by omega
 rcases hc with h1|⟨h1,h2⟩|⟨h1,h2,h3⟩|⟨h1,h2,h3,h4⟩|⟨h1,h2,h3,h4⟩
 iterate 3
  focus
   have HD:=aQ (show decide (V8 i d)=false from decide_eq_false (by unfold V8;omega))
   go_enter Tryz.func54,Tryz.ntmps54
   go_wp2_with fail
   go_ret
   exact ⟨by rw [HD.out];rfl,rfl⟩
 focus
  have HD:=aQ (show decide (V8 i d)=false from decide_eq_false (by unfold V8;omega))
  have HE:=aQ (show decide (d<=1000)=false from decide_eq_false (by omega))
  go_enter Tryz.func54,Tryz.ntmps54
  go_wp2_with fail
  go_ret
  exact ⟨by rw [HD.out,HE.out];rfl,rfl⟩
 have HD:=aQ (show decide (V8 i d)=true from decide_eq_true (by unfold V8;omega))
 go_enter Tryz.func54,Tryz.ntmps54
 go_wp2_with fail
 go_ret
 exact ⟨by rw [HD.out];rfl,rfl⟩
theorem rooms07_c {aZ:List Int} {ra:Option Addr} {rc:Nat} (w:World) (hl:aZ.length<=9223372036854775807) (hr:Nums w ra aZ) :
  Calls Tryz.prog 55 #[.slice ra aZ.length rc] w fun e w'=>e=.returned (.bool (decide (V7 aZ)))/\w=w':=by
 by_cases hn:aZ.length < 1\/(1<=aZ.length/\4 < aZ.length)
 ·have HD:=aQ (show decide (V7 aZ)=false from decide_eq_false fun h=>by have:=h.1;have:=h.2.1;omega)
  clear hr
  rcases hn with h1|⟨h1,h2⟩
  all_goals
   go_enter Tryz.func55,Tryz.ntmps55
   go_wp2_with fail
   go_ret
   exact ⟨by rw [HD.out];rfl,rfl⟩
 ·have n1:1<=aZ.length:=by omega
  have n4:aZ.length<=4:=by omega
  have HR:=aQ hr
  clear hr hn
  go_enter Tryz.func55,Tryz.ntmps55
  go_wp2_with fail
  go_loop [3] (fun i=>∃k:Nat,k<=aZ.length/\i=.int .i64 (k:Int)/\Hid (∀x ∈ aZ.take k,1<=x/\x<=64)) (fun i=>aZ.length - (intOf i).toNat)
  case atStart=>exact ⟨0,Nat.zero_le _,rfl,aQ (by simp)⟩
  case round=>
   obtain ⟨k,hk,rfl,HK⟩:=hrel
   by_cases hlt:k < aZ.length
   ·have hx:aZ[k]? = some (aZ.getD k 0):=bT hlt
    obtain ⟨b,o,e,hc⟩:=HR.out k _ hx
    subst e
    have HM:=aQ (List.mem_of_getElem? hx)
    have HS:=aQ (show aZ.take (k+1)=aZ.take k++[aZ.getD k 0] by rw [List.take_add_one,hx];rfl)
    generalize aZ.getD k 0=x at *
    clear hx
    have hcc:x < 1\/(1<=x/\64 < x)\/(1<=x/\x<=64):=by omega
    rcases hcc with q|⟨q,q2⟩|⟨q,q2⟩
    iterate 2
     focus
      have HD:=aQ (show decide (V7 aZ)=false from decide_eq_false fun h=>by have:=h.2.2 x HM.out;omega)
      go_wp2_with fail
      go_ret
      exact ⟨by rw [HD.out];rfl,rfl⟩
    go_wp2_with fail
    go_round
    case rel=>exact ⟨k+1,by omega,by go_num,aQ (by
     rw [HS.out]
     intro y hy
     rcases List.mem_append.1 hy with hy|hy
     ·exact HK.out y hy
     ·obtain rfl:=List.mem_singleton.1 hy;exact ⟨q,q2⟩)⟩
    case measure=>simp [intOf];omega
   ·obtain rfl:aZ.length=k:=by omega
    have HD:=aQ (show decide (V7 aZ)=true from decide_eq_true ⟨n1,n4,by have:=HK.out;rwa [List.take_length] at this⟩)
    go_wp2_with fail
    go_ret
    exact ⟨by rw [HD.out];rfl,rfl⟩
theorem valid11_c {inc wi ti de:Int} {aZ:List Int} {ra:Option Addr} {rc:Nat} (w:World) (hl:aZ.length<=9223372036854775807) (hr:Nums w ra aZ) :
  Calls Tryz.prog 26 #[cfgV inc ra aZ.length rc wi ti de] w fun e w'=>e=.returned (.bool (decide (V11 inc aZ wi ti de)))/\Below w.heap.size w w':=by
 have hrow:=heap_alloc_new w (.cells #[.int .i64 inc,.slice ra aZ.length rc,.int .i64 wi,.int .i64 ti,.int .i64 de] 61)
 have HR:=aQ (rooms07_c (rc:=rc) (w.alloc (.cells #[.int .i64 inc,.slice ra aZ.length rc,.int .i64 wi,.int .i64 ti,.int .i64 de] 61)) hl (hr.below (aK w _)))
 have HB:=aQ (aK w (.cells #[.int .i64 inc,.slice ra aZ.length rc,.int .i64 wi,.int .i64 ti,.int .i64 de] 61))
 clear hr
 obtain ⟨c0,c1,c2,c3,c4⟩:=aO hrow
 clear hrow
 have hcc:¬V8 inc de\/(V8 inc de/\¬V7 aZ)\/(V8 inc de/\V7 aZ/\wi < 1)\/(V8 inc de/\V7 aZ/\1<=wi/\128 < wi)\/(V8 inc de/\V7 aZ/\1<=wi/\wi<=128/\ti < 1)\/(V8 inc de/\V7 aZ/\1<=wi/\wi<=128/\1<=ti/\1000 < ti)\/(V8 inc de/\V7 aZ/\1<=wi/\wi<=128/\1<=ti/\ti<=1000):=by
  by_cases a:V8 inc de
  ·by_cases b:V7 aZ
   ·have:wi < 1\/(1<=wi/\128 < wi)\/(1<=wi/\wi<=128/\ti < 1)\/(1<=wi/\wi<=128/\1<=ti/\1000 < ti)\/(1<=wi/\wi<=128/\1<=ti/\ti<=1000):=by omega
    rcases this with h|h|h|h|h
    ·exact .inr (.inr (.inl ⟨a,b,h⟩))
    ·exact .inr (.inr (.inr (.inl ⟨a,b,h⟩)))
    ·exact .inr (.inr (.inr (.inr (.inl ⟨a,b,h⟩))))
    ·exact .inr (.inr (.inr (.inr (.inr (.inl ⟨a,b,h⟩)))))
    ·exact .inr (.inr (.inr (.inr (.inr (.inr ⟨a,b,h⟩)))))
   ·exact .inr (.inl ⟨a,b⟩)
  ·exact .inl a
 have HV8:=aQ (valid08_c inc de (w.alloc (.cells #[.int .i64 inc,.slice ra aZ.length rc,.int .i64 wi,.int .i64 ti,.int .i64 de] 61)))
 have HD:Hid (∀(h:¬V11 inc aZ wi ti de),decide (V11 inc aZ wi ti de)=false):=aQ fun h=>decide_eq_false h
 rcases hcc with h8|⟨h8,h7⟩|⟨h8,h7,h1⟩|⟨h8,h7,h1,h2⟩|⟨h8,h7,h1,h2,h3⟩|⟨h8,h7,h1,h2,h3,h4⟩|⟨h8,h7,h1,h2,h3,h4⟩
 focus
  rw [decide_eq_false (fun (h:V11 inc aZ wi ti de)=>h8 h.1)]
  rw [decide_eq_false h8] at HV8
  clear h8 HD HR
  go_enter Tryz.func26,Tryz.ntmps26
  go_wp2_with (go_at_call 54;refine HV8.out.mono ?_;rintro e w1 ⟨rfl,rfl⟩)
  go_ret
  exact ⟨rfl,HB.out⟩
 focus
  rw [decide_eq_false (fun (h:V11 inc aZ wi ti de)=>h7 h.2.1)]
  rw [decide_eq_true h8] at HV8
  rw [decide_eq_false h7] at HR
  clear h8 h7 HD
  go_enter Tryz.func26,Tryz.ntmps26
  go_wp2_with (first|(go_at_call 54;refine HV8.out.mono ?_;rintro e w1 ⟨rfl,rfl⟩)|(go_at_call 55;refine HR.out.mono ?_;rintro e w1 ⟨rfl,rfl⟩))
  go_ret
  exact ⟨rfl,HB.out⟩
 iterate 4
  focus
   rw [decide_eq_false (fun (h:V11 inc aZ wi ti de)=>by have:=h.2.2;omega)]
   rw [decide_eq_true h8] at HV8
   rw [decide_eq_true h7] at HR
   have HE:Hid (1000 < ti->decide (ti<=1000)=false):=aQ fun _=>decide_eq_false (by omega)
   clear h8 h7 HD
   go_enter Tryz.func26,Tryz.ntmps26
   go_wp2_with (first|(go_at_call 54;refine HV8.out.mono ?_;rintro e w1 ⟨rfl,rfl⟩)|(go_at_call 55;refine HR.out.mono ?_;rintro e w1 ⟨rfl,rfl⟩))
   go_ret
   first
    |exact ⟨rfl,HB.out⟩
    |exact ⟨by rw [HE.out h4];rfl,HB.out⟩
 rw [decide_eq_true (show V11 inc aZ wi ti de from ⟨h8,h7,h1,h2,h3,h4⟩)]
 rw [decide_eq_true h8] at HV8
 rw [decide_eq_true h7] at HR
 clear h8 h7 HD
 go_enter Tryz.func26,Tryz.ntmps26
 go_wp2_with (first|(go_at_call 54;refine HV8.out.mono ?_;rintro e w1 ⟨rfl,rfl⟩)|(go_at_call 55;refine HR.out.mono ?_;rintro e w1 ⟨rfl,rfl⟩))
 go_ret
 exact ⟨rfl,HB.out⟩
end

section
open Go.RowKit Go.ChangeShapes Go.WideShapes Go.ChangeAt
set_option maxRecDepth 100000
structure RCfg where
 inc:Int
 aZ:List Int
 w:Int
 t:Int
 d:Int
structure RSet where
 a:RCfg
 b:RCfg
 cB:Int
 there:List Flt
 back:List Flt
def rCfg:R RCfg:=rMap (rPair (rInt .i64) (rPair (rSlice (rInt .i64)) (rPair (rInt .i64) (rPair (rInt .i64) (rInt .i64))))) fun x=>⟨x.1,x.2.1,x.2.2.1,x.2.2.2.1,x.2.2.2.2⟩
def rSet:R RSet:=rMap (rPair rCfg (rPair rCfg (rPair (rInt .i64) (rPair (rSlice rFlt) (rSlice rFlt))))) fun x=>⟨x.1,x.2.1,x.2.2.1,x.2.2.2.1,x.2.2.2.2⟩
theorem opensInts {H:Type} {enc:TypeId × Value->H} {W:World}:Opens enc Tryz.prog W 22 (rSlice (rInt .i64)):=
 opens_slice Tryz.underlying22 (by kernel_rfl) (cN Tryz.underlying3 (by kernel_rfl)) (by decide)
theorem opensCfg {H:Type} {enc:TypeId × Value->H} {W:World}:Opens enc Tryz.prog W 24 rCfg:=
 opens_map (opens_struct Tryz.underlying24 (by kernel_rfl)
  (.cons (cN Tryz.underlying3 (by kernel_rfl)) rfl (.cons opensInts rfl (.cons (cN Tryz.underlying3 (by kernel_rfl)) rfl (.cons (cN Tryz.underlying3 (by kernel_rfl)) rfl (.one (cN Tryz.underlying3 (by kernel_rfl)) rfl)))))) _
theorem opensSet {H:Type} {enc:TypeId × Value->H} {W:World}:Opens enc Tryz.prog W 59 rSet:=
 opens_map (opens_struct Tryz.underlying59 (by kernel_rfl)
  (.cons opensCfg rfl (.cons opensCfg rfl (.cons (cN Tryz.underlying3 (by kernel_rfl)) rfl (.cons opensFlts rfl (.one opensFlts rfl)))))) _
abbrev setV (s:RSet) (aa:Option Addr) (ak:Nat) (ba:Option Addr) (bk:Nat) (ta:Option Addr) (tk:Nat) (ya:Option Addr) (yk:Nat):Value:=
 .agg #[.int .i64 s.a.inc,.slice aa s.a.aZ.length ak,.int .i64 s.a.w,.int .i64 s.a.t,.int .i64 s.a.d,.int .i64 s.b.inc,.slice ba s.b.aZ.length bk,.int .i64 s.b.w,.int .i64 s.b.t,.int .i64 s.b.d,
  .int .i64 s.cB,.slice ta s.there.length tk,.slice ya s.back.length yk]
def IsSet (W:World) (v:Value):Prop:=∃(s:RSet) (aa:Option Addr) (ak:Nat) (ba:Option Addr) (bk:Nat) (ta:Option Addr) (tk:Nat) (ya:Option Addr) (yk:Nat),v=setV s aa ak ba bk ta tk ya yk /\
 RdS (eInt .i64) W (Old W) (.slice aa s.a.aZ.length ak) s.a.aZ/\RdS (eInt .i64) W (Old W) (.slice ba s.b.aZ.length bk) s.b.aZ/\RdS eFlt W (Old W) (.slice ta s.there.length tk) s.there/\RdS eFlt W (Old W) (.slice ya s.back.length yk) s.back
theorem ints_of {W:World} {v:Value} {l:List Int} (h:(rSlice (rInt .i64)).rd W [v] l):RdS (eInt .i64) W (Old W) v l:=rdS_of (r:=rInt .i64) (E:=eInt .i64) rfl (by decide) (fun cs a h=>show cs=[.int .i64 a] from h.1) h
theorem isSet_of {W:World} {cs:Array Value} (h:IsR rSet W (.agg cs)):IsSet W (.agg cs):=by
 obtain ⟨s,⟨⟨a,b,d,th,bk⟩,⟨_,_,h1,ha,_,_,rfl,hb,c3,_,rfl,⟨rfl,_⟩,c4,c5,rfl,ht,hy⟩,rfl⟩⟩:=h
 obtain ⟨⟨i1,r1,w1,t1,d1⟩,⟨_,_,rfl,⟨rfl,_⟩,e2,_,rfl,hr1,_,_,rfl,⟨rfl,_⟩,_,_,rfl,⟨rfl,_⟩,rfl,_⟩,rfl⟩:=ha
 obtain ⟨⟨i2,r2,w2,t2,d2⟩,⟨_,_,rfl,⟨rfl,_⟩,e3,_,rfl,hr2,_,_,rfl,⟨rfl,_⟩,_,_,rfl,⟨rfl,_⟩,rfl,_⟩,rfl⟩:=hb
 obtain ⟨aa,ak,rfl,_⟩:=id hr1
 obtain ⟨ba,bk',rfl,_⟩:=id hr2
 obtain ⟨ta,tk,rfl,_⟩:=id ht
 obtain ⟨ya,yk,rfl,_⟩:=id hy
 refine ⟨⟨⟨i1,r1,w1,t1,d1⟩,⟨i2,r2,w2,t2,d2⟩,d,th,bk⟩,aa,ak,ba,bk',ta,tk,ya,yk,?_,ints_of hr1,ints_of hr2,flts_of ht,flts_of hy⟩
 congr 1
 apply Array.ext'
 exact h1
theorem open_isSet {H:Type} {enc:TypeId × Value->H} {W:World} {v:Value} {d:DataW H} {ps:List MemPlace} {q:Reach} {base:Nat} (hval:Value.okWide Tryz.prog W q base 59 v) (hd:DataW.Trod enc Tryz.prog W 0 (fun _=>true) true 59 v d ps):IsSet W v:=by
 obtain ⟨cs,rfl,_⟩:=okWide_struct Tryz.underlying59 hval
 exact isSet_of (open_isR opensSet hd)
def rEvt:R Evt:=rMap (rPair (rInt .i64) (rPair (rInt .i64) (rPair (rInt .i64) rBytes))) fun a=>⟨a.1,a.2.1,a.2.2.1,a.2.2.2⟩
theorem eEvt_of {W:World} {cs:List Value} {e:Evt} (h:rEvt.rd W cs e):eEvt.rd W (fun _=>False) (Old W) cs e:=by
 obtain ⟨⟨k,s,c,d⟩,⟨_,_,rfl,⟨rfl,_⟩,_,_,rfl,⟨rfl,_⟩,_,_,rfl,⟨rfl,_⟩,v,rfl,h3⟩,rfl⟩:=h
 exact ⟨v,rfl,byZ_of h3⟩
theorem opensEvt {H:Type} {enc:TypeId × Value->H} {W:World}:Opens enc Tryz.prog W 49 rEvt:=
 opens_map (opens_struct Tryz.underlying49 (by kernel_rfl)
  (.cons (cN Tryz.underlying3 (by kernel_rfl)) rfl (.cons (cN Tryz.underlying3 (by kernel_rfl)) rfl (.cons (cN Tryz.underlying3 (by kernel_rfl)) rfl
   (.one (opens_bytes Tryz.underlying42 (by kernel_rfl) Tryz.underlying5 (by kernel_rfl)) rfl))))) _
theorem opensEvts {H:Type} {enc:TypeId × Value->H} {W:World}:Opens enc Tryz.prog W 46 (rSlice rEvt):=
 opens_slice Tryz.underlying46 (by kernel_rfl) opensEvt (by decide)
theorem opensEvtss {H:Type} {enc:TypeId × Value->H} {W:World}:Opens enc Tryz.prog W 64 (rSlice (rSlice rEvt)):=
 opens_slice Tryz.underlying64 (by kernel_rfl) opensEvts (by decide)
theorem eRdEvt_of {W:World} {cs:List Value} {l:List Evt} (h:(rSlice rEvt).rd W cs l):(eRd eEvt).rd W (fun _=>False) (Old W) cs l:=by
 obtain ⟨a,c,rfl,_⟩:=id h
 exact ⟨_,rfl,rdS_of rfl (by decide) (fun _ _ h=>eEvt_of h) h⟩
theorem evtss_of {W:World} {v:Value} {l:List (List Evt)} (h:(rSlice (rSlice rEvt)).rd W [v] l):RdS (eRd eEvt) W (Old W) v l:=rdS_of rfl (by decide) (fun _ _ h=>eRdEvt_of h) h
theorem evts_at {w:World} {Z:BS} {a:Option Addr} {n c:Nat} {l:List (List Evt)} (h:RdS (eRd eEvt) w Z (.slice a n c) l) {j:Nat} {es:List Evt} (hj:l[j]? = some es) :
  ∃b off ea ec,a=some ⟨b,off,none⟩/\w.cell? ⟨b,off+j,none⟩=some (.slice ea es.length ec)/\RdS eEvt w Z (.slice ea es.length ec) es:=by
 obtain ⟨b,off,cs,e,hb,⟨v,rfl,hv⟩,hc⟩:=h.at (by decide) hj
 obtain ⟨ea,ec,rfl,_,_⟩:=hv.shape
 have:=hc 0 _ rfl
 rw [show off+j*(eRd eEvt).size+0=off+j by show off+j*1+0=_;omega] at this
 exact ⟨b,off,ea,ec,e,this,hv⟩
end

section
open Go.RowKit
def prevAt (fs:List Flt) (i:Nat):Int:=if i=0 then -1 else match fs[i - 1]? with|some f=>f.at'|none => -1
set_option maxRecDepth 100000 in
theorem c_valid_any (w:World) (Z:BS) (v:Value) (fs:List Flt) (h:RdS eFlt w Z v fs) (hl:fs.length<=9223372036854775807) :
  Calls Tryz.prog 27 #[v] w fun e w'=>e=.returned (.bool (okF (-1) fs))/\Below w.heap.size w w':=by
 obtain ⟨a,c,rfl,hc1,hc2⟩:=h.shape
 have H:=aQ h
 clear h
 go_enter Tryz.func27,Tryz.ntmps27
 go_wp2_with fail
 go_loopw [3] (fun i wr=>∃j:Nat,j<=fs.length/\i=.int .i64 j/\Hid (okF (prevAt fs j) (fs.drop j)=okF (-1) fs /\ -1<=prevAt fs j)/\Hid (Below w.heap.size w wr)) (fun i _=>fs.length - (intOf i).toNat)
 case atStart=>exact ⟨0,by omega,rfl,aQ ⟨rfl,Int.le_refl _⟩,aQ (Below.refl _ _)⟩
 case round=>
  obtain ⟨j,hj,rfl,HP,HB⟩:=hrel
  have hz:=HB.out.size
  by_cases hlt:j < fs.length
  ·obtain ⟨f,hf⟩:∃f,fs[j]? = some f:=⟨fs[j],List.getElem?_eq_getElem hlt⟩
   obtain ⟨b,off,rfl,c0,c1,c2,w0,w1,w2⟩:=flt_at (H.out.below HB.out) hf
   have hd:fs.drop j=f::fs.drop (j+1):=by
    have:=List.getElem?_eq_getElem hlt
    rw [this] at hf
    obtain rfl:=Option.some.inj hf
    exact List.drop_eq_getElem_cons hlt
   have hn:prevAt fs (j+1)=f.at':=by unfold prevAt;rw [if_neg (by omega),Nat.add_sub_cancel,hf]
   have HOK:Hid (okF (-1) fs=(decide (prevAt fs j < f.at') && decide (1<=f.kind) && decide (f.kind<=3) && decide (0<=f.arg) && okF f.at' (fs.drop (j+1)))):=aQ (by rw [<-HP.out.1,hd];rfl)
   have HN:=aQ hn
   have hpv:j=0->prevAt fs j = -1:=fun e=>by unfold prevAt;rw [if_pos e]
   have hge:=HP.out.2
   obtain ⟨g,hg⟩:∃g:Flt,0 < j->fs[j - 1]? = some g/\prevAt fs j=g.at':=by
    by_cases h0:0 < j
    ·exact ⟨fs[j - 1],fun _=>⟨List.getElem?_eq_getElem (by omega),by unfold prevAt;rw [if_neg (by omega),List.getElem?_eq_getElem (by omega)]⟩⟩
    ·exact ⟨f,fun h=>absurd h h0⟩
   clear hn hd HP
   have HG:=aQ hg;have HPV:=aQ hpv
   clear hg hpv hf
   have hcase:f.at' < 0\/(0<=f.at'/\f.kind < 1)\/(0<=f.at'/\1<=f.kind/\3 < f.kind)\/(0<=f.at'/\1<=f.kind/\f.kind<=3/\f.arg < 0)\/(0<=f.at'/\1<=f.kind/\f.kind<=3/\0<=f.arg/\j < 1)\/(0<=f.at'/\1<=f.kind/\f.kind<=3/\0<=f.arg/\0 < j/\f.at'<=g.at')\/(0<=f.at'/\1<=f.kind/\f.kind<=3/\0<=f.arg/\0 < j/\g.at' < f.at'):=by omega
   rcases hcase with q1|⟨q1,q2⟩|⟨q1,q2,q3⟩|⟨q1,q2,q3,q4⟩|⟨q1,q2,q3,q4,q5⟩|⟨q1,q2,q3,q4,q5,q6⟩|⟨q1,q2,q3,q4,q5,q6⟩
   ·skip
    have t0:decide (f.at' < 0)=true:=by simp <;> omega
    have HBAD:Hid (okF (-1) fs=false):=aQ (by
     rw [HOK.out]
     have:¬prevAt fs j < f.at':=by omega
     simp [this])
    go_wp2_with fail
    go_quiet (fail)
    go_wp2_with fail
    go_ret
    exact ⟨by rw [HBAD.out];rfl,HB.out.trans ((bS _ _).mono hz)⟩
   ·skip
    have t0:decide (f.at' < 0)=false:=by simp <;> omega
    have t1:decide (f.kind < 1)=true:=by simp <;> omega
    have HBAD:Hid (okF (-1) fs=false):=aQ (by
     rw [HOK.out]
     have:¬ 1<=f.kind:=by omega
     simp [this])
    go_wp2_with fail
    go_quiet (fail)
    go_wp2_with fail
    go_ret
    exact ⟨by rw [HBAD.out];rfl,HB.out.trans ((bS _ _).mono hz)⟩
   ·skip
    have t0:decide (f.at' < 0)=false:=by simp <;> omega
    have t1:decide (f.kind < 1)=false:=by simp <;> omega
    have t2:decide (3 < f.kind)=true:=by simp <;> omega
    have HBAD:Hid (okF (-1) fs=false):=aQ (by
     rw [HOK.out]
     have:¬f.kind<=3:=by omega
     simp [this])
    go_wp2_with fail
    go_quiet (fail)
    go_wp2_with fail
    go_ret
    exact ⟨by rw [HBAD.out];rfl,HB.out.trans ((bS _ _).mono hz)⟩
   ·skip
    have t0:decide (f.at' < 0)=false:=by simp <;> omega
    have t1:decide (f.kind < 1)=false:=by simp <;> omega
    have t2:decide (3 < f.kind)=false:=by simp <;> omega
    have t3:decide (f.arg < 0)=true:=by simp <;> omega
    have HBAD:Hid (okF (-1) fs=false):=aQ (by
     rw [HOK.out]
     have:¬ 0<=f.arg:=by omega
     simp [this])
    go_wp2_with fail
    go_quiet (fail)
    go_wp2_with fail
    go_ret
    exact ⟨by rw [HBAD.out];rfl,HB.out.trans ((bS _ _).mono hz)⟩
   ·have hp0:prevAt fs j < f.at':=by rw [HPV.out (by omega)];omega
    have HP0:=aQ hp0;clear hp0
    have t0:decide (f.at' < 0)=false:=by simp <;> omega
    have t1:decide (f.kind < 1)=false:=by simp <;> omega
    have t2:decide (3 < f.kind)=false:=by simp <;> omega
    have t3:decide (f.arg < 0)=false:=by simp <;> omega
    have t4:decide (0 < (j:Int))=false:=by simp <;> omega
    have t5:decide (0 < j)=false:=by simp <;> omega
    have HGOOD:Hid (okF (prevAt fs (j+1)) (fs.drop (j+1))=okF (-1) fs /\ -1<=prevAt fs (j+1)):=aQ (by
     rw [HN.out,HOK.out]
     refine ⟨?_,by omega⟩
     have:=HP0.out
     simp [this,q2,q3,q4])
    go_wp2_with fail
    go_quiet (fail)
    go_wp2_with fail
    go_roundw
    case rel=>exact ⟨j+1,by omega,by go_num,HGOOD,aQ (HB.out.trans ((bS _ _).mono hz))⟩
    case measure=>simp [intOf];omega
   ·obtain ⟨g1,g2⟩:=HG.out q5
    obtain ⟨b',off',e',d0,_⟩:=flt_at (H.out.below HB.out) g1
    obtain ⟨rfl,rfl⟩:b=b'/\off=off':=by simpa using e'
    have G2:=aQ g2
    have hjm:IntKind.i64.wrap ((j:Int) - 1)=((j - 1:Nat):Int):=by rw [IntWalk.i64_in _ (by omega)];omega
    clear g1 g2 e'
    have t0:decide (f.at' < 0)=false:=by simp <;> omega
    have t1:decide (f.kind < 1)=false:=by simp <;> omega
    have t2:decide (3 < f.kind)=false:=by simp <;> omega
    have t3:decide (f.arg < 0)=false:=by simp <;> omega
    have t4:decide (0 < (j:Int))=true:=by simp <;> omega
    have t5:decide (0 < j)=true:=by simp <;> omega
    have t6:decide (f.at'<=g.at')=true:=by simp <;> omega
    have HBAD:Hid (okF (-1) fs=false):=aQ (by
     rw [HOK.out]
     have:¬prevAt fs j < f.at':=by rw [G2.out];omega
     simp [this])
    go_wp2_with fail
    go_quiet (fail)
    go_wp2_with fail
    go_ret
    exact ⟨by rw [HBAD.out];rfl,HB.out.trans ((bS _ _).mono hz)⟩
   ·obtain ⟨g1,g2⟩:=HG.out q5
    obtain ⟨b',off',e',d0,_⟩:=flt_at (H.out.below HB.out) g1
    obtain ⟨rfl,rfl⟩:b=b'/\off=off':=by simpa using e'
    have G2:=aQ g2
    have hjm:IntKind.i64.wrap ((j:Int) - 1)=((j - 1:Nat):Int):=by rw [IntWalk.i64_in _ (by omega)];omega
    clear g1 g2 e'
    have t0:decide (f.at' < 0)=false:=by simp <;> omega
    have t1:decide (f.kind < 1)=false:=by simp <;> omega
    have t2:decide (3 < f.kind)=false:=by simp <;> omega
    have t3:decide (f.arg < 0)=false:=by simp <;> omega
    have t4:decide (0 < (j:Int))=true:=by simp <;> omega
    have t5:decide (0 < j)=true:=by simp <;> omega
    have t6:decide (f.at'<=g.at')=false:=by simp <;> omega
    have HGOOD:Hid (okF (prevAt fs (j+1)) (fs.drop (j+1))=okF (-1) fs /\ -1<=prevAt fs (j+1)):=aQ (by
     rw [HN.out,HOK.out]
     refine ⟨?_,by omega⟩
     have:prevAt fs j < f.at':=by rw [G2.out];omega
     simp [this,q2,q3,q4])
    go_wp2_with fail
    go_quiet (fail)
    go_wp2_with fail
    go_roundw
    case rel=>exact ⟨j+1,by omega,by go_num,HGOOD,aQ (HB.out.trans ((bS _ _).mono hz))⟩
    case measure=>simp [intOf];omega
  ·have HP2:=aQ (show okF (-1) fs=true by rw [<-HP.out.1,List.drop_of_length_le (by omega)];rfl)
   clear HP
   go_wp2_with fail
   go_ret
   exact ⟨by rw [HP2.out];rfl,HB.out⟩
end

section
open Go.RowKit
set_option maxRecDepth 100000
def RCfg.V (c:RCfg):Prop:=V11 c.inc c.aZ c.w c.t c.d
instance (c:RCfg):Decidable c.V:=by unfold RCfg.V;infer_instance
abbrev VA (s:RSet):Prop:=s.a.V
abbrev VB (s:RSet):Prop:=s.b.V
def Small (s:RSet):Prop:=VA s/\VB s/\1<=s.cB/\s.cB<=6/\3<=s.a.d/\3<=s.b.d/\s.a.t<=40/\s.b.t<=40/\okF (-1) s.there=true/\okF (-1) s.back=true/\s.there.length<=200/\s.back.length<=200
instance (s:RSet):Decidable (Small s):=by unfold Small;infer_instance
theorem nums_of {w:World} {Z:BS} {a:Option Addr} {n c:Nat} {l:List Int} (h:RdS (eInt .i64) w Z (.slice a n c) l):Nums w a l:=fun k x hk=>by
 obtain ⟨b,off,cs,e,_,hr,hc⟩:=h.at (by decide) hk
 have h1:cs=[.int .i64 x]:=hr
 subst h1
 refine ⟨b,off,e,?_⟩
 have:=hc 0 _ rfl
 rwa [show off+k*(eInt .i64).size+0=off+k by show off+k*1+0=_;omega] at this
theorem aC {w:World} {p:Nat} {u0 u1 u2 u3 u4 u5 u6 u7 u8 u9 u10 u11 u12:Value} {T:TypeId} (h:w.heap[p]? = some (.cells #[u0,u1,u2,u3,u4,u5,u6,u7,u8,u9,u10,u11,u12] T)) :
  w.cell? ⟨p,0,none⟩=some u0/\w.cell? ⟨p,1,none⟩=some u1/\w.cell? ⟨p,2,none⟩=some u2/\w.cell? ⟨p,3,none⟩=some u3/\w.cell? ⟨p,4,none⟩=some u4/\w.cell? ⟨p,5,none⟩=some u5/\w.cell? ⟨p,6,none⟩=some u6/\w.cell? ⟨p,7,none⟩=some u7/\w.cell? ⟨p,8,none⟩=some u8/\w.cell? ⟨p,9,none⟩=some u9/\w.cell? ⟨p,10,none⟩=some u10/\w.cell? ⟨p,11,none⟩=some u11/\w.cell? ⟨p,12,none⟩=some u12:=
 ⟨aJ h rfl,aJ h rfl,aJ h rfl,aJ h rfl,aJ h rfl,aJ h rfl,aJ h rfl,aJ h rfl,aJ h rfl,aJ h rfl,aJ h rfl,aJ h rfl,aJ h rfl⟩
section
variable {w:World} {Z:BS} {s:RSet} {aa ba ta ya:Option Addr} {ak bk tk yk:Nat}
theorem small_c (ha:RdS (eInt .i64) w Z (.slice aa s.a.aZ.length ak) s.a.aZ) (hb:RdS (eInt .i64) w Z (.slice ba s.b.aZ.length bk) s.b.aZ) (ht:RdS eFlt w Z (.slice ta s.there.length tk) s.there) (hy:RdS eFlt w Z (.slice ya s.back.length yk) s.back) :
  Calls Tryz.prog 30 #[setV s aa ak ba bk ta tk ya yk] w fun e w'=>e=.returned (.bool (decide (Small s)))/\Below w.heap.size w w':=by
 have HROW:=aQ (heap_alloc_new w (.cells #[.int .i64 s.a.inc,.slice aa s.a.aZ.length ak,.int .i64 s.a.w,.int .i64 s.a.t,.int .i64 s.a.d,.int .i64 s.b.inc,.slice ba s.b.aZ.length bk,.int .i64 s.b.w,.int .i64 s.b.t,.int .i64 s.b.d,.int .i64 s.cB,.slice ta s.there.length tk,.slice ya s.back.length yk] 59))
 have HB:=aQ (aK w (.cells #[.int .i64 s.a.inc,.slice aa s.a.aZ.length ak,.int .i64 s.a.w,.int .i64 s.a.t,.int .i64 s.a.d,.int .i64 s.b.inc,.slice ba s.b.aZ.length bk,.int .i64 s.b.w,.int .i64 s.b.t,.int .i64 s.b.d,.int .i64 s.cB,.slice ta s.there.length tk,.slice ya s.back.length yk] 59))
 have hlen:∀ {α : Type} {E:El α} {a:Option Addr} {c:Nat} {l:List α},RdS E w Z (.slice a l.length c) l->l.length<=9223372036854775807:=fun h=>by
  obtain ⟨_,c,e,h1,h2⟩:=h.shape
  unfold maxLen at h2
  omega
 have HVA:Hid (∀w',Below w.heap.size w w'->Calls Tryz.prog 26 #[cfgV s.a.inc aa s.a.aZ.length ak s.a.w s.a.t s.a.d] w' fun e w''=>e=.returned (.bool (decide (VA s)))/\Below w'.heap.size w' w''):=aQ fun w' h=>valid11_c w' (hlen ha) ((nums_of ha).below h)
 have HVB:Hid (∀w',Below w.heap.size w w'->Calls Tryz.prog 26 #[cfgV s.b.inc ba s.b.aZ.length bk s.b.w s.b.t s.b.d] w' fun e w''=>e=.returned (.bool (decide (VB s)))/\Below w'.heap.size w' w''):=aQ fun w' h=>valid11_c w' (hlen hb) ((nums_of hb).below h)
 have HVT:Hid (∀w',Below w.heap.size w w'->Calls Tryz.prog 27 #[.slice ta s.there.length tk] w' fun e w''=>e=.returned (.bool (okF (-1) s.there))/\Below w'.heap.size w' w''):=aQ fun w' h=>c_valid_any w' Z _ _ (ht.below h) (hlen ht)
 have HVY:Hid (∀w',Below w.heap.size w w'->Calls Tryz.prog 27 #[.slice ya s.back.length yk] w' fun e w''=>e=.returned (.bool (okF (-1) s.back))/\Below w'.heap.size w' w''):=aQ fun w' h=>c_valid_any w' Z _ _ (hy.below h) (hlen hy)
 have ht0:=hlen ht
 have hy0:=hlen hy
 clear ha hb ht hy hlen
 by_cases g0:VA s
 rotate_left
 focus
  have HD:=aQ (show decide (Small s)=false from decide_eq_false fun h=>g0 (by obtain ⟨q0,q1,q2,q3,q4,q5,q6,q7,q8,q9,q10,q11⟩:=h;exact q0))
  have HZ0:=aQ (decide_eq_false g0)
  clear g0
  obtain ⟨x0,x1,x2,x3,x4,x5,x6,x7,x8,x9,x10,x11,x12⟩:=aC HROW.out
  go_enter Tryz.func30,Tryz.ntmps30
  go_wp2_with fail
  refine (HVA.out _ HB.out).mono ?_
  rintro e w1 ⟨rfl,hbb⟩
  rw [HZ0.out]
  have HB1:=aQ (HB.out.trans (hbb.mono HB.out.size))
  have HROW1:=aQ ((hbb.block _ (lt_of_block HROW.out)).trans HROW.out)
  clear hbb x0 x1 x2 x3 x4 x5 x6 x7 x8 x9 x10 x11 x12
  obtain ⟨x0,x1,x2,x3,x4,x5,x6,x7,x8,x9,x10,x11,x12⟩:=aC HROW1.out
  go_wp2_with fail
  go_ret
  exact ⟨by rw [HD.out];rfl,HB1.out⟩
 by_cases g1:VB s
 rotate_left
 focus
  have HD:=aQ (show decide (Small s)=false from decide_eq_false fun h=>g1 (by obtain ⟨q0,q1,q2,q3,q4,q5,q6,q7,q8,q9,q10,q11⟩:=h;exact q1))
  have HZ0:=aQ (decide_eq_true g0)
  have HZ1:=aQ (decide_eq_false g1)
  clear g0 g1
  obtain ⟨x0,x1,x2,x3,x4,x5,x6,x7,x8,x9,x10,x11,x12⟩:=aC HROW.out
  go_enter Tryz.func30,Tryz.ntmps30
  go_wp2_with fail
  refine (HVA.out _ HB.out).mono ?_
  rintro e w1 ⟨rfl,hbb⟩
  rw [HZ0.out]
  have HB1:=aQ (HB.out.trans (hbb.mono HB.out.size))
  have HROW1:=aQ ((hbb.block _ (lt_of_block HROW.out)).trans HROW.out)
  clear hbb x0 x1 x2 x3 x4 x5 x6 x7 x8 x9 x10 x11 x12
  obtain ⟨x0,x1,x2,x3,x4,x5,x6,x7,x8,x9,x10,x11,x12⟩:=aC HROW1.out
  go_wp2_with fail
  refine (HVB.out _ HB1.out).mono ?_
  rintro e w2 ⟨rfl,hbb⟩
  rw [HZ1.out]
  have HB2:=aQ (HB1.out.trans (hbb.mono HB1.out.size))
  have HROW2:=aQ ((hbb.block _ (lt_of_block HROW1.out)).trans HROW1.out)
  clear hbb x0 x1 x2 x3 x4 x5 x6 x7 x8 x9 x10 x11 x12
  obtain ⟨x0,x1,x2,x3,x4,x5,x6,x7,x8,x9,x10,x11,x12⟩:=aC HROW2.out
  go_wp2_with fail
  go_ret
  exact ⟨by rw [HD.out];rfl,HB2.out⟩
 by_cases g2:1<=s.cB
 rotate_left
 focus
  have HD:=aQ (show decide (Small s)=false from decide_eq_false fun h=>g2 (by obtain ⟨q0,q1,q2,q3,q4,q5,q6,q7,q8,q9,q10,q11⟩:=h;exact q2))
  have n2:s.cB < 1:=by omega
  have HZ0:=aQ (decide_eq_true g0)
  have HZ1:=aQ (decide_eq_true g1)
  clear g0 g1 g2
  obtain ⟨x0,x1,x2,x3,x4,x5,x6,x7,x8,x9,x10,x11,x12⟩:=aC HROW.out
  go_enter Tryz.func30,Tryz.ntmps30
  go_wp2_with fail
  refine (HVA.out _ HB.out).mono ?_
  rintro e w1 ⟨rfl,hbb⟩
  rw [HZ0.out]
  have HB1:=aQ (HB.out.trans (hbb.mono HB.out.size))
  have HROW1:=aQ ((hbb.block _ (lt_of_block HROW.out)).trans HROW.out)
  clear hbb x0 x1 x2 x3 x4 x5 x6 x7 x8 x9 x10 x11 x12
  obtain ⟨x0,x1,x2,x3,x4,x5,x6,x7,x8,x9,x10,x11,x12⟩:=aC HROW1.out
  go_wp2_with fail
  refine (HVB.out _ HB1.out).mono ?_
  rintro e w2 ⟨rfl,hbb⟩
  rw [HZ1.out]
  have HB2:=aQ (HB1.out.trans (hbb.mono HB1.out.size))
  have HROW2:=aQ ((hbb.block _ (lt_of_block HROW1.out)).trans HROW1.out)
  clear hbb x0 x1 x2 x3 x4 x5 x6 x7 x8 x9 x10 x11 x12
  obtain ⟨x0,x1,x2,x3,x4,x5,x6,x7,x8,x9,x10,x11,x12⟩:=aC HROW2.out
  go_wp2_with fail
  go_ret
  exact ⟨by rw [HD.out];rfl,HB2.out⟩
 by_cases g3:s.cB<=6
 rotate_left
 focus
  have HD:=aQ (show decide (Small s)=false from decide_eq_false fun h=>g3 (by obtain ⟨q0,q1,q2,q3,q4,q5,q6,q7,q8,q9,q10,q11⟩:=h;exact q3))
  have n3:6 < s.cB:=by omega
  have HZ0:=aQ (decide_eq_true g0)
  have HZ1:=aQ (decide_eq_true g1)
  clear g0 g1 g3
  obtain ⟨x0,x1,x2,x3,x4,x5,x6,x7,x8,x9,x10,x11,x12⟩:=aC HROW.out
  go_enter Tryz.func30,Tryz.ntmps30
  go_wp2_with fail
  refine (HVA.out _ HB.out).mono ?_
  rintro e w1 ⟨rfl,hbb⟩
  rw [HZ0.out]
  have HB1:=aQ (HB.out.trans (hbb.mono HB.out.size))
  have HROW1:=aQ ((hbb.block _ (lt_of_block HROW.out)).trans HROW.out)
  clear hbb x0 x1 x2 x3 x4 x5 x6 x7 x8 x9 x10 x11 x12
  obtain ⟨x0,x1,x2,x3,x4,x5,x6,x7,x8,x9,x10,x11,x12⟩:=aC HROW1.out
  go_wp2_with fail
  refine (HVB.out _ HB1.out).mono ?_
  rintro e w2 ⟨rfl,hbb⟩
  rw [HZ1.out]
  have HB2:=aQ (HB1.out.trans (hbb.mono HB1.out.size))
  have HROW2:=aQ ((hbb.block _ (lt_of_block HROW1.out)).trans HROW1.out)
  clear hbb x0 x1 x2 x3 x4 x5 x6 x7 x8 x9 x10 x11 x12
  obtain ⟨x0,x1,x2,x3,x4,x5,x6,x7,x8,x9,x10,x11,x12⟩:=aC HROW2.out
  go_wp2_with fail
  go_ret
  exact ⟨by rw [HD.out];rfl,HB2.out⟩
 by_cases g4:3<=s.a.d
 rotate_left
 focus
  have HD:=aQ (show decide (Small s)=false from decide_eq_false fun h=>g4 (by obtain ⟨q0,q1,q2,q3,q4,q5,q6,q7,q8,q9,q10,q11⟩:=h;exact q4))
  have n4:s.a.d < 3:=by omega
  have HZ0:=aQ (decide_eq_true g0)
  have HZ1:=aQ (decide_eq_true g1)
  clear g0 g1 g4
  obtain ⟨x0,x1,x2,x3,x4,x5,x6,x7,x8,x9,x10,x11,x12⟩:=aC HROW.out
  go_enter Tryz.func30,Tryz.ntmps30
  go_wp2_with fail
  refine (HVA.out _ HB.out).mono ?_
  rintro e w1 ⟨rfl,hbb⟩
  rw [HZ0.out]
  have HB1:=aQ (HB.out.trans (hbb.mono HB.out.size))
  have HROW1:=aQ ((hbb.block _ (lt_of_block HROW.out)).trans HROW.out)
  clear hbb x0 x1 x2 x3 x4 x5 x6 x7 x8 x9 x10 x11 x12
  obtain ⟨x0,x1,x2,x3,x4,x5,x6,x7,x8,x9,x10,x11,x12⟩:=aC HROW1.out
  go_wp2_with fail
  refine (HVB.out _ HB1.out).mono ?_
  rintro e w2 ⟨rfl,hbb⟩
  rw [HZ1.out]
  have HB2:=aQ (HB1.out.trans (hbb.mono HB1.out.size))
  have HROW2:=aQ ((hbb.block _ (lt_of_block HROW1.out)).trans HROW1.out)
  clear hbb x0 x1 x2 x3 x4 x5 x6 x7 x8 x9 x10 x11 x12
  obtain ⟨x0,x1,x2,x3,x4,x5,x6,x7,x8,x9,x10,x11,x12⟩:=aC HROW2.out
  go_wp2_with fail
  go_ret
  exact ⟨by rw [HD.out];rfl,HB2.out⟩
 by_cases g5:3<=s.b.d
 rotate_left
 focus
  have HD:=aQ (show decide (Small s)=false from decide_eq_false fun h=>g5 (by obtain ⟨q0,q1,q2,q3,q4,q5,q6,q7,q8,q9,q10,q11⟩:=h;exact q5))
  have n5:s.b.d < 3:=by omega
  have HZ0:=aQ (decide_eq_true g0)
  have HZ1:=aQ (decide_eq_true g1)
  clear g0 g1 g5
  obtain ⟨x0,x1,x2,x3,x4,x5,x6,x7,x8,x9,x10,x11,x12⟩:=aC HROW.out
  go_enter Tryz.func30,Tryz.ntmps30
  go_wp2_with fail
  refine (HVA.out _ HB.out).mono ?_
  rintro e w1 ⟨rfl,hbb⟩
  rw [HZ0.out]
  have HB1:=aQ (HB.out.trans (hbb.mono HB.out.size))
  have HROW1:=aQ ((hbb.block _ (lt_of_block HROW.out)).trans HROW.out)
  clear hbb x0 x1 x2 x3 x4 x5 x6 x7 x8 x9 x10 x11 x12
  obtain ⟨x0,x1,x2,x3,x4,x5,x6,x7,x8,x9,x10,x11,x12⟩:=aC HROW1.out
  go_wp2_with fail
  refine (HVB.out _ HB1.out).mono ?_
  rintro e w2 ⟨rfl,hbb⟩
  rw [HZ1.out]
  have HB2:=aQ (HB1.out.trans (hbb.mono HB1.out.size))
  have HROW2:=aQ ((hbb.block _ (lt_of_block HROW1.out)).trans HROW1.out)
  clear hbb x0 x1 x2 x3 x4 x5 x6 x7 x8 x9 x10 x11 x12
  obtain ⟨x0,x1,x2,x3,x4,x5,x6,x7,x8,x9,x10,x11,x12⟩:=aC HROW2.out
  go_wp2_with fail
  go_ret
  exact ⟨by rw [HD.out];rfl,HB2.out⟩
 by_cases g6:s.a.t<=40
 rotate_left
 focus
  have HD:=aQ (show decide (Small s)=false from decide_eq_false fun h=>g6 (by obtain ⟨q0,q1,q2,q3,q4,q5,q6,q7,q8,q9,q10,q11⟩:=h;exact q6))
  have n6:40 < s.a.t:=by omega
  have HZ0:=aQ (decide_eq_true g0)
  have HZ1:=aQ (decide_eq_true g1)
  clear g0 g1 g6
  obtain ⟨x0,x1,x2,x3,x4,x5,x6,x7,x8,x9,x10,x11,x12⟩:=aC HROW.out
  go_enter Tryz.func30,Tryz.ntmps30
  go_wp2_with fail
  refine (HVA.out _ HB.out).mono ?_
  rintro e w1 ⟨rfl,hbb⟩
  rw [HZ0.out]
  have HB1:=aQ (HB.out.trans (hbb.mono HB.out.size))
  have HROW1:=aQ ((hbb.block _ (lt_of_block HROW.out)).trans HROW.out)
  clear hbb x0 x1 x2 x3 x4 x5 x6 x7 x8 x9 x10 x11 x12
  obtain ⟨x0,x1,x2,x3,x4,x5,x6,x7,x8,x9,x10,x11,x12⟩:=aC HROW1.out
  go_wp2_with fail
  refine (HVB.out _ HB1.out).mono ?_
  rintro e w2 ⟨rfl,hbb⟩
  rw [HZ1.out]
  have HB2:=aQ (HB1.out.trans (hbb.mono HB1.out.size))
  have HROW2:=aQ ((hbb.block _ (lt_of_block HROW1.out)).trans HROW1.out)
  clear hbb x0 x1 x2 x3 x4 x5 x6 x7 x8 x9 x10 x11 x12
  obtain ⟨x0,x1,x2,x3,x4,x5,x6,x7,x8,x9,x10,x11,x12⟩:=aC HROW2.out
  go_wp2_with fail
  go_ret
  exact ⟨by rw [HD.out];rfl,HB2.out⟩
 by_cases g7:s.b.t<=40
 rotate_left
 focus
  have HD:=aQ (show decide (Small s)=false from decide_eq_false fun h=>g7 (by obtain ⟨q0,q1,q2,q3,q4,q5,q6,q7,q8,q9,q10,q11⟩:=h;exact q7))
  have n7:40 < s.b.t:=by omega
  have HZ0:=aQ (decide_eq_true g0)
  have HZ1:=aQ (decide_eq_true g1)
  clear g0 g1 g7
  obtain ⟨x0,x1,x2,x3,x4,x5,x6,x7,x8,x9,x10,x11,x12⟩:=aC HROW.out
  go_enter Tryz.func30,Tryz.ntmps30
  go_wp2_with fail
  refine (HVA.out _ HB.out).mono ?_
  rintro e w1 ⟨rfl,hbb⟩
  rw [HZ0.out]
  have HB1:=aQ (HB.out.trans (hbb.mono HB.out.size))
  have HROW1:=aQ ((hbb.block _ (lt_of_block HROW.out)).trans HROW.out)
  clear hbb x0 x1 x2 x3 x4 x5 x6 x7 x8 x9 x10 x11 x12
  obtain ⟨x0,x1,x2,x3,x4,x5,x6,x7,x8,x9,x10,x11,x12⟩:=aC HROW1.out
  go_wp2_with fail
  refine (HVB.out _ HB1.out).mono ?_
  rintro e w2 ⟨rfl,hbb⟩
  rw [HZ1.out]
  have HB2:=aQ (HB1.out.trans (hbb.mono HB1.out.size))
  have HROW2:=aQ ((hbb.block _ (lt_of_block HROW1.out)).trans HROW1.out)
  clear hbb x0 x1 x2 x3 x4 x5 x6 x7 x8 x9 x10 x11 x12
  obtain ⟨x0,x1,x2,x3,x4,x5,x6,x7,x8,x9,x10,x11,x12⟩:=aC HROW2.out
  go_wp2_with fail
  go_ret
  exact ⟨by rw [HD.out];rfl,HB2.out⟩
 by_cases g8:okF (-1) s.there=true
 rotate_left
 focus
  have HD:=aQ (show decide (Small s)=false from decide_eq_false fun h=>g8 (by obtain ⟨q0,q1,q2,q3,q4,q5,q6,q7,q8,q9,q10,q11⟩:=h;exact q8))
  have HZ0:=aQ (decide_eq_true g0)
  have HZ1:=aQ (decide_eq_true g1)
  have HZ2:=aQ (Bool.eq_false_iff.2 g8)
  clear g0 g1 g8
  obtain ⟨x0,x1,x2,x3,x4,x5,x6,x7,x8,x9,x10,x11,x12⟩:=aC HROW.out
  go_enter Tryz.func30,Tryz.ntmps30
  go_wp2_with fail
  refine (HVA.out _ HB.out).mono ?_
  rintro e w1 ⟨rfl,hbb⟩
  rw [HZ0.out]
  have HB1:=aQ (HB.out.trans (hbb.mono HB.out.size))
  have HROW1:=aQ ((hbb.block _ (lt_of_block HROW.out)).trans HROW.out)
  clear hbb x0 x1 x2 x3 x4 x5 x6 x7 x8 x9 x10 x11 x12
  obtain ⟨x0,x1,x2,x3,x4,x5,x6,x7,x8,x9,x10,x11,x12⟩:=aC HROW1.out
  go_wp2_with fail
  refine (HVB.out _ HB1.out).mono ?_
  rintro e w2 ⟨rfl,hbb⟩
  rw [HZ1.out]
  have HB2:=aQ (HB1.out.trans (hbb.mono HB1.out.size))
  have HROW2:=aQ ((hbb.block _ (lt_of_block HROW1.out)).trans HROW1.out)
  clear hbb x0 x1 x2 x3 x4 x5 x6 x7 x8 x9 x10 x11 x12
  obtain ⟨x0,x1,x2,x3,x4,x5,x6,x7,x8,x9,x10,x11,x12⟩:=aC HROW2.out
  go_wp2_with fail
  refine (HVT.out _ HB2.out).mono ?_
  rintro e w3 ⟨rfl,hbb⟩
  rw [HZ2.out]
  have HB3:=aQ (HB2.out.trans (hbb.mono HB2.out.size))
  have HROW3:=aQ ((hbb.block _ (lt_of_block HROW2.out)).trans HROW2.out)
  clear hbb x0 x1 x2 x3 x4 x5 x6 x7 x8 x9 x10 x11 x12
  obtain ⟨x0,x1,x2,x3,x4,x5,x6,x7,x8,x9,x10,x11,x12⟩:=aC HROW3.out
  go_wp2_with fail
  go_ret
  exact ⟨by rw [HD.out];rfl,HB3.out⟩
 by_cases g9:okF (-1) s.back=true
 rotate_left
 focus
  have HD:=aQ (show decide (Small s)=false from decide_eq_false fun h=>g9 (by obtain ⟨q0,q1,q2,q3,q4,q5,q6,q7,q8,q9,q10,q11⟩:=h;exact q9))
  have HZ0:=aQ (decide_eq_true g0)
  have HZ1:=aQ (decide_eq_true g1)
  have HZ2:=aQ (g8)
  have HZ3:=aQ (Bool.eq_false_iff.2 g9)
  clear g0 g1 g8 g9
  obtain ⟨x0,x1,x2,x3,x4,x5,x6,x7,x8,x9,x10,x11,x12⟩:=aC HROW.out
  go_enter Tryz.func30,Tryz.ntmps30
  go_wp2_with fail
  refine (HVA.out _ HB.out).mono ?_
  rintro e w1 ⟨rfl,hbb⟩
  rw [HZ0.out]
  have HB1:=aQ (HB.out.trans (hbb.mono HB.out.size))
  have HROW1:=aQ ((hbb.block _ (lt_of_block HROW.out)).trans HROW.out)
  clear hbb x0 x1 x2 x3 x4 x5 x6 x7 x8 x9 x10 x11 x12
  obtain ⟨x0,x1,x2,x3,x4,x5,x6,x7,x8,x9,x10,x11,x12⟩:=aC HROW1.out
  go_wp2_with fail
  refine (HVB.out _ HB1.out).mono ?_
  rintro e w2 ⟨rfl,hbb⟩
  rw [HZ1.out]
  have HB2:=aQ (HB1.out.trans (hbb.mono HB1.out.size))
  have HROW2:=aQ ((hbb.block _ (lt_of_block HROW1.out)).trans HROW1.out)
  clear hbb x0 x1 x2 x3 x4 x5 x6 x7 x8 x9 x10 x11 x12
  obtain ⟨x0,x1,x2,x3,x4,x5,x6,x7,x8,x9,x10,x11,x12⟩:=aC HROW2.out
  go_wp2_with fail
  refine (HVT.out _ HB2.out).mono ?_
  rintro e w3 ⟨rfl,hbb⟩
  rw [HZ2.out]
  have HB3:=aQ (HB2.out.trans (hbb.mono HB2.out.size))
  have HROW3:=aQ ((hbb.block _ (lt_of_block HROW2.out)).trans HROW2.out)
  clear hbb x0 x1 x2 x3 x4 x5 x6 x7 x8 x9 x10 x11 x12
  obtain ⟨x0,x1,x2,x3,x4,x5,x6,x7,x8,x9,x10,x11,x12⟩:=aC HROW3.out
  go_wp2_with fail
  refine (HVY.out _ HB3.out).mono ?_
  rintro e w4 ⟨rfl,hbb⟩
  rw [HZ3.out]
  have HB4:=aQ (HB3.out.trans (hbb.mono HB3.out.size))
  have HROW4:=aQ ((hbb.block _ (lt_of_block HROW3.out)).trans HROW3.out)
  clear hbb x0 x1 x2 x3 x4 x5 x6 x7 x8 x9 x10 x11 x12
  obtain ⟨x0,x1,x2,x3,x4,x5,x6,x7,x8,x9,x10,x11,x12⟩:=aC HROW4.out
  go_wp2_with fail
  go_ret
  exact ⟨by rw [HD.out];rfl,HB4.out⟩
 by_cases g10:s.there.length<=200
 rotate_left
 focus
  have HD:=aQ (show decide (Small s)=false from decide_eq_false fun h=>g10 (by obtain ⟨q0,q1,q2,q3,q4,q5,q6,q7,q8,q9,q10,q11⟩:=h;exact q10))
  have n10:200 < s.there.length:=by omega
  have HZ0:=aQ (decide_eq_true g0)
  have HZ1:=aQ (decide_eq_true g1)
  have HZ2:=aQ (g8)
  have HZ3:=aQ (g9)
  clear g0 g1 g8 g9 g10
  obtain ⟨x0,x1,x2,x3,x4,x5,x6,x7,x8,x9,x10,x11,x12⟩:=aC HROW.out
  go_enter Tryz.func30,Tryz.ntmps30
  go_wp2_with fail
  refine (HVA.out _ HB.out).mono ?_
  rintro e w1 ⟨rfl,hbb⟩
  rw [HZ0.out]
  have HB1:=aQ (HB.out.trans (hbb.mono HB.out.size))
  have HROW1:=aQ ((hbb.block _ (lt_of_block HROW.out)).trans HROW.out)
  clear hbb x0 x1 x2 x3 x4 x5 x6 x7 x8 x9 x10 x11 x12
  obtain ⟨x0,x1,x2,x3,x4,x5,x6,x7,x8,x9,x10,x11,x12⟩:=aC HROW1.out
  go_wp2_with fail
  refine (HVB.out _ HB1.out).mono ?_
  rintro e w2 ⟨rfl,hbb⟩
  rw [HZ1.out]
  have HB2:=aQ (HB1.out.trans (hbb.mono HB1.out.size))
  have HROW2:=aQ ((hbb.block _ (lt_of_block HROW1.out)).trans HROW1.out)
  clear hbb x0 x1 x2 x3 x4 x5 x6 x7 x8 x9 x10 x11 x12
  obtain ⟨x0,x1,x2,x3,x4,x5,x6,x7,x8,x9,x10,x11,x12⟩:=aC HROW2.out
  go_wp2_with fail
  refine (HVT.out _ HB2.out).mono ?_
  rintro e w3 ⟨rfl,hbb⟩
  rw [HZ2.out]
  have HB3:=aQ (HB2.out.trans (hbb.mono HB2.out.size))
  have HROW3:=aQ ((hbb.block _ (lt_of_block HROW2.out)).trans HROW2.out)
  clear hbb x0 x1 x2 x3 x4 x5 x6 x7 x8 x9 x10 x11 x12
  obtain ⟨x0,x1,x2,x3,x4,x5,x6,x7,x8,x9,x10,x11,x12⟩:=aC HROW3.out
  go_wp2_with fail
  refine (HVY.out _ HB3.out).mono ?_
  rintro e w4 ⟨rfl,hbb⟩
  rw [HZ3.out]
  have HB4:=aQ (HB3.out.trans (hbb.mono HB3.out.size))
  have HROW4:=aQ ((hbb.block _ (lt_of_block HROW3.out)).trans HROW3.out)
  clear hbb x0 x1 x2 x3 x4 x5 x6 x7 x8 x9 x10 x11 x12
  obtain ⟨x0,x1,x2,x3,x4,x5,x6,x7,x8,x9,x10,x11,x12⟩:=aC HROW4.out
  go_wp2_with fail
  go_ret
  exact ⟨by rw [HD.out];rfl,HB4.out⟩
 by_cases g11:s.back.length<=200
 rotate_left
 focus
  have HD:=aQ (show decide (Small s)=false from decide_eq_false fun h=>g11 (by obtain ⟨q0,q1,q2,q3,q4,q5,q6,q7,q8,q9,q10,q11⟩:=h;exact q11))
  have n11:200 < s.back.length:=by omega
  have HZ0:=aQ (decide_eq_true g0)
  have HZ1:=aQ (decide_eq_true g1)
  have HZ2:=aQ (g8)
  have HZ3:=aQ (g9)
  clear g0 g1 g8 g9 g11
  obtain ⟨x0,x1,x2,x3,x4,x5,x6,x7,x8,x9,x10,x11,x12⟩:=aC HROW.out
  go_enter Tryz.func30,Tryz.ntmps30
  go_wp2_with fail
  refine (HVA.out _ HB.out).mono ?_
  rintro e w1 ⟨rfl,hbb⟩
  rw [HZ0.out]
  have HB1:=aQ (HB.out.trans (hbb.mono HB.out.size))
  have HROW1:=aQ ((hbb.block _ (lt_of_block HROW.out)).trans HROW.out)
  clear hbb x0 x1 x2 x3 x4 x5 x6 x7 x8 x9 x10 x11 x12
  obtain ⟨x0,x1,x2,x3,x4,x5,x6,x7,x8,x9,x10,x11,x12⟩:=aC HROW1.out
  go_wp2_with fail
  refine (HVB.out _ HB1.out).mono ?_
  rintro e w2 ⟨rfl,hbb⟩
  rw [HZ1.out]
  have HB2:=aQ (HB1.out.trans (hbb.mono HB1.out.size))
  have HROW2:=aQ ((hbb.block _ (lt_of_block HROW1.out)).trans HROW1.out)
  clear hbb x0 x1 x2 x3 x4 x5 x6 x7 x8 x9 x10 x11 x12
  obtain ⟨x0,x1,x2,x3,x4,x5,x6,x7,x8,x9,x10,x11,x12⟩:=aC HROW2.out
  go_wp2_with fail
  refine (HVT.out _ HB2.out).mono ?_
  rintro e w3 ⟨rfl,hbb⟩
  rw [HZ2.out]
  have HB3:=aQ (HB2.out.trans (hbb.mono HB2.out.size))
  have HROW3:=aQ ((hbb.block _ (lt_of_block HROW2.out)).trans HROW2.out)
  clear hbb x0 x1 x2 x3 x4 x5 x6 x7 x8 x9 x10 x11 x12
  obtain ⟨x0,x1,x2,x3,x4,x5,x6,x7,x8,x9,x10,x11,x12⟩:=aC HROW3.out
  go_wp2_with fail
  refine (HVY.out _ HB3.out).mono ?_
  rintro e w4 ⟨rfl,hbb⟩
  rw [HZ3.out]
  have HB4:=aQ (HB3.out.trans (hbb.mono HB3.out.size))
  have HROW4:=aQ ((hbb.block _ (lt_of_block HROW3.out)).trans HROW3.out)
  clear hbb x0 x1 x2 x3 x4 x5 x6 x7 x8 x9 x10 x11 x12
  obtain ⟨x0,x1,x2,x3,x4,x5,x6,x7,x8,x9,x10,x11,x12⟩:=aC HROW4.out
  go_wp2_with fail
  go_ret
  have hlast:decide ((s.back.length:Int)<=200)=false:=decide_eq_false (by omega)
  exact ⟨by rw [HD.out,hlast];rfl,HB4.out⟩
 have HD:=aQ (show decide (Small s)=true from decide_eq_true ⟨g0,g1,g2,g3,g4,g5,g6,g7,g8,g9,g10,g11⟩)
 have HZ0:=aQ (decide_eq_true g0)
 have HZ1:=aQ (decide_eq_true g1)
 have HZ2:=aQ (g8)
 have HZ3:=aQ (g9)
 clear g0 g1 g8 g9
 obtain ⟨x0,x1,x2,x3,x4,x5,x6,x7,x8,x9,x10,x11,x12⟩:=aC HROW.out
 go_enter Tryz.func30,Tryz.ntmps30
 go_wp2_with fail
 refine (HVA.out _ HB.out).mono ?_
 rintro e w1 ⟨rfl,hbb⟩
 rw [HZ0.out]
 have HB1:=aQ (HB.out.trans (hbb.mono HB.out.size))
 have HROW1:=aQ ((hbb.block _ (lt_of_block HROW.out)).trans HROW.out)
 clear hbb x0 x1 x2 x3 x4 x5 x6 x7 x8 x9 x10 x11 x12
 obtain ⟨x0,x1,x2,x3,x4,x5,x6,x7,x8,x9,x10,x11,x12⟩:=aC HROW1.out
 go_wp2_with fail
 refine (HVB.out _ HB1.out).mono ?_
 rintro e w2 ⟨rfl,hbb⟩
 rw [HZ1.out]
 have HB2:=aQ (HB1.out.trans (hbb.mono HB1.out.size))
 have HROW2:=aQ ((hbb.block _ (lt_of_block HROW1.out)).trans HROW1.out)
 clear hbb x0 x1 x2 x3 x4 x5 x6 x7 x8 x9 x10 x11 x12
 obtain ⟨x0,x1,x2,x3,x4,x5,x6,x7,x8,x9,x10,x11,x12⟩:=aC HROW2.out
 go_wp2_with fail
 refine (HVT.out _ HB2.out).mono ?_
 rintro e w3 ⟨rfl,hbb⟩
 rw [HZ2.out]
 have HB3:=aQ (HB2.out.trans (hbb.mono HB2.out.size))
 have HROW3:=aQ ((hbb.block _ (lt_of_block HROW2.out)).trans HROW2.out)
 clear hbb x0 x1 x2 x3 x4 x5 x6 x7 x8 x9 x10 x11 x12
 obtain ⟨x0,x1,x2,x3,x4,x5,x6,x7,x8,x9,x10,x11,x12⟩:=aC HROW3.out
 go_wp2_with fail
 refine (HVY.out _ HB3.out).mono ?_
 rintro e w4 ⟨rfl,hbb⟩
 rw [HZ3.out]
 have HB4:=aQ (HB3.out.trans (hbb.mono HB3.out.size))
 have HROW4:=aQ ((hbb.block _ (lt_of_block HROW3.out)).trans HROW3.out)
 clear hbb x0 x1 x2 x3 x4 x5 x6 x7 x8 x9 x10 x11 x12
 obtain ⟨x0,x1,x2,x3,x4,x5,x6,x7,x8,x9,x10,x11,x12⟩:=aC HROW4.out
 go_wp2_with fail
 go_ret
 have hlast:decide ((s.back.length:Int)<=200)=true:=decide_eq_true (by omega)
 exact ⟨by rw [HD.out,hlast];rfl,HB4.out⟩
end
end

section
open Go.RowKit
set_option maxRecDepth 100000
theorem any_take {α : Type} {l:List α} {p : α -> Bool} {j:Nat} {o : α} (h:(l.take j).any p=false) (ho:l[j]? = some o) (hp:p o=false):(l.take (j+1)).any p=false:=by
 rw [List.take_add_one,ho,List.any_append,h];simp [hp]
theorem any_at {α : Type} {l:List α} {p : α -> Bool} {j:Nat} {o : α} (ho:l[j]? = some o) (hp:p o=true):l.any p=true:=
 List.any_eq_true.2 ⟨o,List.mem_of_getElem? ho,hp⟩
section
variable {w:World} {Z:BS}
theorem idxE_c (fn:FuncId) (hfn:fn = 59 \/ fn = 59) (p:Evt->Bool) (hp:∀(e:Evt) (da:Option Addr) (dc:Nat) (w':World),Calls Tryz.prog fn #[dN e da dc] w' fun r w''=>r=.returned (.bool (p e))/\Below w'.heap.size w' w'') (v:Value) (es:List Evt) (h:RdS eEvt w Z v es) :
  Calls Tryz.prog 102 #[v,.func (.func fn) #[] #[]] w fun r w'=>∃k:Int,r=.returned (.int .i64 k)/\decide (0<=k)=es.any p/\Below w.heap.size w w':=by
 obtain ⟨a,c,rfl,hc1,hc2⟩:=h.shape
 have H:=aQ h
 have HP:=aQ hp
 clear h hp
 unfold maxLen at hc2
 rcases hfn with rfl|rfl
 all_goals
  go_enter Tryz.func102,Tryz.ntmps102
  go_wp2_with fail
  go_loopw [8] (fun i wr=>∃j:Nat,j<=es.length/\i=.int .i64 (j:Int)/\Hid ((es.take j).any p=false)/\Hid (Below w.heap.size w wr)) (fun i _=>es.length - (intOf i).toNat)
  case atStart=>exact ⟨0,by omega,by go_num,aQ rfl,aQ (Below.refl _ _)⟩
  case round=>
   obtain ⟨j,hj,rfl,HA,HB⟩:=hrel
   by_cases hlt:j < es.length
   ·obtain ⟨e,he⟩:∃e,es[j]? = some e:=⟨es[j],List.getElem?_eq_getElem hlt⟩
    obtain ⟨b,off,da,dc,rfl,_,c0,c1,c2,c3⟩:=evt_at (H.out.below HB.out) he
    have HE:=aQ he
    clear he
    have HC:=aQ (HP.out e da dc wr)
    cases hpe:p e with
    |true=>
     have HX:=aQ (show es.any p=true from any_at HE.out hpe)
     rw [hpe] at HC
     clear hpe
     go_wp2_with fail
     refine HC.out.mono ?_
     rintro r w1 ⟨rfl,hb⟩
     have HB1:=aQ (HB.out.trans (hb.mono HB.out.size))
     clear hb
     go_wp2_with fail
     go_ret
     exact ⟨_,rfl,by rw [HX.out];exact decide_eq_true (by omega),HB1.out⟩
    |false=>
     have HX:=aQ (any_take HA.out HE.out hpe)
     rw [hpe] at HC
     clear hpe
     go_wp2_with fail
     refine HC.out.mono ?_
     rintro r w1 ⟨rfl,hb⟩
     have HB1:=aQ (HB.out.trans (hb.mono HB.out.size))
     clear hb
     go_wp2_with fail
     go_roundw
     case rel=>exact ⟨j+1,by omega,by go_num,HX,HB1⟩
     case measure=>simp [intOf];omega
   ·obtain rfl:es.length=j:=by omega
    have HX:=aQ (show es.any p=false by have:=HA.out;rwa [List.take_length] at this)
    go_wp2_with fail
    go_ret
    exact ⟨_,rfl,by rw [HX.out];rfl,HB.out⟩
theorem hasE_c (fn:FuncId) (hfn:fn = 59 \/ fn = 59) (p:Evt->Bool) (hp:∀(e:Evt) (da:Option Addr) (dc:Nat) (w':World),Calls Tryz.prog fn #[dN e da dc] w' fun r w''=>r=.returned (.bool (p e))/\Below w'.heap.size w' w'') (v:Value) (es:List Evt) (h:RdS eEvt w Z v es) :
  Calls Tryz.prog 58 #[v,.func (.func fn) #[] #[]] w fun r w'=>r=.returned (.bool (es.any p))/\Below w.heap.size w w':=by
 have HC:=aQ (idxE_c fn hfn p hp v es h)
 clear h hp
 go_enter Tryz.func58,Tryz.ntmps58
 go_wp2_with fail
 refine HC.out.mono ?_
 rintro r w1 ⟨k,rfl,hk,hb⟩
 have HK:=aQ hk
 have HB1:=aQ hb
 clear hb hk
 go_wp2_with fail
 go_ret
 exact ⟨by rw [<-HK.out];rfl,HB1.out⟩
theorem idxL_c (fn:FuncId) (hfn:fn = 57 \/ fn = 57) (p:List Evt->Bool) (hp:∀(e:List Evt) (da:Option Addr) (dc:Nat) (w':World),RdS eEvt w' Z (.slice da e.length dc) e->Calls Tryz.prog fn #[.slice da e.length dc] w' fun r w''=>r=.returned (.bool (p e))/\Below w'.heap.size w' w'') (v:Value) (es:List (List Evt)) (h:RdS (eRd eEvt) w Z v es) :
  Calls Tryz.prog 101 #[v,.func (.func fn) #[] #[]] w fun r w'=>∃k:Int,r=.returned (.int .i64 k)/\decide (0<=k)=es.any p/\Below w.heap.size w w':=by
 obtain ⟨a,c,rfl,hc1,hc2⟩:=h.shape
 have H:=aQ h
 have HP:=aQ hp
 clear h hp
 unfold maxLen at hc2
 rcases hfn with rfl|rfl
 all_goals
  go_enter Tryz.func101,Tryz.ntmps101
  go_wp2_with fail
  go_loopw [8] (fun i wr=>∃j:Nat,j<=es.length/\i=.int .i64 (j:Int)/\Hid ((es.take j).any p=false)/\Hid (Below w.heap.size w wr)) (fun i _=>es.length - (intOf i).toNat)
  case atStart=>exact ⟨0,by omega,by go_num,aQ rfl,aQ (Below.refl _ _)⟩
  case round=>
   obtain ⟨j,hj,rfl,HA,HB⟩:=hrel
   by_cases hlt:j < es.length
   ·obtain ⟨e,he⟩:∃e,es[j]? = some e:=⟨es[j],List.getElem?_eq_getElem hlt⟩
    obtain ⟨b,off,da,dc,rfl,c0,hrd⟩:=evts_at (H.out.below HB.out) he
    have HE:=aQ he
    clear he
    have HC:=aQ (HP.out e da dc wr hrd)
    clear hrd
    cases hpe:p e with
    |true=>
     have HX:=aQ (show es.any p=true from any_at HE.out hpe)
     rw [hpe] at HC
     clear hpe
     go_wp2_with fail
     refine HC.out.mono ?_
     rintro r w1 ⟨rfl,hb⟩
     have HB1:=aQ (HB.out.trans (hb.mono HB.out.size))
     clear hb
     go_wp2_with fail
     go_ret
     exact ⟨_,rfl,by rw [HX.out];exact decide_eq_true (by omega),HB1.out⟩
    |false=>
     have HX:=aQ (any_take HA.out HE.out hpe)
     rw [hpe] at HC
     clear hpe
     go_wp2_with fail
     refine HC.out.mono ?_
     rintro r w1 ⟨rfl,hb⟩
     have HB1:=aQ (HB.out.trans (hb.mono HB.out.size))
     clear hb
     go_wp2_with fail
     go_roundw
     case rel=>exact ⟨j+1,by omega,by go_num,HX,HB1⟩
     case measure=>simp [intOf];omega
   ·obtain rfl:es.length=j:=by omega
    have HX:=aQ (show es.any p=false by have:=HA.out;rwa [List.take_length] at this)
    go_wp2_with fail
    go_ret
    exact ⟨_,rfl,by rw [HX.out];rfl,HB.out⟩
theorem hasL_c (fn:FuncId) (hfn:fn = 57 \/ fn = 57) (p:List Evt->Bool) (hp:∀(e:List Evt) (da:Option Addr) (dc:Nat) (w':World),RdS eEvt w' Z (.slice da e.length dc) e->Calls Tryz.prog fn #[.slice da e.length dc] w' fun r w''=>r=.returned (.bool (p e))/\Below w'.heap.size w' w'') (v:Value) (es:List (List Evt)) (h:RdS (eRd eEvt) w Z v es) :
  Calls Tryz.prog 56 #[v,.func (.func fn) #[] #[]] w fun r w'=>r=.returned (.bool (es.any p))/\Below w.heap.size w w':=by
 have HC:=aQ (idxL_c fn hfn p hp v es h)
 clear h hp
 go_enter Tryz.func56,Tryz.ntmps56
 go_wp2_with fail
 refine HC.out.mono ?_
 rintro r w1 ⟨k,rfl,hk,hb⟩
 have HK:=aQ hk
 have HB1:=aQ hb
 clear hb hk
 go_wp2_with fail
 go_ret
 exact ⟨by rw [<-HK.out];rfl,HB1.out⟩
theorem long11_c (e:Evt) (da:Option Addr) (dc:Nat) (w:World):Calls Tryz.prog 59 #[dN e da dc] w fun r w'=>r=.returned (.bool (decide ((100:Int) < (e.data.length:Int))))/\Below w.heap.size w w':=by
 have c3:=aJ (i:=3) (heap_alloc_new w (.cells #[.int .i64 e.kind,.int .i64 e.cS,.int .i64 e.cls,.slice da e.data.length dc] 49)) rfl
 go_enter Tryz.func59,Tryz.ntmps59
 go_wp2_with fail
 go_ret
 exact ⟨rfl,aK _ _⟩
def longL (l:List Evt):Bool:=decide ((6:Int) < (l.length:Int)) || l.any fun e=>decide ((100:Int) < (e.data.length:Int))
def longB (l:List (List Evt)):Bool:=decide ((60:Int) < (l.length:Int)) || l.any longL
theorem long1_c (es:List Evt) (da:Option Addr) (dc:Nat) (w:World) (h:RdS eEvt w Z (.slice da es.length dc) es):Calls Tryz.prog 57 #[.slice da es.length dc] w fun r w'=>r=.returned (.bool (longL es))/\Below w.heap.size w w':=by
 have HC:=aQ (hasE_c 59 (.inl rfl) _ (fun e da dc w=>long11_c e da dc w) _ es h)
 clear h
 by_cases h6:6 < es.length
 ·have HL:=aQ (show longL es=true by unfold longL;rw [decide_eq_true (by omega)];rfl)
  clear HC
  go_enter Tryz.func57,Tryz.ntmps57
  go_wp2_with fail
  go_ret
  exact ⟨by rw [HL.out];rfl,Below.refl _ _⟩
 ·go_enter Tryz.func57,Tryz.ntmps57
  go_wp2_with fail
  refine HC.out.mono ?_
  rintro r w1 ⟨rfl,hb⟩
  have HB:=aQ hb
  clear hb
  go_wp2_with fail
  go_ret
  exact ⟨rfl,HB.out⟩
theorem long_c (l:List (List Evt)) (a:Option Addr) (c:Nat) (h:RdS (eRd eEvt) w Z (.slice a l.length c) l):Calls Tryz.prog 29 #[.slice a l.length c] w fun r w'=>r=.returned (.bool (longB l))/\Below w.heap.size w w':=by
 have HC:=aQ (hasL_c 57 (.inl rfl) longL (fun e da dc w h=>long1_c e da dc w h) _ l h)
 clear h
 by_cases h6:60 < l.length
 ·have HL:=aQ (show longB l=true by unfold longB;rw [decide_eq_true (by omega)];rfl)
  clear HC
  go_enter Tryz.func29,Tryz.ntmps29
  go_wp2_with fail
  go_ret
  exact ⟨by rw [HL.out];rfl,Below.refl _ _⟩
 ·go_enter Tryz.func29,Tryz.ntmps29
  go_wp2_with fail
  refine HC.out.mono ?_
  rintro r w1 ⟨rfl,hb⟩
  have HB:=aQ hb
  clear hb
  go_wp2_with fail
  go_ret
  exact ⟨rfl,HB.out⟩
end
end

section
open Go.RowKit
set_option maxRecDepth 100000
def RCfg.cfg (c:RCfg):Cfg:=⟨c.inc.toNat,c.aZ.map Int.toNat,c.w.toNat,c.t.toNat,c.d.toNat⟩
def RSet.lk (s:RSet):Lk:=newLk s.a.cfg s.b.cfg s.cB.toNat s.there s.back
theorem RCfg.V.ok {c:RCfg} (h:c.V):c.cfg.Ok:=by
 obtain ⟨⟨h1,h2,h3,h4⟩,⟨h5,h6,h7⟩,h8,h9,h10,h11⟩:=h
 refine ⟨by show 1<=(c.aZ.map Int.toNat).length;rw [List.length_map];exact h5,by show (c.aZ.map Int.toNat).length<=4;rw [List.length_map];exact h6,fun x hx=>?_,by show 1<=c.inc.toNat;omega,by show c.inc.toNat<=_;omega,by show 1<=c.w.toNat;omega,by show c.w.toNat<=_;omega,by show 1<=c.t.toNat;omega,by show c.t.toNat<=_;omega,by show 1<=c.d.toNat;omega,by show c.d.toNat<=_;omega⟩
 obtain ⟨y,hy,rfl⟩:=List.mem_map.1 hx
 have:=h7 y hy
 omega
theorem RCfg.V.nums {c:RCfg} (h:c.V):(c.cfg.inc:Int)=c.inc/\(c.cfg.w:Int)=c.w/\(c.cfg.t:Int)=c.t/\(c.cfg.d:Int)=c.d/\c.cfg.aZ.length=c.aZ.length/\(c.cfg.aZ.map fun (x:Nat)=>(x:Int))=c.aZ:=by
 obtain ⟨⟨h1,h2,h3,h4⟩,⟨h5,h6,h7⟩,h8,h9,h10,h11⟩:=h
 refine ⟨by show ((c.inc.toNat:Nat):Int)=_;omega,by show ((c.w.toNat:Nat):Int)=_;omega,by show ((c.t.toNat:Nat):Int)=_;omega,by show ((c.d.toNat:Nat):Int)=_;omega,List.length_map ..,?_⟩
 show ((c.aZ.map Int.toNat).map fun (x:Nat)=>(x:Int))=c.aZ
 rw [List.map_map]
 refine (List.map_congr_left fun x hx=>?_).trans (List.map_id _)
 have:=h7 x hx
 show ((x.toNat:Nat):Int)=x
 omega
theorem els_nat {w:World} {F Z:BS}:∀ {F:BS} {us:List Value} (xs:List Nat),Els (eInt .i64) w F Z us (xs.map fun (x:Nat)=>(x:Int))->Els dK w F Z us xs
 |_,_,[],h=>h
 |_,_,_::xs,⟨cs,rest,A,B,e,g1,g2,g3,h1,h2⟩=>⟨cs,rest,A,B,e,g1,g2,g3,h1,els_nat (F:=F) xs h2⟩
theorem rd_nat {w:World} {Z:BS} {v:Value} {xs:List Nat} (h:RdS (eInt .i64) w Z v (xs.map fun (x:Nat)=>(x:Int))):RdS dK w Z v xs:=by
 obtain ⟨us,h1,h2,h3⟩:=h
 rw [List.length_map] at h1
 exact ⟨us,h1,els_nat (F:=Z) xs h2,h3⟩
theorem Small.full {s:RSet} (h:Small s):s.lk.Full 200 True:=by
 obtain ⟨h1,h2,h3,h4,h5,h6,h7,h8,h9,h10,h11,h12⟩:=h
 exact newLk_full h1.ok h2.ok (by omega) (by omega) h9 h10 (by omega) (by omega)
theorem RSet.lk_short (s:RSet):s.lk.Short:=⟨newLnd_short _ _ _ _ _ _ _,newLnd_short _ _ _ _ _ _ _⟩
section
variable {Z:BS} {W w:World} {ts:List Th} {j:Nat} {s:RSet} {aa ba ta ya:Option Addr} {ak bk tk yk:Nat}
structure SetAt (ts:List Th) (j:Nat) (s:RSet) (aa:Option Addr) (ak:Nat) (ba:Option Addr) (bk:Nat) (ta:Option Addr) (tk:Nat) (ya:Option Addr) (yk:Nat):Prop where
 a:ts[j]? = some (tRd (eInt .i64) (.slice aa s.a.aZ.length ak) s.a.aZ)
 b:ts[j+1]? = some (tRd (eInt .i64) (.slice ba s.b.aZ.length bk) s.b.aZ)
 t:ts[j+2]? = some (tRd eFlt (.slice ta s.there.length tk) s.there)
 y:ts[j+3]? = some (tRd eFlt (.slice ya s.back.length yk) s.back)
theorem SetAt.small (q:SetAt ts j s aa ak ba bk ta tk ya yk) (h:dY (fun _=>False) Z W ts w):Calls Tryz.prog 30 #[setV s aa ak ba bk ta tk ya yk] w fun e w'=>e=.returned (.bool (decide (Small s)))/\Below w.heap.size w w':=by
 obtain ⟨_,_,h1⟩:=h.get _ q.a
 obtain ⟨_,_,h2⟩:=h.get _ q.b
 obtain ⟨_,_,h3⟩:=h.get _ q.t
 obtain ⟨_,_,h4⟩:=h.get _ q.y
 exact small_c (Z:=fun _=>True) (RdS.mono (show RdS _ _ _ _ _ from h1) fun _ _=>trivial) (RdS.mono (show RdS _ _ _ _ _ from h2) fun _ _=>trivial) (RdS.mono (show RdS _ _ _ _ _ from h3) fun _ _=>trivial) (RdS.mono (show RdS _ _ _ _ _ from h4) fun _ _=>trivial)
theorem run_no (j:Nat) (q:SetAt ts j s aa ak ba bk ta tk ya yk) (hs:¬Small s) (h:dY (fun _=>False) Z W ts w) :
  Calls Tryz.prog 28 #[setV s aa ak ba bk ta tk ya yk] w fun e w'=>e=.returned (.pointer none)/\Below w.heap.size w w':=by
 have hb0:=aK w (.cells #[.int .i64 s.a.inc,.slice aa s.a.aZ.length ak,.int .i64 s.a.w,.int .i64 s.a.t,.int .i64 s.a.d,.int .i64 s.b.inc,.slice ba s.b.aZ.length bk,.int .i64 s.b.w,.int .i64 s.b.t,.int .i64 s.b.d,.int .i64 s.cB,.slice ta s.there.length tk,.slice ya s.back.length yk] 59)
 have HC:=aQ (q.small (h.own hb0))
 rw [decide_eq_false hs] at HC
 have HB:=aQ hb0
 obtain ⟨x0,x1,x2,x3,x4,x5,x6,x7,x8,x9,x10,x11,x12⟩:=aC (heap_alloc_new w (.cells #[.int .i64 s.a.inc,.slice aa s.a.aZ.length ak,.int .i64 s.a.w,.int .i64 s.a.t,.int .i64 s.a.d,.int .i64 s.b.inc,.slice ba s.b.aZ.length bk,.int .i64 s.b.w,.int .i64 s.b.t,.int .i64 s.b.d,.int .i64 s.cB,.slice ta s.there.length tk,.slice ya s.back.length yk] 59))
 clear h q hs hb0
 go_enter Tryz.func28,Tryz.ntmps28
 go_wp2_with fail
 refine HC.out.mono ?_
 rintro e w1 ⟨rfl,hb⟩
 have HB1:=aQ (HB.out.trans (hb.mono HB.out.size))
 clear hb
 go_wp2_with fail
 go_ret
 exact ⟨rfl,HB1.out⟩
theorem run_yes (j:Nat) (q:SetAt ts j s aa ak ba bk ta tk ya yk) (hs:Small s) (h:dY (fun _=>False) Z W ts w) :
  Calls Tryz.prog 28 #[setV s aa ak ba bk ta tk ya yk] w fun e w'=>∃p,e=.returned (.pointer (some ⟨p,0,none⟩))/\dY (fun _=>False) Z W (bI p s.lk::ts) w':=by
 have hb0:=aK w (.cells #[.int .i64 s.a.inc,.slice aa s.a.aZ.length ak,.int .i64 s.a.w,.int .i64 s.a.t,.int .i64 s.a.d,.int .i64 s.b.inc,.slice ba s.b.aZ.length bk,.int .i64 s.b.w,.int .i64 s.b.t,.int .i64 s.b.d,.int .i64 s.cB,.slice ta s.there.length tk,.slice ya s.back.length yk] 59)
 have hrow:=heap_alloc_new w (.cells #[.int .i64 s.a.inc,.slice aa s.a.aZ.length ak,.int .i64 s.a.w,.int .i64 s.a.t,.int .i64 s.a.d,.int .i64 s.b.inc,.slice ba s.b.aZ.length bk,.int .i64 s.b.w,.int .i64 s.b.t,.int .i64 s.b.d,.int .i64 s.cB,.slice ta s.there.length tk,.slice ya s.back.length yk] 59)
 have HC:=aQ (q.small (h.own hb0))
 rw [decide_eq_true hs] at HC
 have HROW:=aQ hrow
 have H0:=aQ (h.own hb0)
 obtain ⟨x0,x1,x2,x3,x4,x5,x6,x7,x8,x9,x10,x11,x12⟩:=aC hrow
 have HN:Hid (∀w',dY (fun _=>False) Z W ts w'->Calls Tryz.prog 10 #[cfgV s.a.inc aa s.a.aZ.length ak s.a.w s.a.t s.a.d,cfgV s.b.inc ba s.b.aZ.length bk s.b.w s.b.t s.b.d,.int .i64 s.cB,.slice ta s.there.length tk,.slice ya s.back.length yk] w' fun e w''=>∃p,e=.returned (.tuple #[.pointer (some ⟨p,0,none⟩),.int .i64 0])/\dY (fun _=>False) Z W (bI p s.lk::ts) w''):=aQ fun w' h'=>by
  obtain ⟨h1,h2,h3,h4,h5,h6,h7,h8,h9,h10,h11,h12⟩:=hs
  obtain ⟨a1,a2,a3,a4,a5,a6⟩:=h1.nums
  obtain ⟨b1,b2,b3,b4,b5,b6⟩:=h2.nums
  have hd:((s.cB.toNat:Nat):Int)=s.cB:=by omega
  have k1:=h'.weak (T:=tRd dK (.slice aa s.a.aZ.length ak) s.a.cfg.aZ) j q.a fun G Y hon=>rd_nat (by rw [a6];exact hon)
  have k2:=k1.front.weak (T:=tRd dK (.slice ba s.b.aZ.length bk) s.b.cfg.aZ) (j+2) (by have:=q.b;exact this) fun G Y hon=>rd_nat (by rw [b6];exact hon)
  have:=newL_c (ts:=tRd dK (.slice ba s.b.aZ.length bk) s.b.cfg.aZ::tRd dK (.slice aa s.a.aZ.length ak) s.a.cfg.aZ::ts) s.a.cfg s.b.cfg h1.ok h2.ok s.cB.toNat (by omega) (by omega) s.there s.back h9 h10 (by omega) (by omega) aa ba ak bk (.slice ta s.there.length tk) (.slice ya s.back.length yk) 1 0 (j+4) (j+5) (by rw [a5];rfl) (by rw [b5];rfl) q.t q.y k2.front
  rw [a1,a2,a3,a4,a5,b1,b2,b3,b4,b5,hd] at this
  refine this.mono fun e w'' ⟨p,he,hh⟩=>⟨p,he,?_⟩
  exact dY.pickL (us:=[bI p s.lk,tRd dK (.slice ba s.b.aZ.length bk) s.b.cfg.aZ,tRd dK (.slice aa s.a.aZ.length ak) s.a.cfg.aZ]) (vs:=[bI p s.lk]) hh [0] (by decide) rfl
 clear h q hs hb0 hrow
 go_enter Tryz.func28,Tryz.ntmps28
 go_wp2_with fail
 refine HC.out.mono ?_
 rintro e w1 ⟨rfl,hb⟩
 have H1:=aQ (H0.out.own hb)
 obtain ⟨y0,y1,y2,y3,y4,y5,y6,y7,y8,y9,y10,y11,y12⟩:=aC ((hb.block _ (lt_of_block HROW.out)).trans HROW.out)
 clear hb x0 x1 x2 x3 x4 x5 x6 x7 x8 x9 x10 x11 x12
 go_wp2_with fail
 refine (HN.out _ H1.out).mono ?_
 rintro e w2 ⟨p,rfl,h2⟩
 have H2:=aQ h2
 clear h2
 go_wp2_with fail
 go_ret
 exact ⟨p,rfl,H2.out⟩
end
end

section
def Lk.runs (L:Lk) (el:List (List Evt)):Lk:=el.foldl Lk.step L
theorem Lk.runs_snoc (L:Lk) (el:List (List Evt)) (es:List Evt):L.runs (el++[es])=(L.runs el).step es:=by unfold Lk.runs;rw [List.foldl_append];rfl
theorem Lk.runs_take (L:Lk) {el:List (List Evt)} {k:Nat} {es:List Evt} (h:el[k]? = some es):L.runs (el.take (k+1))=(L.runs (el.take k)).step es:=by
 rw [List.take_add_one,h];exact L.runs_snoc _ _
structure Lims (el:List (List Evt)):Prop where
 n:el.length<=60
 e:∀es ∈ el,es.length<=6
 d:∀es ∈ el,∀e ∈ es,e.data.length<=100
theorem fits_of {el:List (List Evt)} (h:longB el=false):Lims el:=by
 unfold longB at h
 rw [Bool.or_eq_false_iff] at h
 have h1:=of_decide_eq_false h.1
 have h2:∀es ∈ el,longL es=false:=fun es hes=>by
  cases hl:longL es with
  |false=>rfl
  |true=>exact absurd (List.any_eq_true.2 ⟨es,hes,hl⟩) (by rw [h.2];decide)
 refine ⟨by omega,fun es hes=>?_,fun es hes e he=>?_⟩
 ·have:=h2 es hes
  unfold longL at this
  rw [Bool.or_eq_false_iff] at this
  have:=of_decide_eq_false this.1
  omega
 ·have:=h2 es hes
  unfold longL at this
  rw [Bool.or_eq_false_iff] at this
  by_cases hx:e.data.length<=100
  ·exact hx
  ·have hy:(es.any fun e=>decide ((100:Int) < (e.data.length:Int)))=true:=List.any_eq_true.2 ⟨e,he,decide_eq_true (by omega)⟩
   rw [this.2] at hy
   cases hy
theorem runs_full:∀(el:List (List Evt)) {L:Lk} {N:Nat} {Z:Prop},L.Full N Z->200<=N->(∀es ∈ el,es.length<=6)->(L.runs el).Full (N+13400*el.length) False
 |[],_,_,_,h,_,_=>h.mono (by simp) False.elim
 |es::el,L,N,Z,h,hN,hl=>by
  have h1:=hl es List.mem_cons_self
  have:=runs_full el ((h.step hN es).mono (show _<=N+13400 by omega) (Y:=False) False.elim) (by omega) fun x hx=>hl x (List.mem_cons_of_mem _ hx)
  exact this.mono (by rw [List.length_cons];omega) id
theorem runs_short:∀(el:List (List Evt)) {L:Lk} {N:Nat} {Z:Prop},L.Short->L.Full N Z->200<=N->(L.runs el).Short
 |[],_,_,_,s,_,_=>s
 |es::el,_,_,_,s,h,hN=>runs_short el (s.step h hN es) (h.step hN es) (by omega)
theorem offer_rooms (p:Prt) (c:Int) (d:dV):(p.dQ c d).2.aZ=p.aZ:=by
 unfold Prt.dQ
 split
 ·rfl
 ·split <;> rfl
theorem take_rooms (p:Prt) (c:Int):(p.take c).2.aZ=p.aZ:=by
 unfold Prt.take
 split <;> rfl
theorem restart_rooms (p:Prt) (c:Int):(p.restart c).2.aZ=p.aZ:=by
 unfold Prt.restart
 split <;> rfl
theorem act_rooms (x:Lnd) (e:Evt):(x.act e).2.prt.aZ=x.prt.aZ:=by
 unfold Lnd.act
 split
 ·unfold Lnd.dQ
  split
  ·exact offer_rooms _ _ _
  ·rfl
 ·split
  ·have:=take_rooms x.prt e.cls
   unfold Lnd.take
   rcases hp:x.prt.take e.cls with ⟨o,q⟩
   rw [hp] at this
   cases o with
   |none=>rfl
   |some d=>exact this
  ·unfold Lnd.restart
   split
   ·exact restart_rooms _ _
   ·rfl
def Lk.Rms (L:Lk) (a b:List Nat):Prop:=L.l.prt.aZ=a/\L.r.prt.aZ=b
theorem Lk.Rms.act {L:Lk} {a b:List Nat} (h:L.Rms a b) (e:Evt):(L.act e).2.Rms a b:=by
 unfold Lk.act
 split
 ·exact h
 ·split
  ·exact h
  ·split
   ·exact h
   ·split
    ·exact ⟨(act_rooms _ _).trans h.1,h.2⟩
    ·split
     ·exact ⟨h.1,(act_rooms _ _).trans h.2⟩
     ·exact h
theorem Lk.Rms.acts:∀(es:List Evt) {L:Lk} {a b:List Nat},L.Rms a b->(L.acts es).2.Rms a b
 |[],_,_,_,h=>h
 |e::es,_,_,_,h=>Lk.Rms.acts es (h.act e)
theorem Lk.Rms.cR {L:Lk} {a b:List Nat} (h:L.Rms a b):L.cR.Rms a b:=by
 have s1:=L.l.cR.2.send_same (ys:=L.r.cR.1)
 have s2:=L.r.cR.2.send_same (ys:=L.l.cR.1)
 refine ⟨?_,?_⟩
 ·show (L.l.cR.2.send L.r.cR.1).prt.aZ=a
  rw [s1.prt];exact (tick_rooms _ _).trans h.1
 ·show (L.r.cR.2.send L.l.cR.1).prt.aZ=b
  rw [s2.prt];exact (tick_rooms _ _).trans h.2
theorem Lk.Full.holds {L:Lk} {N:Nat} {Z:Prop} (h:L.Full N Z) {c:Nat} (hc:c < L.l.prt.aZ.length):L.l.prt.cF.getD c 0<=L.l.prt.aW.getD c 0/\L.l.prt.aW.getD c 0<=L.l.prt.cF.getD c 0+L.l.prt.aZ.getD c 0:=by
 have hr:=h.room.2 c hc
 obtain ⟨wl,wr,oa,ga,pa,ob,gb,pb,da,db,i,_⟩:=h
 have:=i.l.cons.got c hc
 omega
end

section
open Go.RowKit
set_option maxRecDepth 100000
abbrev setO (s:RSet) (aa:Option Addr) (ak:Nat) (ba:Option Addr) (bk:Nat) (ta:Option Addr) (tk:Nat) (ya:Option Addr) (yk:Nat):Obj:=
 .cells #[.int .i64 s.a.inc,.slice aa s.a.aZ.length ak,.int .i64 s.a.w,.int .i64 s.a.t,.int .i64 s.a.d,.int .i64 s.b.inc,.slice ba s.b.aZ.length bk,.int .i64 s.b.w,.int .i64 s.b.t,.int .i64 s.b.d,
  .int .i64 s.cB,.slice ta s.there.length tk,.slice ya s.back.length yk] 59
section
variable {Z:BS} {W w:World} {ts:List Th} {p:Nat} {L:Lk}
theorem port_o {cs:Array Value} {v u:EV} (e1:EndAt cs 0 L.l v) (e2:EndAt cs 7 L.r u) (h0:dY (fun _=>False) Z W (dJ p (bG cs)::(bY L.l v++(bY L.r u++ts))) w) (s:Int) (hs:s=0\/s=1) :
  Calls Tryz.prog 13 #[.pointer (some ⟨p,0,none⟩),.int .i64 s] w fun e w'=>e=.returned (.pointer (some ⟨if s=0 then v.pp else u.pp,0,none⟩))/\w=w':=by
 obtain ⟨c0,_⟩:=dL e1 (h0.blk 0 rfl)
 obtain ⟨d0,_⟩:=dR e2 (h0.blk 0 rfl)
 have HX:=aQ (show decide (s=0\/s=1)=true by simpa using hs)
 clear h0 e1 e2
 rcases hs with rfl|rfl
 all_goals
  go_enter Tryz.func13,Tryz.ntmps13
  go_wp2_with (go_at_call 46;refine (exists_c _ _).mono ?_;rw [HX.out];rintro e' w1 ⟨rfl,rfl⟩)
  go_ret
  exact ⟨rfl,rfl⟩
end
end

end Go.Proofs.YtcbnhebiagdbiaaGreatDoor
