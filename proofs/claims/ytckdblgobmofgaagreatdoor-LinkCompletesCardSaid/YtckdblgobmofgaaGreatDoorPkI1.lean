/- Several texts in one: Copies of the frames of a class: link.copies.; The frames of a link are short. No program in sight.; What is read of a link in memory: Taken, Offered, Port.; trial: the example of the chapter, by evaluation; The example of the chapter: plain, awake.; The reference's validity of a configuration.; Reading a setup, and the events of a run. -/
import Derived.Test.YtckdblgobmofgaaGreatDoorPkC1
import Derived.Test.YtckdblgobmofgaaGreatDoorPkH1
import Derived.Test.YtckdblgobmofgaaGreatDoorPkP2
import Derived.Lib.SlBytesConst
import Derived.Test.YtckdblgobmofgaaGreatDoorPkA1
namespace Go.Proofs.YtckdblgobmofgaaGreatDoor
section
open Go.RowKit
set_option maxRecDepth 100000
theorem wpList_app_ow {w w1 w2:World} {ops:Array Oper} {rest:List Oper} {o:Oper} {ac:Act} {Q:Exit->Act->World->Prop} {a:Option Addr} {c:Nat} {xs:List Byt} {e:Byt} {v:Value}
  (hg:o.guard=none) (s x:Operand) (hop:o.op=Op.call { callee:=Callee.builtin Builtin.append,args := #[s,x],argTypes := #[37,37] })
  (h:Held (fun _=>False) (fun _=>False) w [tBB (.slice a xs.length c) xs] w1) (hb:Below w1.heap.size w1 w2) (hl:xs.length<=1000000000) (hv:Nb w2 w1.heap.size v e) (hs:ac.eval s=.slice a xs.length c) (vb:Nat) (hx:ac.eval x=.slice (some ⟨vb,0,none⟩) 1 1) (hrow:Rd w2 1 (.slice (some ⟨vb,0,none⟩) 1 1) 1 [v])
  (hK:∀a' c' w3,Held (fun _=>False) (fun _=>False) w [tBB (.slice a' (xs++[e]).length c') (xs++[e])] w3->wpList Tryz.prog ops Q rest (ac.put o.dst (.slice a' (xs.length+1) c')) w3):wpList Tryz.prog ops Q (o::rest) ac w2:=by
 obtain ⟨va,vc,rfl⟩:=hv.slice
 obtain ⟨K,us,hsl,hKn,hback⟩:=h.app 0 rfl
 refine wpList_apps slBB hg s x hop K (.slice a xs.length c) xs.length us hs (Sl.keep hsl fun k _ hl=>hb.block k hl) _ 1 [.slice va e.length vc] hx hrow (by intro u hu;obtain rfl:=List.mem_singleton.1 hu;rfl) (by unfold maxLen;omega) (by omega) ?_
 intro v' w' hs2 hf2
 obtain ⟨g2,off2,cap2,rfl,_⟩:=Sl.head hs2 (by omega)
 refine hK _ _ _ ?_
 have:=hback w2 w' [.slice va e.length vc] [e] _ hb hs2 hf2 fun Y _=>⟨fun k=>w1.heap.size<=k,fun _=>False,fun _ h=>h,fun _ f=>f.elim,fun _ _ f=>f,Els.single (E:=eSq eU8 5) ⟨_,rfl,hv.sq⟩⟩
 rw [List.length_append]
 exact this
def ClsAt (w:World) (v:Value) (xss:List (List Byt)) (cl:Int):Prop:=
 ∃a n c,v=.slice a n c/\n=xss.length/\∀(m:Nat),cl=(m:Int)->m < n->∃b o ia ic,a=some ⟨b,o,none⟩/\n<=c/\w.cell? ⟨b,o+m,none⟩=some (.slice ia (xss.getD m []).length ic)/\(xss.getD m []).length<=ic /\
  ∀(k:Nat) (d:Byt),(xss.getD m [])[k]? = some d->∃b' o' dv,ia=some ⟨b',o',none⟩/\w.cell? ⟨b',o'+k,none⟩=some dv/\By w dv d
def clsOf (xss:List (List Byt)) (cl:Int):List Byt:=if 0<=cl then xss.getD cl.toNat [] else []
set_option maxHeartbeats 16000000 in
theorem copies_any (v:Value) (xss:List (List Byt)) (cl:Int) (w:World) (_:xss.length<=1000) (hl:∀l ∈ xss,l.length<=1000000000) (hd:∀l ∈ xss,∀d ∈ l,d.length<=1000000) (h:ClsAt w v xss cl) :
  Calls Tryz.prog 47 #[v,.int .i64 cl] w fun e w'=>∃a c,e=.returned (.slice a (clsOf xss cl).length c)/\Held (fun _=>False) (fun _=>False) w [tBB (.slice a (clsOf xss cl).length c) (clsOf xss cl)] w':=by
 obtain ⟨a,n,c,rfl,rfl,hat⟩:=h
 have H0:=Lib.hid (((Held.start0 (fun _=>False) (fun _=>False) (fun _ f=>f.elim) w).add (Below.refl _ _) (T:=tBB (.slice none 0 0) []) (Sq.nil _ _ _ _ _)))
 by_cases h0:cl < 0
 ·have HC:=Lib.hid (show clsOf xss cl=[] by unfold clsOf;rw [if_neg (by omega)])
  clear hat hl hd
  go_enter Tryz.func47,Tryz.ntmps47
  go_wp2_with fail
  go_ret
  rw [HC.out]
  exact ⟨_,_,rfl,H0.out⟩
 ·obtain ⟨m,rfl⟩:∃m:Nat,cl=(m:Int):=⟨cl.toNat,by omega⟩
  have hcl:clsOf xss (m:Int)=xss.getD m []:=by unfold clsOf;rw [if_pos (by omega)];simp
  by_cases h1:xss.length<=m
  ·have HC:=Lib.hid (show clsOf xss (m:Int)=[] by rw [hcl,List.getD_eq_getElem?_getD,List.getElem?_eq_none h1];rfl)
   clear hat hl hd hcl
   go_enter Tryz.func47,Tryz.ntmps47
   go_wp2_with fail
   go_ret
   rw [HC.out]
   exact ⟨_,_,rfl,H0.out⟩
  ·obtain ⟨b,o,ia,ic,rfl,k0,k1,k2,k3⟩:=hat m rfl (by omega)
   have hmem:xss.getD m [] ∈ xss:=by rw [List.getD_eq_getElem?_getD,List.getElem?_eq_getElem (by omega)];exact List.getElem_mem _
   have hl2:=hl _ hmem
   have HD:=Lib.hid (hd _ hmem)
   have hm:m < xss.length:=by omega
   rw [hcl]
   clear hat hl hd hcl hmem
   generalize xss.getD m []=xs at *
   generalize xss.length=n at *
   have HAT:=Lib.hid k3
   clear k3
   go_enter Tryz.func47,Tryz.ntmps47
   go_wp2_with fail
   go_loopw [5,21] (fun u i wr=>∃k:Nat,k<=xs.length/\i=.int .i64 (k:Int)/\∃(a:Option Addr) (c:Nat),u=.slice a (xs.take k).length c/\Hid (Held (fun _=>False) (fun _=>False) w [tBB (.slice a (xs.take k).length c) (xs.take k)] wr)) (fun _ i _=>xs.length - (intOf i).toNat)
   case atStart=>exact ⟨0,by omega,by go_num,_,_,rfl,H0⟩
   case round=>
    clear H0
    obtain ⟨k,hk,rfl,a,c,rfl,HH⟩:=hrel
    have htl:(xs.take k).length=k:=by rw [List.length_take];omega
    by_cases hlt:k < xs.length
    ·have hx:xs[k]? = some xs[k]:=List.getElem?_eq_getElem hlt
     obtain ⟨b',o',dv,rfl,hc,hby⟩:=HAT.out k _ hx
     have HSN:=Lib.hid (show xs.take (k+1)=xs.take k++[xs[k]] from List.take_succ_eq_append_getElem hlt)
     have hdl:=HD.out xs[k] (List.getElem_mem hlt)
     generalize xs[k]=d at *
     have hB:=HH.out.below
     have hc2:=cell_later hB hc
     have HBY:=Lib.hid (By.below hby hB)
     obtain ⟨da,dc,rfl⟩:=hby.slice
     generalize hy:xs.take k=ys at *
     have HY:=Lib.hid hy
     have HYL:=Lib.hid htl
     have hyl:ys.length<=1000000000:=by omega
     clear hy htl hc hby hB hx
     go_wp2_with fail
     refine (clone_any _ d wr HBY.out (by omega)).mono ?_
     rintro e w3 ⟨v3,rfl,h3,hb3⟩
     obtain ⟨va,vc,rfl⟩:=ow_shape h3
     have H3:=Lib.hid (Nb.of_ow h3)
     have HB3:=Lib.hid hb3
     clear h3 hb3
     have HA:=Lib.hid (H3.out.below (below_alloc w3 (.cells #[.slice va d.length vc] 22)))
     have HBB:=Lib.hid (HB3.out.trans ((below_alloc w3 (.cells #[.slice va d.length vc] 22)).mono HB3.out.size))
     have HRD:=Lib.hid (rd_one w3 w3.heap.size (.slice va d.length vc) 22 rfl)
     go_wp2_with (at_builtin;refine wpList_app_ow rfl _ _ rfl HH.out HBB.out hyl HA.out rfl w3.heap.size rfl HRD.out ?_;intro a' c' w5 h;have H5:=Lib.hid h;clear h)
     go_roundw
     case rel=>exact ⟨k+1,by omega,by go_num,a',c',by rw [HSN.out,List.length_append];rfl,by rw [HSN.out];exact H5⟩
     case measure=>simp [intOf];omega
    ·have hkl:xs.take k=xs:=List.take_of_length_le (by omega)
     rw [hkl] at HH ⊢
     clear hkl htl HD HAT
     go_wp2_with fail
     go_ret
     exact ⟨_,_,rfl,HH.out⟩
end

section
def Lnd.Short (x:Lnd):Prop:=(∀l ∈ x.offered,∀d ∈ l,d.length<=1000)/\∀l ∈ x.taken,∀d ∈ l,d.length<=1000
def Lk.Short (L:Lk):Prop:=L.l.Short/\L.r.Short
theorem short_snoc {l:List (List Bytes)} (h:∀l' ∈ l,∀d ∈ l',d.length<=1000) {d:Bytes} (hd:d.length<=1000) (c:Nat):∀l' ∈ l.set c (l.getD c []++[d]),∀e ∈ l',e.length<=1000:=
 mem_set (P:=fun l':List Bytes=>∀e ∈ l',e.length<=1000) h fun e he=>by
  rcases List.mem_append.1 he with he|he
  ·exact getD_all (P:=fun l':List Bytes=>∀e ∈ l',e.length<=1000) h (d:=[]) (by simp) c e he
  ·obtain rfl:=List.mem_singleton.1 he;exact hd
theorem Lnd.Short.act {x:Lnd} {N:Nat} (h:x.Short) (ok:x.prt.Ok N) (e:Evt):(x.act e).2.Short:=by
 unfold Lnd.act
 split
 ·unfold Lnd.offer
  split
  ·rename_i h0
   refine ⟨short_snoc h.1 ?_ _,h.2⟩
   unfold Prt.offer at h0
   split at h0
   ·exact absurd h0 (by show ¬(2:Nat)=0;omega)
   ·rename_i h1
    have:¬ 64 < e.data.length:=fun q=>h1 (.inr q)
    omega
  ·exact h
 ·split
  ·unfold Lnd.take
   cases hp:x.prt.peek e.cls with
   |none=>
    have:x.prt.take e.cls=(none,x.prt):=by unfold Prt.take;rw [hp]
    rw [this]
    exact h
   |some d=>
    have hd:d.length<=1000:=by
     unfold Prt.peek at hp
     split at hp
     ·have:=getD_all (P:=fun l':List Bytes=>∀e ∈ l',e.length<=1000) ok.bsz (d:=[]) (by simp) e.cls.toNat
      generalize x.prt.buffer.getD e.cls.toNat []=l at *
      cases l with
      |nil=>cases hp
      |cons y l=>injection hp with hp;subst hp;exact this _ List.mem_cons_self
     ·cases hp
    have ht:∃q,x.prt.take e.cls=(Option.some d,q):=by unfold Prt.take;rw [hp];exact ⟨_,rfl⟩
    obtain ⟨q,ht⟩:=ht
    rw [ht]
    exact ⟨h.1,short_snoc h.2 hd _⟩
  ·unfold Lnd.restart
   split
   ·exact h
   ·exact h
theorem Lk.Short.act {L:Lk} {N:Nat} {Z:Prop} (h:L.Short) (f:L.Full N Z) (e:Evt):(L.act e).2.Short:=by
 obtain ⟨wl,wr,oa,ga,pa,ob,gb,pb,da,db,i,_⟩:=f
 unfold Lk.act
 split
 ·exact h
 ·split
  ·exact h
  ·split
   ·exact h
   ·split
    ·exact ⟨h.1.act i.l.ok e,h.2⟩
    ·split
     ·exact ⟨h.1,h.2.act i.r.ok e⟩
     ·exact h
theorem Lk.Short.acts:∀(es:List Evt) {L:Lk} {N:Nat} {Z:Prop},L.Short->L.Full N Z->200<=N->(L.acts es).2.Short
 |[],_,_,_,h,_,_=>h
 |e::es,_,_,_,h,f,hN=>Lk.Short.acts es (h.act f e) (f.act hN e) (by omega)
theorem Lk.Short.tick {L:Lk} (h:L.Short):L.tick.Short:=by
 have s1:=L.l.tick.2.send_same (ys:=L.r.tick.1)
 have s2:=L.r.tick.2.send_same (ys:=L.l.tick.1)
 refine ⟨?_,?_⟩
 ·show (L.l.tick.2.send L.r.tick.1).Short
  unfold Lnd.Short
  rw [s1.offered,s1.taken]
  exact h.1
 ·show (L.r.tick.2.send L.l.tick.1).Short
  unfold Lnd.Short
  rw [s2.offered,s2.taken]
  exact h.2
theorem Lk.Short.step {L:Lk} {N:Nat} {Z:Prop} (h:L.Short) (f:L.Full N Z) (hN:200<=N) (es:List Evt):(L.step es).Short:=(Lk.Short.acts es h f hN).tick
theorem newLnd_short (inc:Nat) (rooms:List Nat) (w t d delay:Nat) (fs:List Flt):(newLnd inc rooms w t d delay fs).Short:=
 ⟨fun l hl d hd=>(by obtain rfl:=(List.mem_replicate.1 hl).2;cases hd),fun l hl d hd=>(by obtain rfl:=(List.mem_replicate.1 hl).2;cases hd)⟩
def Lk.off (L:Lk) (s:Int):List (List Bytes):=if s=0 then L.l.offered else if s=1 then L.r.offered else []
def Lk.tak (L:Lk) (s:Int):List (List Bytes):=if s=0 then L.l.taken else if s=1 then L.r.taken else []
end

section
open Go.RowKit
set_option maxRecDepth 100000
theorem Held.joinNew {F Z:BS} {W w w':World} {ts:List Th} {T:Th} (h:Held F Z W ts w) (h2:Held (fun _=>False) (fun _=>False) w [T] w'):Held F Z W (T::ts) w':=by
 obtain ⟨a,Y,b,c⟩:=h2.did'
 exact (h.adds ⟨a,Y,fun k hk=>(b k hk).elim False.elim fun x=>.inr x,c⟩).front
theorem clsAt_of {w:World} {A B:BS} {T:TypeId} {v:Value} {xss:List (List Byt)} (h:Sq (eSq eBy 22) T w A B v xss) (cl:Int):ClsAt w v xss cl:=by
 obtain ⟨a,c,rfl,hc,_,_⟩:=Sq.le h
 refine ⟨a,_,c,rfl,rfl,fun m _ hm=>?_⟩
 obtain ⟨b,o,cs,A',rfl,_,⟨vc,rfl,hr⟩,_,hk⟩:=Sq.at h (by decide) (getD_of (d:=[]) hm)
 have h0:=hk 0 vc rfl
 simp only [eSq,Nat.mul_one,Nat.add_zero] at h0
 obtain ⟨ia,ic,rfl,hic,_,_⟩:=Sq.le hr
 refine ⟨b,o,ia,ic,rfl,hc,h0,hic,fun k d hkd=>?_⟩
 obtain ⟨b',o',cs',A'',rfl,_,⟨dv,rfl,hby⟩,_,hk'⟩:=Sq.at hr (by decide) hkd
 have h1:=hk' 0 dv rfl
 simp only [eBy,Nat.mul_one,Nat.add_zero] at h1
 exact ⟨b',o',dv,rfl,h1,hby.1⟩
section
variable {Z:BS} {W w:World} {ts:List Th} {p N:Nat} {L:Lk} {Zp:Prop}
set_option maxHeartbeats 16000000 in
theorem port_c (h:Held (fun _=>False) Z W (tLink p L::ts) w) (s:Int) (hs:s=0\/s=1):∃cs v u,EndAt cs 0 L.l v/\EndAt cs 7 L.r u/\cs.size=14/\Held (fun _=>False) Z W (tBlk p (lkRow cs)::(endThs L.l v++(endThs L.r u++ts))) w /\
  Calls Tryz.prog 22 #[.pointer (some ⟨p,0,none⟩),.int .i64 s] w fun e w'=>e=.returned (.pointer (some ⟨if s=0 then v.pp else u.pp,0,none⟩))/\w=w':=by
 obtain ⟨cs,v,u,e1,e2,e3,h0⟩:=h.link
 refine ⟨cs,v,u,e1,e2,e3,h0,?_⟩
 obtain ⟨c0,_⟩:=end_cells0 e1 (h0.blk 0 rfl)
 obtain ⟨d0,_⟩:=end_cells7 e2 (h0.blk 0 rfl)
 have HX:=Lib.hid (show decide (s=0\/s=1)=true by simpa using hs)
 clear h h0 e1 e2 e3
 rcases hs with rfl|rfl
 all_goals
  go_enter Tryz.func22,Tryz.ntmps22
  go_wp2_with (go_at_call 46;refine (exists_c _ _).mono ?_;rw [HX.out];rintro e' w1 ⟨rfl,rfl⟩)
  go_ret
  exact ⟨rfl,rfl⟩
set_option maxHeartbeats 16000000 in
theorem taken_c (hF:L.Full N Zp) (hS:L.Short) (hN:N<=1000000000) (s cl:Int) (h:Held (fun _=>False) Z W (tLink p L::ts) w) :
  Calls Tryz.prog 17 #[.pointer (some ⟨p,0,none⟩),.int .i64 s,.int .i64 cl] w fun e w'=>∃a c,e=.returned (.slice a (clsOf (L.tak s) cl).length c)/\Held (fun _=>False) Z W (tBB (.slice a (clsOf (L.tak s) cl).length c) (clsOf (L.tak s) cl)::tLink p L::ts) w':=by
 obtain ⟨cs,v,u,e1,e2,e3,h0⟩:=h.link
 obtain ⟨_,_,_,_,_,c5,_⟩:=end_cells0 e1 (h0.blk 0 rfl)
 obtain ⟨_,_,_,_,_,d5,_⟩:=end_cells7 e2 (h0.blk 0 rfl)
 obtain ⟨A5,B5,q5⟩:=h0.get 5 rfl
 obtain ⟨A6,B6,q6⟩:=h0.get 11 rfl
 have HH:=Lib.hid h
 have HE:=Lib.hid (exists_c s)
 by_cases hs:s=0\/s=1
 ·have hx:decide (s=0\/s=1)=true:=by simpa using hs
  rw [hx] at HE
  rcases hs with rfl|rfl
  ·have HC:=Lib.hid (copies_any v.tv L.l.taken cl w (by have:=hF.fit.tl;obtain ⟨_,i⟩:=hF.fit.l;have:=i.ok.n4;omega) (fun l hl=>by obtain ⟨_,i⟩:=hF.fit.l;exact Nat.le_trans (i.tb l hl) hN) (fun l hl d hd=>Nat.le_trans (hS.1.2 l hl d hd) (by decide)) (clsAt_of (show Sq (eSq eBy 22) 37 w A5 B5 v.tv L.l.taken from q5) cl))
   have HT:=Lib.hid (show L.tak 0=L.l.taken from rfl)
   clear h h0 e1 e2 e3 hF hS hx q5 q6
   go_enter Tryz.func17,Tryz.ntmps17
   go_wp2_with (go_at_call 46;refine (HE.out _).mono ?_;rintro e' w1 ⟨rfl,rfl⟩)
   refine HC.out.mono ?_
   rintro e' w2 ⟨a,c,rfl,h2⟩
   have H2:=Lib.hid h2
   clear h2
   go_wp2_with fail
   go_ret
   rw [HT.out]
   exact ⟨_,_,rfl,HH.out.joinNew H2.out⟩
  ·have HC:=Lib.hid (copies_any u.tv L.r.taken cl w (by have:=hF.fit.tr;obtain ⟨_,i⟩:=hF.fit.r;have:=i.ok.n4;omega) (fun l hl=>by obtain ⟨_,i⟩:=hF.fit.r;exact Nat.le_trans (i.tb l hl) hN) (fun l hl d hd=>Nat.le_trans (hS.2.2 l hl d hd) (by decide)) (clsAt_of (show Sq (eSq eBy 22) 37 w A6 B6 u.tv L.r.taken from q6) cl))
   have HT:=Lib.hid (show L.tak 1=L.r.taken from rfl)
   clear h h0 e1 e2 e3 hF hS hx q5 q6
   go_enter Tryz.func17,Tryz.ntmps17
   go_wp2_with (go_at_call 46;refine (HE.out _).mono ?_;rintro e' w1 ⟨rfl,rfl⟩)
   refine HC.out.mono ?_
   rintro e' w2 ⟨a,c,rfl,h2⟩
   have H2:=Lib.hid h2
   clear h2
   go_wp2_with fail
   go_ret
   rw [HT.out]
   exact ⟨_,_,rfl,HH.out.joinNew H2.out⟩
 ·have hx:decide (s=0\/s=1)=false:=by simpa using hs
  rw [hx] at HE
  have HT:=Lib.hid (show clsOf (L.tak s) cl=[] by
   have:L.tak s=[]:=by unfold Lk.tak;rw [if_neg fun e=>hs (.inl e),if_neg fun e=>hs (.inr e)]
   rw [this];unfold clsOf;split <;> rfl)
  clear h h0 e1 e2 e3 hF hS hx q5 q6
  go_enter Tryz.func17,Tryz.ntmps17
  go_wp2_with (go_at_call 46;refine (HE.out _).mono ?_;rintro e' w1 ⟨rfl,rfl⟩)
  go_ret
  rw [HT.out]
  exact ⟨_,_,rfl,(HH.out.add (Below.refl _ _) (T:=tBB (.slice none 0 0) []) (Sq.nil _ _ _ _ _)).front⟩
set_option maxHeartbeats 16000000 in
theorem offered_c (hF:L.Full N Zp) (hS:L.Short) (hN:N<=1000000000) (s cl:Int) (h:Held (fun _=>False) Z W (tLink p L::ts) w) :
  Calls Tryz.prog 16 #[.pointer (some ⟨p,0,none⟩),.int .i64 s,.int .i64 cl] w fun e w'=>∃a c,e=.returned (.slice a (clsOf (L.off s) cl).length c)/\Held (fun _=>False) Z W (tBB (.slice a (clsOf (L.off s) cl).length c) (clsOf (L.off s) cl)::tLink p L::ts) w':=by
 obtain ⟨cs,v,u,e1,e2,e3,h0⟩:=h.link
 obtain ⟨_,_,_,_,c5,_,_⟩:=end_cells0 e1 (h0.blk 0 rfl)
 obtain ⟨_,_,_,_,d5,_,_⟩:=end_cells7 e2 (h0.blk 0 rfl)
 obtain ⟨A5,B5,q5⟩:=h0.get 4 rfl
 obtain ⟨A6,B6,q6⟩:=h0.get 10 rfl
 have HH:=Lib.hid h
 have HE:=Lib.hid (exists_c s)
 by_cases hs:s=0\/s=1
 ·have hx:decide (s=0\/s=1)=true:=by simpa using hs
  rw [hx] at HE
  rcases hs with rfl|rfl
  ·have HC:=Lib.hid (copies_any v.ov L.l.offered cl w (by have:=hF.fit.ol;obtain ⟨_,i⟩:=hF.fit.l;have:=i.ok.n4;omega) (fun l hl=>by obtain ⟨_,i⟩:=hF.fit.l;exact Nat.le_trans (i.ob l hl) hN) (fun l hl d hd=>Nat.le_trans (hS.1.1 l hl d hd) (by decide)) (clsAt_of (show Sq (eSq eBy 22) 37 w A5 B5 v.ov L.l.offered from q5) cl))
   have HT:=Lib.hid (show L.off 0=L.l.offered from rfl)
   clear h h0 e1 e2 e3 hF hS hx q5 q6
   go_enter Tryz.func16,Tryz.ntmps16
   go_wp2_with (go_at_call 46;refine (HE.out _).mono ?_;rintro e' w1 ⟨rfl,rfl⟩)
   refine HC.out.mono ?_
   rintro e' w2 ⟨a,c,rfl,h2⟩
   have H2:=Lib.hid h2
   clear h2
   go_wp2_with fail
   go_ret
   rw [HT.out]
   exact ⟨_,_,rfl,HH.out.joinNew H2.out⟩
  ·have HC:=Lib.hid (copies_any u.ov L.r.offered cl w (by have:=hF.fit.or';obtain ⟨_,i⟩:=hF.fit.r;have:=i.ok.n4;omega) (fun l hl=>by obtain ⟨_,i⟩:=hF.fit.r;exact Nat.le_trans (i.ob l hl) hN) (fun l hl d hd=>Nat.le_trans (hS.2.1 l hl d hd) (by decide)) (clsAt_of (show Sq (eSq eBy 22) 37 w A6 B6 u.ov L.r.offered from q6) cl))
   have HT:=Lib.hid (show L.off 1=L.r.offered from rfl)
   clear h h0 e1 e2 e3 hF hS hx q5 q6
   go_enter Tryz.func16,Tryz.ntmps16
   go_wp2_with (go_at_call 46;refine (HE.out _).mono ?_;rintro e' w1 ⟨rfl,rfl⟩)
   refine HC.out.mono ?_
   rintro e' w2 ⟨a,c,rfl,h2⟩
   have H2:=Lib.hid h2
   clear h2
   go_wp2_with fail
   go_ret
   rw [HT.out]
   exact ⟨_,_,rfl,HH.out.joinNew H2.out⟩
 ·have hx:decide (s=0\/s=1)=false:=by simpa using hs
  rw [hx] at HE
  have HT:=Lib.hid (show clsOf (L.off s) cl=[] by
   have:L.off s=[]:=by unfold Lk.off;rw [if_neg fun e=>hs (.inl e),if_neg fun e=>hs (.inr e)]
   rw [this];unfold clsOf;split <;> rfl)
  clear h h0 e1 e2 e3 hF hS hx q5 q6
  go_enter Tryz.func16,Tryz.ntmps16
  go_wp2_with (go_at_call 46;refine (HE.out _).mono ?_;rintro e' w1 ⟨rfl,rfl⟩)
  go_ret
  rw [HT.out]
  exact ⟨_,_,rfl,(HH.out.add (Below.refl _ _) (T:=tBB (.slice none 0 0) []) (Sq.nil _ _ _ _ _)).front⟩
theorem offered_nil (s cl:Int) (w:World):Calls Tryz.prog 16 #[.pointer none,.int .i64 s,.int .i64 cl] w fun e w'=>e=.returned (.slice none 0 0)/\w=w':=by
 go_enter Tryz.func16,Tryz.ntmps16
 go_wp2_with fail
 go_ret
 exact ⟨rfl,rfl⟩
theorem taken_nil (s cl:Int) (w:World):Calls Tryz.prog 17 #[.pointer none,.int .i64 s,.int .i64 cl] w fun e w'=>e=.returned (.slice none 0 0)/\w=w':=by
 go_enter Tryz.func17,Tryz.ntmps17
 go_wp2_with fail
 go_ret
 exact ⟨rfl,rfl⟩
theorem port_nil (s:Int) (w:World):Calls Tryz.prog 22 #[.pointer none,.int .i64 s] w fun e w'=>e=.returned (.pointer none)/\w=w':=by
 go_enter Tryz.func22,Tryz.ntmps22
 go_wp2_with fail
 go_ret
 exact ⟨rfl,rfl⟩
theorem port_none (p:Nat) (s:Int) (hs:¬(s=0\/s=1)) (w:World):Calls Tryz.prog 22 #[.pointer (some ⟨p,0,none⟩),.int .i64 s] w fun e w'=>e=.returned (.pointer none)/\w=w':=by
 have HX:=Lib.hid (show decide (s=0\/s=1)=false by simpa using hs)
 clear hs
 go_enter Tryz.func22,Tryz.ntmps22
 go_wp2_with (go_at_call 46;refine (exists_c _ _).mono ?_;rw [HX.out];rintro e' w1 ⟨rfl,rfl⟩)
 go_ret
 exact ⟨rfl,rfl⟩
theorem quiet_nil (w:World):Calls Tryz.prog 25 #[.pointer none] w fun e w'=>e=.returned (.bool false)/\w=w':=by
 go_enter Tryz.func25,Tryz.ntmps25
 go_wp2_with fail
 go_ret
 exact ⟨rfl,rfl⟩
end
end

section
def awk:Lk:=newLk ⟨5,[2],4,4,9⟩ ⟨7,[2],4,4,9⟩ 1 [] []
def awk2:Lk:=((((((awk.step []).step []).step []).step []).step [⟨1,0,0,[97,98]⟩]).step []).step [⟨2,1,0,[]⟩]
theorem awk_taken:awk2.r.taken=[[[97,98]]]:=by decide +kernel
end

section
open Go.RowKit
set_option maxRecDepth 100000
theorem rd_lit (w:World) (g s n:Nat) (us:List Value) (T:TypeId) (f:Nat × Nat) (hg:g=w.heap.size) (hs:us.length=n*s) (hn:n<=1000):Rd (w.alloc (.cells us.toArray T f)) s (.slice (some ⟨g,0,none⟩) n n) n us:=by
 subst hg
 refine ⟨hs,_,_,rfl,Nat.le_refl _,by unfold maxLen;omega,(fun e=>by cases e),fun b hb j u hj=>?_⟩
 obtain rfl:=Option.some.inj hb
 refine ⟨rfl,?_⟩
 have h0:(w.alloc (.cells us.toArray T f)).heap[w.heap.size]? = some (.cells us.toArray T f):=heap_alloc_new w _
 simp only [World.cell?,h0,Nat.zero_add]
 simpa using hj
theorem own_lit {g n k b:Nat} (h:(Value.slice (some ⟨g,0,none⟩) n k).ownBlock=some b):g<=b:=by
 obtain rfl:g=b:=by simpa [Value.ownBlock] using h
 exact Nat.le_refl _
section
variable {F Z:BS} {W w:World} {ts:List Th}
theorem Held.lit_nat (h:Held F Z W ts w) (x:Nat) (T:TypeId):Held F Z W (tRd eNat (.slice (some ⟨w.heap.size,0,none⟩) 1 1) [x]::ts) (w.alloc (.cells #[.int .i64 (x:Int)] T)):=
 (h.addZ (T:=tRd eNat (.slice (some ⟨w.heap.size,0,none⟩) 1 1) [x]) (below_alloc w _) ⟨_,rd_lit w _ 1 1 [.int .i64 (x:Int)] T _ rfl rfl (by decide),Els.single (E:=eNat) rfl,fun _ b hb=>own_lit hb⟩).front
theorem Held.lit_by (h:Held F Z W ts w) (bs:Byt) (f:Nat × Nat) (hn:bs.length<=1000):Held F Z W (tBy (.slice (some ⟨w.heap.size,0,none⟩) bs.length bs.length) bs::ts) (w.alloc (.cells (cu bs).toArray 5 f)):=
 (h.addZ (T:=tBy (.slice (some ⟨w.heap.size,0,none⟩) bs.length bs.length) bs) (below_alloc w _) ⟨rd_lit w _ 1 bs.length (cu bs) _ _ rfl (by rw [cu_length];omega) hn,fun _ b hb=>own_lit hb⟩).front
theorem Held.lit_evt (h:Held F Z W ts w) (e:Evt) (j:Nat) {v:Value} (hj:ts[j]? = some (tBy v e.data)):Held F Z W (ts.set j (tRd eEvt (.slice (some ⟨w.heap.size,0,none⟩) 1 1) [e])) (w.alloc (.cells #[.int .i64 e.kind,.int .i64 e.side,.int .i64 e.cls,v] 36)):=
 h.grow j hj fun G Y hby hd=>by
  have hby:ByZ w Y v e.data:=hby
  have hb:=below_alloc w (.cells #[.int .i64 e.kind,.int .i64 e.side,.int .i64 e.cls,v] 36)
  refine ⟨fun _=>False,fun k=>(Y k/\k < w.heap.size)\/w.heap.size<=k,fun _ f=>f.elim,fun _ h=>h,fun _ f=>f.elim,?_,(Fr.refl G w).alloc _⟩
  refine ⟨_,rd_lit w _ 4 1 [.int .i64 e.kind,.int .i64 e.side,.int .i64 e.cls,v] _ _ rfl rfl (by decide),Els.single (E:=eEvt) ⟨v,rfl,(hby.stay (w':=w.alloc _) fun k _ hl=>hb.block k hl).mono fun k hk=>.inl hk⟩,fun _ b hb=>.inr (own_lit hb)⟩
end
set_option maxHeartbeats 4000000 in
theorem plain_c (i:Int) (a:Option Addr) (n k:Nat) (w:World):Calls Tryz.prog 13 #[.int .i64 i,.slice a n k] w fun e w'=>e=.returned (cfgV i a n k 4 4 9)/\Below w.heap.size w w':=by
 go_enter Tryz.func13,Tryz.ntmps13
 go_wp2_with fail
 obtain ⟨q0,q1,q2,q3,q4⟩:=pk_cells (heap_alloc_new w (.cells #[.int .i64 i,.slice a n k,.int .i64 4,.int .i64 4,.int .i64 9] 30))
 exact bodyPost_ret (v:=cfgV i a n k 4 4 9) (by simp [results,Tryz.results13,go_sem,q0,q1,q2,q3,q4]) rfl ⟨rfl,below_alloc w _⟩
def awkN:Nat->Lk
 |0=>awk
 |n+1=>(awkN n).step []
def awk1:Lk:=(awkN 4).step [⟨1,0,0,[97,98]⟩]
theorem awk_f:((awkN 4).acts [⟨1,0,0,[97,98]⟩]).1=[0]:=by decide +kernel
theorem awk_g:((awk1.step []).acts [⟨2,1,0,[]⟩]).1=[0]:=by decide +kernel
def awk3:Lk:=(awk1.step []).step [⟨2,1,0,[]⟩]
theorem awk3_eq:awk3=awk2:=rfl
theorem awk3_taken:clsOf (awk3.tak 1) 0=[[97,98]]:=by
 rw [awk3_eq]
 have:awk2.tak 1=awk2.r.taken:=rfl
 rw [this,awk_taken];rfl
theorem awk_full0:awk.Full 200 True:=
 newLk_full (a:=⟨5,[2],4,4,9⟩) (b:=⟨7,[2],4,4,9⟩) ⟨by decide,by decide,by decide,by decide,by decide,by decide,by decide,by decide,by decide,by decide,by decide⟩ ⟨by decide,by decide,by decide,by decide,by decide,by decide,by decide,by decide,by decide,by decide,by decide⟩ (by decide) (by decide) rfl rfl (by decide) (by decide)
theorem awkN_zero:awkN 0=awk:=rfl
theorem awkN_succ (n:Nat):awkN (n+1)=(awkN n).step []:=rfl
theorem awk_full:∀n,(awkN n).Full (200+13000*n) False
 |0=>by rw [awkN_zero];exact awk_full0.mono (Nat.le_refl _) False.elim
 |n+1=>by rw [awkN_succ];exact ((awk_full n).step (by omega) []).mono (by simp;omega) False.elim
theorem awk_short:∀n,(awkN n).Short
 |0=>by rw [awkN_zero];exact ⟨newLnd_short _ _ _ _ _ _ _,newLnd_short _ _ _ _ _ _ _⟩
 |n+1=>by rw [awkN_succ];exact (awk_short n).step (awk_full n) (by omega) []
set_option maxHeartbeats 16000000 in
theorem awake_c (w:World) (ht:Tabs w):Calls Tryz.prog 11 #[] w fun e w'=>e=.returned (.bool true)/\Below w.heap.size w w':=by
 have HT:=Lib.hid ht
 clear ht
 have kc:=fun (w:World) (C:Array Value) (n c:Nat)=>Lib.run_convert_bytes_const (P:=Tryz.prog) w 22 5 C n c Tryz.underlying22 Tryz.underlying5
 have H0:=Lib.hid (((Held.start0 (fun _=>False) (fun _=>False) (fun _ f=>f.elim) w).add (Below.refl _ _) (T:=tRd eFlt (.slice none 0 0) []) (RdS.nil _ _ _)).add (Below.refl _ _) (T:=tRd eEvt (.slice none 0 0) []) (RdS.nil _ _ _))
 go_enter Tryz.func11,Tryz.ntmps11
 go_wp2_with fail
 refine (plain_c 5 _ _ _ _).mono ?_
 rintro e w1 ⟨rfl,hb⟩
 have H1:=Lib.hid ((H0.out.lit_nat 2 3).own hb)
 clear hb H0
 go_wp2_with fail
 refine (plain_c 7 _ _ _ _).mono ?_
 rintro e w2 ⟨rfl,hb⟩
 have H2:=Lib.hid ((H1.out.lit_nat 2 3).own hb)
 clear hb H1
 go_wp2_with fail
 refine (newL_c ⟨5,[2],4,4,9⟩ ⟨7,[2],4,4,9⟩ ⟨by decide,by decide,by decide,by decide,by decide,by decide,by decide,by decide,by decide,by decide,by decide⟩ ⟨by decide,by decide,by decide,by decide,by decide,by decide,by decide,by decide,by decide,by decide,by decide⟩ 1 (by decide) (by decide) [] [] rfl rfl (by decide) (by decide) (some ⟨w.heap.size,0,none⟩) (some ⟨w1.heap.size,0,none⟩) 1 1 _ _ 1 0 2 2 rfl rfl rfl rfl H2.out).mono ?_
 rintro e w3 ⟨p,rfl,h3⟩
 have H3:=Lib.hid (show Held (fun _=>False) (fun _=>False) w [tLink p (awkN 0),tRd eNat (.slice (some ⟨w1.heap.size,0,none⟩) 1 1) [2],tRd eNat (.slice (some ⟨w.heap.size,0,none⟩) 1 1) [2],tRd eFlt (.slice none 0 0) [],tRd eEvt (.slice none 0 0) []] w3 from h3)
 have H4:=Lib.hid (H3.out.pick [0,4] [tLink p (awkN 0),tRd eEvt (.slice none 0 0) []] (by decide) rfl)
 clear h3 H2 H3
 go_wp2_with fail
 go_loopw [20] (fun i wr=>∃n:Nat,n<=4/\i=.int .i64 (n:Int)/\Hid (Held (fun _=>False) (fun _=>False) w [tLink p (awkN n),tRd eEvt (.slice none 0 0) []] wr)) (fun i _=>4 - (intOf i).toNat)
 case atStart=>exact ⟨0,by decide,rfl,H4⟩
 case round=>
  clear H4
  obtain ⟨n,hn,rfl,HK⟩:=hrel
  by_cases hlt:n < 4
  ·go_wp2_with fail
   refine (tickL_c (awk_full n) (by omega) [] (by decide) (by simp;omega) (by simp) (.slice none 0 0) 0 rfl HT.out HK.out).mono ?_
   rintro e w4 ⟨a4,c4,rfl,h4⟩
   have H4:=Lib.hid (show Held (fun _=>False) (fun _=>False) w [tLink p (awkN (n+1)),tRd eEvt (.slice none 0 0) []] w4 from h4.tail)
   clear h4 HK
   go_wp2_with fail
   go_roundw
   case rel=>exact ⟨n+1,by omega,by go_num,H4⟩
   case measure=>simp [intOf];omega
  ·obtain rfl:n=4:=by omega
   go_wp2_with fail
   have HA:=Lib.hid (show Held (fun _=>False) (fun _=>False) w [tLink p (awkN 4),tRd eEvt (.slice (some ⟨wr.heap.size+1,0,none⟩) 1 1) [⟨1,0,0,[97,98]⟩],tRd eEvt (.slice none 0 0) []] ((wr.alloc (.cells #[.int .u8 97,.int .u8 98] 5 (2,3))).alloc (.cells #[.int .i64 1,.int .i64 0,.int .i64 0,.slice (some ⟨wr.heap.size,0,none⟩) 2 2] 36)) from by
    have h:=((HK.out.lit_by [97,98] (2,3) (by decide)).lit_evt ⟨1,0,0,[97,98]⟩ 0 rfl).pick [1,0,2] [tLink p (awkN 4),tRd eEvt (.slice (some ⟨(wr.alloc (.cells #[.int .u8 97,.int .u8 98] 5 (2,3))).heap.size,0,none⟩) 1 1) [⟨1,0,0,[97,98]⟩],tRd eEvt (.slice none 0 0) []] (by decide) rfl
    rw [World.size_alloc] at h
    exact h)
   clear HK
   go_wp2_with fail
   refine (tickL_c (awk_full 4) (by omega) [⟨1,0,0,[97,98]⟩] (by decide) (by decide) (by simp) _ 0 rfl HT.out HA.out).mono ?_
   rintro e w4 ⟨a4,c4,rfl,h4⟩
   rw [awk_f] at h4 ⊢
   have H4:=Lib.hid ((show Held (fun _=>False) (fun _=>False) w [tSq eNat 25 (.slice a4 1 c4) [0],tLink p awk1,tRd eEvt (.slice (some ⟨wr.heap.size+1,0,none⟩) 1 1) [⟨1,0,0,[97,98]⟩],tRd eEvt (.slice none 0 0) []] w4 from h4).pick [1,3,0] [tLink p awk1,tRd eEvt (.slice none 0 0) [],tSq eNat 25 (.slice a4 1 c4) [0]] (by decide) rfl)
   have HF1:=Lib.hid (show awk1.Full 100000 False from ((awk_full 4).step (by omega) [⟨1,0,0,[97,98]⟩]).mono (by simp) False.elim)
   have HS1:=Lib.hid (show awk1.Short from (awk_short 4).step (awk_full 4) (by omega) _)
   rw [show [0].length=1 from rfl]
   clear h4 HA
   go_wp2_with fail
   refine (tickL_c HF1.out (by omega) [] (by decide) (by simp) (by simp) (.slice none 0 0) 0 rfl HT.out H4.out).mono ?_
   rintro e w5 ⟨a5,c5,rfl,h5⟩
   have H5:=Lib.hid (((show Held (fun _=>False) (fun _=>False) w [tLink p (awk1.step []),tRd eEvt (.slice none 0 0) [],tSq eNat 25 (.slice a4 1 c4) [0]] w5 from h5.tail).add (Below.refl _ _) (T:=tBy (.slice none 0 0) []) (ByZ.nil _ _)).front)
   have HF2:=Lib.hid (show (awk1.step []).Full 200000 False from (HF1.out.step (by omega) []).mono (by simp) False.elim)
   have HS2:=Lib.hid (HS1.out.step HF1.out (by omega) [])
   clear h5 H4
   go_wp2_with fail
   have H6:=Lib.hid ((H5.out.lit_evt ⟨2,1,0,[]⟩ 0 rfl).pick [1,0,3] [tLink p (awk1.step []),tRd eEvt (.slice (some ⟨w5.heap.size,0,none⟩) 1 1) [⟨2,1,0,[]⟩],tSq eNat 25 (.slice a4 1 c4) [0]] (by decide) rfl)
   clear H5
   refine (tickL_c HF2.out (by omega) [⟨2,1,0,[]⟩] (by decide) (by simp) (by simp) _ 0 rfl HT.out H6.out).mono ?_
   rintro e w6 ⟨a6,c6,rfl,h6⟩
   rw [awk_g] at h6 ⊢
   have H7:=Lib.hid ((show Held (fun _=>False) (fun _=>False) w [tSq eNat 25 (.slice a6 1 c6) [0],tLink p awk3,tRd eEvt (.slice (some ⟨w5.heap.size,0,none⟩) 1 1) [⟨2,1,0,[]⟩],tSq eNat 25 (.slice a4 1 c4) [0]] w6 from h6).pick [1,0,3] [tLink p awk3,tSq eNat 25 (.slice a6 1 c6) [0],tSq eNat 25 (.slice a4 1 c4) [0]] (by decide) rfl)
   have HF3:=Lib.hid (show awk3.Full 300000 False from (HF2.out.step (by omega) [⟨2,1,0,[]⟩]).mono (by simp) False.elim)
   have HS3:=Lib.hid (show awk3.Short from HS2.out.step HF2.out (by omega) [⟨2,1,0,[]⟩])
   rw [show [0].length=1 from rfl]
   clear h6 H6
   go_wp2_with fail
   refine (taken_c HF3.out HS3.out (by omega) 1 0 H7.out).mono ?_
   rintro e w7 ⟨a7,c7,rfl,h7⟩
   rw [awk3_taken] at h7 ⊢
   obtain ⟨_,_,r1⟩:=h7.get 2 rfl
   obtain ⟨_,_,r2⟩:=h7.get 3 rfl
   obtain ⟨b1,o1,rfl,k1⟩:=nat_at (show Sq eNat 25 w7 _ _ (.slice a6 1 c6) [0] from r1) (i:=0) (x:=0) rfl
   obtain ⟨b2,o2,rfl,k2⟩:=nat_at (show Sq eNat 25 w7 _ _ (.slice a4 1 c4) [0] from r2) (i:=0) (x:=0) rfl
   obtain ⟨b3,o3,k3,v3,e3,m3,k4,hby⟩:=h7.bb_at 0 rfl (c:=0) (xs:=[97,98]) rfl
   obtain ⟨rfl,rfl⟩:a7=some ⟨b3,o3,none⟩/\c7=k3:=by simpa using e3
   rw [show ([[97,98]]:List Byt).length=1 from rfl]
   have HB:=Lib.hid h7.below
   have hstr:=run_str8 (P:=Tryz.prog) (dst := 9) Tryz.underlying22 Tryz.underlying5 Tryz.underlying9 hby
   rw [show str8 [97,98]=⟨#[97,98]⟩ by decide +kernel] at hstr
   obtain ⟨va,vc,rfl⟩:=hby.slice
   clear h7 hby r1 r2 e3 H7
   simp only [Nat.add_zero] at k1 k2 k4
   rw [show ([97,98]:Byt).length=2 from rfl] at hstr k4
   have hse:((⟨#[97,98]⟩:ByteArray).toList == (⟨#[97,98]⟩:ByteArray).toList)=true:=by simp
   go_wp2_with fail
   go_ret
   exact ⟨rfl,HB.out⟩
end

section
open Go.RowKit
set_option maxRecDepth 100000
def V8 (i d:Int):Prop:=1<=i/\i<=1099511627775/\1<=d/\d<=1000
instance (i d:Int):Decidable (V8 i d):=by unfold V8;infer_instance
def V7 (rooms:List Int):Prop:=1<=rooms.length/\rooms.length<=4/\∀x ∈ rooms,1<=x/\x<=64
instance (l:List Int):Decidable (V7 l):=by unfold V7;infer_instance
def V11 (i:Int) (rooms:List Int) (wi ti de:Int):Prop:=V8 i de/\V7 rooms/\1<=wi/\wi<=128/\1<=ti/\ti<=1000
instance (i:Int) (l:List Int) (a b c:Int):Decidable (V11 i l a b c):=by unfold V11;infer_instance
theorem V11.ok {i:Int} {l:List Int} {a b c:Int} (h:V11 i l a b c):CfgOk i l a b c:=by
 obtain ⟨⟨h1,h2,h3,h4⟩,⟨h5,h6,h7⟩,h8,h9,h10,h11⟩:=h
 exact ⟨h5,h6,h7,h1,h2,h8,h9,h10,h11,h3,h4⟩
theorem V11.of {i:Int} {l:List Int} {a b c:Int} (h:CfgOk i l a b c):V11 i l a b c:=⟨⟨h.i1,h.i2,h.d1,h.d2⟩,⟨h.n1,h.n4,h.rm⟩,h.w1,h.w2,h.t1,h.t2⟩
set_option maxHeartbeats 4000000 in
theorem valid08_c (i d:Int) (w:World):Calls Tryz.prog 57 #[.int .i64 i,.int .i64 d] w fun e w'=>e=.returned (.bool (decide (V8 i d)))/\w=w':=by
 have hc:i < 1\/(1<=i/\1099511627776<=i)\/(1<=i/\i < 1099511627776/\d < 1)\/(1<=i/\i < 1099511627776/\1<=d/\1000 < d)\/(1<=i/\i < 1099511627776/\1<=d/\d<=1000):=by omega
 rcases hc with h1|⟨h1,h2⟩|⟨h1,h2,h3⟩|⟨h1,h2,h3,h4⟩|⟨h1,h2,h3,h4⟩
 iterate 3
  focus
   have HD:=Lib.hid (show decide (V8 i d)=false from decide_eq_false (by unfold V8;omega))
   go_enter Tryz.func57,Tryz.ntmps57
   go_wp2_with fail
   go_ret
   exact ⟨by rw [HD.out];rfl,rfl⟩
 focus
  have HD:=Lib.hid (show decide (V8 i d)=false from decide_eq_false (by unfold V8;omega))
  have HE:=Lib.hid (show decide (d<=1000)=false from decide_eq_false (by omega))
  go_enter Tryz.func57,Tryz.ntmps57
  go_wp2_with fail
  go_ret
  exact ⟨by rw [HD.out,HE.out];rfl,rfl⟩
 have HD:=Lib.hid (show decide (V8 i d)=true from decide_eq_true (by unfold V8;omega))
 go_enter Tryz.func57,Tryz.ntmps57
 go_wp2_with fail
 go_ret
 exact ⟨by rw [HD.out];rfl,rfl⟩
set_option maxHeartbeats 4000000 in
theorem rooms07_c {rooms:List Int} {ra:Option Addr} {rc:Nat} (w:World) (hl:rooms.length<=9223372036854775807) (hr:Nums w ra rooms) :
  Calls Tryz.prog 58 #[.slice ra rooms.length rc] w fun e w'=>e=.returned (.bool (decide (V7 rooms)))/\w=w':=by
 by_cases hn:rooms.length < 1\/(1<=rooms.length/\4 < rooms.length)
 ·have HD:=Lib.hid (show decide (V7 rooms)=false from decide_eq_false fun h=>by have:=h.1;have:=h.2.1;omega)
  clear hr
  rcases hn with h1|⟨h1,h2⟩
  all_goals
   go_enter Tryz.func58,Tryz.ntmps58
   go_wp2_with fail
   go_ret
   exact ⟨by rw [HD.out];rfl,rfl⟩
 ·have n1:1<=rooms.length:=by omega
  have n4:rooms.length<=4:=by omega
  have HR:=Lib.hid hr
  clear hr hn
  go_enter Tryz.func58,Tryz.ntmps58
  go_wp2_with fail
  go_loop [3] (fun i=>∃k:Nat,k<=rooms.length/\i=.int .i64 (k:Int)/\Hid (∀x ∈ rooms.take k,1<=x/\x<=64)) (fun i=>rooms.length - (intOf i).toNat)
  case atStart=>exact ⟨0,Nat.zero_le _,rfl,Lib.hid (by simp)⟩
  case round=>
   obtain ⟨k,hk,rfl,HK⟩:=hrel
   by_cases hlt:k < rooms.length
   ·have hx:rooms[k]? = some (rooms.getD k 0):=getD_of hlt
    obtain ⟨b,o,e,hc⟩:=HR.out k _ hx
    subst e
    have HM:=Lib.hid (List.mem_of_getElem? hx)
    have HS:=Lib.hid (show rooms.take (k+1)=rooms.take k++[rooms.getD k 0] by rw [List.take_add_one,hx];rfl)
    generalize rooms.getD k 0=x at *
    clear hx
    have hcc:x < 1\/(1<=x/\64 < x)\/(1<=x/\x<=64):=by omega
    rcases hcc with q|⟨q,q2⟩|⟨q,q2⟩
    iterate 2
     focus
      have HD:=Lib.hid (show decide (V7 rooms)=false from decide_eq_false fun h=>by have:=h.2.2 x HM.out;omega)
      go_wp2_with fail
      go_ret
      exact ⟨by rw [HD.out];rfl,rfl⟩
    go_wp2_with fail
    go_round
    case rel=>exact ⟨k+1,by omega,by go_num,Lib.hid (by
     rw [HS.out]
     intro y hy
     rcases List.mem_append.1 hy with hy|hy
     ·exact HK.out y hy
     ·obtain rfl:=List.mem_singleton.1 hy;exact ⟨q,q2⟩)⟩
    case measure=>simp [intOf];omega
   ·obtain rfl:rooms.length=k:=by omega
    have HD:=Lib.hid (show decide (V7 rooms)=true from decide_eq_true ⟨n1,n4,by have:=HK.out;rwa [List.take_length] at this⟩)
    go_wp2_with fail
    go_ret
    exact ⟨by rw [HD.out];rfl,rfl⟩
set_option maxHeartbeats 8000000 in
theorem valid11_c {inc wi ti de:Int} {rooms:List Int} {ra:Option Addr} {rc:Nat} (w:World) (hl:rooms.length<=9223372036854775807) (hr:Nums w ra rooms) :
  Calls Tryz.prog 29 #[cfgV inc ra rooms.length rc wi ti de] w fun e w'=>e=.returned (.bool (decide (V11 inc rooms wi ti de)))/\Below w.heap.size w w':=by
 have hrow:=heap_alloc_new w (.cells #[.int .i64 inc,.slice ra rooms.length rc,.int .i64 wi,.int .i64 ti,.int .i64 de] 59)
 have HR:=Lib.hid (rooms07_c (rc:=rc) (w.alloc (.cells #[.int .i64 inc,.slice ra rooms.length rc,.int .i64 wi,.int .i64 ti,.int .i64 de] 59)) hl (hr.below (below_alloc w _)))
 have HB:=Lib.hid (below_alloc w (.cells #[.int .i64 inc,.slice ra rooms.length rc,.int .i64 wi,.int .i64 ti,.int .i64 de] 59))
 clear hr
 obtain ⟨c0,c1,c2,c3,c4⟩:=pk_cells hrow
 clear hrow
 have hcc:¬V8 inc de\/(V8 inc de/\¬V7 rooms)\/(V8 inc de/\V7 rooms/\wi < 1)\/(V8 inc de/\V7 rooms/\1<=wi/\128 < wi)\/(V8 inc de/\V7 rooms/\1<=wi/\wi<=128/\ti < 1)\/(V8 inc de/\V7 rooms/\1<=wi/\wi<=128/\1<=ti/\1000 < ti)\/(V8 inc de/\V7 rooms/\1<=wi/\wi<=128/\1<=ti/\ti<=1000):=by
  by_cases a:V8 inc de
  ·by_cases b:V7 rooms
   ·have:wi < 1\/(1<=wi/\128 < wi)\/(1<=wi/\wi<=128/\ti < 1)\/(1<=wi/\wi<=128/\1<=ti/\1000 < ti)\/(1<=wi/\wi<=128/\1<=ti/\ti<=1000):=by omega
    rcases this with h|h|h|h|h
    ·exact .inr (.inr (.inl ⟨a,b,h⟩))
    ·exact .inr (.inr (.inr (.inl ⟨a,b,h⟩)))
    ·exact .inr (.inr (.inr (.inr (.inl ⟨a,b,h⟩))))
    ·exact .inr (.inr (.inr (.inr (.inr (.inl ⟨a,b,h⟩)))))
    ·exact .inr (.inr (.inr (.inr (.inr (.inr ⟨a,b,h⟩)))))
   ·exact .inr (.inl ⟨a,b⟩)
  ·exact .inl a
 have HV8:=Lib.hid (valid08_c inc de (w.alloc (.cells #[.int .i64 inc,.slice ra rooms.length rc,.int .i64 wi,.int .i64 ti,.int .i64 de] 59)))
 have HD:Hid (∀(h:¬V11 inc rooms wi ti de),decide (V11 inc rooms wi ti de)=false):=Lib.hid fun h=>decide_eq_false h
 rcases hcc with h8|⟨h8,h7⟩|⟨h8,h7,h1⟩|⟨h8,h7,h1,h2⟩|⟨h8,h7,h1,h2,h3⟩|⟨h8,h7,h1,h2,h3,h4⟩|⟨h8,h7,h1,h2,h3,h4⟩
 focus
  rw [decide_eq_false (fun (h:V11 inc rooms wi ti de)=>h8 h.1)]
  rw [decide_eq_false h8] at HV8
  clear h8 HD HR
  go_enter Tryz.func29,Tryz.ntmps29
  go_wp2_with (go_at_call 57;refine HV8.out.mono ?_;rintro e w1 ⟨rfl,rfl⟩)
  go_ret
  exact ⟨rfl,HB.out⟩
 focus
  rw [decide_eq_false (fun (h:V11 inc rooms wi ti de)=>h7 h.2.1)]
  rw [decide_eq_true h8] at HV8
  rw [decide_eq_false h7] at HR
  clear h8 h7 HD
  go_enter Tryz.func29,Tryz.ntmps29
  go_wp2_with (first|(go_at_call 57;refine HV8.out.mono ?_;rintro e w1 ⟨rfl,rfl⟩)|(go_at_call 58;refine HR.out.mono ?_;rintro e w1 ⟨rfl,rfl⟩))
  go_ret
  exact ⟨rfl,HB.out⟩
 iterate 4
  focus
   rw [decide_eq_false (fun (h:V11 inc rooms wi ti de)=>by have:=h.2.2;omega)]
   rw [decide_eq_true h8] at HV8
   rw [decide_eq_true h7] at HR
   have HE:Hid (1000 < ti->decide (ti<=1000)=false):=Lib.hid fun _=>decide_eq_false (by omega)
   clear h8 h7 HD
   go_enter Tryz.func29,Tryz.ntmps29
   go_wp2_with (first|(go_at_call 57;refine HV8.out.mono ?_;rintro e w1 ⟨rfl,rfl⟩)|(go_at_call 58;refine HR.out.mono ?_;rintro e w1 ⟨rfl,rfl⟩))
   go_ret
   first
    |exact ⟨rfl,HB.out⟩
    |exact ⟨by rw [HE.out h4];rfl,HB.out⟩
 rw [decide_eq_true (show V11 inc rooms wi ti de from ⟨h8,h7,h1,h2,h3,h4⟩)]
 rw [decide_eq_true h8] at HV8
 rw [decide_eq_true h7] at HR
 clear h8 h7 HD
 go_enter Tryz.func29,Tryz.ntmps29
 go_wp2_with (first|(go_at_call 57;refine HV8.out.mono ?_;rintro e w1 ⟨rfl,rfl⟩)|(go_at_call 58;refine HR.out.mono ?_;rintro e w1 ⟨rfl,rfl⟩))
 go_ret
 exact ⟨rfl,HB.out⟩
end

section
open Go.RowKit Go.ChangeShapes Go.WideShapes Go.ChangeAt
set_option maxRecDepth 100000
structure RCfg where
 inc:Int
 rooms:List Int
 w:Int
 t:Int
 d:Int
structure RSet where
 a:RCfg
 b:RCfg
 delay:Int
 there:List Flt
 back:List Flt
def rCfg:R RCfg:=rMap (rPair (rInt .i64) (rPair (rSlice (rInt .i64)) (rPair (rInt .i64) (rPair (rInt .i64) (rInt .i64))))) fun x=>⟨x.1,x.2.1,x.2.2.1,x.2.2.2.1,x.2.2.2.2⟩
def rSet:R RSet:=rMap (rPair rCfg (rPair rCfg (rPair (rInt .i64) (rPair (rSlice rFlt) (rSlice rFlt))))) fun x=>⟨x.1,x.2.1,x.2.2.1,x.2.2.2.1,x.2.2.2.2⟩
theorem opensInts {H:Type} {enc:TypeId × Value->H} {W:World}:Opens enc Tryz.prog W 28 (rSlice (rInt .i64)):=
 opens_slice Tryz.underlying28 (by kernel_rfl) (opens_int Tryz.underlying3 (by kernel_rfl)) (by decide)
theorem opensCfg {H:Type} {enc:TypeId × Value->H} {W:World}:Opens enc Tryz.prog W 30 rCfg:=
 opens_map (opens_struct Tryz.underlying30 (by kernel_rfl)
  (.cons (opens_int Tryz.underlying3 (by kernel_rfl)) rfl (.cons opensInts rfl (.cons (opens_int Tryz.underlying3 (by kernel_rfl)) rfl (.cons (opens_int Tryz.underlying3 (by kernel_rfl)) rfl (.one (opens_int Tryz.underlying3 (by kernel_rfl)) rfl)))))) _
theorem opensSet {H:Type} {enc:TypeId × Value->H} {W:World}:Opens enc Tryz.prog W 43 rSet:=
 opens_map (opens_struct Tryz.underlying43 (by kernel_rfl)
  (.cons opensCfg rfl (.cons opensCfg rfl (.cons (opens_int Tryz.underlying3 (by kernel_rfl)) rfl (.cons opensFlts rfl (.one opensFlts rfl)))))) _
abbrev setV (s:RSet) (aa:Option Addr) (ak:Nat) (ba:Option Addr) (bk:Nat) (ta:Option Addr) (tk:Nat) (ya:Option Addr) (yk:Nat):Value:=
 .agg #[.int .i64 s.a.inc,.slice aa s.a.rooms.length ak,.int .i64 s.a.w,.int .i64 s.a.t,.int .i64 s.a.d,.int .i64 s.b.inc,.slice ba s.b.rooms.length bk,.int .i64 s.b.w,.int .i64 s.b.t,.int .i64 s.b.d,
  .int .i64 s.delay,.slice ta s.there.length tk,.slice ya s.back.length yk]
def IsSet (W:World) (v:Value):Prop:=∃(s:RSet) (aa:Option Addr) (ak:Nat) (ba:Option Addr) (bk:Nat) (ta:Option Addr) (tk:Nat) (ya:Option Addr) (yk:Nat),v=setV s aa ak ba bk ta tk ya yk /\
 RdS (eInt .i64) W (Old W) (.slice aa s.a.rooms.length ak) s.a.rooms/\RdS (eInt .i64) W (Old W) (.slice ba s.b.rooms.length bk) s.b.rooms/\RdS eFlt W (Old W) (.slice ta s.there.length tk) s.there/\RdS eFlt W (Old W) (.slice ya s.back.length yk) s.back
theorem ints_of {W:World} {v:Value} {l:List Int} (h:(rSlice (rInt .i64)).rd W [v] l):RdS (eInt .i64) W (Old W) v l:=rdS_of (r:=rInt .i64) (E:=eInt .i64) rfl (by decide) (fun cs a h=>show cs=[.int .i64 a] from h.1) h
theorem isSet_of {W:World} {cs:Array Value} (h:IsR rSet W (.agg cs)):IsSet W (.agg cs):=by
 obtain ⟨s,⟨⟨a,b,d,th,bk⟩,⟨_,_,h1,ha,_,_,rfl,hb,c3,_,rfl,⟨rfl,_⟩,c4,c5,rfl,ht,hy⟩,rfl⟩⟩:=h
 obtain ⟨⟨i1,r1,w1,t1,d1⟩,⟨_,_,rfl,⟨rfl,_⟩,e2,_,rfl,hr1,_,_,rfl,⟨rfl,_⟩,_,_,rfl,⟨rfl,_⟩,rfl,_⟩,rfl⟩:=ha
 obtain ⟨⟨i2,r2,w2,t2,d2⟩,⟨_,_,rfl,⟨rfl,_⟩,e3,_,rfl,hr2,_,_,rfl,⟨rfl,_⟩,_,_,rfl,⟨rfl,_⟩,rfl,_⟩,rfl⟩:=hb
 obtain ⟨aa,ak,rfl,_⟩:=id hr1
 obtain ⟨ba,bk',rfl,_⟩:=id hr2
 obtain ⟨ta,tk,rfl,_⟩:=id ht
 obtain ⟨ya,yk,rfl,_⟩:=id hy
 refine ⟨⟨⟨i1,r1,w1,t1,d1⟩,⟨i2,r2,w2,t2,d2⟩,d,th,bk⟩,aa,ak,ba,bk',ta,tk,ya,yk,?_,ints_of hr1,ints_of hr2,flts_of ht,flts_of hy⟩
 congr 1
 apply Array.ext'
 exact h1
theorem open_isSet {H:Type} {enc:TypeId × Value->H} {W:World} {v:Value} {d:DataW H} {ps:List MemPlace} {q:Reach} {base:Nat} (hval:Value.okWide Tryz.prog W q base 43 v) (hd:DataW.Trod enc Tryz.prog W 0 (fun _=>true) true 43 v d ps):IsSet W v:=by
 obtain ⟨cs,rfl,_⟩:=okWide_struct Tryz.underlying43 hval
 exact isSet_of (open_isR opensSet hd)
def rEvt:R Evt:=rMap (rPair (rInt .i64) (rPair (rInt .i64) (rPair (rInt .i64) rBytes))) fun a=>⟨a.1,a.2.1,a.2.2.1,a.2.2.2⟩
theorem eEvt_of {W:World} {cs:List Value} {e:Evt} (h:rEvt.rd W cs e):eEvt.rd W (fun _=>False) (Old W) cs e:=by
 obtain ⟨⟨k,s,c,d⟩,⟨_,_,rfl,⟨rfl,_⟩,_,_,rfl,⟨rfl,_⟩,_,_,rfl,⟨rfl,_⟩,v,rfl,h3⟩,rfl⟩:=h
 exact ⟨v,rfl,byZ_of h3⟩
theorem opensEvt {H:Type} {enc:TypeId × Value->H} {W:World}:Opens enc Tryz.prog W 36 rEvt:=
 opens_map (opens_struct Tryz.underlying36 (by kernel_rfl)
  (.cons (opens_int Tryz.underlying3 (by kernel_rfl)) rfl (.cons (opens_int Tryz.underlying3 (by kernel_rfl)) rfl (.cons (opens_int Tryz.underlying3 (by kernel_rfl)) rfl
   (.one (opens_bytes Tryz.underlying22 (by kernel_rfl) Tryz.underlying5 (by kernel_rfl)) rfl))))) _
theorem opensEvts {H:Type} {enc:TypeId × Value->H} {W:World}:Opens enc Tryz.prog W 48 (rSlice rEvt):=
 opens_slice Tryz.underlying48 (by kernel_rfl) opensEvt (by decide)
theorem opensEvtss {H:Type} {enc:TypeId × Value->H} {W:World}:Opens enc Tryz.prog W 44 (rSlice (rSlice rEvt)):=
 opens_slice Tryz.underlying44 (by kernel_rfl) opensEvts (by decide)
theorem eRdEvt_of {W:World} {cs:List Value} {l:List Evt} (h:(rSlice rEvt).rd W cs l):(eRd eEvt).rd W (fun _=>False) (Old W) cs l:=by
 obtain ⟨a,c,rfl,_⟩:=id h
 exact ⟨_,rfl,rdS_of rfl (by decide) (fun _ _ h=>eEvt_of h) h⟩
theorem evtss_of {W:World} {v:Value} {l:List (List Evt)} (h:(rSlice (rSlice rEvt)).rd W [v] l):RdS (eRd eEvt) W (Old W) v l:=rdS_of rfl (by decide) (fun _ _ h=>eRdEvt_of h) h
theorem evts_at {w:World} {Z:BS} {a:Option Addr} {n c:Nat} {l:List (List Evt)} (h:RdS (eRd eEvt) w Z (.slice a n c) l) {j:Nat} {es:List Evt} (hj:l[j]? = some es) :
  ∃b off ea ec,a=some ⟨b,off,none⟩/\w.cell? ⟨b,off+j,none⟩=some (.slice ea es.length ec)/\RdS eEvt w Z (.slice ea es.length ec) es:=by
 obtain ⟨b,off,cs,e,hb,⟨v,rfl,hv⟩,hc⟩:=h.at (by decide) hj
 obtain ⟨ea,ec,rfl,_,_⟩:=hv.shape
 have:=hc 0 _ rfl
 rw [show off+j*(eRd eEvt).size+0=off+j by show off+j*1+0=_;omega] at this
 exact ⟨b,off,ea,ec,e,this,hv⟩
end

end Go.Proofs.YtckdblgobmofgaaGreatDoor
