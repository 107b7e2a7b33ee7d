/- Lemmas of this proof (texts LnkN LnkO LnkR LnkF LnkS LnkU Mkf). -/
import Derived.Test.YtcbnhebiagdbiaaGreatDoorPkP2
import Derived.Test.YtcbnhebiagdbiaaGreatDoorPkG3
import Derived.Test.YtcbnhebiagdbiaaGreatDoorPkC1
import Derived.Test.YtcbnhebiagdbiaaGreatDoorPkC2
import Derived.Test.YtcbnhebiagdbiaaGreatDoorPkE1
namespace Go.Proofs.YtcbnhebiagdbiaaGreatDoor
set_option maxHeartbeats 64000000
set_option maxRecDepth 100000
section
open Go.RowKit
abbrev tBBy (v:Value) (l:List (List dV)):Th:=tSq (eSq eBy 42) 40 v l
structure EV where
 pp:Nat
 sp:Nat
 cp:Nat
 ov:Value
 tv:Value
 nv:Value
abbrev endCells (x:Lnd) (v:EV):List Value:=[.pointer (some ⟨v.pp,0,none⟩),.pointer (some ⟨v.sp,0,none⟩),.pointer (some ⟨v.cp,0,none⟩),.int .i64 (x.inc:Int),v.ov,v.tv,v.nv]
abbrev bY (x:Lnd) (v:EV):List Th:=[bP v.pp x.prt,tSc v.sp x.sc,tCab v.cp x.cD,tBBy v.ov x.aV,tBBy v.tv x.cF,tSq dK 3 v.nv x.aE]
def EndAt (cs:Array Value) (o:Nat) (x:Lnd) (v:EV):Prop:=∀(j:Nat) (u:Value),(endCells x v)[j]? = some u->cs[o+j]? = some u
abbrev bG (cs:Array Value):Obj:=.cells cs 116
theorem dT {w:World} {p o:Nat} {cs:Array Value} {x:Lnd} {v:EV} (he:EndAt cs o x v) (h:w.heap[p]? = some (bG cs)) :
  w.cell? ⟨p,o,none⟩=some (.pointer (some ⟨v.pp,0,none⟩))/\w.cell? ⟨p,o+1,none⟩=some (.pointer (some ⟨v.sp,0,none⟩))/\w.cell? ⟨p,o+2,none⟩=some (.pointer (some ⟨v.cp,0,none⟩))/\w.cell? ⟨p,o+3,none⟩=some (.int .i64 (x.inc:Int)) /\
  w.cell? ⟨p,o+4,none⟩=some v.ov/\w.cell? ⟨p,o+5,none⟩=some v.tv/\w.cell? ⟨p,o+6,none⟩=some v.nv:=
 ⟨aJ h (he 0 _ rfl),aJ h (he 1 _ rfl),aJ h (he 2 _ rfl),aJ h (he 3 _ rfl),aJ h (he 4 _ rfl),aJ h (he 5 _ rfl),aJ h (he 6 _ rfl)⟩
theorem dY.frz {F Z:BS} {W w:World} {ts:List Th} {α : Type} {E:El α} {T:TypeId} {v:Value} {xs:List α} (h:dY F Z W ts w) (i:Nat) (hi:ts[i]? = some (tSq E T v xs)) (hc:∀ {w A B cs a},E.rd w A B cs a->E.rd w (fun _=>False) (fun k=>A k\/B k) cs a) :
  dY F Z W (ts.set i (tRd E v xs)) w:=by
 obtain ⟨G,Y,hon,_,_,_,hback⟩:=h.use i hi
 have:=hback w (tRd E v xs) [] ⟨Fr.refl _ _,fun k=>G k\/Y k,fun k hk=>hk.elim (fun g=>.inr (.inl g)) .inl,Star.one (F:=fun k=>(G k\/w.heap.size<=k)/\¬(G k\/Y k)) (T:=tRd E v xs) (RdS.mono (Sq.rd (show Sq E T w G Y v xs from hon) hc) fun _ h=>h)⟩
 rwa [List.append_nil] at this
section
variable {Z:BS} {W w:World} {ts:List Th} {p o:Nat} {cs:Array Value} {x:Lnd} {v:EV}
def Lnd.upto (x:Lnd) (k j:Nat):Sc × List Pk:=x.sc.scan ((x.cD.cR.1.take k).flatten++(x.cD.cR.1.getD k []).take j)
theorem upto_next (x:Lnd) (k j:Nat) (h:j < (x.cD.cR.1.getD k []).length):x.upto k (j+1)=(((x.upto k j).1.push ((x.cD.cR.1.getD k []).getD j 0)).1,(x.upto k j).2++((x.upto k j).1.push ((x.cD.cR.1.getD k []).getD j 0)).2.toList):=by
 unfold Lnd.upto
 rw [take_getD _ j 0 h,<-List.append_assoc,Sc.scan_app]
 simp [Sc.scan]
theorem upto_full (x:Lnd) (k j:Nat) (hk:k < x.cD.cR.1.length) (h:(x.cD.cR.1.getD k []).length<=j):x.upto k j=x.upto (k+1) 0:=by
 unfold Lnd.upto
 rw [List.take_of_length_le h,take_getD _ k [] hk,List.flatten_append,List.take_zero,List.append_nil]
 simp
theorem upto_all (x:Lnd) (k:Nat) (h:x.cD.cR.1.length<=k):x.upto k 0=x.sc.scan x.cD.cR.1.flatten:=by
 unfold Lnd.upto
 rw [List.take_of_length_le h,List.take_zero,List.append_nil]
theorem flat_len:∀ {l:List Byt},(∀s ∈ l,s.length<=170)->l.flatten.length<=170*l.length
 |[],_=>Nat.zero_le _
 |s::l,h=>by
  have h1:=h s (List.mem_cons_self ..)
  have h2:=flat_len fun t ht=>h t (List.mem_cons_of_mem _ ht)
  rw [List.flatten_cons,List.length_append,List.length_cons];omega
theorem upto_len {x:Lnd} (h:∀s ∈ x.cD.cR.1,s.length<=170) (h64:x.cD.cR.1.length<=64) (k j:Nat):(x.upto k j).1.bad<=x.sc.bad+11050/\(x.upto k j).2.length<=11050:=by
 have h1:=flat_len (l:=x.cD.cR.1.take k) fun s hs=>h s (List.mem_of_mem_take hs)
 have h2:(x.cD.cR.1.take k).length<=64:=Nat.le_trans (List.length_take_le' _ _) h64
 have h3:((x.cD.cR.1.getD k []).take j).length<=170:=Nat.le_trans (List.length_take_le' _ _) (bM (P:=fun l:Byt=>l.length<=170) h (by simp) k)
 have h4:=scan_bad x.sc ((x.cD.cR.1.take k).flatten++(x.cD.cR.1.getD k []).take j)
 have h5:=scan_found_le x.sc ((x.cD.cR.1.take k).flatten++(x.cD.cR.1.getD k []).take j)
 rw [List.length_append] at h4 h5
 unfold Lnd.upto
 omega
abbrev scanThs (p:Nat) (cs:Array Value) (x:Lnd) (v:EV) (av fv:Value) (r:Sc × List Pk):List Th:=
 [tSq ePt 140 fv (r.2.map Pk.pt),tSq eBy 42 av x.cD.cR.1,dJ p (bG cs),bP v.pp x.prt,tSc v.sp r.1,tCab v.cp x.cD.cR.2,tBBy v.ov x.aV,tBBy v.tv x.cF,tSq dK 3 v.nv x.aE]
theorem endTick_raw {N:Nat} (ok:x.prt.Ok N) (hN:N<=900000000) (hm:x.prt.Min) (hl:∀s ∈ x.cD.cR.1,s.length<=170) (h64:x.cD.cR.1.length<=64) (hfl:x.cD.aL.length<=64) (htk:x.cD.cC < 1000000000) (hbd:x.sc.bad<=880000)
  (hf:(x.sc.scan x.cD.cR.1.flatten).2.length<=64) (hg:∀y ∈ (x.sc.scan x.cD.cR.1.flatten).2.map Pk.pt,y.pay.length<=1000) (ht:Tabs W) (he:EndAt cs o x v) (h:dY (fun _=>False) Z W (dJ p (bG cs)::(bY x v++ts)) w) :
  Calls Tryz.prog 49 #[.pointer (some ⟨p,o,none⟩)] w fun e w'=>∃(a:Option Addr) (c:Nat),e=.returned (.slice a x.cR.1.length c)/\dY (fun _=>False) Z W (tSq ePt 140 (.slice a x.cR.1.length c) x.cR.1::dJ p (bG cs)::(bY x.cR.2 v++ts)) w':=by
 obtain ⟨c0,c1,c2,_,_,_,_⟩:=dT he (h.blk 0 rfl)
 have HT:=aQ ht
 have HE:=aQ he
 have HH:=aQ h
 have HUL:=aQ (upto_len hl h64)
 have HL:=aQ hl
 have HG:=aQ hg
 have HOK:=aQ ok
 have HM:=aQ hm
 clear ht he h hl hg ok hm
 go_enter Tryz.func49,Tryz.ntmps49
 go_wp2_with fail
 refine (tick_h HH.out 3 rfl (by omega) htk).mono ?_
 rintro e w1 ⟨aa,ac,rfl,h1⟩
 have H1:=aQ (show dY (fun _=>False) Z W (scanThs p cs x v (.slice aa x.cD.cR.1.length ac) (.slice none 0 0) (x.upto 0 0)++ts) w1 from (dY.adds0 (E:=ePt) (T := 140) h1.front))
 clear h1 HH c0 c1 c2
 go_wp2_with fail
 go_loopw [3,16] (fun u i wr=>∃k:Nat,k<=x.cD.cR.1.length/\i=.int .i64 (k:Int)/\∃(a:Option Addr) (c:Nat),u=.slice a ((x.upto k 0).2.map Pk.pt).length c /\
  Hid (dY (fun _=>False) Z W (scanThs p cs x v (.slice aa x.cD.cR.1.length ac) (.slice a ((x.upto k 0).2.map Pk.pt).length c) (x.upto k 0)++ts) wr)) (fun _ i _=>x.cD.cR.1.length - (intOf i).toNat)
 case atStart=>exact ⟨0,by omega,by go_num,none,0,rfl,H1⟩
 case round=>
  clear H1
  obtain ⟨k,hk,rfl,a,c,rfl,HH⟩:=hrel
  by_cases hlt:k < x.cD.cR.1.length
  ·obtain ⟨_,_,har⟩:=HH.out.get 1 rfl
   have hx:=bT (d:=[]) hlt
   obtain ⟨bb,off,va,vc,rfl,hcell,hby⟩:=bys_at (show Sq eBy 42 wr _ _ (.slice aa x.cD.cR.1.length ac) x.cD.cR.1 from har) hx
   have H0:=aQ (HH.out.weak (T:=tBy (.slice va (x.cD.cR.1.getD k []).length vc) (x.cD.cR.1.getD k [])) 1 rfl fun G Y hon=>by
    obtain ⟨b2,o2,va2,vc2,e2,hc2,hb2⟩:=bys_at (show Sq eBy 42 wr G Y (.slice (some ⟨bb,off,none⟩) x.cD.cR.1.length ac) x.cD.cR.1 from hon) hx
    obtain ⟨rfl,rfl⟩:bb=b2/\off=o2:=by simpa using e2
    rw [hcell] at hc2
    obtain ⟨rfl,rfl⟩:va=va2/\vc=vc2:=by simpa using hc2
    exact hb2).front
   have hhl:(x.cD.cR.1.getD k []).length<=170:=bM (P:=fun l:Byt=>l.length<=170) HL.out (by decide) k
   have HUF:=aQ (upto_full x k (x.cD.cR.1.getD k []).length hlt (Nat.le_refl _))
   have HUN:=aQ (upto_next x k)
   clear har hby hx HH
   generalize x.cD.cR.1.getD k []=tr at *
   go_wp2_with fail
   go_loopw [3,22] (fun u i wr=>∃j:Nat,j<=tr.length/\i=.int .i64 (j:Int)/\∃(a:Option Addr) (c:Nat),u=.slice a ((x.upto k j).2.map Pk.pt).length c /\
    Hid (dY (fun _=>False) Z W (tBy (.slice va tr.length vc) tr::(scanThs p cs x v (.slice (some ⟨bb,off,none⟩) x.cD.cR.1.length ac) (.slice a ((x.upto k j).2.map Pk.pt).length c) (x.upto k j)++ts)) wr)) (fun _ i _=>tr.length - (intOf i).toNat)
   case atStart=>exact ⟨0,by omega,by go_num,a,c,rfl,H0⟩
   case round=>
    clear H0 hcell
    obtain ⟨j,hj,rfl,a,c,rfl,HH⟩:=hrel
    have hul:=HUL.out k j
    by_cases hlj:j < tr.length
    ·obtain ⟨c0,c1,c2,_,_,_,_⟩:=dT HE.out (HH.out.blk 3 rfl)
     obtain ⟨_,_,hby⟩:=HH.out.get 0 rfl
     obtain ⟨_,⟨h0,_⟩|⟨b3,o3,cp,e3,_,_,_,hc⟩⟩:=(show By wr (.slice va tr.length vc) tr from hby.1).cases
     ·rw [h0] at hlj;simp at hlj
     ·obtain ⟨rfl,rfl⟩:va=some ⟨b3,o3,none⟩/\vc=cp:=by simpa using e3
      have hcj:=hc j hlj
      have HST:=aQ (HUN.out j hlj)
      clear hc e3 hby
      generalize tr.getD j 0=y at *
      generalize hsc:x.upto k j=sl at *
      have HSC:=aQ hsc
      clear hsc
      obtain ⟨s,l⟩:=sl
      dsimp only at hul HH HST
      dsimp only
      go_wp2_with fail
      refine (push_h HH.out 5 rfl y (HH.out.tabs HT.out) (show s.bad < 900000 by omega)).mono ?_
      rintro e w4 ⟨r,f,ra,rc,rfl,hf,hr,h4⟩
      have H4:=aQ h4.front
      clear h4 hcj
      go_upto_region 9 with (fail)
      obtain ⟨w5,hw5⟩:∃w5,w5=w4.alloc (.cells #[.int .u8 (U r.kind),.int .i64 r.cls,.int .i64 r.number,.int .i64 r.value,.slice ra r.pay.length rc] 140):=⟨_,rfl⟩
      have HP5:=aQ (show w5.heap[w4.heap.size]? = some (.cells #[.int .u8 (U r.kind),.int .i64 r.cls,.int .i64 r.number,.int .i64 r.value,.slice ra r.pay.length rc] 140) by rw [hw5];exact heap_alloc_new w4 _)
      have H5:=aQ (show dY (fun _=>False) Z W (tBy (.slice ra r.pay.length rc) r.pay::tBy (.slice (some ⟨b3,o3,none⟩) tr.length vc) tr::(scanThs p cs x v (.slice (some ⟨bb,off,none⟩) x.cD.cR.1.length ac) (.slice a (l.map Pk.pt).length c) ((s.push y).1,l)++ts)) w5 by rw [hw5];exact H4.out.own (aK w4 _))
      rw [<-hw5]
      clear hw5 H4
      cases f with
      |false=>
       have HLL:=aQ (show x.upto k (j+1)=((s.push y).1,l) by rw [HST.out,hf];simp)
       clear hf hr
       go_wp2_with fail
       go_roundw
       case rel=>exact ⟨j+1,by omega,by go_num,a,c,by rw [HLL.out,List.length_map],by rw [HLL.out];exact aQ H5.out.tail⟩
       case measure=>simp [intOf];omega
      |true=>
       have HLL:=aQ (show x.upto k (j+1)=((s.push y).1,l++[r]) by rw [HST.out,hf];simp)
       clear hf hr
       obtain ⟨d0,d1,d2,d3,d4⟩:=aO HP5.out
       go_wp2_with (at_builtin;refine wpList_app_pt (x:=r.pt) rfl _ _ rfl H5.out 2 rfl (fun Y hO=>by obtain ⟨H,_,hh⟩:=hO 0 _ (by decide) rfl;exact hh) (aK w5 _) (by rw [List.length_map];omega) (by rw [List.length_map];rfl) w5.heap.size rfl (heap_alloc_new w5 _) ?_;intro a' c' w6 h6;have H6:=aQ (show dY (fun _=>False) Z W (tBy (.slice ra r.pay.length rc) r.pay::tBy (.slice (some ⟨b3,o3,none⟩) tr.length vc) tr::(scanThs p cs x v (.slice (some ⟨bb,off,none⟩) x.cD.cR.1.length ac) (.slice a' ((l++[r]).map Pk.pt).length c') ((s.push y).1,l++[r])++ts)) w6 by dsimp only [scanThs];rw [List.map_append];exact h6);clear h6)
       go_roundw
       case rel=>exact ⟨j+1,by omega,by go_num,a',c',by rw [HLL.out,List.length_map,List.length_append];rfl,by rw [HLL.out];exact aQ H6.out.tail⟩
       case measure=>simp [intOf];omega
    ·obtain rfl:j=tr.length:=by omega
     rw [HUF.out] at HH ⊢
     go_wp2_with fail
     go_roundw
     case rel=>exact ⟨k+1,by omega,by go_num,a,c,rfl,aQ HH.out.tail⟩
     case measure=>simp [intOf];omega
  ·have HU:=aQ (upto_all x k (by omega))
   rw [HU.out] at HH ⊢
   have HTK:=aQ (show x.cR=((x.prt.cR ((x.sc.scan x.cD.cR.1.flatten).2.map Pk.pt)).1,{ x with prt:=(x.prt.cR ((x.sc.scan x.cD.cR.1.flatten).2.map Pk.pt)).2,sc:=(x.sc.scan x.cD.cR.1.flatten).1,cD:=x.cD.cR.2 }) from rfl)
   clear HU HUL HL
   generalize x.sc.scan x.cD.cR.1.flatten=sl at *
   obtain ⟨s,l⟩:=sl
   dsimp only at HH HTK hf HG
   dsimp only
   have hlm:(l.map Pk.pt).length=l.length:=List.length_map _
   generalize hl2:l.map Pk.pt=l2 at *
   obtain ⟨c0,c1,c2,_,_,_,_⟩:=dT HE.out (HH.out.blk 2 rfl)
   have h1:dY (fun _=>False) Z W ([tSq ePt 140 (.slice a l2.length c) l2,tSq eBy 42 (.slice aa x.cD.cR.1.length ac) x.cD.cR.1,dJ p (bG cs),bP v.pp x.prt,tSc v.sp s,tCab v.cp x.cD.cR.2,tBBy v.ov x.aV,tBBy v.tv x.cF,tSq dK 3 v.nv x.aE]++ts) wr:=by
    have:=HH.out
    dsimp only [scanThs] at this
    rw [hl2] at this
    exact this
   have H2:=aQ ((h1.frz 0 rfl ePt_rd).pickL (us:=[tRd ePt (.slice a l2.length c) l2,tSq eBy 42 (.slice aa x.cD.cR.1.length ac) x.cD.cR.1,dJ p (bG cs),bP v.pp x.prt,tSc v.sp s,tCab v.cp x.cD.cR.2,tBBy v.ov x.aV,tBBy v.tv x.cF,tSq dK 3 v.nv x.aE])
    (vs:=[bP v.pp x.prt,tRd ePt (.slice a l2.length c) l2,dJ p (bG cs),tSc v.sp s,tCab v.cp x.cD.cR.2,tBBy v.ov x.aV,tBBy v.tv x.cF,tSq dK 3 v.nv x.aE]) [3,0,2,4,5,6,7,8] (by decide) rfl)
   have hll:l2.length<=64:=by omega
   clear HH h1 hlm hl2
   go_wp2_with fail
   refine (tick_c l2 _ HOK.out HM.out (by omega) HG.out H2.out 0 rfl).mono ?_
   rintro e w5 ⟨sa,sc,rfl,h5⟩
   have H5:=aQ (h5.pickL (us:=[tSq ePt 140 (.slice sa (x.prt.cR l2).1.length sc) (x.prt.cR l2).1,bP v.pp (x.prt.cR l2).2,tRd ePt (.slice a l2.length c) l2,dJ p (bG cs),tSc v.sp s,tCab v.cp x.cD.cR.2,tBBy v.ov x.aV,tBBy v.tv x.cF,tSq dK 3 v.nv x.aE])
    (vs:=[tSq ePt 140 (.slice sa (x.prt.cR l2).1.length sc) (x.prt.cR l2).1,dJ p (bG cs),bP v.pp (x.prt.cR l2).2,tSc v.sp s,tCab v.cp x.cD.cR.2,tBBy v.ov x.aV,tBBy v.tv x.cF,tSq dK 3 v.nv x.aE]) [0,3,1,4,5,6,7,8] (by decide) rfl)
   clear h5 H2
   go_wp2_with fail
   go_ret
   rw [HTK.out]
   exact ⟨sa,sc,rfl,H5.out⟩
end
end

set_option maxRecDepth 100000
section
open Go.RowKit
theorem dY.pushF {F Z:BS} {W w:World} {ts:List Th} (h:dY F Z W ts w) (i:Nat) {T2:TypeId} {b off n cap:Nat} {xss:List (List dV)} {xs:List dV} (hi:ts[i]? = some (tSq (eSq eBy 42) T2 (.slice (some ⟨b,off,none⟩) n cap) xss)) {c:Nat} (hc:xss[c]? = some xs) (j:Nat) (hji:j≠i) {dv:Value} {d:dV} (hj:ts[j]? = some (tBy dv d)) :
  ∃va vc K us,w.cell? ⟨b,off+c,none⟩=some (.slice va xs.length vc)/\Sl w K 42 1 (.slice va xs.length vc) xs.length us/\(∀(p:Nat) (j:Nat) (T':Th),j≠i->ts[j]? = some T'->(∀H Y,T'.on w H Y->H p\/Y p)->¬K p)/\¬K b /\
   ∀(w1 w2:World) (v2:Value),Below w.heap.size w w1->Sl w2 (fun k=>K k\/w1.heap.size<=k) 42 1 v2 (xs.length+1) (us++[dv])->Fr K w1 w2 ->
    ∃g2 off2 cap2,v2=.slice (some ⟨g2,off2,none⟩) (xs.length+1) cap2/\w2.cell? ⟨b,off+c,none⟩=some (.slice va xs.length vc)/\(∀j,w2.frozen? ⟨b,j,none⟩=false) /\
     dY F Z W (ts.set i (tSq (eSq eBy 42) T2 (.slice (some ⟨b,off,none⟩) n cap) (xss.set c (xs++[d])))) (w2.setCell ⟨b,off+c,none⟩ v2):=by
 have hil:=aA hi
 obtain ⟨vc,hvc,hout⟩:=h.out i hi hc
 have hg:(ts.set i (tSq (eOpt (eSq eBy 42)) T2 (.slice (some ⟨b,off,none⟩) n cap) ((xss.map some).set c none))++[tSq eBy 42 vc xs])[ts.length]? = some (tSq eBy 42 vc xs):=by
  rw [List.getElem?_append_right (by simp),List.length_set,Nat.sub_self];rfl
 obtain ⟨_,_,hsq⟩:=hout.get _ hg
 obtain ⟨va,k2,rfl⟩:=Sq.shape (show Sq eBy 42 w _ _ vc xs from hsq)
 obtain ⟨K,us,hsl,hKn,hback⟩:=hout.app _ hg
 have hbl:b < w.heap.size:=World.block_lt_of_cell? w _ hvc
 have hget:∀(j:Nat) (T':Th),j≠i->ts[j]? = some T'->(ts.set i (tSq (eOpt (eSq eBy 42)) T2 (.slice (some ⟨b,off,none⟩) n cap) ((xss.map some).set c none))++[tSq eBy 42 (.slice va xs.length k2) xs])[j]? = some T':=fun j T' hj hT=>by
  rw [List.getElem?_append_left (by rw [List.length_set];exact aA hT),List.getElem?_set_ne (fun e=>hj e.symm)];exact hT
 have hKb:¬K b:=hKn b i (tSq (eOpt (eSq eBy 42)) T2 (.slice (some ⟨b,off,none⟩) n cap) ((xss.map some).set c none)) (by omega) (by rw [List.getElem?_append_left (by rw [List.length_set];exact hil),List.getElem?_set_self hil]) fun H Y h=>.inl (Sq.free (show Sq _ _ _ H Y _ _ from h)).2.1
 refine ⟨va,k2,K,us,hvc,hsl,fun p j T' hj hT hp=>hKn p j T' (by have:=aA hT;omega) (hget j T' hj hT) hp,hKb,fun w1 w2 v2 hb hsl2 hfr=>?_⟩
 obtain ⟨g2,off2,cap2,rfl,_⟩:=Sl.head hsl2 (by omega)
 have hs4:=hback w1 w2 [dv] [d] _ hb hsl2 hfr fun Y hO=>by
  obtain ⟨H,_,hh⟩:=hO j _ (by have:=aA hj;omega) (hget j _ hji hj)
  exact ⟨fun _=>False,Y,fun _ f=>f.elim,fun _ y=>.inl y,fun _ f=>f.elim,Els.single (E:=eBy) ⟨_,rfl,ByZ.below hh hb⟩⟩
 rw [List.set_append_right _ _ (by simp),List.length_set,Nat.sub_self,jQ2] at hs4
 have hs5:=dY.back (c:=c) (yss:=xss.set c (xs++[d])) hs4 i (List.getElem?_set_self hil) (by rw [List.length_set,List.length_map];exact aA hc) set_gap
 rw [List.set_set] at hs5
 refine ⟨g2,off2,cap2,rfl,(World.cell?_of_block (hfr.block b (Nat.lt_of_lt_of_le hbl hb.size) hKb)).trans ((World.cell?_of_block (hb.block b hbl)).trans hvc),?_,hs5⟩
 obtain ⟨_,_,hh⟩:=hs4.get i (T:=tSq (eOpt (eSq eBy 42)) T2 (.slice (some ⟨b,off,none⟩) n cap) ((xss.map some).set c none)) (by rw [List.getElem?_append_left (by rw [List.length_set];exact hil),List.getElem?_set_self hil])
 exact (Sq.free (show Sq (eOpt (eSq eBy 42)) T2 w2 _ _ (.slice (some ⟨b,off,none⟩) n cap) ((xss.map some).set c none) from hh)).2.2.2
section
variable {Z:BS} {W w:World} {ts:List Th} {p o:Nat} {cs:Array Value} {x:Lnd} {v:EV}
theorem endTake_c {N:Nat} {ws:List (Nat × Option Way)} (hi:x.Inv N ws) (hN:N<=900000000) (htl:x.cF.length=x.prt.aZ.length) (c:Int) (he:EndAt cs o x v) (h:dY (fun _=>False) Z W (dJ p (bG cs)::(bY x v++ts)) w) :
  Calls Tryz.prog 92 #[.pointer (some ⟨p,o,none⟩),.int .i64 c] w fun e w'=>e=.returned (.int .i64 ((x.take c).1:Int))/\dY (fun _=>False) Z W (dJ p (bG cs)::(bY (x.take c).2 v++ts)) w':=by
 obtain ⟨c0,_,_,_,_,c5,_⟩:=dT he (h.blk 0 rfl)
 have HH:=aQ h
 cases hp:x.prt.peek c with
 |none=>
  have HT:=aQ (show x.take c=(7,x) by
   have:x.prt.take c=(none,x.prt):=by unfold Prt.take;rw [hp]
   unfold Lnd.take;rw [this])
  have HP:=aQ hp
  have HOK:=aQ hi.ok
  clear h he hi hp
  go_enter Tryz.func92,Tryz.ntmps92
  go_wp2_with fail
  refine (take_no HH.out 1 rfl HOK.out c HP.out).mono ?_
  rintro e w' ⟨rfl,rfl⟩
  go_wp2_with fail
  go_ret
  rw [HT.out]
  exact ⟨rfl,HH.out⟩
 |some d=>
  have hh:x.prt.has c:=by
   unfold Prt.peek at hp
   split at hp
   ·assumption
   ·cases hp
  obtain ⟨m,rfl⟩:∃m:Nat,c=(m:Int):=⟨c.toNat,by have:=hh.1;omega⟩
  have hm:m < x.prt.aZ.length:=by have:=hh.2;omega
  obtain ⟨l,hl⟩:∃l,x.prt.aY.getD m []=d::l:=by
   unfold Prt.peek at hp
   rw [if_pos hh,Int.toNat_natCast] at hp
   cases hb:x.prt.aY.getD m [] with
   |nil=>rw [hb] at hp;cases hp
   |cons y l=>rw [hb] at hp;injection hp with hp;rw [hp];exact ⟨l,rfl⟩
  have HT:=aQ (show x.take (m:Int)=(0,{ x with prt:=(x.prt.take (m:Int)).2,cF:=x.cF.set m (x.cF.getD m []++[d]) }) by
   have:(x.prt.take (m:Int)).1=some d:=by unfold Prt.take;rw [hp]
   unfold Lnd.take
   rcases hq:x.prt.take (m:Int) with ⟨q,r⟩
   rw [hq] at this
   dsimp only at this
   subst this
   rfl)
  have HOK:=aQ hi.ok
  have HTB:=aQ hi.tb
  have HE:=aQ he
  have n1:=hi.ok.n1
  have n4:=hi.ok.n4
  obtain ⟨HML,HLL⟩:Hid (m < x.prt.aZ.length)/\Hid (x.prt.aY.getD m []=d::l):=⟨aQ hm,aQ hl⟩
  clear h he hi hp hh hl c5
  go_enter Tryz.func92,Tryz.ntmps92
  go_wp2_with fail
  refine (take_yes HH.out 1 rfl HOK.out (by omega) m HML.out d l HLL.out).mono ?_
  rintro e w2 ⟨dv,rfl,h2'⟩
  have hth:=dY.front (ts:=dJ p (bG cs)::(bY { x with prt:=(x.prt.take (m:Int)).2 } v++ts)) h2'
  have h2:dY (fun _=>False) Z W (tBy dv d::dJ p (bG cs)::(bY { x with prt:=(x.prt.take (m:Int)).2 } v++ts)) w2:=hth
  clear h2' hth HH c0
  obtain ⟨c0,_,_,_,_,c5,_⟩:=dT HE.out (h2.blk 1 rfl)
  obtain ⟨_,_,htk⟩:=h2.get 6 rfl
  obtain ⟨b1,o1,k1,e1,m1,m1'⟩:=bR (show Sq (eSq eBy 42) 40 w2 _ _ v.tv x.cF from htk) (by omega)
  obtain ⟨_,_,hby⟩:=h2.get 0 rfl
  obtain ⟨da,dc,e2⟩:=ByZ.slice (show ByZ w2 _ dv d from hby)
  subst e2
  have hx:=bT (d:=[]) (show m < x.cF.length by omega)
  have hxl:=bM (P:=fun l:List dV=>l.length<=N) HTB.out (d:=[]) (Nat.zero_le _) m
  have h2s:dY (fun _=>False) Z W ([tBy (.slice da d.length dc) d,dJ p (bG cs),bP v.pp (x.prt.take (m:Int)).2,tSc v.sp x.sc,tCab v.cp x.cD,tBBy v.ov x.aV,tBBy (.slice (some ⟨b1,o1,none⟩) x.cF.length k1) x.cF,tSq dK 3 v.nv x.aE]++ts) w2:=by rw [<-e1];exact h2
  obtain ⟨va,vc,K',us,hvc,hsl,hKn,hKb,hback⟩:=h2s.pushF 6 rfl hx 0 (by decide) rfl
  have hKp:¬K' p:=hKn p 1 _ (by decide) rfl fun _ _ h=>.inl h.2
  have HB:=aQ (show ¬b1=p from fun e=>h2s.apart 1 6 (by decide) rfl rfl (fun _ _ h=>h.2) (fun _ _ h=>(Sq.free (show Sq _ _ _ _ _ _ _ from h)).2.1) e.symm)
  rw [e1] at c5
  have hlt:m < x.cF.length:=by omega
  obtain ⟨xs,hxs⟩:∃xs,xs=x.cF.getD m []:=⟨_,rfl⟩
  have HXS:=aQ hxs
  rw [<-hxs] at hvc hsl hback hxl
  have HSL:=aQ hsl
  have HBACK:=aQ hback
  have HXN:=aQ (show xs.length+1<=1000000000 by omega)
  have HKP:=aQ hKp
  have HE1:=aQ e1
  clear hxs hback hsl hKn hxl hx m1' htk hby h2s h2 hKp hKb e1 htl hm n1 n4 hN
  go_wp2_with fail
  refine wp_region_held_drew (S:=fun w'=>w'.cell? ⟨p,o+5,none⟩=some (.slice (some ⟨b1,o1,none⟩) x.cF.length k1)) (by kernel_rfl) c5 (fun hS0=>?_)
  change wpAnyH _ _ _ _ _ (6+11) _ _ _
  refine aH 0 11 (by kernel_rfl) hS0 (fun _ _ _ _ _ h=>h) ?_
  simp only [List.drop_zero,List.take_succ_cons,List.take_zero]
  iterate 11 (refine aR (v:=?_) (by rfl) ?_ ?_;rotate_left 1;(focus ((intro w' hS';go_simp);try with_reducible rfl));simp only [Act.put,jQ1,jQ2,jQ3])
  refine aT ?_
  change wpAnyH _ _ _ _ _ (5+1) _ _ _
  refine aH 12 1 (by kernel_rfl) hS0 (fun _ _ _ _ _ h=>h) ?_
  simp only [List.drop_succ_cons,List.drop_zero,List.take_succ_cons,List.take_zero]
  (refine aR (v:=?_) (by rfl) ?_ ?_;rotate_left 1;(focus ((intro w' hS';go_simp);try with_reducible rfl));simp only [Act.put,jQ1,jQ2,jQ3])
  refine aT ?_
  have hvd:w2.drew.cell? ⟨b1,o1+m,none⟩=some (.slice va xs.length vc):=hvc
  have HBD:=aQ (show Below w2.heap.size w2 w2.drew from bS w2 1)
  have HSD:=aQ (show Sl w2.drew K' 42 1 (.slice va xs.length vc) xs.length us from HSL.out.drew)
  clear HSL
  obtain ⟨wd,hwd⟩:∃wd,wd=w2.drew:=⟨_,rfl⟩
  rw [<-hwd] at hvd HBD HSD hS0 ⊢
  clear hwd
  have hal:(wd.alloc (.cells #[.slice da d.length dc] 42)).cell? ⟨p,o+5,none⟩=some (.slice (some ⟨b1,o1,none⟩) x.cF.length k1):=aI _ _ hS0
  have hal2:(wd.alloc (.cells #[.slice da d.length dc] 42)).cell? ⟨b1,o1+m,none⟩=some (.slice va xs.length vc):=aI _ _ hvd
  refine wpAnyH_two 11 13 (by kernel_rfl) rfl rfl (fun K hK=>?_) (fun K hK=>?_)
  focus
   go_simp
   refine hK.out _ _ hS0 ?_
   clear hK K
   refine aM 13 (by kernel_rfl) rfl (fun K hK=>?_)
   go_simp
   refine hK.out _ _ hal ?_
   clear hK K
  rotate_left
  focus
   go_simp
   refine hK.out _ _ hal ?_
   clear hK K
   refine aM 11 (by kernel_rfl) rfl (fun K hK=>?_)
   go_simp
   refine hK.out _ _ hal ?_
   clear hK K
  all_goals
   refine aM 14 (by kernel_rfl) rfl (fun K hK=>?_)
   refine step_app_sl slBB rfl _ _ rfl K' (.slice va xs.length vc) xs.length us rfl (HSD.out.alloc _) _ 1 [.slice da d.length dc] rfl (rd_one _ _ _ _ rfl) (by intro u hu;simp at hu;subst hu;rfl) (by unfold maxLen;have:=HXN.out;omega) (by have:=HXN.out;omega) ?_
   intro v2 w3 hsl3 hfr3
   obtain ⟨g2,off2,cap2,rfl,k0,kf,hK5⟩:=HBACK.out _ w3 v2 (HBD.out.trans ((aK wd _).mono HBD.out.size)) hsl3 hfr3
   have HK5:=aQ hK5
   have hx3:w3.cell? ⟨p,o+5,none⟩=some (.slice (some ⟨b1,o1,none⟩) x.cF.length k1):=(World.cell?_of_block (hfr3.block p (World.block_lt_of_cell? _ _ hal) HKP.out)).trans hal
   clear hsl3 hfr3 HBACK HSD hK5 hal hal2 hS0
   refine hK.out _ _ hx3 ?_
   clear hK K
   simp only [Act.put,jQ1,jQ2,jQ3]
   refine aM 15 (by kernel_rfl) rfl (fun K hK=>?_)
   go_simp
   refine hK.out _ _ hx3 ?_
   clear hK K
   refine aM 16 (by kernel_rfl) rfl (fun K hK=>?_)
   go_simp
   refine hK.out _ _ (cell_ne (fun e=>HB.out e.symm) hx3) ?_
   clear hK K
   refine wpAnyH_done (by kernel_rfl) ?_ _
   go_wp2_with fail
   go_ret
   rw [HT.out,<-HXS.out]
   refine ⟨rfl,?_⟩
   show dY _ Z W (dJ p (bG cs)::bP v.pp _::tSc v.sp x.sc::tCab v.cp x.cD::tBBy v.ov x.aV::tBBy v.tv _::tSq dK 3 v.nv x.aE::ts) _
   rw [HE1.out]
   exact HK5.out.tail
theorem port_room {F Z:BS} {W w:World} {ts:List Th} {p:Nat} {a:Prt} {N:Nat} (h:dY F Z W ts w) (i:Nat) (hi:ts[i]? = some (bP p a)) (hok:a.Ok N):∃ra rc,w.cell? ⟨p,1,none⟩=some (.slice ra a.aZ.length rc):=by
 obtain ⟨G,Y,x,hst⟩:=h.get i hi
 obtain ⟨rv,sp,ap,wv,bv,snp,rcp,tkp,gvp,bsv,kv,acv,rev,tav⟩:=x
 have hrow:=(hst.get (i:=0) rfl).1
 obtain ⟨_,c1,_⟩:=aB hrow
 have hr:=hst.get (i:=1) rfl
 obtain ⟨rb,ro,rc,e,_,_⟩:=bR (show Sq dK 3 w _ _ rv a.aZ from hr) hok.n1
 dsimp only at c1
 exact ⟨_,_,by rw [c1,e]⟩
theorem endOffer_c {N:Nat} {ws:List (Nat × Option Way)} (hi:x.Inv N ws) (hN:N<=900000000) (hol:x.aV.length=x.prt.aZ.length) (c:Int) (dv:Value) (d:dV) (hd:d.length<=9223372036854775807) (j:Nat) {T:Th} (hT:Reads T dv d) (hj:ts[j]? = some T) (he:EndAt cs o x v) (h:dY (fun _=>False) Z W (dJ p (bG cs)::(bY x v++ts)) w) :
  Calls Tryz.prog 91 #[.pointer (some ⟨p,o,none⟩),.int .i64 c,dv] w fun e w'=>e=.returned (.int .i64 ((x.dQ c d).1:Int))/\dY (fun _=>False) Z W (dJ p (bG cs)::(bY (x.dQ c d).2 v++ts)) w':=by
 obtain ⟨c0,_,_,_,_,_,_⟩:=dT he (h.blk 0 rfl)
 have HH:=aQ h
 have hj7:(dJ p (bG cs)::(bY x v++ts))[j+7]? = some T:=by
  show (bY x v++ts)[j+6]? = _
  rw [List.getElem?_append_right (by simp)]
  exact hj
 have HJ:=aQ hj7
 obtain ⟨_,_,hbT⟩:=h.get _ hj7
 have hby:=hT _ _ _ hbT
 obtain ⟨da,dc,e2⟩:=By.slice hby
 subst e2
 have HTT:=aQ hT
 clear hbT hT
 have HOK:=aQ hi.ok
 obtain ⟨ra,rc,hr1⟩:=port_room h 1 rfl hi.ok
 have HR:=aQ hr1
 have hsl:=hi.sl
 have n1:=hi.ok.n1
 have n4:=hi.ok.n4
 by_cases h1:¬x.prt.has c\/64 < d.length
 ·have HT:=aQ (show x.dQ c d=(2,x) by unfold Lnd.dQ Prt.dQ;rw [if_pos h1,if_neg (by show ¬(2:Nat)=0;omega)])
  have HC:=aQ (show c < 0\/(x.prt.aZ.length:Int)<=c\/64 < d.length by
   rcases h1 with h1|h1
   ·by_cases h0:c < 0
    ·exact .inl h0
    ·exact .inr (.inl (by have:¬c < x.prt.aZ.length:=fun q=>h1 ⟨by omega,q⟩;omega))
   ·exact .inr (.inr h1))
  clear h he hi h1 hby hj7 hr1 hj
  go_enter Tryz.func91,Tryz.ntmps91
  go_wp2_with fail
  refine (poffer_range c da d.length dc ra rc n4 hd HC.out HR.out).mono ?_
  rintro e w' ⟨rfl,rfl⟩
  go_wp2_with fail
  go_ret
  rw [HT.out]
  exact ⟨rfl,HH.out⟩
 ·have hh:x.prt.has c:=Classical.byContradiction fun e=>h1 (.inl e)
  have hd64:d.length<=64:=by omega
  obtain ⟨m,rfl⟩:∃m:Nat,c=(m:Int):=⟨c.toNat,by have:=hh.1;omega⟩
  have hm:m < x.prt.aZ.length:=by have:=hh.2;omega
  by_cases h2:64<=(x.prt.aX.getD m []).length
  ·have HT:=aQ (show x.dQ (m:Int) d=(5,x) by unfold Lnd.dQ Prt.dQ;rw [if_neg h1,Int.toNat_natCast,if_pos h2,if_neg (by show ¬(5:Nat)=0;omega)])
   have H2:=aQ h2
   clear h he hi h1 hby hj7 hr1 hj h2 hh
   go_enter Tryz.func91,Tryz.ntmps91
   go_wp2_with fail
   refine (poffer_full HH.out 1 rfl HOK.out (by omega) m hm da d.length dc hd64 H2.out).mono ?_
   rintro e w' ⟨rfl,rfl⟩
   go_wp2_with fail
   go_ret
   rw [HT.out]
   exact ⟨rfl,HH.out⟩
  ·obtain ⟨q,hq⟩:∃q:Prt,q={ x.prt with aX:=x.prt.aX.set m (x.prt.aX.getD m []++[d]) }:=⟨_,rfl⟩
   have HT:=aQ (show x.dQ (m:Int) d=(0,{ x with prt:=q,aV:=x.aV.set m (x.aV.getD m []++[d]),aE:=x.aE.set m (x.aE.getD m 0+1) }) by
    have:x.prt.dQ (m:Int) d=(0,q):=by unfold Prt.dQ;rw [if_neg h1,Int.toNat_natCast,if_neg h2,hq]
    unfold Lnd.dQ
    rw [this,if_pos rfl,Int.toNat_natCast])
   have HW:=aQ (show (x.prt.aX.getD m []).length < 64 by omega)
   have HOB:=aQ hi.ob
   have hsn:x.aE.getD m 0<=2*N+128:=by
    have e1:=hi.cons.off m hm
    have e2:=bM (P:=fun y=>y<=N) hi.ok.acn (d:=0) (Nat.zero_le _) m
    have e3:=bM (P:=fun l:List dV=>l.length<=N) hi.ok.wln (d:=[]) (Nat.zero_le _) m
    have e4:cnt x.prt.cT m<=x.prt.cT.length:=List.length_filter_le _ _
    have e5:x.prt.cT.length=x.prt.snd.cT.length:=by rw [<-hi.ok.cT,List.length_map]
    have e6:=hi.ok.snd.cT
    have e7:=hi.ok.snd.w2
    omega
   have HE:=aQ he
   have HBY0:=aQ hby
   have hml:m < x.aV.length:=by omega
   have hms:m < x.aE.length:=by omega
   clear h he hi h1 hj7 hr1 hj h2 hh hby
   go_enter Tryz.func91,Tryz.ntmps91
   go_wp2_with fail
   refine (poffer_yesT HH.out 1 (j+7) rfl HOK.out (by omega) m hm _ d HTT.out HJ.out (by omega) hd64 HW.out).mono ?_
   rintro e w2 ⟨rfl,h2⟩
   have h2:dY (fun _=>False) Z W (dJ p (bG cs)::bP v.pp q::tSc v.sp x.sc::tCab v.cp x.cD::tBBy v.ov x.aV::tBBy v.tv x.cF::tSq dK 3 v.nv x.aE::ts) w2:=by rw [hq];exact h2
   have hj8:(dJ p (bG cs)::bP v.pp q::tSc v.sp x.sc::tCab v.cp x.cD::tBBy v.ov x.aV::tBBy v.tv x.cF::tSq dK 3 v.nv x.aE::ts)[j+7]? = some T:=HJ.out
   obtain ⟨_,_,hbT⟩:=h2.get _ hj8
   have HBY:=aQ (HTT.out _ _ _ hbT)
   clear HH HBY0 c0 HR hbT hj8 HJ HOK HW HTT
   obtain ⟨c0,_,_,_,c4,_,c6⟩:=dT HE.out (h2.blk 0 rfl)
   obtain ⟨_,_,hof⟩:=h2.get 4 rfl
   obtain ⟨b1,o1,k1,e1,m1,m1'⟩:=bR (show Sq (eSq eBy 42) 40 w2 _ _ v.ov x.aV from hof) (by omega)
   have hx:=bT (d:=[]) hml
   have hxl:=bM (P:=fun l:List dV=>l.length<=N) HOB.out (d:=[]) (Nat.zero_le _) m
   obtain ⟨xs,hxs⟩:∃xs,xs=x.aV.getD m []:=⟨_,rfl⟩
   have HXS:=aQ hxs
   rw [<-hxs] at hx hxl
   clear hxs
   have HE1:=aQ e1
   rw [e1] at c4
   have HT2:=aQ (show dY (fun _=>False) Z W (dJ p (bG cs)::bP v.pp q::tSc v.sp x.sc::tCab v.cp x.cD::tBBy (.slice (some ⟨b1,o1,none⟩) x.aV.length k1) x.aV::tBBy v.tv x.cF::tSq dK 3 v.nv x.aE::ts) w2 by rw [<-e1];exact h2)
   have HB:=aQ (show ¬b1=p from fun e=>HT2.out.apart 0 4 (by decide) rfl rfl (fun _ _ h=>h.2) (fun _ _ h=>(Sq.free (show Sq _ _ _ _ _ _ _ from h)).2.1) e.symm)
   clear h2 hof e1 m1' HOB hol hsl n1 n4 hm
   go_wp2_with fail
   refine wp_region_held_drew (S:=fun w'=>w'.cell? ⟨p,o+4,none⟩=some (.slice (some ⟨b1,o1,none⟩) x.aV.length k1)) (by kernel_rfl) c4 (fun hS0=>?_)
   change wpAnyH _ _ _ _ _ (7+11) _ _ _
   refine aH 0 11 (by kernel_rfl) hS0 (fun _ _ _ _ _ h=>h) ?_
   simp only [List.drop_zero,List.take_succ_cons,List.take_zero]
   iterate 11 (refine aR (v:=?_) (by rfl) ?_ ?_;rotate_left 1;(focus ((intro w' hS';go_simp);try with_reducible rfl));simp only [Act.put,jQ1,jQ2,jQ3])
   refine aT ?_
   change wpAnyH _ _ _ _ _ (6+1) _ _ _
   refine aH 12 1 (by kernel_rfl) hS0 (fun _ _ _ _ _ h=>h) ?_
   simp only [List.drop_succ_cons,List.drop_zero,List.take_succ_cons,List.take_zero]
   (refine aR (v:=?_) (by rfl) ?_ ?_;rotate_left 1;(focus ((intro w' hS';go_simp);try with_reducible rfl));simp only [Act.put,jQ1,jQ2,jQ3])
   refine aT ?_
   have HBD:=aQ (show Below w2.heap.size w2 w2.drew from bS w2 1)
   obtain ⟨va0,k20,K0,us0,hvc0,_,_,_,_⟩:=((HT2.out.addZ (HBD.out) (T:=tBy (.slice none 0 0) []) (ByZ.nil _ _)).front).pushF 5 rfl hx 0 (by decide) rfl
   obtain ⟨wd,hwd⟩:∃wd,wd=w2.drew:=⟨_,rfl⟩
   rw [<-hwd] at HBD hS0 hvc0 ⊢
   clear hwd
   refine wpAnyH_two 11 13 (by kernel_rfl) rfl rfl (fun K hK=>?_) (fun K hK=>?_)
   focus
    go_simp
    refine hK.out _ _ hS0 ?_
    clear hK K
    refine aM 13 (by kernel_rfl) rfl (fun K hK=>?_)
    (refine step_call (f:=?_) (args:=?_) (by rfl) ?_ ?_;rotate_left 2;(focus (go_simp;first|(with_reducible rfl)|(refine ⟨?_,?_⟩ <;> with_reducible rfl)));(refine (cV _ d _ (HBY.out.below HBD.out) (by omega)).mono ?_);rintro e' w1 ⟨v1,rfl,ho,hb1⟩);refine ⟨_,rfl,?_⟩;simp only [Act.put,jQ1,jQ2,jQ3];have hb1':Below w2.heap.size w2 w1:=HBD.out.trans (hb1.mono HBD.out.size);obtain ⟨va1,vk1,rfl⟩:=ow_shape ho;have HA:=(HT2.out.addZ hb1' (T:=tBy (.slice va1 d.length vk1) d) (ho.lower HBD.out.size).byZ).front;obtain ⟨va,vc,K',us,hvc,hsl,hKn,hKb,hback⟩:=HA.pushF 5 rfl hx 0 (by decide) rfl;have hvq:=(World.cell?_of_block (hb1.block b1 (World.block_lt_of_cell? _ _ hvc0))).trans hvc0;rw [hvc] at hvq;obtain ⟨rfl,rfl⟩:va=va0/\vc=k20:=(by simpa using hvq);have hw1:w1.cell? ⟨p,o+4,none⟩=some (.slice (some ⟨b1,o1,none⟩) x.aV.length k1):=(dT HE.out (HA.blk 1 rfl)).2.2.2.2.1.trans (by rw [HE1.out]);have HKP:=aQ (show ¬K' p from hKn p 1 _ (by decide) rfl fun _ _ h=>.inl h.2);have HBACK:=aQ hback;have HSL:=aQ hsl;have hw2:(w1.alloc (.cells #[.slice va1 d.length vk1] 42)).cell? ⟨p,o+4,none⟩=some (.slice (some ⟨b1,o1,none⟩) x.aV.length k1):=aI _ _ hw1;have hw3:(w1.alloc (.cells #[.slice va1 d.length vk1] 42)).cell? ⟨b1,o1+m,none⟩=some (.slice va xs.length vc):=aI _ _ hvc;clear ho hb1 hb1' HA hKn hKb hback hsl hvq
    refine hK.out _ _ hw1 ?_
    clear hK K
    refine aM 14 (by kernel_rfl) rfl (fun K hK=>?_)
    go_simp
    refine hK.out _ _ hw2 ?_
    clear hK K
   rotate_left
   focus
    (refine step_call (f:=?_) (args:=?_) (by rfl) ?_ ?_;rotate_left 2;(focus (go_simp;first|(with_reducible rfl)|(refine ⟨?_,?_⟩ <;> with_reducible rfl)));(refine (cV _ d _ (HBY.out.below HBD.out) (by omega)).mono ?_);rintro e' w1 ⟨v1,rfl,ho,hb1⟩);refine ⟨_,rfl,?_⟩;simp only [Act.put,jQ1,jQ2,jQ3];have hb1':Below w2.heap.size w2 w1:=HBD.out.trans (hb1.mono HBD.out.size);obtain ⟨va1,vk1,rfl⟩:=ow_shape ho;have HA:=(HT2.out.addZ hb1' (T:=tBy (.slice va1 d.length vk1) d) (ho.lower HBD.out.size).byZ).front;obtain ⟨va,vc,K',us,hvc,hsl,hKn,hKb,hback⟩:=HA.pushF 5 rfl hx 0 (by decide) rfl;have hvq:=(World.cell?_of_block (hb1.block b1 (World.block_lt_of_cell? _ _ hvc0))).trans hvc0;rw [hvc] at hvq;obtain ⟨rfl,rfl⟩:va=va0/\vc=k20:=(by simpa using hvq);have hw1:w1.cell? ⟨p,o+4,none⟩=some (.slice (some ⟨b1,o1,none⟩) x.aV.length k1):=(dT HE.out (HA.blk 1 rfl)).2.2.2.2.1.trans (by rw [HE1.out]);have HKP:=aQ (show ¬K' p from hKn p 1 _ (by decide) rfl fun _ _ h=>.inl h.2);have HBACK:=aQ hback;have HSL:=aQ hsl;have hw2:(w1.alloc (.cells #[.slice va1 d.length vk1] 42)).cell? ⟨p,o+4,none⟩=some (.slice (some ⟨b1,o1,none⟩) x.aV.length k1):=aI _ _ hw1;have hw3:(w1.alloc (.cells #[.slice va1 d.length vk1] 42)).cell? ⟨b1,o1+m,none⟩=some (.slice va xs.length vc):=aI _ _ hvc;clear ho hb1 hb1' HA hKn hKb hback hsl hvq
    refine hK.out _ _ hw1 ?_
    clear hK K
    refine wpAnyH_two 11 14 (by kernel_rfl) rfl rfl (fun K hK=>?_) (fun K hK=>?_)
    focus
     go_simp
     refine hK.out _ _ hw1 ?_
     clear hK K
     refine aM 14 (by kernel_rfl) rfl (fun K hK=>?_)
     go_simp
     refine hK.out _ _ hw2 ?_
     clear hK K
    rotate_left
    focus
     go_simp
     refine hK.out _ _ hw2 ?_
     clear hK K
     refine aM 11 (by kernel_rfl) rfl (fun K hK=>?_)
     go_simp
     refine hK.out _ _ hw2 ?_
     clear hK K
   all_goals
    refine aM 15 (by kernel_rfl) rfl (fun K hK=>?_)
    refine step_app_sl slBB rfl _ _ rfl K' (.slice va xs.length vc) xs.length us rfl (HSL.out.alloc _) _ 1 [.slice va1 d.length vk1] rfl (rd_one _ _ _ _ rfl) (by intro u hu;simp at hu;subst hu;rfl) (by unfold maxLen;omega) (by omega) ?_
    intro v2 w3 hsl3 hfr3
    obtain ⟨g2,off2,cap2,rfl,k0,kf,hK5⟩:=HBACK.out _ w3 v2 (aK w1 _) hsl3 hfr3
    have HK5:=aQ hK5
    have hx3:w3.cell? ⟨p,o+4,none⟩=some (.slice (some ⟨b1,o1,none⟩) x.aV.length k1):=(World.cell?_of_block (hfr3.block p (World.block_lt_of_cell? _ _ hw2) HKP.out)).trans hw2
    clear hsl3 hfr3 HBACK HSL hK5 hw1 hw2 hw3 hvc
    refine hK.out _ _ hx3 ?_
    clear hK K
    simp only [Act.put,jQ1,jQ2,jQ3]
    refine aM 16 (by kernel_rfl) rfl (fun K hK=>?_)
    go_simp
    refine hK.out _ _ hx3 ?_
    clear hK K
    refine aM 17 (by kernel_rfl) rfl (fun K hK=>?_)
    go_simp
    refine hK.out _ _ (cell_ne (fun e=>HB.out e.symm) hx3) ?_
    clear hK K
    refine wpAnyH_done (by kernel_rfl) ?_ _
    obtain ⟨w4,hw4⟩:∃w4,w4=w3.setCell ⟨b1,o1+m,none⟩ (.slice (some ⟨g2,off2,none⟩) (xs.length+1) cap2):=⟨_,rfl⟩
    have h4:dY (fun _=>False) Z W (dJ p (bG cs)::bP v.pp q::tSc v.sp x.sc::tCab v.cp x.cD::tBBy (.slice (some ⟨b1,o1,none⟩) x.aV.length k1) (x.aV.set m (xs++[d]))::tBBy v.tv x.cF::tSq dK 3 v.nv x.aE::ts) w4:=by rw [hw4];exact HK5.out.tail
    rw [<-hw4]
    obtain ⟨_,_,_,_,_,_,c7⟩:=dT HE.out (h4.blk 0 rfl)
    obtain ⟨_,_,hsn4⟩:=h4.get 6 rfl
    obtain ⟨b6,o6,k6,e6,m6,_⟩:=bR (show Sq dK 3 w4 _ _ v.nv x.aE from hsn4) (by omega)
    have hf6:=(Sq.free (show Sq dK 3 w4 _ _ (.slice (some ⟨b6,o6,none⟩) x.aE.length k6) x.aE by rw [<-e6];exact hsn4)).2.2.2
    have hs:=bT (d:=0) hms
    obtain ⟨b7,o7,e7,hc6⟩:=nat_at (show Sq dK 3 w4 _ _ (.slice (some ⟨b6,o6,none⟩) x.aE.length k6) x.aE by rw [<-e6];exact hsn4) hs
    obtain ⟨rfl,rfl⟩:b6=b7/\o6=o7:=by simpa using e7
    rw [e6] at c7
    obtain ⟨sn,hsn'⟩:∃sn,sn=x.aE.getD m 0:=⟨_,rfl⟩
    have HSN:=aQ hsn'
    rw [<-hsn'] at hc6 hsn
    have HE6:=aQ e6
    have H4:=aQ h4
    clear h4 hw4 hsn4 hs hsn' e6 e7 kf k0 hx3 HK5 hxl HKP
    go_wp2_with fail
    go_ret
    have HF:=(show dY (fun _=>False) Z W (dJ p (bG cs)::bP v.pp q::tSc v.sp x.sc::tCab v.cp x.cD::tBBy (.slice (some ⟨b1,o1,none⟩) x.aV.length k1) (x.aV.set m (xs++[d]))::tBBy v.tv x.cF::tSq dK 3 (.slice (some ⟨b6,o6,none⟩) x.aE.length k6) x.aE::ts) w4 by rw [<-HE6.out];exact H4.out).putN 6 rfl (c:=m) (y:=sn+1) (u:=(sn:Int)+1) hms (by omega)
    rw [HT.out,<-HXS.out,<-HSN.out]
    refine ⟨rfl,?_⟩
    show dY _ Z W (dJ p (bG cs)::bP v.pp q::tSc v.sp x.sc::tCab v.cp x.cD::tBBy v.ov _::tBBy v.tv x.cF::tSq dK 3 v.nv _::ts) _
    rw [HE1.out,HE6.out]
    exact HF
end
end

set_option maxRecDepth 100000
section
open Go.RowKit
theorem row_set1 {w:World} {p i:Nat} {cs:Array Value} {T:TypeId} {u:Value} (h:w.heap[p]? = some (.cells cs T (0,0))):(w.setCell ⟨p,i,none⟩ u).heap[p]? = some (.cells (cs.setIfInBounds i u) T (0,0)):=by (apply aS;focus (with_reducible (repeat (first|exact h|apply aU|apply aP|apply aF))));rfl
theorem dY.put1 {F Z:BS} {W w:World} {ts:List Th} (h:dY F Z W ts w) (i:Nat) {p k:Nat} {cs:Array Value} {T:TypeId} (hi:ts[i]? = some (dJ p (.cells cs T (0,0)))) (u:Value):dY F Z W (ts.set i (dJ p (.cells (cs.setIfInBounds k u) T (0,0)))) (w.setCell ⟨p,k,none⟩ u):=
 h.set i hi _ (by (repeat (first|(with_reducible (first|exact Fr.refl _ _|refine Fr.setCell ?_ ?_ _|refine Fr.drewN ?_ _|refine Fr.drew ?_))|exact Or.inl rfl))) (row_set1 (h.blk i hi))
theorem zero_ints (n:Nat):(Builtin.zeroCells (Value.int .i64 0).cells n).toList=List.replicate n (.int .i64 0):=by
 refine List.eq_replicate_iff.2 ⟨by rw [zeroCells_length];simp [Value.cells],fun u hu=>?_⟩
 simp only [Builtin.zeroCells,Array.mem_toList_iff,Array.mem_map] at hu
 obtain ⟨j,_,rfl⟩:=hu
 have h1:(Value.int IntKind.i64 0).cells = #[.int .i64 0]:=rfl
 rw [h1]
 have:j % (#[Value.int IntKind.i64 0]:Array Value).size=0:=Nat.mod_one j
 rw [this];rfl
theorem slNat:SlT Tryz.prog 22 3 (.int .i64 0) 1 8:=⟨Tryz.underlying22,info_parts (by kernel_rfl),rfl,by decide⟩
theorem wpList_clear_nat {F Z:BS} {W w:World} {ts:List Th} {ops:Array Oper} {rest:List Oper} {o:Oper} {a:Act} {Q:Exit->Act->World->Prop}
  (hg:o.guard=none) (s:Operand) (hop:o.op=Op.call { callee:=Callee.builtin Builtin.clear,args := #[s],argTypes := #[22] })
  (h:dY F Z W ts w) (i:Nat) {v:Value} {xs:List Nat} (hi:ts[i]? = some (tSq dK 3 v xs)) (hn:0 < xs.length) (hs:a.eval s=v)
  (hK:∀w',dY F Z W (ts.set i (tSq dK 3 v (List.replicate xs.length 0))) w'->wpList Tryz.prog ops Q rest (a.put o.dst (.tuple #[])) w') :
  wpList Tryz.prog ops Q (o::rest) a w:=by
 obtain ⟨G,Y,hon⟩:=h.get i hi
 obtain ⟨K,D,us,hKD,hdj,hKs,⟨hl,⟨_,h0⟩|⟨g,off,cap,cur,rfl,hKg,hrow,h1,h2,h3,h4⟩⟩,hel⟩:=(show Sq dK 3 w G Y v xs from hon)
 ·omega
 ·have hE:dK.size=1:=rfl
  rw [hE] at h3 hl h4
  refine wpList_plain hg fun K' hK'=>?_
  have hone:∀u ∈ List.replicate xs.length (Value.int IntKind.i64 0),u.oneCell'=true:=fun u hu=>by rw [List.eq_of_mem_replicate hu];rfl
  have hfit:off+xs.length<=cur.size:=by omega
  have hst:=run_storeCells_at Tryz.prog g off 3 (List.replicate xs.length (.int .i64 0)) 0 cur w hrow (by rw [List.length_replicate];simpa using hfit) hone
  simp only [Nat.add_zero] at hst
  obtain ⟨m,hm⟩:∃m,xs.length=m+1:=⟨xs.length - 1,by omega⟩
  have hrun:(Builtin.clear_ #[22] o.type #[.slice (some ⟨g,off,none⟩) xs.length cap]).run Tryz.prog w=.ok (.tuple #[]) (wOver w g cur off (List.replicate xs.length (.int .i64 0))):=by
   rw [<-zero_ints] at hst ⊢
   rw [hm] at hst ⊢
   simp [Builtin.clear_,run_underlying slNat.under,hst,wOver,over]
  unfold Oper.wp execOp
  simp only [hop,resolve,invoke,builtin,Sem.run_bind,Sem.run_pure,Result.andThen_ok,List.map_toArray,List.map_cons,List.map_nil,hs,hrun]
  refine hK' _ _ (hK _ ?_)
  refine h.upd i hi fun G' Y' hon' hd'=>?_
  obtain ⟨K2,D2,us2,hKD2,hdj2,hKs2,⟨hl2,⟨h0,_⟩|⟨g2,off2,cap2,cur2,e2,hKg2,hrow2,q1,q2,q3,q4⟩⟩,hel2⟩:=(show Sq dK 3 w G' Y' (.slice (some ⟨g,off,none⟩) xs.length cap) xs from hon')
  ·cases h0
  ·obtain ⟨⟨rfl,rfl⟩,rfl⟩:(g=g2/\off=off2)/\cap=cap2:=by simpa using e2
   rw [hrow] at hrow2
   obtain rfl:cur=cur2:=by simpa using hrow2
   have hrl:(List.replicate xs.length (Value.int IntKind.i64 0)).length=xs.length:=List.length_replicate ..
   have hcl:cur.toList.length=cur.size:=by simp
   refine ⟨?_,(over_fr cur off _).mono fun k hk=>by subst hk;exact hKD2 _ (.inl hKg2)⟩
   refine ⟨K2,fun _=>False,List.replicate xs.length (.int .i64 0),fun k hk=>hk.elim (fun h=>hKD2 k (.inl h)) False.elim,fun _ _ f=>f,fun k hk=>Nat.lt_of_lt_of_le (hKs2 k hk) (over_fr cur off _).size,?_,?_⟩
   ·rw [List.length_replicate]
    refine ⟨by rw [hrl,hE];omega,.inr ⟨g,off,cap,_,rfl,hKg2,over_row hrow off _,q1,q2,?_,?_⟩⟩
    ·rw [List.size_toArray,over_length (by rw [hrl,hcl];exact hfit),hcl,hE];exact h3
    ·have:=over_same (cur:=cur.toList) (news:=List.replicate xs.length (Value.int IntKind.i64 0)) (o:=off) (by rw [hrl,hcl];exact hfit)
     rw [hrl] at this
     rw [hE,Nat.mul_one]
     simpa using this
   ·have:∀(n:Nat) (w':World) (Z':BS),Els dK w' (fun _=>False) Z' (List.replicate n (.int .i64 0)) (List.replicate n 0):=fun n w' Z'=>by
     induction n with
     |zero=>exact rfl
     |succ n ih=>exact ⟨[.int .i64 0],List.replicate n (.int .i64 0),fun _=>False,fun _=>False,rfl,fun _ f=>f,fun _ f=>f,fun _ f=>f.elim,rfl,ih⟩
    exact this _ _ _
section
variable {F Z:BS} {W w:World} {ts:List Th} {p N:Nat} {a:Prt}
theorem restart_high (h:dY F Z W ts w) (i:Nat) (hi:ts[i]? = some (bP p a)) (hok:a.Ok N) (c:Nat) (h1:a.inc < c) (h2:1099511627775 < c) :
  Calls Tryz.prog 135 #[.pointer (some ⟨p,0,none⟩),.int .i64 (c:Int)] w fun e w'=>e=.returned (.int .i64 2)/\dY F Z W ts w':=by
 have HCF:=aQ (show ¬CfgOk (c:Int) (a.aZ.map fun (x:Nat)=>(x:Int)) a.cA a.aN a.dead from fun q=>by have:=q.i2;omega)
 obtain ⟨G,Y,x,hst⟩:=h.get i hi
 obtain ⟨rv,sp,ap,wv,bv,snp,rcp,tkp,gvp,bsv,kv,acv,rev,tav⟩:=x
 have n1:=hok.n1
 have n4:=hok.n4
 have hr:=hst.get (i:=1) rfl
 obtain ⟨rb,ro,rc,rfl,m1,m1'⟩:=bR (show Sq dK 3 w _ _ rv a.aZ from hr) n1
 have hrow:=(hst.get (i:=0) rfl).1
 obtain ⟨c0,c1,c2,c3,c4,_⟩:=aB hrow
 dsimp only at c0 c1 c2 c3 c4
 have HN:=aQ (rooms_nums (show Sq dK 3 w _ _ (.slice (some ⟨rb,ro,none⟩) a.aZ.length rc) a.aZ from hr))
 have HH:=aQ h
 clear hst hrow hr hi hok h
 go_enter Tryz.func135,Tryz.ntmps135
 go_wp2_with fail
 have hb0:=aK w (.cells #[.int .i64 (c:Int),.slice (some ⟨rb,ro,none⟩) a.aZ.length rc,.int .i64 (a.cA:Int),.int .i64 (a.aN:Int),.int .i64 (a.dead:Int)] 24)
 have HH1:=aQ (HH.out.own hb0)
 have hp:=pnew_no (inc:=(c:Int)) (aZ:=a.aZ.map fun (x:Nat)=>(x:Int)) (wi:=a.cA) (ti:=a.aN) (de:=a.dead) (ra:=some ⟨rb,ro,none⟩) (rc:=rc) (w.alloc (.cells #[.int .i64 (c:Int),.slice (some ⟨rb,ro,none⟩) a.aZ.length rc,.int .i64 (a.cA:Int),.int .i64 (a.aN:Int),.int .i64 (a.dead:Int)] 24))
  (by rw [List.length_map];omega) HCF.out (fun k y hk=>by
   rw [List.getElem?_map] at hk
   cases hx:a.aZ[k]? with
   |none=>rw [hx] at hk;cases hk
   |some z=>
    rw [hx] at hk
    obtain rfl:(z:Int)=y:=by simpa using hk
    have:=HN.out k z hx
    exact ⟨rb,ro,rfl,(World.cell?_of_block (hb0.block rb (World.block_lt_of_cell? w _ this))).trans this⟩)
 rw [List.length_map] at hp
 refine hp.mono ?_
 rintro e w2 ⟨rfl,hb⟩
 have H2:=aQ (HH1.out.own hb)
 clear hb hp hb0 HH1 HH HN c0 c1 c2 c3 c4
 go_wp2_with fail
 go_ret
 exact ⟨rfl,H2.out⟩
end
section
variable {Z:BS} {W w:World} {ts:List Th} {p o:Nat} {cs:Array Value} {x:Lnd} {v:EV}
theorem set_get {cs:Array Value} {i k:Nat} {u:Value} (hi:i < cs.size):(cs.setIfInBounds i u)[k]? = if i=k then some u else cs[k]?:=by
 rw [Array.getElem?_setIfInBounds]
 by_cases e:i=k
 ·rw [if_pos e,if_pos e,if_pos hi]
 ·rw [if_neg e,if_neg e]
theorem get_lt {cs:Array Value} {k:Nat} {u:Value} (h:cs[k]? = some u):k < cs.size:=by
 rcases Nat.lt_or_ge k cs.size with h'|h'
 ·exact h'
 ·rw [Array.getElem?_eq_none h'] at h;cases h
theorem EndAt.again (he:EndAt cs o x v) (x':Lnd) (sp':Nat):EndAt ((cs.setIfInBounds (o+3) (.int .i64 (x'.inc:Int))).setIfInBounds (o+1) (.pointer (some ⟨sp',0,none⟩))) o x' { v with sp:=sp' } /\
  (∀k,k < o\/o+7<=k->((cs.setIfInBounds (o+3) (.int .i64 (x'.inc:Int))).setIfInBounds (o+1) (.pointer (some ⟨sp',0,none⟩)))[k]? = cs[k]?):=by
 have h6:=get_lt (he 6 _ rfl)
 have hk:∀k,((cs.setIfInBounds (o+3) (.int .i64 (x'.inc:Int))).setIfInBounds (o+1) (.pointer (some ⟨sp',0,none⟩)))[k]? = if o+1=k then some (.pointer (some ⟨sp',0,none⟩)) else if o+3=k then some (.int .i64 (x'.inc:Int)) else cs[k]?:=fun k=>by
  rw [set_get (by rw [Array.size_setIfInBounds];omega),set_get (by omega)]
 refine ⟨fun j u hj=>?_,fun k hko=>by rw [hk,if_neg (by omega),if_neg (by omega)]⟩
 rw [hk]
 match j,hj with
 |0,hj=>rw [if_neg (by omega),if_neg (by omega)];exact he 0 _ hj
 |1,hj=>rw [if_pos rfl];exact hj
 |2,hj=>rw [if_neg (by omega),if_neg (by omega)];exact he 2 _ hj
 |3,hj=>rw [if_neg (by omega),if_pos rfl];exact hj
 |4,hj=>rw [if_neg (by omega),if_neg (by omega)];exact he 4 _ hj
 |5,hj=>rw [if_neg (by omega),if_neg (by omega)];exact he 5 _ hj
 |6,hj=>rw [if_neg (by omega),if_neg (by omega)];exact he 6 _ hj
 |j+7,hj=>simp [endCells] at hj
theorem endRestart_c {N:Nat} {ws:List (Nat × Option Way)} (hi:x.Inv N ws) (he:EndAt cs o x v) (h:dY (fun _=>False) Z W (dJ p (bG cs)::(bY x v++ts)) w) :
  Calls Tryz.prog 93 #[.pointer (some ⟨p,o,none⟩)] w fun e w'=>e=.returned (.int .i64 (x.restart.1:Int))/\∃cs' v',EndAt cs' o x.restart.2 v'/\(∀k,k < o\/o+7<=k->cs'[k]? = cs[k]?)/\cs'.size=cs.size/\dY (fun _=>False) Z W (dJ p (bG cs')::(bY x.restart.2 v'++ts)) w':=by
 obtain ⟨c0,_,_,c3,_,_,_⟩:=dT he (h.blk 0 rfl)
 have HH:=aQ h
 have HE:=aQ he
 have HOK:=aQ hi.ok
 have hinc:=hi.inc
 have hi2:=hi.ok.i2
 have hsl:=hi.sl
 have n1:=hi.ok.n1
 have HIN:=aQ hinc
 have hwr:IntKind.i64.wrap ((x.inc:Int)+1)=(x.inc:Int)+1:=IntWalk.i64_in _ (by omega)
 have HQ:=aQ (show Calls Tryz.prog 135 #[.pointer (some ⟨v.pp,0,none⟩),.int .i64 ((x.inc:Int)+1)] w.drew fun e w'=>((e=.returned (.int .i64 0)/\x.inc+1<=1099511627775/\dY (fun _=>False) Z W (dJ p (bG cs)::(bY { x with prt:=dG (x.inc+1) x.prt.aZ x.prt.cA x.prt.aN x.prt.dead } v++ts)) w')\/(e=.returned (.int .i64 2)/\1099511627775 < x.inc+1/\dY (fun _=>False) Z W (dJ p (bG cs)::(bY x v++ts)) w')) by
  have e1:(x.inc:Int)+1=((x.inc+1:Nat):Int):=by omega
  rw [e1]
  by_cases hc:x.inc+1<=1099511627775
  ·exact (restart_yes h.drew 1 rfl hi.ok (x.inc+1) (by omega) hc).mono fun e w' ⟨a,b⟩=>.inl ⟨a,hc,b⟩
  ·exact (restart_high h.drew 1 rfl hi.ok (x.inc+1) (by omega) (by omega)).mono fun e w' ⟨a,b⟩=>.inr ⟨a,by omega,b⟩)
 clear he hi h
 go_enter Tryz.func93,Tryz.ntmps93
 go_wp2_with fail
 refine wp_region_held_drew (S:=fun w'=>w'.cell? ⟨p,o,none⟩=some (.pointer (some ⟨v.pp,0,none⟩))/\w'.cell? ⟨p,o+3,none⟩=some (.int .i64 (x.inc:Int))) (by kernel_rfl) ⟨c0,c3⟩ (fun hS0=>?_)
 change wpAnyH _ _ _ _ _ (2+9) _ _ _
 refine aH 0 9 (by kernel_rfl) hS0 (fun _ _ _ _ _ h=>h) ?_
 simp only [List.drop_zero,List.take_succ_cons,List.take_zero]
 iterate 9 (refine aR (v:=?_) (by rfl) ?_ ?_;rotate_left 1;(focus ((intro w' hS';have h0:=hS'.1;have h1:=hS'.2;go_simp);try with_reducible rfl));simp only [Act.put,jQ1,jQ2,jQ3])
 refine aT ?_
 refine aM 9 (by kernel_rfl) rfl (fun K hK=>?_)
 (refine step_call (f:=?_) (args:=?_) (by rfl) ?_ ?_;rotate_left 2;(focus (go_simp;first|(with_reducible rfl)|(refine ⟨?_,?_⟩ <;> with_reducible rfl))))
 refine HQ.out.mono ?_
 rintro e w1 (⟨rfl,hc,h1⟩|⟨rfl,hc,h1⟩)
 focus
  refine ⟨_,rfl,?_⟩
  simp only [Act.put,jQ1,jQ2,jQ3]
  have HT:=aQ (show x.restart=(0,{ x with prt:=dG (x.inc+1) x.prt.aZ x.prt.cA x.prt.aN x.prt.dead,inc:=x.inc+1,sc:=Sc.new,aE:=List.replicate x.aE.length 0 }) by
   have e:((x.inc:Int)+1).toNat=x.inc+1:=by omega
   have hr:¬((x.inc:Int)+1<=x.prt.inc\/1099511627775 < (x.inc:Int)+1):=by rw [HIN.out];omega
   unfold Lnd.restart Prt.restart
   rw [if_neg hr,if_pos rfl,e])
  generalize dG (x.inc+1) x.prt.aZ x.prt.cA x.prt.aN x.prt.dead=q at *
  obtain ⟨d0,_,_,d3,_,_,_⟩:=dT (x:={ x with prt:=q }) HE.out (h1.blk 0 rfl)
  have hfr:=fun i=>aD (h1.blk 0 rfl) i
  have H1:=aQ h1
  clear HQ HH h1 hS0 hinc hi2
  refine hK.out _ _ ⟨d0,d3⟩ ?_
  clear hK K
  refine aM 10 (by kernel_rfl) rfl (fun K hK=>?_)
  go_simp
  refine hK.out _ _ ⟨d0,d3⟩ ?_
  clear hK K
  refine wpAnyH_done (by kernel_rfl) ?_ _
  go_wp2_with fail
  have h2:=H1.out.put1 0 rfl (k:=o+3) (.int .i64 ((x.inc:Int)+1))
  refine (newSc_h h2).mono ?_
  rintro e w3 ⟨sb,rfl,h3⟩
  have H3:=aQ (show dY (fun _=>False) Z W (tSc sb Sc.new::dJ p (bG (cs.setIfInBounds (o+3) (.int .i64 ((x.inc:Int)+1))))::(bY { x with prt:=q } v++ts)) w3 from h3.front)
  have hfr3:=fun i=>aD (H3.out.blk 1 rfl) i
  have g1:w3.cell? ⟨p,o+1,none⟩=some (.pointer (some ⟨v.sp,0,none⟩)):=aJ (H3.out.blk 1 rfl) (by
   have:=get_lt (HE.out 6 _ rfl)
   rw [set_get (by omega),if_neg (by omega)];exact HE.out 1 _ rfl)
  have g6:w3.cell? ⟨p,o+6,none⟩=some v.nv:=aJ (H3.out.blk 1 rfl) (by
   have:=get_lt (HE.out 6 _ rfl)
   rw [set_get (by omega),if_neg (by omega)];exact HE.out 6 _ rfl)
  clear h2 h3 hfr d0 d3 H1
  go_upto_region 5 with (fail)
  have H4:=aQ (H3.out.put1 1 rfl (k:=o+1) (.pointer (some ⟨sb,0,none⟩)))
  obtain ⟨w4,hw4⟩:∃w4,w4=w3.setCell ⟨p,o+1,none⟩ (.pointer (some ⟨sb,0,none⟩)):=⟨_,rfl⟩
  have g6':w4.cell? ⟨p,o+6,none⟩=some v.nv:=by
   rw [hw4]
   refine aJ (H4.out.blk 1 rfl) ?_
   have:=get_lt (HE.out 6 _ rfl)
   rw [set_get (by rw [Array.size_setIfInBounds];omega),if_neg (by omega),set_get (by omega),if_neg (by omega)];exact HE.out 6 _ rfl
  rw [<-hw4] at H4 ⊢
  clear hw4 g6 g1 hfr3 H3
  have hsn:0 < x.aE.length:=by omega
  go_wp2_with (refine wpList_clear_nat rfl _ rfl H4.out 7 rfl hsn (by rfl) ?_;intro w5 h5;have H5:=aQ h5;clear h5)
  go_ret
  rw [HT.out]
  obtain ⟨r1,r2⟩:=HE.out.again { x with prt:=q,inc:=x.inc+1,sc:=Sc.new,aE:=List.replicate x.aE.length 0 } sb
  refine ⟨rfl,_,_,r1,r2,by rw [Array.size_setIfInBounds,Array.size_setIfInBounds],?_⟩
  exact H5.out.pickL (us:=[tSc sb Sc.new,dJ p (bG ((cs.setIfInBounds (o+3) (.int .i64 ((x.inc:Int)+1))).setIfInBounds (o+1) (.pointer (some ⟨sb,0,none⟩)))),bP v.pp q,tSc v.sp x.sc,tCab v.cp x.cD,tBBy v.ov x.aV,tBBy v.tv x.cF,tSq dK 3 v.nv (List.replicate x.aE.length 0)])
   (vs:=[dJ p (bG ((cs.setIfInBounds (o+3) (.int .i64 ((x.inc:Int)+1))).setIfInBounds (o+1) (.pointer (some ⟨sb,0,none⟩)))),bP v.pp q,tSc sb Sc.new,tCab v.cp x.cD,tBBy v.ov x.aV,tBBy v.tv x.cF,tSq dK 3 v.nv (List.replicate x.aE.length 0)]) [1,2,0,4,5,6,7] (by decide) rfl
 focus
  refine ⟨_,rfl,?_⟩
  simp only [Act.put,jQ1,jQ2,jQ3]
  have HT:=aQ (show x.restart=(2,x) by
   have hr:((x.inc:Int)+1<=x.prt.inc\/1099511627775 < (x.inc:Int)+1):=.inr (by omega)
   unfold Lnd.restart Prt.restart
   rw [if_pos hr,if_neg (by show ¬(2:Nat)=0;omega)])
  obtain ⟨d0,_,_,d3,_,_,_⟩:=dT HE.out (h1.blk 0 rfl)
  have H1:=aQ h1
  clear HQ HH h1 hS0 hinc hi2
  refine hK.out _ _ ⟨d0,d3⟩ ?_
  clear hK K
  refine aM 10 (by kernel_rfl) rfl (fun K hK=>?_)
  go_simp
  refine hK.out _ _ ⟨d0,d3⟩ ?_
  clear hK K
  refine wpAnyH_done (by kernel_rfl) ?_ _
  go_wp2_with fail
  go_ret
  rw [HT.out]
  exact ⟨rfl,cs,v,HE.out,fun _ _=>rfl,rfl,H1.out⟩
end
end

section
structure Cfg where
 inc:Nat
 aZ:List Nat
 w:Nat
 t:Nat
 d:Nat
structure Cfg.Ok (c:Cfg):Prop where
 n1:1<=c.aZ.length
 n4:c.aZ.length<=4
 rm:∀x ∈ c.aZ,1<=x/\x<=64
 i1:1<=c.inc
 i2:c.inc<=1099511627775
 w1:1<=c.w
 w2:c.w<=128
 t1:1<=c.t
 t2:c.t<=1000
 d1:1<=c.d
 d2:c.d<=1000
def newLk (a b:Cfg) (cB:Nat) (there back:List Flt):Lk:=⟨newLnd a.inc a.aZ a.w a.t a.d cB back,newLnd b.inc b.aZ b.w b.t b.d cB there⟩
theorem getD_nils (n c:Nat):(List.replicate n ([]:List dV)).getD c []=[]:=by
 unfold List.getD
 rw [List.getElem?_replicate]
 split <;> rfl
theorem newLnd_inv {c:Cfg} (h:c.Ok) {cB:Nat} {fs:List Flt} (d1:1<=cB) (d2:cB<=100) (hf:okF (-1) fs=true) (hl:fs.length<=1000):(newLnd c.inc c.aZ c.w c.t c.d cB fs).Inv 200 []:=
 ⟨newPrt_ok h.n1 h.n4 h.rm h.i1 h.i2 h.w1 h.w2 h.t1 h.t2 h.d1 h.d2,Cab.new_ok d1 d2 hf,.nil,rfl,rfl,(new_cons _ _ _ _ _).congr fun j _=>by show 0=(List.replicate c.aZ.length 0).getD j 0;rw [List.getD,List.getElem?_replicate];split <;> rfl,List.length_replicate ..,Nat.zero_le _,Nat.zero_le _,Nat.zero_le _,Nat.zero_le _,(fun l hl=>by rw [(List.mem_replicate.1 hl).2];exact Nat.zero_le _),(fun l hl=>by rw [(List.mem_replicate.1 hl).2];exact Nat.zero_le _),hl⟩
theorem newLnd_book (c:Cfg) (cB:Nat) (fs:List Flt):(newLnd c.inc c.aZ c.w c.t c.d cB fs).Book (fun _=>[]) (fun _=>[]) (fun _=>[]):=
 ⟨List.length_replicate ..,List.length_replicate ..,fun k=>getD_nils _ k,fun k=>getD_nils _ k⟩
theorem newLk_full {a b:Cfg} (ha:a.Ok) (hb:b.Ok) {cB:Nat} {there back:List Flt} (d1:1<=cB) (d2:cB<=100) (h1:okF (-1) there=true) (h2:okF (-1) back=true) (l1:there.length<=1000) (l2:back.length<=1000):(newLk a b cB there back).Full 200 True:=
 ⟨[],[],_,_,_,_,_,_,_,_,⟨newLnd_inv ha d1 d2 h2 l2,newLnd_inv hb d1 d2 h1 l1,both_new ha.i1 hb.i1 _ _ _ _ _ _ _ _,⟨List.replicate cB [],List.length_replicate ..,(dueQ_nils _ _).symm⟩,⟨List.replicate cB [],List.length_replicate ..,(dueQ_nils _ _).symm⟩,kno_new _ _ _ _ _ _ _ _ _ _⟩,newLnd_book a cB back,newLnd_book b cB there,fun _=>⟨fun _=>rfl,fun _=>rfl,fun _=>rfl,fun _=>rfl⟩⟩
def Lk.acts (L:Lk):List Evt->List Nat × Lk
 |[]=>([],L)
 |e::es=>((L.act e).1::((L.act e).2.acts es).1,((L.act e).2.acts es).2)
def Lk.step (L:Lk) (es:List Evt):Lk:=(L.acts es).2.cR
theorem Lk.Full.acts:∀(es:List Evt) {L:Lk} {N:Nat} {Z:Prop},L.Full N Z->200<=N->(L.acts es).2.Full (N+65*es.length) (Z/\∀e ∈ es,e.kind≠5)
 |[],_,_,_,h,_=>h.mono (by simp) fun y=>y.1
 |e::es,L,N,Z,h,hN=>by
  have:=Lk.Full.acts es (h.act hN e) (by omega)
  exact this.mono (by rw [List.length_cons];omega) fun y=>⟨⟨y.1,y.2 e (List.mem_cons_self ..)⟩,fun f hf=>y.2 f (List.mem_cons_of_mem _ hf)⟩
theorem Lk.Full.step {L:Lk} {N:Nat} {Z:Prop} (h:L.Full N Z) (hN:200<=N) (es:List Evt):(L.step es).Full (N+65*es.length+13000) (Z/\∀e ∈ es,e.kind≠5):=
 (h.acts es hN).cR
end

set_option maxRecDepth 100000
section
open Go.RowKit
def LkV (L:Lk):Type:={ z:Array Value × EV × EV // EndAt z.1 0 L.l z.2.1/\EndAt z.1 7 L.r z.2.2/\z.1.size=14 }
abbrev lkThs (p:Nat) (L:Lk) (z:LkV L):List Th:=dJ p (bG z.1.1)::(bY L.l z.1.2.1++bY L.r z.1.2.2)
def bI (p:Nat) (L:Lk):Th:=tEx (lkThs p L)
section
variable {Z:BS} {W w:World} {ts:List Th} {p N:Nat} {L:Lk} {Zp:Prop}
theorem dY.link (h:dY (fun _=>False) Z W (bI p L::ts) w):∃cs v u,EndAt cs 0 L.l v/\EndAt cs 7 L.r u/\cs.size=14/\dY (fun _=>False) Z W (dJ p (bG cs)::(bY L.l v++(bY L.r u++ts))) w:=by
 obtain ⟨⟨⟨cs,v,u⟩,h1,h2,h3⟩,h4⟩:=dY.opens h
 exact ⟨cs,v,u,h1,h2,h3,by rw [<-List.append_assoc];exact h4⟩
theorem dY.bE {cs:Array Value} {v u:EV} (h1:EndAt cs 0 L.l v) (h2:EndAt cs 7 L.r u) (h3:cs.size=14) (h:dY (fun _=>False) Z W (dJ p (bG cs)::(bY L.l v++(bY L.r u++ts))) w):dY (fun _=>False) Z W (bI p L::ts) w:=
 dY.shut (f:=lkThs p L) (i:=⟨(cs,v,u),h1,h2,h3⟩) (by rw [<-List.append_assoc] at h;exact h)
theorem dY.sides {cs:Array Value} {x y:Lnd} {v u:EV} (h:dY (fun _=>False) Z W (dJ p (bG cs)::(bY x v++(bY y u++ts))) w):dY (fun _=>False) Z W (dJ p (bG cs)::(bY y u++(bY x v++ts))) w:=
 dY.pickL (us:=[dJ p (bG cs),bP v.pp x.prt,tSc v.sp x.sc,tCab v.cp x.cD,tBBy v.ov x.aV,tBBy v.tv x.cF,tSq dK 3 v.nv x.aE,bP u.pp y.prt,tSc u.sp y.sc,tCab u.cp y.cD,tBBy u.ov y.aV,tBBy u.tv y.cF,tSq dK 3 u.nv y.aE])
  (vs:=[dJ p (bG cs),bP u.pp y.prt,tSc u.sp y.sc,tCab u.cp y.cD,tBBy u.ov y.aV,tBBy u.tv y.cF,tSq dK 3 u.nv y.aE,bP v.pp x.prt,tSc v.sp x.sc,tCab v.cp x.cD,tBBy v.ov x.aV,tBBy v.tv x.cF,tSq dK 3 v.nv x.aE]) h [0,7,8,9,10,11,12,1,2,3,4,5,6] (by decide) rfl
theorem EndAt.keep {cs cs':Array Value} {o:Nat} {x:Lnd} {v:EV} (h:EndAt cs o x v) (hk:∀k,o<=k->k < o+7->cs'[k]? = cs[k]?):EndAt cs' o x v:=fun j u hj=>by
 have hjl:j < 7:=by
  rcases Nat.lt_or_ge j 7 with h'|h'
  ·exact h'
  ·rw [List.getElem?_eq_none (by simpa [endCells] using h')] at hj;cases hj
 rw [hk (o+j) (by omega) (by omega)]
 exact h j u hj
theorem EndAt.other {cs:Array Value} {o:Nat} {x y:Lnd} {v:EV} (h:EndAt cs o x v) (e:y.inc=x.inc):EndAt cs o y v:=fun j u hj=>h j u (by rw [<-hj];simp only [endCells,e])
theorem dL {w:World} {p:Nat} {cs:Array Value} {x:Lnd} {v:EV} (he:EndAt cs 0 x v) (h:w.heap[p]? = some (bG cs)) :
  w.cell? ⟨p,0,none⟩=some (.pointer (some ⟨v.pp,0,none⟩))/\w.cell? ⟨p,1,none⟩=some (.pointer (some ⟨v.sp,0,none⟩))/\w.cell? ⟨p,2,none⟩=some (.pointer (some ⟨v.cp,0,none⟩))/\w.cell? ⟨p,3,none⟩=some (.int .i64 (x.inc:Int)) /\
  w.cell? ⟨p,4,none⟩=some v.ov/\w.cell? ⟨p,5,none⟩=some v.tv/\w.cell? ⟨p,6,none⟩=some v.nv:=dT he h
theorem dR {w:World} {p:Nat} {cs:Array Value} {x:Lnd} {v:EV} (he:EndAt cs 7 x v) (h:w.heap[p]? = some (bG cs)) :
  w.cell? ⟨p,7,none⟩=some (.pointer (some ⟨v.pp,0,none⟩))/\w.cell? ⟨p,8,none⟩=some (.pointer (some ⟨v.sp,0,none⟩))/\w.cell? ⟨p,9,none⟩=some (.pointer (some ⟨v.cp,0,none⟩))/\w.cell? ⟨p,10,none⟩=some (.int .i64 (x.inc:Int)) /\
  w.cell? ⟨p,11,none⟩=some v.ov/\w.cell? ⟨p,12,none⟩=some v.tv/\w.cell? ⟨p,13,none⟩=some v.nv:=dT he h
theorem exists_c (i:Int) (w:World):Calls Tryz.prog 46 #[.int .i64 i] w fun e w'=>e=.returned (.bool (decide (i=0\/i=1)))/\w=w':=by
 by_cases h0:i=0
 ·subst h0
  go_enter Tryz.func46,Tryz.ntmps46
  go_wp2_with fail
  go_ret
  exact ⟨rfl,rfl⟩
 ·by_cases h1:i=1
  ·subst h1
   go_enter Tryz.func46,Tryz.ntmps46
   go_wp2_with fail
   go_ret
   exact ⟨rfl,rfl⟩
  ·have hd:decide (i=0\/i=1)=false:=by simp [h0,h1]
   have b0:(i == 0)=false:=by simpa using h0
   have b1:(i == 1)=false:=by simpa using h1
   go_enter Tryz.func46,Tryz.ntmps46
   go_wp2_with fail
   go_ret
   exact ⟨by rw [hd];rfl,rfl⟩
structure Lk.Fit (L:Lk) (N:Nat):Prop where
 l:∃ws,L.l.Inv N ws
 r:∃ws,L.r.Inv N ws
 ol:L.l.aV.length=L.l.prt.aZ.length
 tl:L.l.cF.length=L.l.prt.aZ.length
 or':L.r.aV.length=L.r.prt.aZ.length
 tr:L.r.cF.length=L.r.prt.aZ.length
 ml:L.l.prt.Min
 mr:L.r.prt.Min
theorem Lk.Full.fit (h:L.Full N Zp):L.Fit N:=by
 obtain ⟨wl,wr,oa,ga,pa,ob,gb,pb,da,db,i,k1,k2,_⟩:=h
 obtain ⟨_,_,_,_,⟨d1,_⟩,d2,_⟩:=i.both
 exact ⟨⟨_,i.l⟩,⟨_,i.r⟩,k1.ol,k1.tl,k2.ol,k2.tl,d2.mine,d1.mine⟩
theorem inc_offer (x:Lnd) (c:Int) (d:dV):(x.dQ c d).2.inc=x.inc:=by unfold Lnd.dQ;split <;> rfl
theorem inc_take (x:Lnd) (c:Int):(x.take c).2.inc=x.inc:=by unfold Lnd.take;split <;> rfl
abbrev dN (e:Evt) (da:Option Addr) (dc:Nat):Value:=.agg #[.int .i64 e.kind,.int .i64 e.cS,.int .i64 e.cls,.slice da e.data.length dc]
theorem perform_c (hF:L.Fit N) (hN:N<=900000000) (e:Evt) (da:Option Addr) (dc:Nat) (hd:e.data.length<=9223372036854775807) (j:Nat) {T:Th} (hT:Reads T (.slice da e.data.length dc) e.data) (hj:ts[j]? = some T) (h:dY (fun _=>False) Z W (bI p L::ts) w) :
  Calls Tryz.prog 48 #[.pointer (some ⟨p,0,none⟩),dN e da dc] w fun e' w'=>e'=.returned (.int .i64 ((L.act e).1:Int))/\dY (fun _=>False) Z W (bI p (L.act e).2::ts) w':=by
 obtain ⟨cs,v,u,e1,e2,e3,h0⟩:=h.link
 have hw:=aK w (.cells #[.int .i64 e.kind,.int .i64 e.cS,.int .i64 e.cls,.slice da e.data.length dc] 49)
 have H0:=aQ (h0.own hw)
 obtain ⟨x0,x1,x2,x3⟩:(w.alloc (.cells #[.int .i64 e.kind,.int .i64 e.cS,.int .i64 e.cls,.slice da e.data.length dc] 49)).cell? ⟨w.heap.size,0,none⟩=some (.int .i64 e.kind)/\(w.alloc (.cells #[.int .i64 e.kind,.int .i64 e.cS,.int .i64 e.cls,.slice da e.data.length dc] 49)).cell? ⟨w.heap.size,1,none⟩=some (.int .i64 e.cS)/\(w.alloc (.cells #[.int .i64 e.kind,.int .i64 e.cS,.int .i64 e.cls,.slice da e.data.length dc] 49)).cell? ⟨w.heap.size,2,none⟩=some (.int .i64 e.cls)/\(w.alloc (.cells #[.int .i64 e.kind,.int .i64 e.cS,.int .i64 e.cls,.slice da e.data.length dc] 49)).cell? ⟨w.heap.size,3,none⟩=some (.slice da e.data.length dc):=
  ⟨aJ (heap_alloc_new w _) rfl,aJ (heap_alloc_new w _) rfl,aJ (heap_alloc_new w _) rfl,aJ (heap_alloc_new w _) rfl⟩
 obtain ⟨c0,_,c2,_,_,_,_⟩:=dL e1 (H0.out.blk 0 rfl)
 obtain ⟨d0,_,d2,_,_,_,_⟩:=dR e2 (H0.out.blk 0 rfl)
 have HE1:=aQ e1
 have HE2:=aQ e2
 have HSZ:=aQ e3
 obtain ⟨ek,es,ec,ed⟩:=e
 dsimp only at *
 clear h h0 hw e1 e2 e3
 by_cases h3:ek=3
 ·subst h3
  have HA:=aQ (show L.act ⟨3,es,ec,ed⟩=(0,⟨{ L.l with cD:=L.l.cD.cut },{ L.r with cD:=L.r.cD.cut }⟩) from rfl)
  obtain ⟨wl,il⟩:=hF.l
  obtain ⟨wr,ir⟩:=hF.r
  have l1:=il.lo;have l2:=il.cab.fly;have l3:=ir.lo;have l4:=ir.cab.fly
  clear il ir hF
  go_enter Tryz.func48,Tryz.ntmps48
  go_wp2_with fail
  refine (cut_h H0.out 3 rfl (by omega) (by omega)).mono ?_
  rintro e' w1 ⟨rfl,h1⟩
  have H1:=aQ (show dY (fun _=>False) Z W (dJ p (bG cs)::(bY { L.l with cD:=L.l.cD.cut } v++(bY L.r u++ts))) w1 from h1)
  obtain ⟨_,_,d2,_⟩:=dR HE2.out (H1.out.blk 0 rfl)
  clear h1 x0 x1 x2 x3 c0 c2 d0
  go_wp2_with fail
  refine (cut_h H1.out 9 rfl (by omega) (by omega)).mono ?_
  rintro e' w2 ⟨rfl,h2⟩
  have H2:=aQ (show dY (fun _=>False) Z W (dJ p (bG cs)::(bY { L.l with cD:=L.l.cD.cut } v++(bY { L.r with cD:=L.r.cD.cut } u++ts))) w2 from h2)
  clear h2
  go_wp2_with fail
  go_ret
  rw [HA.out]
  exact ⟨rfl,dY.bE (HE1.out.other rfl) (HE2.out.other rfl) HSZ.out H2.out⟩
 ·by_cases h4:ek=4
  ·subst h4
   have HA:=aQ (show L.act ⟨4,es,ec,ed⟩=(0,⟨{ L.l with cD:=L.l.cD.mend },{ L.r with cD:=L.r.cD.mend }⟩) from rfl)
   clear hF
   go_enter Tryz.func48,Tryz.ntmps48
   go_wp2_with fail
   refine (mend_h H0.out 3 rfl).mono ?_
   rintro e' w1 ⟨rfl,h1⟩
   have H1:=aQ (show dY (fun _=>False) Z W (dJ p (bG cs)::(bY { L.l with cD:=L.l.cD.mend } v++(bY L.r u++ts))) w1 from h1)
   obtain ⟨_,_,d2,_⟩:=dR HE2.out (H1.out.blk 0 rfl)
   clear h1 x0 x1 x2 x3 c0 c2 d0
   go_wp2_with fail
   refine (mend_h H1.out 9 rfl).mono ?_
   rintro e' w2 ⟨rfl,h2⟩
   have H2:=aQ (show dY (fun _=>False) Z W (dJ p (bG cs)::(bY { L.l with cD:=L.l.cD.mend } v++(bY { L.r with cD:=L.r.cD.mend } u++ts))) w2 from h2)
   clear h2
   go_wp2_with fail
   go_ret
   rw [HA.out]
   exact ⟨rfl,dY.bE (HE1.out.other rfl) (HE2.out.other rfl) HSZ.out H2.out⟩
  ·have b3:(ek == 3)=false:=by simpa using h3
   have b4:(ek == 4)=false:=by simpa using h4
   by_cases hk:ek≠1/\ek≠2/\ek≠5
   ·have HA:=aQ (show L.act ⟨ek,es,ec,ed⟩=(16,L) by unfold Lk.act;rw [if_neg h3,if_neg h4,if_pos hk])
    have b1:(ek == 1)=false:=by simpa using hk.1
    have b2:(ek == 2)=false:=by simpa using hk.2.1
    have b5:(ek == 5)=false:=by simpa using hk.2.2
    clear hF h3 h4 hk
    go_enter Tryz.func48,Tryz.ntmps48
    go_wp2_with fail
    go_ret
    rw [HA.out]
    exact ⟨rfl,dY.bE HE1.out HE2.out HSZ.out H0.out⟩
   ·obtain ⟨wl,il⟩:=hF.l
    obtain ⟨wr,ir⟩:=hF.r
    by_cases hs:es≠0/\es≠1
    ·have HA:=aQ (show L.act ⟨ek,es,ec,ed⟩=(2,L) by unfold Lk.act;rw [if_neg h3,if_neg h4,if_neg hk,if_neg hs.1,if_neg hs.2])
     have HX:=aQ (show decide (es=0\/es=1)=false by simpa using hs)
     obtain rfl|rfl|rfl:ek=1\/ek=2\/ek=5:=by omega
     all_goals
      clear hF h3 h4 hk hs il ir b3 b4
      go_enter Tryz.func48,Tryz.ntmps48
      go_wp2_with (go_at_call 46;refine (exists_c _ _).mono ?_;rw [HX.out];rintro e' w1 ⟨rfl,rfl⟩)
      go_ret
      rw [HA.out]
      exact ⟨rfl,dY.bE HE1.out HE2.out HSZ.out H0.out⟩
    ·have hs':es=0\/es=1:=by omega
     have hk':ek=1\/ek=2\/ek=5:=by omega
     clear b3 b4 hk hs h3 h4
     rcases hs' with rfl|rfl
     ·rcases hk' with rfl|rfl|rfl
      ·have HA:=aQ (show L.act ⟨1,0,ec,ed⟩=((L.l.dQ ec ed).1,⟨(L.l.dQ ec ed).2,L.r⟩) from rfl)
       have HC:=aQ (endOffer_c (ts:=bY L.r u++ts) il hN hF.ol ec _ ed hd (j+6) hT (by rw [List.getElem?_append_right (by simp)];simpa using hj) HE1.out H0.out.drew)
       have HI:=aQ (show (L.l.dQ ec ed).2.inc=L.l.inc from inc_offer _ _ _)
       generalize L.l.dQ ec ed=r at *
       clear hj hT hF hN
       go_enter Tryz.func48,Tryz.ntmps48
       go_wp2_with (go_at_call 46;refine (exists_c _ _).mono ?_;rintro e' w1 ⟨rfl,rfl⟩)
       refine wp_region_held_drew (S:=fun w'=>w'.cell? ⟨w.heap.size,1,none⟩=some (.int .i64 0)) (by kernel_rfl) x1 (fun hS0=>?_)
       change wpAnyH _ _ _ _ _ (1+6) _ _ _
       refine aH 0 6 (by kernel_rfl) hS0 (fun _ _ _ _ _ h=>h) ?_
       simp only [List.drop_zero,List.take_succ_cons,List.take_zero]
       iterate 6 (refine aR (v:=?_) (by rfl) ?_ ?_;rotate_left 1;(focus ((intro w' hS';go_simp);try with_reducible rfl));simp only [Act.put,jQ1,jQ2,jQ3])
       refine aT ?_
       refine aM 6 (by kernel_rfl) rfl (fun K hK=>?_)
       go_simp
       refine hK.out _ _ hS0 ?_
       clear hK K
       refine wpAnyH_done (by kernel_rfl) ?_ _
       go_wp2_with fail
       refine HC.out.mono ?_
       rintro e' w2 ⟨rfl,h2⟩
       have H2:=aQ h2
       clear h2
       go_wp2_with fail
       go_ret
       rw [HA.out]
       refine ⟨rfl,dY.bE (L:=⟨r.2,L.r⟩) (HE1.out.other HI.out) HE2.out HSZ.out H2.out⟩
      ·have HA:=aQ (show L.act ⟨2,0,ec,ed⟩=((L.l.take ec).1,⟨(L.l.take ec).2,L.r⟩) from rfl)
       have HC:=aQ (endTake_c (ts:=bY L.r u++ts) il hN hF.tl ec HE1.out H0.out.drew)
       have HI:=aQ (show (L.l.take ec).2.inc=L.l.inc from inc_take _ _)
       generalize L.l.take ec=r at *
       clear hj hT hF hN
       go_enter Tryz.func48,Tryz.ntmps48
       go_wp2_with (go_at_call 46;refine (exists_c _ _).mono ?_;rintro e' w1 ⟨rfl,rfl⟩)
       refine wp_region_held_drew (S:=fun w'=>w'.cell? ⟨w.heap.size,1,none⟩=some (.int .i64 0)) (by kernel_rfl) x1 (fun hS0=>?_)
       change wpAnyH _ _ _ _ _ (1+6) _ _ _
       refine aH 0 6 (by kernel_rfl) hS0 (fun _ _ _ _ _ h=>h) ?_
       simp only [List.drop_zero,List.take_succ_cons,List.take_zero]
       iterate 6 (refine aR (v:=?_) (by rfl) ?_ ?_;rotate_left 1;(focus ((intro w' hS';go_simp);try with_reducible rfl));simp only [Act.put,jQ1,jQ2,jQ3])
       refine aT ?_
       refine aM 6 (by kernel_rfl) rfl (fun K hK=>?_)
       go_simp
       refine hK.out _ _ hS0 ?_
       clear hK K
       refine wpAnyH_done (by kernel_rfl) ?_ _
       go_wp2_with fail
       refine HC.out.mono ?_
       rintro e' w2 ⟨rfl,h2⟩
       have H2:=aQ h2
       clear h2
       go_wp2_with fail
       go_ret
       rw [HA.out]
       refine ⟨rfl,dY.bE (L:=⟨r.2,L.r⟩) (HE1.out.other HI.out) HE2.out HSZ.out H2.out⟩
      ·have HA:=aQ (show L.act ⟨5,0,ec,ed⟩=((L.l.restart).1,⟨(L.l.restart).2,L.r⟩) from rfl)
       have HC:=aQ (endRestart_c (ts:=bY L.r u++ts) il HE1.out H0.out.drew)
       generalize L.l.restart=r at *
       clear hj hT hF hN
       go_enter Tryz.func48,Tryz.ntmps48
       go_wp2_with (go_at_call 46;refine (exists_c _ _).mono ?_;rintro e' w1 ⟨rfl,rfl⟩)
       refine wp_region_held_drew (S:=fun w'=>w'.cell? ⟨w.heap.size,1,none⟩=some (.int .i64 0)) (by kernel_rfl) x1 (fun hS0=>?_)
       change wpAnyH _ _ _ _ _ (1+6) _ _ _
       refine aH 0 6 (by kernel_rfl) hS0 (fun _ _ _ _ _ h=>h) ?_
       simp only [List.drop_zero,List.take_succ_cons,List.take_zero]
       iterate 6 (refine aR (v:=?_) (by rfl) ?_ ?_;rotate_left 1;(focus ((intro w' hS';go_simp);try with_reducible rfl));simp only [Act.put,jQ1,jQ2,jQ3])
       refine aT ?_
       refine aM 6 (by kernel_rfl) rfl (fun K hK=>?_)
       go_simp
       refine hK.out _ _ hS0 ?_
       clear hK K
       refine wpAnyH_done (by kernel_rfl) ?_ _
       go_wp2_with fail
       refine HC.out.mono ?_
       rintro e' w2 ⟨rfl,cs',v',q1,q2,q3,h2⟩
       have H2:=aQ h2
       clear h2
       go_wp2_with fail
       go_ret
       rw [HA.out]
       refine ⟨rfl,dY.bE (L:=⟨r.2,L.r⟩) (cs:=cs') q1 (HE2.out.keep fun k h1 h2=>q2 k (by omega)) (q3.trans HSZ.out) H2.out⟩
     ·rcases hk' with rfl|rfl|rfl
      ·have HA:=aQ (show L.act ⟨1,1,ec,ed⟩=((L.r.dQ ec ed).1,⟨L.l,(L.r.dQ ec ed).2⟩) from rfl)
       have HC:=aQ (endOffer_c (ts:=bY L.l v++ts) ir hN hF.or' ec _ ed hd (j+6) hT (by rw [List.getElem?_append_right (by simp)];simpa using hj) HE2.out (dY.sides H0.out).drew)
       have HI:=aQ (show (L.r.dQ ec ed).2.inc=L.r.inc from inc_offer _ _ _)
       generalize L.r.dQ ec ed=r at *
       clear hj hT hF hN
       go_enter Tryz.func48,Tryz.ntmps48
       go_wp2_with (go_at_call 46;refine (exists_c _ _).mono ?_;rintro e' w1 ⟨rfl,rfl⟩)
       refine wp_region_held_drew (S:=fun w'=>w'.cell? ⟨w.heap.size,1,none⟩=some (.int .i64 1)) (by kernel_rfl) x1 (fun hS0=>?_)
       change wpAnyH _ _ _ _ _ (1+6) _ _ _
       refine aH 0 6 (by kernel_rfl) hS0 (fun _ _ _ _ _ h=>h) ?_
       simp only [List.drop_zero,List.take_succ_cons,List.take_zero]
       iterate 6 (refine aR (v:=?_) (by rfl) ?_ ?_;rotate_left 1;(focus ((intro w' hS';go_simp);try with_reducible rfl));simp only [Act.put,jQ1,jQ2,jQ3])
       refine aT ?_
       refine aM 6 (by kernel_rfl) rfl (fun K hK=>?_)
       go_simp
       refine hK.out _ _ hS0 ?_
       clear hK K
       refine wpAnyH_done (by kernel_rfl) ?_ _
       go_wp2_with fail
       refine HC.out.mono ?_
       rintro e' w2 ⟨rfl,h2⟩
       have H2:=aQ h2
       clear h2
       go_wp2_with fail
       go_ret
       rw [HA.out]
       refine ⟨rfl,dY.bE (L:=⟨L.l,r.2⟩) HE1.out (HE2.out.other HI.out) HSZ.out (dY.sides H2.out)⟩
      ·have HA:=aQ (show L.act ⟨2,1,ec,ed⟩=((L.r.take ec).1,⟨L.l,(L.r.take ec).2⟩) from rfl)
       have HC:=aQ (endTake_c (ts:=bY L.l v++ts) ir hN hF.tr ec HE2.out (dY.sides H0.out).drew)
       have HI:=aQ (show (L.r.take ec).2.inc=L.r.inc from inc_take _ _)
       generalize L.r.take ec=r at *
       clear hj hT hF hN
       go_enter Tryz.func48,Tryz.ntmps48
       go_wp2_with (go_at_call 46;refine (exists_c _ _).mono ?_;rintro e' w1 ⟨rfl,rfl⟩)
       refine wp_region_held_drew (S:=fun w'=>w'.cell? ⟨w.heap.size,1,none⟩=some (.int .i64 1)) (by kernel_rfl) x1 (fun hS0=>?_)
       change wpAnyH _ _ _ _ _ (1+6) _ _ _
       refine aH 0 6 (by kernel_rfl) hS0 (fun _ _ _ _ _ h=>h) ?_
       simp only [List.drop_zero,List.take_succ_cons,List.take_zero]
       iterate 6 (refine aR (v:=?_) (by rfl) ?_ ?_;rotate_left 1;(focus ((intro w' hS';go_simp);try with_reducible rfl));simp only [Act.put,jQ1,jQ2,jQ3])
       refine aT ?_
       refine aM 6 (by kernel_rfl) rfl (fun K hK=>?_)
       go_simp
       refine hK.out _ _ hS0 ?_
       clear hK K
       refine wpAnyH_done (by kernel_rfl) ?_ _
       go_wp2_with fail
       refine HC.out.mono ?_
       rintro e' w2 ⟨rfl,h2⟩
       have H2:=aQ h2
       clear h2
       go_wp2_with fail
       go_ret
       rw [HA.out]
       refine ⟨rfl,dY.bE (L:=⟨L.l,r.2⟩) HE1.out (HE2.out.other HI.out) HSZ.out (dY.sides H2.out)⟩
      ·have HA:=aQ (show L.act ⟨5,1,ec,ed⟩=((L.r.restart).1,⟨L.l,(L.r.restart).2⟩) from rfl)
       have HC:=aQ (endRestart_c (ts:=bY L.l v++ts) ir HE2.out (dY.sides H0.out).drew)
       generalize L.r.restart=r at *
       clear hj hT hF hN
       go_enter Tryz.func48,Tryz.ntmps48
       go_wp2_with (go_at_call 46;refine (exists_c _ _).mono ?_;rintro e' w1 ⟨rfl,rfl⟩)
       refine wp_region_held_drew (S:=fun w'=>w'.cell? ⟨w.heap.size,1,none⟩=some (.int .i64 1)) (by kernel_rfl) x1 (fun hS0=>?_)
       change wpAnyH _ _ _ _ _ (1+6) _ _ _
       refine aH 0 6 (by kernel_rfl) hS0 (fun _ _ _ _ _ h=>h) ?_
       simp only [List.drop_zero,List.take_succ_cons,List.take_zero]
       iterate 6 (refine aR (v:=?_) (by rfl) ?_ ?_;rotate_left 1;(focus ((intro w' hS';go_simp);try with_reducible rfl));simp only [Act.put,jQ1,jQ2,jQ3])
       refine aT ?_
       refine aM 6 (by kernel_rfl) rfl (fun K hK=>?_)
       go_simp
       refine hK.out _ _ hS0 ?_
       clear hK K
       refine wpAnyH_done (by kernel_rfl) ?_ _
       go_wp2_with fail
       refine HC.out.mono ?_
       rintro e' w2 ⟨rfl,cs',v',q1,q2,q3,h2⟩
       have H2:=aQ h2
       clear h2
       go_wp2_with fail
       go_ret
       rw [HA.out]
       refine ⟨rfl,dY.bE (L:=⟨L.l,r.2⟩) (cs:=cs') (HE1.out.keep fun k h1 h2=>q2 k (by omega)) q1 (q3.trans HSZ.out) (dY.sides H2.out)⟩
end
end

set_option maxRecDepth 100000
section
open Go.RowKit
def eEvt:El Evt where
 size:=4
 rd w _ Z cs e:=∃v,cs=[.int .i64 e.kind,.int .i64 e.cS,.int .i64 e.cls,v]/\ByZ w Z v e.data
 len h:=by obtain ⟨v,h,_⟩:=h;rw [h];rfl
 keep h _ hk:=by obtain ⟨v,e,h⟩:=h;exact ⟨v,e,h.stay fun k hz=>hk k (.inr hz)⟩
 mono h _ hZ:=by obtain ⟨v,e,h⟩:=h;exact ⟨v,e,h.mono hZ⟩
 one h u hu:=by
  obtain ⟨v,rfl,⟨_,a,c,rfl,_⟩,_⟩:=h
  simp only [List.mem_cons,List.not_mem_nil,or_false] at hu
  rcases hu with rfl|rfl|rfl|rfl <;> rfl
theorem evt_at {w:World} {Z:BS} {a:Option Addr} {n c:Nat} {l:List Evt} (h:RdS eEvt w Z (.slice a n c) l) {i:Nat} {e:Evt} (hi:l[i]? = some e) :
  ∃b off da dc,a=some ⟨b,off,none⟩/\ByZ w Z (.slice da e.data.length dc) e.data/\w.cell? ⟨b,off+i*4,none⟩=some (.int .i64 e.kind)/\w.cell? ⟨b,off+i*4+1,none⟩=some (.int .i64 e.cS)/\w.cell? ⟨b,off+i*4+2,none⟩=some (.int .i64 e.cls)/\w.cell? ⟨b,off+i*4+3,none⟩=some (.slice da e.data.length dc):=by
 obtain ⟨b,off,cs,e',_,⟨v,rfl,hv⟩,hc⟩:=h.at (by decide) hi
 obtain ⟨da,dc,rfl⟩:=hv.slice
 exact ⟨b,off,da,dc,e',hv,hc 0 _ rfl,hc 1 _ rfl,hc 2 _ rfl,hc 3 _ rfl⟩
theorem slErr:SlT Tryz.prog 50 32 (.int .i64 0) 1 8:=⟨Tryz.underlying50,info_parts (by kernel_rfl),rfl,by decide⟩
theorem wpList_mk0 {α : Type} {E:El α} {P:Program} {t e:TypeId} {z:Value} {bytes:Nat} (S:SlT P t e z E.size bytes)
  {w:World} {ops:Array Oper} {rest:List Oper} {o:Oper} {a:Act} {Q:Exit->Act->World->Prop}
  (hg:o.guard=none) (l c:Operand) (hop:o.op=Op.makeSlice t l c) (n:Nat) (hl:a.eval l=.int .i64 0) (hc:a.eval c=.int .i64 (n:Int)) (b2:bytes*n<=281474976710656) (b3:n<=maxLen)
  (hK:∀w',Below w.heap.size w w'->Sq E e w' (fun k=>w.heap.size<=k) (fun _=>False) (.slice (some ⟨w.heap.size,0,none⟩) 0 n) []->wpList P ops Q rest (a.put o.dst (.slice (some ⟨w.heap.size,0,none⟩) 0 n)) w') :
  wpList P ops Q (o::rest) a w:=by
 obtain ⟨i,hi,hz,hsz,hby⟩:=S.info
 refine wpList_make_own w hg l c t hop w.heap.size e i z E.size S.under hi hz hsz .i64 .i64 (n:Int) n hl hc rfl (by rw [hby];exact b2) b3 (Nat.le_refl _) fun w' hown hgr=>?_
 refine hK w' ((Below.refl w.heap.size w).grown hgr (Nat.le_refl _) (fun k e=>by cases e)) ?_
 have hsl:Sl w' (fun k=>w.heap.size<=k) e E.size (.slice (some ⟨w.heap.size,0,none⟩) 0 n) 0 []:=Sl.of_own hown fun _ h=>h
 exact ⟨fun k=>w.heap.size<=k/\k < w'.heap.size,fun _=>False,[],fun k hk=>hk.elim (·.1) False.elim,fun _ _ f=>f,fun k hk=>hk.2,hsl.bound,rfl⟩
theorem acts_snoc:∀(es:List Evt) (L:Lk) (e:Evt),L.acts (es++[e])=((L.acts es).1++[((L.acts es).2.act e).1],((L.acts es).2.act e).2)
 |[],L,e=>rfl
 |f::es,L,e=>by
  show (((L.act f).1::((L.act f).2.acts (es++[e])).1,((L.act f).2.acts (es++[e])).2):List Nat × Lk)=_
  rw [acts_snoc es]
  rfl
theorem acts_len:∀(es:List Evt) (L:Lk),(L.acts es).1.length=es.length
 |[],_=>rfl
 |e::es,L=>by show (_::_:List Nat).length=_;rw [List.length_cons,List.length_cons,acts_len es]
theorem wpList_app_err {F Z:BS} {W w1 w2:World} {ts:List Th} {ops:Array Oper} {rest:List Oper} {o:Oper} {ac:Act} {Q:Exit->Act->World->Prop} {a:Option Addr} {c:Nat} {xs:List Nat} {e:Nat}
  (hg:o.guard=none) (s x:Operand) (hop:o.op=Op.call { callee:=Callee.builtin Builtin.append,args := #[s,x],argTypes := #[50,50] })
  (h:dY F Z W ts w1) (i:Nat) (hi:ts[i]? = some (tSq dK 32 (.slice a xs.length c) xs)) (hb:Below w1.heap.size w1 w2) (hl:xs.length<=1000000) (hs:ac.eval s=.slice a xs.length c) (vb:Nat) (hx:ac.eval x=.slice (some ⟨vb,0,none⟩) 1 1) (hrow:Rd w2 1 (.slice (some ⟨vb,0,none⟩) 1 1) 1 [.int .i64 (e:Int)])
  (hK:∀a' c' w3,dY F Z W (ts.set i (tSq dK 32 (.slice a' (xs++[e]).length c') (xs++[e]))) w3->wpList Tryz.prog ops Q rest (ac.put o.dst (.slice a' (xs.length+1) c')) w3):wpList Tryz.prog ops Q (o::rest) ac w2:=by
 obtain ⟨K,us,hsl,hKn,hback⟩:=h.app i hi
 refine cQ slErr hg s x hop K (.slice a xs.length c) xs.length us hs (Sl.keep hsl fun k _ hl=>hb.block k hl) _ 1 [.int .i64 (e:Int)] hx hrow (by intro u hu;obtain rfl:=List.mem_singleton.1 hu;rfl) (by unfold maxLen;omega) (by omega) ?_
 intro v' w' hs2 hf2
 obtain ⟨g2,off2,cap2,rfl,_⟩:=Sl.head hs2 (by omega)
 refine hK _ _ _ ?_
 have:=hback w2 w' [.int .i64 (e:Int)] [e] _ hb hs2 hf2 fun Y _=>⟨fun _=>False,fun _=>False,fun _ f=>f.elim,fun _ f=>f.elim,fun _ f=>f.elim,Els.single (E:=dK) rfl⟩
 rw [List.length_append]
 exact this
section
variable {Z:BS} {W w:World} {ts:List Th} {p N:Nat} {L:Lk} {Zp:Prop}
theorem Trn.len {x:Byt} {o:Option Pk} (h:Trn x o):x.length<=170:=by
 have hs:∀p:Pk,Good p->(symP p).length<=170:=fun p hg=>by
  have:=hg.pay
  unfold symP
  rw [List.length_cons,List.length_append,encS_length,encP_length,List.length_singleton]
  omega
 match o,h with
 |some p,⟨hg,e⟩=>rw [e];exact hs p hg
 |none,⟨p,i,y,hg,_,_,e⟩=>rw [e,List.length_set];exact hs p hg
theorem Wire.len {fl:List (Nat × Byt)} {ws:List (Nat × Option Way)} (h:Wire fl ws):∀y ∈ fl,y.2.length<=170:=by
 induction h with
 |nil=>intro y hy;cases hy
 |cons n t _ ih=>
  intro y hy
  rcases List.mem_cons.1 hy with rfl|hy
  ·exact t.len
  ·exact ih y hy
theorem endTick_c {x:Lnd} {v:EV} {cs:Array Value} {o:Nat} {ws:List (Nat × Option Way)} (hi:x.Inv N ws) (hN:N<=170000000) (hm:x.prt.Min) (ht:Tabs W) (he:EndAt cs o x v) (h:dY (fun _=>False) Z W (dJ p (bG cs)::(bY x v++ts)) w) :
  Calls Tryz.prog 49 #[.pointer (some ⟨p,o,none⟩)] w fun e w'=>∃(a:Option Addr) (c:Nat),e=.returned (.slice a x.cR.1.length c)/\dY (fun _=>False) Z W (tSq ePt 140 (.slice a x.cR.1.length c) x.cR.1::dJ p (bG cs)::(bY x.cR.2 v++ts)) w':=by
 obtain ⟨w1,s',h1,hb,h2⟩:=hi.wire.cR hi.out
 have hk:x.cD.bV.length<=64:=Nat.le_trans (List.takeWhile_prefix _).length_le hi.cab.fly
 have hg:=fun v hv=>(hi.wire.good v hv).pay
 have b1:=hi.bd;have b2:=hi.tk
 refine endTick_raw hi.ok (by omega) hm (fun s hs=>?_) (by show (x.cD.bV.map (·.2)).length<=64;rw [List.length_map];exact hk) hi.cab.fly (by omega) (by omega) ?_ ?_ ht he h
 ·obtain ⟨y,hy,rfl⟩:=List.mem_map.1 (show s ∈ x.cD.bV.map (·.2) from hs)
  exact hi.wire.len y ((List.takeWhile_prefix _).sublist.mem hy)
 ·rw [h2]
  show ((held (ws.take x.cD.bV.length)).map _).length<=64
  rw [List.length_map]
  refine Nat.le_trans (List.length_filterMap_le ..) ?_
  rw [List.length_take];omega
 ·rw [h2]
  intro y hy
  obtain ⟨q,hq,rfl⟩:=List.mem_map.1 (show y ∈ ((held (ws.take x.cD.bV.length)).map fun v=>v.2.pk).map Pk.pt from hy)
  obtain ⟨z,hz,rfl⟩:=List.mem_map.1 hq
  have:=hg z (by rw [<-held_split ws x.cD.bV.length];exact List.mem_append_left _ hz)
  show z.2.pk.pay.length<=1000
  omega
def Cab.sends1 (c:Cab) (y:Pt):Cab:=if validP y.pk then (c.send (symP y.pk)).2 else c
def Cab.sends (c:Cab) (ys:List Pt):Cab:=ys.foldl Cab.sends1 c
theorem send_into:∀(ys:List Pt) (x:Lnd),x.send ys={ x with cD:=x.cD.sends ys }
 |[],_=>rfl
 |y::ys,x=>by
  show (x.send1 y).send ys={ x with cD:=(x.cD.sends1 y).sends ys }
  have e:x.send1 y={ x with cD:=x.cD.sends1 y }:=by
   unfold Lnd.send1 Cab.sends1
   split <;> rfl
  rw [e,send_into ys]
theorem sends_take (c:Cab) (ys:List Pt) {j:Nat} (h:j < ys.length):c.sends (ys.take (j+1))=(c.sends (ys.take j)).sends1 ys[j]:=by
 rw [List.take_succ_eq_append_getElem h]
 unfold Cab.sends
 rw [List.foldl_append];rfl
theorem sends_ok:∀(ys:List Pt) {c:Cab},c.Ok->(c.sends ys).Ok/\(c.sends ys).bZ=c.bZ/\(c.sends ys).cC=c.cC/\(c.sends ys).cP<=c.cP+ys.length/\(c.sends ys).lost<=c.lost+ys.length
 |[],_,h=>⟨h,rfl,rfl,Nat.le_refl _,Nat.le_refl _⟩
 |y::ys,c,h=>by
  have h1:(c.sends1 y).Ok/\(c.sends1 y).bZ=c.bZ/\(c.sends1 y).cC=c.cC/\(c.sends1 y).cP<=c.cP+1/\(c.sends1 y).lost<=c.lost+1:=by
   unfold Cab.sends1
   split
   ·obtain ⟨e1,e2,e3,e4,e5,e6⟩:=cab_send_keeps c (symP y.pk)
    exact ⟨Cab.send_ok h _,e3,e1,by omega,e6⟩
   ·exact ⟨h,rfl,rfl,by omega,by omega⟩
  obtain ⟨q1,q2,q3,q4,q5⟩:=sends_ok ys h1.1
  rw [List.length_cons]
  exact ⟨q1,q2.trans h1.2.1,q3.trans h1.2.2.1,by have:=h1.2.2.2.1;show ((c.sends1 y).sends ys).cP<=_;omega,by have:=h1.2.2.2.2;show ((c.sends1 y).sends ys).lost<=_;omega⟩
theorem full_tick {K:Lk} {M:Nat} (h:K.Full M Zp):(∃ws,K.l.cR.2.Inv (M+12900) ws)/\(∃ws,K.r.cR.2.Inv (M+12900) ws)/\K.l.cR.1.length<=7/\K.r.cR.1.length<=7:=by
 obtain ⟨wl,wr,oa,ga,pa,ob,gb,pb,da,db,i,k1,k2,_⟩:=h
 obtain ⟨ql,qsl,hl,rfl⟩:=i.dl.cons i.l.cab.d1
 obtain ⟨qr,qsr,hr,rfl⟩:=i.dr.cons i.r.cab.d1
 obtain ⟨_,il,s1,_,g1⟩:=i.l.cR
 obtain ⟨_,ir,s2,_,g2⟩:=i.r.cR
 refine ⟨⟨_,il⟩,⟨_,ir⟩,?_,?_⟩
 ·rw [s1];exact sent_few i.l.ok _ fun y hy=>by obtain ⟨v,hv,rfl⟩:=List.mem_map.1 hy;exact g1 v hv
 ·rw [s2];exact sent_few i.r.ok _ fun y hy=>by obtain ⟨v,hv,rfl⟩:=List.mem_map.1 hy;exact g2 v hv
abbrev sentRow (u v:Value):Obj:=.cells #[u,v] 137
theorem run_idx0 (ua:Option Addr) (n uc:Nat) (va:Option Addr) (m vc:Nat) (w:World):(Instr.index 137 (.agg #[.slice ua n uc,.slice va m vc]) (.int .i64 0)).run Tryz.prog w=.ok (.slice ua n uc) w:=rfl
theorem run_idx1 (ua:Option Addr) (n uc:Nat) (va:Option Addr) (m vc:Nat) (w:World):(Instr.index 137 (.agg #[.slice ua n uc,.slice va m vc]) (.int .i64 1)).run Tryz.prog w=.ok (.slice va m vc) w:=rfl
abbrev tkThs (p:Nat) (cs:Array Value) (x:Lnd) (v:EV) (y:Lnd) (u:EV) (sb:Nat) (a b:Value) (ev:Value) (errs:List Nat):List Th:=
 [dJ p (bG cs),bP v.pp x.prt,tSc v.sp x.sc,tCab v.cp x.cD,tBBy v.ov x.aV,tBBy v.tv x.cF,tSq dK 3 v.nv x.aE,bP u.pp y.prt,tSc u.sp y.sc,tCab u.cp y.cD,tBBy u.ov y.aV,tBBy u.tv y.cF,tSq dK 3 u.nv y.aE,dJ sb (sentRow a b),tSq dK 32 ev errs]
def Gives (Z:BS) (W:World) (ts:List Th) (ea:Option Addr) (es:List Evt):Prop:=
 ∀(k:Nat) (e:Evt),es[k]? = some e->∀(us:List Th) (wr:World),dY (fun _=>False) Z W (us++ts) wr ->
  ∃b off da dc,ea=some ⟨b,off,none⟩/\wr.cell? ⟨b,off+k*4,none⟩=some (.int .i64 e.kind)/\wr.cell? ⟨b,off+k*4+1,none⟩=some (.int .i64 e.cS)/\wr.cell? ⟨b,off+k*4+2,none⟩=some (.int .i64 e.cls)/\wr.cell? ⟨b,off+k*4+3,none⟩=some (.slice da e.data.length dc) /\
   ∃(ts':List Th) (j:Nat) (T:Th),ts'[j]? = some T/\Reads T (.slice da e.data.length dc) e.data/\dY (fun _=>False) Z W (us++ts') wr/\∀us' w',dY (fun _=>False) Z W (us'++ts') w'->dY (fun _=>False) Z W (us'++ts) w'
theorem gives_rd {ea:Option Addr} {ec:Nat} {es:List Evt} (j:Nat) (hj:ts[j]? = some (tRd eEvt (.slice ea es.length ec) es)):Gives Z W ts ea es:=fun k e hx us wr HH=>by
 have hi:(us++ts)[us.length+j]? = some (tRd eEvt (.slice ea es.length ec) es):=by
  rw [List.getElem?_append_right (Nat.le_add_right _ _),Nat.add_sub_cancel_left];exact hj
 obtain ⟨_,_,hev⟩:=HH.get (us.length+j) hi
 obtain ⟨b,off,da,dc,e1,hby,k0,k1,k2,k3⟩:=evt_at (show RdS eEvt wr _ (.slice ea es.length ec) es from hev) hx
 subst e1
 have H2:=HH.weak (T:=tBy (.slice da e.data.length dc) e.data) (us.length+j) hi fun G Y hon=>by
  obtain ⟨b',off',da',dc',e1',hby',_,_,_,k3'⟩:=evt_at (show RdS eEvt wr Y (.slice (some ⟨b,off,none⟩) es.length ec) es from hon) hx
  obtain ⟨rfl,rfl⟩:b=b'/\off=off':=by simpa using e1'
  rw [k3] at k3'
  obtain ⟨rfl,rfl⟩:da=da'/\dc=dc':=by simpa using k3'
  exact hby'
 refine ⟨b,off,da,dc,rfl,k0,k1,k2,k3,ts++[tBy (.slice da e.data.length dc) e.data],ts.length,_,by simp,reads_by _ _,by rw [<-List.append_assoc];exact H2,fun us' w' h=>?_⟩
 rw [<-List.append_assoc] at h
 exact h.front.tail
theorem tickG_c (hF:L.Full N Zp) (h2:200<=N) (es:List Evt) (hes:es.length<=1000) (hN:N+65*es.length+13000<=170000000) (hed:∀e ∈ es,e.data.length<=9223372036854775807) (ea:Option Addr) (ec:Nat) (hev:Gives Z W ts ea es) (ht:Tabs W) (h:dY (fun _=>False) Z W (bI p L::ts) w) :
  Calls Tryz.prog 18 #[.pointer (some ⟨p,0,none⟩),.slice ea es.length ec] w fun e' w'=>∃a c,e'=.returned (.slice a (L.acts es).1.length c)/\dY (fun _=>False) Z W (tSq dK 32 (.slice a (L.acts es).1.length c) (L.acts es).1::bI p (L.step es)::ts) w':=by
 have HH:=aQ h
 have HF:=aQ hF
 have HT:=aQ ht
 have HJ:=aQ hev
 have HED:=aQ hed
 clear h hF ht hed hev
 go_enter Tryz.func18,Tryz.ntmps18
 go_wp2_with (refine wpList_mk0 (E:=dK) slErr rfl _ _ rfl es.length (by rfl) (by rfl) (by omega) (by unfold maxLen;omega) ?_;intro w1 hb hsq;have H1:=aQ ((HH.out.add hb (T:=tSq dK 32 (.slice (some ⟨w.heap.size,0,none⟩) 0 es.length) []) hsq).front);clear hb hsq)
 clear HH
 go_loopw [5,23] (fun u i wr=>∃k:Nat,k<=es.length/\i=.int .i64 (k:Int)/\∃(a:Option Addr) (c:Nat),u=.slice a (L.acts (es.take k)).1.length c /\
  Hid (dY (fun _=>False) Z W (tSq dK 32 (.slice a (L.acts (es.take k)).1.length c) (L.acts (es.take k)).1::bI p (L.acts (es.take k)).2::ts) wr)) (fun _ i _=>es.length - (intOf i).toNat)
 case atStart=>exact ⟨0,by omega,by go_num,_,_,rfl,H1⟩
 case round=>
  clear H1
  obtain ⟨k,hk,rfl,a,c,rfl,HH⟩:=hrel
  have htl:(es.take k).length<=k:=List.length_take_le _ _
  have hFk:=(HF.out.acts (es.take k) h2).mono (M:=N+65*es.length) (Y:=False) (by omega) False.elim
  by_cases hlt:k < es.length
  ·have hx:es[k]? = some es[k]:=List.getElem?_eq_getElem hlt
   have hsn:L.acts (es.take (k+1))=((L.acts (es.take k)).1++[((L.acts (es.take k)).2.act es[k]).1],((L.acts (es.take k)).2.act es[k]).2):=by
    rw [List.take_succ_eq_append_getElem hlt];exact acts_snoc _ _ _
   have hdl:=HED.out es[k] (List.getElem_mem hlt)
   have hal:=acts_len (es.take k) L
   have hel:(L.acts (es.take k)).1.length<=1000:=by omega
   have HAL:=aQ hal
   clear hal
   generalize es[k]=e at *
   generalize hr:L.acts (es.take k)=r at *
   have HR:=aQ hr
   have HSN:=aQ hsn
   have HFT:=aQ hFk.fit
   clear hr hsn hFk
   obtain ⟨errs,K⟩:=r
   dsimp only at HH HSN HFT HAL hel
   dsimp only
   obtain ⟨b,off,da,dc,e1,k0,k1,k2,k3,ts',j,T,hjT,hRT,H2,hback⟩:=HJ.out k e hx [tSq dK 32 (.slice a errs.length c) errs,bI p K] wr HH.out
   subst e1
   have H3:=aQ (H2.pickL (us:=[tSq dK 32 (.slice a errs.length c) errs,bI p K]) (vs:=[bI p K,tSq dK 32 (.slice a errs.length c) errs]) [1,0] (by decide) rfl)
   have HJT:=aQ hjT
   have HRT:=aQ hRT
   have HBK:=aQ hback
   clear H2 HH hx hjT hRT hback
   go_wp2_with fail
   refine (perform_c (ts:=tSq dK 32 (.slice a errs.length c) errs::ts') HFT.out (by omega) e da dc hdl (j+1) HRT.out HJT.out (H3.out.own (aK wr (.cells #[.int .i64 e.kind,.int .i64 e.cS,.int .i64 e.cls,.slice da e.data.length dc] 49)))).mono ?_
   rintro e' w3 ⟨rfl,h4⟩
   have H4:=aQ h4
   clear h4 H3 k0 k1 k2 k3
   generalize K.act e=q at *
   obtain ⟨qe,qk⟩:=q
   dsimp only at H4 HSN
   dsimp only
   go_wp2_with (at_builtin;refine wpList_app_err (e:=qe) rfl _ _ rfl H4.out 1 rfl (aK w3 _) (by omega) rfl w3.heap.size rfl (by exact rd_one _ _ _ _ rfl) ?_;intro a' c' w5 h;have H5:=aQ h;clear h)
   go_roundw
   case rel=>exact ⟨k+1,by omega,by go_num,a',c',by rw [HSN.out,List.length_append];rfl,by rw [HSN.out];exact aQ (HBK.out [tSq dK 32 (.slice a' (errs++[qe]).length c') (errs++[qe]),bI p qk] _ (dY.pickL (us:=[bI p qk,tSq dK 32 (.slice a' (errs++[qe]).length c') (errs++[qe])]) (vs:=[tSq dK 32 (.slice a' (errs++[qe]).length c') (errs++[qe]),bI p qk]) H5.out [1,0] (by decide) rfl))⟩
   case measure=>simp [intOf];omega
  ·have hkl:es.take k=es:=List.take_of_length_le (by omega)
   rw [hkl] at HH hFk ⊢
   have hFl:=(HF.out.acts es h2)
   have HFT:=aQ hFl.fit
   have HTK:=aQ (show L.step es=(L.acts es).2.cR from rfl)
   have hel:(L.acts es).1.length<=1000:=by rw [acts_len];exact hes
   have hfull:(L.acts es).2.Full (N+65*es.length) False:=hFl.mono (Nat.le_refl _) False.elim
   clear hkl hFk htl HJ HED hFl
   generalize hr:L.acts es=r at *
   obtain ⟨errs,K⟩:=r
   have HR:=aQ hr
   clear hr
   dsimp only at HH HFT HTK hel hfull
   dsimp only
   have HFU:=aQ hfull
   clear hfull
   obtain ⟨cs,v,u,e1,e2,e3,h3⟩:=(HH.out.pickL (us:=[tSq dK 32 (.slice a errs.length c) errs,bI p K]) (vs:=[bI p K,tSq dK 32 (.slice a errs.length c) errs]) [1,0] (by decide) rfl).link
   have HE1:=aQ e1
   have HE2:=aQ e2
   have HSZ:=aQ e3
   have H3:=aQ h3
   clear h3 e1 e2 e3 HH
   go_wp2_with fail
   obtain ⟨sb,hsb⟩:∃sb,sb=wr.heap.size:=⟨_,rfl⟩
   have H4:=aQ (show dY (fun _=>False) Z W (tkThs p cs K.l v K.r u sb (.slice none 0 0) (.slice none 0 0) (.slice a errs.length c) errs++ts) (wr.alloc (sentRow (.slice none 0 0) (.slice none 0 0))) by
    rw [hsb]
    exact (H3.out.new (sentRow (.slice none 0 0) (.slice none 0 0))).front.pickL (us:=dJ wr.heap.size (sentRow (.slice none 0 0) (.slice none 0 0))::dJ p (bG cs)::(bY K.l v++(bY K.r u++[tSq dK 32 (.slice a errs.length c) errs]))) [1,2,3,4,5,6,7,8,9,10,11,12,13,0,14] (by decide) rfl)
   rw [<-hsb]
   clear hsb H3
   go_loopw [34] (fun i wr=>
     (i=.int .i64 0/\Hid (dY (fun _=>False) Z W (tkThs p cs K.l v K.r u sb (.slice none 0 0) (.slice none 0 0) (.slice a errs.length c) errs++ts) wr)) \/
     (i=.int .i64 1/\∃ua uc,Hid (dY (fun _=>False) Z W (tkThs p cs K.l.cR.2 v K.r u sb (.slice ua K.l.cR.1.length uc) (.slice none 0 0) (.slice a errs.length c) errs++(tRd ePt (.slice ua K.l.cR.1.length uc) K.l.cR.1::ts)) wr)) \/
     (i=.int .i64 2/\∃ua uc va vc,Hid (dY (fun _=>False) Z W (tkThs p cs K.l.cR.2 v K.r.cR.2 u sb (.slice ua K.l.cR.1.length uc) (.slice va K.r.cR.1.length vc) (.slice a errs.length c) errs++(tRd ePt (.slice va K.r.cR.1.length vc) K.r.cR.1::tRd ePt (.slice ua K.l.cR.1.length uc) K.l.cR.1::ts)) wr)))
    (fun i _=>2 - (intOf i).toNat)
   case atStart=>exact .inl ⟨rfl,H4⟩
   case round=>
    clear H4
    rcases hrel with ⟨rfl,HK⟩|⟨rfl,ua,uc,HK⟩|⟨rfl,ua,uc,va,vc,HK⟩
    ·obtain ⟨wl,il⟩:=HFT.out.l
     have h5:=HK.out.pickL (us:=tkThs p cs K.l v K.r u sb (.slice none 0 0) (.slice none 0 0) (.slice a errs.length c) errs) (vs:=dJ p (bG cs)::(bY K.l v++(bY K.r u++[dJ sb (sentRow (.slice none 0 0) (.slice none 0 0)),tSq dK 32 (.slice a errs.length c) errs]))) [0,1,2,3,4,5,6,7,8,9,10,11,12,13,14] (by decide) rfl
     go_wp2_with fail
     refine (endTick_c (ts:=bY K.r u++[dJ sb (sentRow (.slice none 0 0) (.slice none 0 0)),tSq dK 32 (.slice a errs.length c) errs]++ts) il (by omega) HFT.out.ml HT.out HE1.out h5).mono ?_
     rintro e6 w6 ⟨ua,uc,rfl,h6⟩
     have h7:dY (fun _=>False) Z W (tkThs p cs K.l.cR.2 v K.r u sb (.slice none 0 0) (.slice none 0 0) (.slice a errs.length c) errs++(tRd ePt (.slice ua K.l.cR.1.length uc) K.l.cR.1::ts)) w6:=by
      have:=(h6.frz 0 rfl ePt_rd).pickL (us:=tRd ePt (.slice ua K.l.cR.1.length uc) K.l.cR.1::tkThs p cs K.l.cR.2 v K.r u sb (.slice none 0 0) (.slice none 0 0) (.slice a errs.length c) errs) (vs:=tkThs p cs K.l.cR.2 v K.r u sb (.slice none 0 0) (.slice none 0 0) (.slice a errs.length c) errs++[tRd ePt (.slice ua K.l.cR.1.length uc) K.l.cR.1]) [1,2,3,4,5,6,7,8,9,10,11,12,13,14,15,0] (by decide) rfl
      rw [List.append_assoc] at this
      exact this
     have hs:=h7.blk 13 rfl
     have g0:=aJ (i:=0) hs rfl
     have gf:=fun i=>aD hs i
     have H8:=aQ (show dY (fun _=>False) Z W (tkThs p cs K.l.cR.2 v K.r u sb (.slice ua K.l.cR.1.length uc) (.slice none 0 0) (.slice a errs.length c) errs++(tRd ePt (.slice ua K.l.cR.1.length uc) K.l.cR.1::ts)) (w6.setCell ⟨sb,0,none⟩ (.slice ua K.l.cR.1.length uc)) from h7.set 13 rfl (sentRow (.slice ua K.l.cR.1.length uc) (.slice none 0 0)) (by (repeat (first|(with_reducible (first|exact Fr.refl _ _|refine Fr.setCell ?_ ?_ _|refine Fr.drewN ?_ _|refine Fr.drew ?_))|exact Or.inl rfl))) (by (apply aS;focus (with_reducible (repeat (first|exact hs|apply aU|apply aP|apply aF))));rfl))
     clear h5 h6 h7 hs HK il
     go_wp2_with fail
     go_roundw
     case rel=>exact .inr (.inl ⟨rfl,ua,uc,H8⟩)
     case measure=>simp [intOf]
    ·obtain ⟨wr',ir⟩:=HFT.out.r
     have h5:=HK.out.pickL (us:=tkThs p cs K.l.cR.2 v K.r u sb (.slice ua K.l.cR.1.length uc) (.slice none 0 0) (.slice a errs.length c) errs) (vs:=dJ p (bG cs)::(bY K.r u++(bY K.l.cR.2 v++[dJ sb (sentRow (.slice ua K.l.cR.1.length uc) (.slice none 0 0)),tSq dK 32 (.slice a errs.length c) errs]))) [0,7,8,9,10,11,12,1,2,3,4,5,6,13,14] (by decide) rfl
     go_wp2_with fail
     refine (endTick_c (ts:=bY K.l.cR.2 v++[dJ sb (sentRow (.slice ua K.l.cR.1.length uc) (.slice none 0 0)),tSq dK 32 (.slice a errs.length c) errs]++(tRd ePt (.slice ua K.l.cR.1.length uc) K.l.cR.1::ts)) ir (by omega) HFT.out.mr HT.out HE2.out h5).mono ?_
     rintro e6 w6 ⟨va,vc,rfl,h6⟩
     have h7:dY (fun _=>False) Z W (tkThs p cs K.l.cR.2 v K.r.cR.2 u sb (.slice ua K.l.cR.1.length uc) (.slice none 0 0) (.slice a errs.length c) errs++(tRd ePt (.slice va K.r.cR.1.length vc) K.r.cR.1::tRd ePt (.slice ua K.l.cR.1.length uc) K.l.cR.1::ts)) w6:=by
      have:=(h6.frz 0 rfl ePt_rd).pickL (us:=tRd ePt (.slice va K.r.cR.1.length vc) K.r.cR.1::dJ p (bG cs)::(bY K.r.cR.2 u++(bY K.l.cR.2 v++[dJ sb (sentRow (.slice ua K.l.cR.1.length uc) (.slice none 0 0)),tSq dK 32 (.slice a errs.length c) errs]))) (vs:=tkThs p cs K.l.cR.2 v K.r.cR.2 u sb (.slice ua K.l.cR.1.length uc) (.slice none 0 0) (.slice a errs.length c) errs++[tRd ePt (.slice va K.r.cR.1.length vc) K.r.cR.1]) [1,8,9,10,11,12,13,2,3,4,5,6,7,14,15,0] (by decide) rfl
      rw [List.append_assoc] at this
      exact this
     have hs:=h7.blk 13 rfl
     have g0:=aJ (i:=1) hs rfl
     have gf:=fun i=>aD hs i
     have H8:=aQ (show dY (fun _=>False) Z W (tkThs p cs K.l.cR.2 v K.r.cR.2 u sb (.slice ua K.l.cR.1.length uc) (.slice va K.r.cR.1.length vc) (.slice a errs.length c) errs++(tRd ePt (.slice va K.r.cR.1.length vc) K.r.cR.1::tRd ePt (.slice ua K.l.cR.1.length uc) K.l.cR.1::ts)) (w6.setCell ⟨sb,1,none⟩ (.slice va K.r.cR.1.length vc)) from h7.set 13 rfl (sentRow (.slice ua K.l.cR.1.length uc) (.slice va K.r.cR.1.length vc)) (by (repeat (first|(with_reducible (first|exact Fr.refl _ _|refine Fr.setCell ?_ ?_ _|refine Fr.drewN ?_ _|refine Fr.drew ?_))|exact Or.inl rfl))) (by (apply aS;focus (with_reducible (repeat (first|exact hs|apply aU|apply aP|apply aF))));rfl))
     clear h5 h6 h7 hs HK ir
     go_wp2_with fail
     go_roundw
     case rel=>exact .inr (.inr ⟨rfl,ua,uc,va,vc,H8⟩)
     case measure=>simp [intOf]
    ·have hs:=HK.out.blk 13 rfl
     have g0:=aJ (i:=0) hs rfl
     have g1:=aJ (i:=1) hs rfl
     clear hs
     obtain ⟨⟨_,fl⟩,⟨_,fr⟩,la,lb⟩:=full_tick HFU.out
     have hca:K.l.cR.2.cD.Ok/\K.l.cR.2.cD.bZ.length<=1000/\K.l.cR.2.cD.cC<=170000000/\K.l.cR.2.cD.cP<=170000000/\K.l.cR.2.cD.lost<=170000000:=⟨fl.cab,fl.fb,by have:=fl.tk;omega,by have:=fl.se;omega,by have:=fl.lo;omega⟩
     have hcb:K.r.cR.2.cD.Ok/\K.r.cR.2.cD.bZ.length<=1000/\K.r.cR.2.cD.cC<=170000000/\K.r.cR.2.cD.cP<=170000000/\K.r.cR.2.cD.lost<=170000000:=⟨fr.cab,fr.fb,by have:=fr.tk;omega,by have:=fr.se;omega,by have:=fr.lo;omega⟩
     have HTK2:=aQ (show L.step es=⟨{ K.l.cR.2 with cD:=K.l.cR.2.cD.sends K.r.cR.1 },{ K.r.cR.2 with cD:=K.r.cR.2.cD.sends K.l.cR.1 }⟩ by rw [HTK.out];unfold Lk.cR;rw [send_into,send_into])
     have HIA:=aQ (show K.l.cR.2.inc=K.l.inc from rfl)
     have HIB:=aQ (show K.r.cR.2.inc=K.r.inc from rfl)
     clear fl fr HFU HFT HTK
     generalize K.l.cR.2=A at *
     generalize K.r.cR.2=B at *
     generalize K.l.cR.1=pa at *
     generalize K.r.cR.1=pb at *
     go_wp2_with fail
     go_loopw [47] (fun i wr=>
       (i=.int .i64 0/\Hid (dY (fun _=>False) Z W (tkThs p cs A v B u sb (.slice ua pa.length uc) (.slice va pb.length vc) (.slice a errs.length c) errs++(tRd ePt (.slice va pb.length vc) pb::tRd ePt (.slice ua pa.length uc) pa::ts)) wr)) \/
       (i=.int .i64 1/\Hid (dY (fun _=>False) Z W (tkThs p cs A v { B with cD:=B.cD.sends pa } u sb (.slice ua pa.length uc) (.slice va pb.length vc) (.slice a errs.length c) errs++(tRd ePt (.slice va pb.length vc) pb::tRd ePt (.slice ua pa.length uc) pa::ts)) wr)) \/
       (i=.int .i64 2/\Hid (dY (fun _=>False) Z W (tkThs p cs { A with cD:=A.cD.sends pb } v { B with cD:=B.cD.sends pa } u sb (.slice ua pa.length uc) (.slice va pb.length vc) (.slice a errs.length c) errs++(tRd ePt (.slice va pb.length vc) pb::tRd ePt (.slice ua pa.length uc) pa::ts)) wr)))
      (fun i _=>2 - (intOf i).toNat)
     case atStart=>exact .inl ⟨rfl,HK⟩
     case round=>
     clear HK g0 g1
     rcases hrel with ⟨rfl,HK⟩|⟨rfl,HK⟩|⟨rfl,HK⟩
     ·have hix0:=run_idx0 ua pa.length uc va pb.length vc wr
      go_wp2_with fail
      go_loopw [53] (fun i wr=>∃j:Nat,j<=pa.length/\i=.int .i64 (j:Int)/\Hid (dY (fun _=>False) Z W (tkThs p cs A v { B with cD:=B.cD.sends (pa.take j) } u sb (.slice ua pa.length uc) (.slice va pb.length vc) (.slice a errs.length c) errs++(tRd ePt (.slice va pb.length vc) pb::tRd ePt (.slice ua pa.length uc) pa::ts)) wr)) (fun i _=>pa.length - (intOf i).toNat)
      case atStart=>exact ⟨0,by omega,by go_num,HK⟩
      case round=>
       clear HK
       obtain ⟨j,hj,rfl,HJ⟩:=hrel
       by_cases hlj:j < pa.length
       ·obtain ⟨_,_,hrd⟩:=HJ.out.get 16 rfl
        have hx:pa[j]? = some pa[j]:=List.getElem?_eq_getElem hlj
        have HST:=aQ (sends_take B.cD pa hlj)
        obtain ⟨b,off,qa,qc,e1,hby,k0,k1,k2,k3,k4⟩:=pt_at (show RdS ePt wr _ (.slice ua pa.length uc) pa from hrd) hx
        obtain ⟨s1,s2,s3,s4,s5⟩:=sends_ok (pa.take j) hcb.1
        have htl:(pa.take j).length<=7:=Nat.le_trans (List.length_take_le' _ _) (by omega)
        subst e1
        generalize pa[j]=x at *
        generalize B.cD.sends (pa.take j)=cc at *
        have HS1:=aQ s1
        have hfb:cc.bZ.length<=1000:=by rw [s2];exact hcb.2.1
        have htk:cc.cC<=170000000:=by rw [s3];exact hcb.2.2.1
        have hse:cc.cP<=170000007:=by have:=hcb.2.2.2.1;omega
        have hlo:cc.lost<=170000007:=by have:=hcb.2.2.2.2;omega
        have HBY:=aQ hby.1
        clear s1 s2 s3 s4 s5 htl hrd hx hby
        by_cases hg:Good x.pk
        ·have HC:=aQ (show cc.sends1 x=(cc.send (symP x.pk)).2 by unfold Cab.sends1;rw [if_pos (validP_iff.2 hg)])
         have HGD:=aQ hg
         have hsl:(symP x.pk).length<=1000000:=by have:=(show Trn (symP x.pk) (some x.pk) from ⟨hg,rfl⟩).len;omega
         clear hg
         go_wp2_with fail
         refine (symF_good x.pk qa qc _ (HBY.out.below (aK wr _)) ((HJ.out.tabs HT.out).below (aK wr _)) HGD.out).mono ?_
         rintro e5 w5 ⟨v5,rfl,hn5,hb5⟩
         have h6:=((HJ.out.own (aK wr (bW x (.slice qa x.pay.length qc)))).addZ hb5 (T:=tBy v5 (symP x.pk)) ⟨hn5.by,fun _ b hb=>hn5.own b hb⟩).front
         have H6:=aQ h6
         obtain ⟨va5,vc5,e5⟩:=hn5.slice
         subst e5
         have hcell:=(dR (HE2.out.other (y:=B) HIB.out) (h6.blk 1 rfl)).2.2.1
         clear h6 hn5 hb5 k0 k1 k2 k3 k4
         go_wp2_with fail
         refine (send_h H6.out 10 rfl HS1.out (show cc.bZ.length<=1000000 by omega) (show cc.cC < 1000000000 by omega) (show cc.cP < 1000000000 by omega) (show cc.lost < 1000000000 by omega) _ (symP x.pk) hsl 0 _ rfl (by decide) by_rd).mono ?_
         rintro e7 w7 ⟨rfl,h7⟩
         have H7:=aQ (show dY (fun _=>False) Z W (tkThs p cs A v { B with cD:=B.cD.sends (pa.take (j+1)) } u sb (.slice (some ⟨b,off,none⟩) pa.length uc) (.slice va pb.length vc) (.slice a errs.length c) errs++(tRd ePt (.slice va pb.length vc) pb::tRd ePt (.slice (some ⟨b,off,none⟩) pa.length uc) pa::ts)) w7 by rw [HST.out,HC.out];exact h7.tail)
         clear h7 H6 hcell
         go_wp2_with fail
         go_roundw
         case rel=>exact ⟨j+1,by omega,by go_num,H7⟩
         case measure=>simp [intOf];omega
        ·have HC:=aQ (show cc.sends1 x=cc by unfold Cab.sends1;rw [if_neg fun h=>hg (validP_iff.1 h)])
         have HGD:=aQ hg
         clear hg
         go_wp2_with fail
         refine (symF_bad x.pk qa qc _ HGD.out).mono ?_
         rintro e5 w5 ⟨rfl,hb5⟩
         have H7:=aQ (show dY (fun _=>False) Z W (tkThs p cs A v { B with cD:=B.cD.sends (pa.take (j+1)) } u sb (.slice (some ⟨b,off,none⟩) pa.length uc) (.slice va pb.length vc) (.slice a errs.length c) errs++(tRd ePt (.slice va pb.length vc) pb::tRd ePt (.slice (some ⟨b,off,none⟩) pa.length uc) pa::ts)) w5 by rw [HST.out,HC.out];exact (HJ.out.own (aK wr (bW x (.slice qa x.pay.length qc)))).own hb5)
         clear hb5 k0 k1 k2 k3 k4
         go_wp2_with fail
         go_roundw
         case rel=>exact ⟨j+1,by omega,by go_num,H7⟩
         case measure=>simp [intOf];omega
       ·have hjl:pa.take j=pa:=List.take_of_length_le (by omega)
        rw [hjl] at HJ
        clear hjl
        go_wp2_with fail
        go_roundw
        case rel=>exact .inr (.inl ⟨rfl,HJ⟩)
        case measure=>simp [intOf]
     ·have hix1:=run_idx1 ua pa.length uc va pb.length vc wr
      go_wp2_with fail
      go_loopw [53] (fun i wr=>∃j:Nat,j<=pb.length/\i=.int .i64 (j:Int)/\Hid (dY (fun _=>False) Z W (tkThs p cs { A with cD:=A.cD.sends (pb.take j) } v { B with cD:=B.cD.sends pa } u sb (.slice ua pa.length uc) (.slice va pb.length vc) (.slice a errs.length c) errs++(tRd ePt (.slice va pb.length vc) pb::tRd ePt (.slice ua pa.length uc) pa::ts)) wr)) (fun i _=>pb.length - (intOf i).toNat)
      case atStart=>exact ⟨0,by omega,by go_num,HK⟩
      case round=>
       clear HK
       obtain ⟨j,hj,rfl,HJ⟩:=hrel
       by_cases hlj:j < pb.length
       ·obtain ⟨_,_,hrd⟩:=HJ.out.get 15 rfl
        have hx:pb[j]? = some pb[j]:=List.getElem?_eq_getElem hlj
        have HST:=aQ (sends_take A.cD pb hlj)
        obtain ⟨b,off,qa,qc,e1,hby,k0,k1,k2,k3,k4⟩:=pt_at (show RdS ePt wr _ (.slice va pb.length vc) pb from hrd) hx
        obtain ⟨s1,s2,s3,s4,s5⟩:=sends_ok (pb.take j) hca.1
        have htl:(pb.take j).length<=7:=Nat.le_trans (List.length_take_le' _ _) (by omega)
        subst e1
        generalize pb[j]=x at *
        generalize A.cD.sends (pb.take j)=cc at *
        have HS1:=aQ s1
        have hfb:cc.bZ.length<=1000:=by rw [s2];exact hca.2.1
        have htk:cc.cC<=170000000:=by rw [s3];exact hca.2.2.1
        have hse:cc.cP<=170000007:=by have:=hca.2.2.2.1;omega
        have hlo:cc.lost<=170000007:=by have:=hca.2.2.2.2;omega
        have HBY:=aQ hby.1
        clear s1 s2 s3 s4 s5 htl hrd hx hby
        by_cases hg:Good x.pk
        ·have HC:=aQ (show cc.sends1 x=(cc.send (symP x.pk)).2 by unfold Cab.sends1;rw [if_pos (validP_iff.2 hg)])
         have HGD:=aQ hg
         have hsl:(symP x.pk).length<=1000000:=by have:=(show Trn (symP x.pk) (some x.pk) from ⟨hg,rfl⟩).len;omega
         clear hg
         go_wp2_with fail
         refine (symF_good x.pk qa qc _ (HBY.out.below (aK wr _)) ((HJ.out.tabs HT.out).below (aK wr _)) HGD.out).mono ?_
         rintro e5 w5 ⟨v5,rfl,hn5,hb5⟩
         have h6:=((HJ.out.own (aK wr (bW x (.slice qa x.pay.length qc)))).addZ hb5 (T:=tBy v5 (symP x.pk)) ⟨hn5.by,fun _ b hb=>hn5.own b hb⟩).front
         have H6:=aQ h6
         obtain ⟨va5,vc5,e5⟩:=hn5.slice
         subst e5
         have hcell:=(dL (HE1.out.other (y:=A) HIA.out) (h6.blk 1 rfl)).2.2.1
         clear h6 hn5 hb5 k0 k1 k2 k3 k4
         go_wp2_with fail
         refine (send_h H6.out 4 rfl HS1.out (show cc.bZ.length<=1000000 by omega) (show cc.cC < 1000000000 by omega) (show cc.cP < 1000000000 by omega) (show cc.lost < 1000000000 by omega) _ (symP x.pk) hsl 0 _ rfl (by decide) by_rd).mono ?_
         rintro e7 w7 ⟨rfl,h7⟩
         have H7:=aQ (show dY (fun _=>False) Z W (tkThs p cs { A with cD:=A.cD.sends (pb.take (j+1)) } v { B with cD:=B.cD.sends pa } u sb (.slice ua pa.length uc) (.slice (some ⟨b,off,none⟩) pb.length vc) (.slice a errs.length c) errs++(tRd ePt (.slice (some ⟨b,off,none⟩) pb.length vc) pb::tRd ePt (.slice ua pa.length uc) pa::ts)) w7 by rw [HST.out,HC.out];exact h7.tail)
         clear h7 H6 hcell
         go_wp2_with fail
         go_roundw
         case rel=>exact ⟨j+1,by omega,by go_num,H7⟩
         case measure=>simp [intOf];omega
        ·have HC:=aQ (show cc.sends1 x=cc by unfold Cab.sends1;rw [if_neg fun h=>hg (validP_iff.1 h)])
         have HGD:=aQ hg
         clear hg
         go_wp2_with fail
         refine (symF_bad x.pk qa qc _ HGD.out).mono ?_
         rintro e5 w5 ⟨rfl,hb5⟩
         have H7:=aQ (show dY (fun _=>False) Z W (tkThs p cs { A with cD:=A.cD.sends (pb.take (j+1)) } v { B with cD:=B.cD.sends pa } u sb (.slice ua pa.length uc) (.slice (some ⟨b,off,none⟩) pb.length vc) (.slice a errs.length c) errs++(tRd ePt (.slice (some ⟨b,off,none⟩) pb.length vc) pb::tRd ePt (.slice ua pa.length uc) pa::ts)) w5 by rw [HST.out,HC.out];exact (HJ.out.own (aK wr (bW x (.slice qa x.pay.length qc)))).own hb5)
         clear hb5 k0 k1 k2 k3 k4
         go_wp2_with fail
         go_roundw
         case rel=>exact ⟨j+1,by omega,by go_num,H7⟩
         case measure=>simp [intOf];omega
       ·have hjl:pb.take j=pb:=List.take_of_length_le (by omega)
        rw [hjl] at HJ
        clear hjl
        go_wp2_with fail
        go_roundw
        case rel=>exact .inr (.inr ⟨rfl,HJ⟩)
        case measure=>simp [intOf]
     ·go_wp2_with fail
      go_ret
      rw [HTK2.out,HR.out]
      refine ⟨a,c,rfl,?_⟩
      have h9:=HK.out.pickL (us:=tkThs p cs { A with cD:=A.cD.sends pb } v { B with cD:=B.cD.sends pa } u sb (.slice ua pa.length uc) (.slice va pb.length vc) (.slice a errs.length c) errs) (vs:=dJ p (bG cs)::(bY { A with cD:=A.cD.sends pb } v++(bY { B with cD:=B.cD.sends pa } u++[tSq dK 32 (.slice a errs.length c) errs]))) [0,1,2,3,4,5,6,7,8,9,10,11,12,14] (by decide) rfl
      have h10:=dY.bE (L:=⟨{ A with cD:=A.cD.sends pb },{ B with cD:=B.cD.sends pa }⟩) (ts:=tSq dK 32 (.slice a errs.length c) errs::tRd ePt (.slice va pb.length vc) pb::tRd ePt (.slice ua pa.length uc) pa::ts) (HE1.out.other HIA.out) (HE2.out.other HIB.out) HSZ.out h9
      exact h10.pickL (us:=[bI p ⟨{ A with cD:=A.cD.sends pb },{ B with cD:=B.cD.sends pa }⟩,tSq dK 32 (.slice a errs.length c) errs,tRd ePt (.slice va pb.length vc) pb,tRd ePt (.slice ua pa.length uc) pa]) (vs:=[tSq dK 32 (.slice a errs.length c) errs,bI p ⟨{ A with cD:=A.cD.sends pb },{ B with cD:=B.cD.sends pa }⟩]) [1,0] (by decide) rfl
theorem tickL_c (hF:L.Full N Zp) (h2:200<=N) (es:List Evt) (hes:es.length<=1000) (hN:N+65*es.length+13000<=170000000) (hed:∀e ∈ es,e.data.length<=1000000) (ev:Value) (j:Nat) (hj:ts[j]? = some (tRd eEvt ev es)) (ht:Tabs W) (h:dY (fun _=>False) Z W (bI p L::ts) w) :
  Calls Tryz.prog 18 #[.pointer (some ⟨p,0,none⟩),ev] w fun e' w'=>∃a c,e'=.returned (.slice a (L.acts es).1.length c)/\dY (fun _=>False) Z W (tSq dK 32 (.slice a (L.acts es).1.length c) (L.acts es).1::bI p (L.step es)::ts) w':=by
 obtain ⟨_,_,hev⟩:=h.get (j+1) hj
 obtain ⟨ea,ec,rfl,_,_⟩:=RdS.shape (show RdS eEvt w _ ev es from hev)
 exact tickG_c hF h2 es hes hN (fun e he=>Nat.le_trans (hed e he) (by decide)) ea ec (gives_rd j hj) ht h
end
end

section
open Go.RowKit
section
variable {P:Program} {ops:Array Oper} {Q:Exit->Act->World->Prop} {md:Region.Mode} {S:World->Prop}
def Fsh (P:Program) (ops:Array Oper) (D:Nat->Nat) (V:Nat->Nat->Value) (Pr:Nat->Nat->World->Prop) (js:List Nat) (a:Act) (j:Nat):Prop:=
 ∃(o:Oper) (xs:List Nat),ops[j]? = some o/\o.dst=some (D j)/\(∀x ∈ xs,∀i ∈ js,D i≠x) /\
  ∀(a':Act) (w1:World) (K:Act->World->Prop) (E:Prop),(∀x ∈ xs,a'.eval (.tmp x)=a.eval (.tmp x)) ->
   (∀b w2,Below w1.heap.size w1 w2->w1.heap.size<=b->b < w2.heap.size->Pr j b w2->K (a'.put o.dst (V j b)) w2) ->
   if Region.wanted o (yielded ops a'.tmps)=true then Oper.wp P o a' w1 K Q else E
theorem wpAnyH_fresh (D:Nat->Nat) (hD:∀i j,D i=D j->i=j) (V:Nat->Nat->Value) (Pr:Nat->Nat->World->Prop) (hPr:∀j b w w',Pr j b w->b < w.heap.size->Below w.heap.size w w'->Pr j b w') (fuel:Nat) :
  ∀(m:Nat) (js:List Nat) (listed:Array Bool) (a:Act) (w:World),js.length=m->js.Nodup->readies md ops m js listed=true->(∀w',Below w.heap.size w w'->S w')->(∀j ∈ js,Fsh P ops (Q:=Q) D V Pr js a j) ->
   (∀(B:Nat->Nat) (w':World),Below w.heap.size w w'->(∀j ∈ js,w.heap.size<=B j/\B j < w'.heap.size/\Pr j (B j) w')->(∀i ∈ js,∀j ∈ js,B i=B j->i=j) ->
    wpAnyH P md ops Q S fuel (js.foldl (fun l j=>l.setIfInBounds j true) listed) (js.foldl (fun a j=>a.put (some (D j)) (V j (B j))) a) w') ->
   wpAnyH P md ops Q S (fuel+m) listed a w:=by
 intro m
 induction m with
 |zero=>
  intro js listed a w hl _ _ _ _ H
  obtain rfl:=List.length_eq_zero_iff.1 hl
  exact H (fun _=>0) w (Below.refl _ _) (fun j hj=>by cases hj) fun i hi=>by cases hi
 |succ m ih=>
  intro js listed a w hl hnd hok hS hops H
  simp only [readies,Bool.and_eq_true,decide_eq_true_eq,List.all_eq_true] at hok
  refine wpAnyH_all hok.1 (fun e=>by rw [e] at hl;cases hl) fun k hk=>?_
  obtain ⟨o,xs,h1,h3,h5,h6⟩:=hops k hk
  refine wpOp_step h1 fun K hK=>?_
  refine h6 a w K _ (fun _ _=>rfl) fun b w1 hb1 hbl hbu hpr=>?_
  refine hK _ _ ⟨hS w1 hb1,?_⟩
  rw [h3]
  have hmem:∀j,j ∈ js.erase k->j ∈ js/\j≠k:=fun j hj=>⟨List.mem_of_mem_erase hj,fun e=>by subst e;exact (List.Nodup.not_mem_erase hnd) hj⟩
  refine ih (js.erase k) _ _ w1 (by rw [List.length_erase_of_mem hk,hl];rfl) (hnd.erase k) (hok.2 k hk) (fun w' hb=>hS w' (hb1.trans (hb.mono hb1.size))) (fun j hj=>?_) fun B' w' hb' hall hinj=>?_
  ·obtain ⟨o',xs',q1,q2,q3,q4⟩:=hops j (hmem j hj).1
   exact ⟨o',xs',q1,q2,fun x hx i hi=>q3 x hx i (hmem i hi).1,fun a' w2 K' E' he=>q4 a' w2 K' E' fun x hx=>(he x hx).trans (eval_put (q3 x hx k hk))⟩
  ·have hperm:js.Perm (k::js.erase k):=List.perm_cons_erase hk
   have:=H (fun j=>if j=k then b else B' j) w' (hb1.trans (hb'.mono hb1.size)) (fun j hj=>?_) (fun i hi j hj e=>?_)
   ·have e1:js.foldl (fun (l:Array Bool) j=>l.setIfInBounds j true) listed=(js.erase k).foldl (fun (l:Array Bool) j=>l.setIfInBounds j true) (listed.setIfInBounds k true):=
     foldl_perm (f:=fun (l:Array Bool) j=>l.setIfInBounds j true) (fun c x y=>by
      by_cases hxy:x=y
      ·subst hxy;rfl
      ·exact Array.setIfInBounds_comm _ _ hxy) hperm listed
    have e2:js.foldl (fun (a:Act) j=>a.put (some (D j)) (V j (if j=k then b else B' j))) a=(js.erase k).foldl (fun (a:Act) j=>a.put (some (D j)) (V j (B' j))) (a.put (some (D k)) (V k b)):=by
     rw [foldl_perm (f:=fun (a:Act) j=>a.put (some (D j)) (V j (if j=k then b else B' j))) (fun c x y=>?_) hperm a]
     ·rw [List.foldl_cons,if_pos rfl]
      exact foldl_cong fun j hj c=>by rw [if_neg (hmem j hj).2]
     ·by_cases hxy:x=y
      ·subst hxy;rfl
      ·exact Act.put_comm c _ _ fun d e e'=>hxy (hD _ _ (by cases e;exact (Option.some.inj e').symm))
    rw [e1,e2] at this
    exact this
   ·by_cases hjk:j=k
    ·subst hjk
     rw [if_pos rfl]
     exact ⟨hbl,Nat.lt_of_lt_of_le hbu hb'.size,hPr _ _ _ _ hpr hbu hb'⟩
    ·rw [if_neg hjk]
     have hj':j ∈ js.erase k:=(List.mem_erase_of_ne hjk).2 hj
     exact ⟨Nat.le_trans hb1.size (hall j hj').1,(hall j hj').2⟩
   ·by_cases hik:i=k
    ·by_cases hjk:j=k
     ·rw [hik,hjk]
     ·rw [if_pos hik,if_neg hjk] at e
      have:=(hall j ((List.mem_erase_of_ne hjk).2 hj)).1
      omega
    ·by_cases hjk:j=k
     ·rw [if_neg hik,if_pos hjk] at e
      have:=(hall i ((List.mem_erase_of_ne hik).2 hi)).1
      omega
     ·rw [if_neg hik,if_neg hjk] at e
      exact hinj i ((List.mem_erase_of_ne hik).2 hi) j ((List.mem_erase_of_ne hjk).2 hj) e
theorem fsh_make {D:Nat->Nat} {V:Nat->Nat->Value} {Pr:Nat->Nat->World->Prop} {js:List Nat} {a:Act} {j:Nat} {n:Nat} (hn:n<=maxLen) {o:Oper} {t ty:TypeId} {z:Value} {x bytes:Nat} (h1:ops[j]? = some o) (h2:o.guard=none) (h3:o.dst=some (D j)) (h4:o.op=Op.makeSlice t (.tmp x) (.tmp x)) (h5:∀i ∈ js,D i≠x) (h6:a.eval (.tmp x)=.int .i64 (n:Int)) (h7:SlT P t ty z 1 bytes) (h8:z.cells = #[z]) (h9:bytes*n<=281474976710656)
  (hV:∀b,V j b=.slice (some ⟨b,0,none⟩) n n) (hP:∀b w,Sl w (fun k=>k=b) ty 1 (.slice (some ⟨b,0,none⟩) n n) n (List.replicate n z)->Pr j b w):Fsh P ops (Q:=Q) D V Pr js a j:=by
 refine ⟨o,[x],h1,h3,fun y hy i hi=>by rw [List.mem_singleton.1 hy];exact h5 i hi,fun a' w K E he hK=>?_⟩
 have h6':a'.eval (.tmp x)=.int .i64 (n:Int):=(he x (List.mem_singleton_self x)).trans h6
 obtain ⟨i,hi,hz,hsz,hby⟩:=h7.info
 obtain ⟨w1,hrun,hown,hgr⟩:=run_make_full (P:=P) (w:=w) w.heap.size t ty i z 1 h7.under hi hz hsz .i64 .i64 n (by rw [hby];exact h9) hn (Nat.le_refl _)
 have hb1:Below w.heap.size w w1:=(Below.refl w.heap.size w).grown hgr (Nat.le_refl _) (fun k e=>by cases e)
 rw [h8,Nat.mul_one,toList_madeCells_one] at hown
 have hsl:Sl w1 (fun k=>k=w.heap.size) ty 1 (.slice (some ⟨w.heap.size,0,none⟩) n n) n (List.replicate n z):=by
  obtain ⟨hl,⟨h,_⟩|⟨g,cap,cur,e,hb,hg,h10,h11,h12,h13⟩⟩:=hown
  ·cases h
  ·obtain ⟨rfl,rfl⟩:w.heap.size=g/\n=cap:=by simpa using e
   exact ⟨hl,.inr ⟨_,0,_,cur,rfl,rfl,hg,h10,h11,by omega,by simpa using h13⟩⟩
 have hkl:w.heap.size < w1.heap.size:=by
  obtain ⟨_,⟨h,_⟩|⟨g,off,cap,cur,e,rfl,hg,_⟩⟩:=hsl
  ·cases h
  ·exact lt_of_block hg
 refine step_val (v:=.slice (some ⟨w.heap.size,0,none⟩) n n) (w':=w1) (by simp [Region.wanted,h2]) (by simp [execOp,h4,h6',hrun,Result.andThen]) ?_
 have:=hK w.heap.size w1 hb1 (Nat.le_refl _) hkl (hP _ _ hsl)
 rwa [hV] at this
end
end

end Go.Proofs.YtcbnhebiagdbiaaGreatDoor
