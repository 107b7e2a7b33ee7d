/- Lists of frames: slices.EqualFunc with bytes.Equal at equal lists; begins. -/
import Derived.Test.YtckdblgobmofgaaGreatDoorBEq
import Derived.Test.YtckdblgobmofgaaGreatDoorPkC1
import Derived.Test.YtckdblgobmofgaaGreatDoorPkK1
namespace Go.Proofs.YtckdblgobmofgaaGreatDoor
section
open Go.RowKit
set_option maxRecDepth 100000
def BBs (w:World) (v:Value) (xs:List Byt):Prop:=∃a c,v=.slice a xs.length c/\xs.length<=c/\c<=maxLen/\∀(k:Nat) (d:Byt),xs[k]? = some d->∃b o dv,a=some ⟨b,o,none⟩/\w.cell? ⟨b,o+k,none⟩=some dv/\By w dv d
theorem bbs_of {w:World} {A B:BS} {v:Value} {l:List Byt} (h:Sq (eSq eU8 5) 22 w A B v l):BBs w v l:=by
 obtain ⟨a,c,rfl,h1,h2,_⟩:=Sq.le h
 refine ⟨a,c,rfl,h1,h2,fun k d hk=>?_⟩
 obtain ⟨b,off,cap,vc,e,_,hc,hb⟩:=bb_atS h hk
 obtain ⟨rfl,rfl⟩:a=some ⟨b,off,none⟩/\c=cap:=by simpa using e
 exact ⟨_,_,_,rfl,hc,hb⟩
theorem BBs.take {w:World} {a:Option Addr} {n c:Nat} {ys xs:List Byt} (h:BBs w (.slice a n c) ys) (hx:xs <+: ys):BBs w (.slice a xs.length c) xs:=by
 obtain ⟨a',c',e,h1,h2,hk⟩:=h
 obtain ⟨rfl,rfl,rfl⟩:a=a'/\n=ys.length/\c=c':=by simpa using e
 refine ⟨a,c,rfl,Nat.le_trans hx.length_le h1,h2,fun k d hd=>hk k d ?_⟩
 obtain ⟨t,rfl⟩:=hx
 rw [List.getElem?_append_left (lt_of_get hd)];exact hd
section
variable {w:World}
set_option maxHeartbeats 8000000 in
theorem equalB_c (u v:Value) (xs:List Byt) (hu:BBs w u xs) (hv:BBs w v xs) :
  Calls Tryz.prog 35 #[u,v,.func (.func 18) #[] #[]] w fun r w'=>r=.returned (.bool true)/\w=w':=by
 obtain ⟨a,ca,rfl,ha1,ha2,HA⟩:=hu
 obtain ⟨b,cb,rfl,hb1,hb2,HB⟩:=hv
 have HA:=Lib.hid HA
 have HB:=Lib.hid HB
 unfold maxLen at ha2
 go_enter Tryz.func35,Tryz.ntmps35
 go_wp2_with fail
 go_loop [17] (fun i=>∃k:Nat,k<=xs.length/\i=.int .i64 (k:Int)) (fun i=>xs.length - (intOf i).toNat)
 case atStart=>exact ⟨0,by omega,by go_num⟩
 case round=>
  obtain ⟨k,hk,rfl⟩:=hrel
  by_cases hlt:k < xs.length
  ·obtain ⟨d,hd⟩:∃d,xs[k]? = some d:=⟨xs[k],List.getElem?_eq_getElem hlt⟩
   obtain ⟨b1,o1,d1,rfl,k1,y1⟩:=HA.out k d hd
   obtain ⟨b2,o2,d2,rfl,k2,y2⟩:=HB.out k d hd
   have HC:=Lib.hid (bytesEqual_refl y1 y2)
   clear hd y1 y2
   go_wp2_with fail
   refine HC.out.mono ?_
   rintro r w1 ⟨rfl,rfl⟩
   go_wp2_with fail
   go_round
   case rel=>exact ⟨k+1,by omega,by go_num⟩
   case measure=>simp [intOf];omega
  ·obtain rfl:xs.length=k:=by omega
   go_wp2_with fail
   go_ret
   exact ⟨rfl,rfl⟩
set_option maxHeartbeats 8000000 in
theorem begins_c (u v:Value) (ys xs:List Byt) (hu:BBs w u ys) (hv:BBs w v xs) (h:xs <+: ys) :
  Calls Tryz.prog 28 #[u,v] w fun r w'=>r=.returned (.bool true)/\w=w':=by
 have hle:xs.length<=ys.length:=h.length_le
 have hge:decide ((xs.length:Int)<=(ys.length:Int))=true:=by simp;omega
 obtain ⟨a,ca,rfl,ha1,ha2,_⟩:=id hu
 have HE:=Lib.hid (equalB_c _ v xs (hu.take h) hv)
 obtain ⟨b,cb,rfl,hb1,hb2,_⟩:=hv
 unfold maxLen at ha2 hb2
 clear hu h
 go_enter Tryz.func28,Tryz.ntmps28
 go_wp2_with (go_at_call 35;refine HE.out.mono ?_;rintro e w' ⟨rfl,rfl⟩)
 go_ret
 exact ⟨rfl,rfl⟩
end
theorem no_rest {el:List (List Evt)} (h:restB el=false):∀es ∈ el,∀e ∈ es,e.kind≠5:=fun es hes e he hk=>by
 have:restB el=true:=List.any_eq_true.2 ⟨es,hes,List.any_eq_true.2 ⟨e,he,by simpa using hk⟩⟩
 rw [h] at this;cases this
theorem Lk.Full.begins {L:Lk} {N:Nat} (h:L.Full N True) (i:Int) (hi:i=0\/i=1) (c:Int):clsOf (L.tak i) c <+: clsOf (L.off (1 - i)) c:=by
 unfold clsOf
 rcases hi with rfl|rfl
 ·have e1:L.tak 0=L.l.taken:=rfl
  have e2:L.off (1 - 0)=L.r.offered:=rfl
  rw [e1,e2]
  split
  ·exact h.swap.exact c.toNat
  ·exact List.prefix_refl _
 ·have e1:L.tak 1=L.r.taken:=rfl
  have e2:L.off (1 - 1)=L.l.offered:=rfl
  rw [e1,e2]
  split
  ·exact h.exact c.toNat
  ·exact List.prefix_refl _
end
end Go.Proofs.YtckdblgobmofgaaGreatDoor
