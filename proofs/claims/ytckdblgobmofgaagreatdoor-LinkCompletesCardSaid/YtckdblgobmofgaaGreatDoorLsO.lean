/- Sums of the frames offered; what a link holds behind a drain. No program in sight. -/
import Derived.Test.YtckdblgobmofgaaGreatDoorLsM
import Derived.Test.YtckdblgobmofgaaGreatDoorPkI1
namespace Go.Proofs.YtckdblgobmofgaaGreatDoor
section
theorem drain_short {Y:Lk} {N R:Nat} (h:Y.Full N False) (s:Y.Short) (h2:200<=N) (hl:Y.l.prt.rooms.length=R) (hr:Y.r.prt.rooms.length=R):∀m,(Y.drain m).Short
 |0=>s
 |m+1=>by
  have a:=drain_alike Y m
  have:=(drain_short h s h2 hl hr m).step (drain_full h m) (by omega) (drainEvs (Y.drain m) R 2)
  rwa [drain_step (by rw [a.rl];exact hl) (by rw [a.rr];exact hr)] at this
def offSum (L:Lk) (R:Nat):Nat->Nat
 |0=>0
 |n+1=>offSum L R n+((List.range R).map fun c=>((L.nd n).offered.getD c []).length).sum
def offPart (L:Lk) (R n k:Nat):Nat:=offSum L R n+((List.range k).map fun c=>((L.nd n).offered.getD c []).length).sum
theorem offPart_zero (L:Lk) (R n:Nat):offPart L R n 0=offSum L R n:=rfl
theorem offPart_succ (L:Lk) (R n k:Nat):offPart L R n (k+1)=offPart L R n k+((L.nd n).offered.getD k []).length:=by
 unfold offPart
 rw [List.range_succ,List.map_append,List.sum_append,<-Nat.add_assoc];simp
theorem offPart_full (L:Lk) (R n:Nat):offPart L R n R=offSum L R (n+1):=rfl
theorem offSum_noff {L:Lk} {R:Nat} (hl:L.l.offered.length=R) (hr:L.r.offered.length=R):offSum L R 2=L.noff:=by
 show (0+((List.range R).map fun c=>((L.nd 0).offered.getD c []).length).sum)+((List.range R).map fun c=>((L.nd 1).offered.getD c []).length).sum=_
 have e0:(L.nd 0).offered=L.l.offered:=rfl
 have e1:(L.nd 1).offered=L.r.offered:=rfl
 rw [e0,e1,Nat.zero_add]
 conv=>lhs;rw [<-hl]
 unfold Lk.noff
 rw [cntF_range,hl,<-hr,cntF_range]
theorem cls_off (L:Lk) {n:Nat} (hn:n < 2) (c:Nat):clsOf (L.off (n:Int)) (c:Int)=(L.nd n).offered.getD c []:=by
 unfold clsOf
 rw [if_pos (by omega),Int.toNat_natCast]
 obtain rfl|rfl:n=0\/n=1:=by omega
 ·rfl
 ·rfl
theorem offPart_le {L:Lk} {N:Nat} {Z:Prop} (h:L.Full N Z) {n:Nat} (_:n < 2) (k:Nat):((L.nd n).offered.getD k []).length<=N:=by
 obtain ⟨_,i⟩:=h.nd n
 exact getD_all (P:=fun l:List Bytes=>l.length<=N) i.ob (by simp) k
theorem full_ol {L:Lk} {N:Nat} {Z:Prop} (h:L.Full N Z):L.l.offered.length=L.l.prt.rooms.length/\L.r.offered.length=L.r.prt.rooms.length:=by
 obtain ⟨wl,wr,oa,ga,pa,ob,gb,pb,da,db,i,k1,k2,_⟩:=h
 exact ⟨k1.ol,k2.ol⟩
theorem quiet_cls {L:Lk} {N R:Nat} (h:L.Full N True) (q:L.Quiet) (hl:L.l.prt.rooms.length=R) (hr:L.r.prt.rooms.length=R) {n c:Nat} (hn:n < 2) (hc:c < R):clsOf (L.tak (n:Int)) (c:Int)=clsOf (L.off (1 - (n:Int))) (c:Int):=by
 unfold clsOf
 rw [if_pos (by omega),if_pos (by omega),Int.toNat_natCast]
 obtain rfl|rfl:n=0\/n=1:=by omega
 ·have e1:L.tak ((0:Nat):Int)=L.l.taken:=rfl
  have e2:L.off (1 - ((0:Nat):Int))=L.r.offered:=rfl
  rw [e1,e2]
  exact quiet_same h.swap ⟨q.2,q.1⟩ (by rw [show (⟨L.r,L.l⟩:Lk).l.prt.rooms.length=R from hr];exact hc) (by rw [show (⟨L.r,L.l⟩:Lk).r.prt.rooms.length=R from hl];exact hc)
 ·have e1:L.tak ((1:Nat):Int)=L.r.taken:=rfl
  have e2:L.off (1 - ((1:Nat):Int))=L.l.offered:=rfl
  rw [e1,e2]
  exact quiet_same h q (by rw [hl];exact hc) (by rw [hr];exact hc)
end
end Go.Proofs.YtckdblgobmofgaaGreatDoor
