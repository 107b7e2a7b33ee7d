/- The port of a side of a link: its counts, whether it is up, its overflows. -/
import Derived.Test.YtckdblgobmofgaaGreatDoorLsI
namespace Go.Proofs.YtckdblgobmofgaaGreatDoor
section
open Go.RowKit
set_option maxRecDepth 100000
def Lk.nd (L:Lk) (n:Nat):Lnd:=if n=0 then L.l else L.r
section
variable {Z:BS} {W w:World} {ts:List Th} {p N:Nat} {L:Lk} {Zp:Prop}
structure PortOf (Z:BS) (W:World) (ts:List Th) (p:Nat) (L:Lk) (n:Nat) (pp:Nat) (w:World):Prop where
 port:Calls Tryz.prog 22 #[.pointer (some ⟨p,0,none⟩),.int .i64 (n:Int)] w fun e w'=>e=.returned (.pointer (some ⟨pp,0,none⟩))/\w=w'
 counts:∀c:Nat,c < (L.nd n).prt.rooms.length->Calls Tryz.prog 24 #[.pointer (some ⟨pp,0,none⟩),.int .i64 (c:Int)] w fun e w'=>e=.returned (.tuple #[.int .i64 (((L.nd n).prt.acked.getD c 0:Nat):Int),.int .i64 (((L.nd n).prt.received.getD c 0:Nat):Int),.int .i64 (((L.nd n).prt.taken.getD c 0:Nat):Int)])/\Held (fun _=>False) Z W (tLink p L::ts) w'
 up:Calls Tryz.prog 26 #[.pointer (some ⟨pp,0,none⟩)] w fun e w'=>e=.returned (.bool (decide ((L.nd n).prt.side.state=2)))/\w=w'
 over:Calls Tryz.prog 23 #[.pointer (some ⟨pp,0,none⟩)] w fun e w'=>e=.returned (.int .i64 ((L.nd n).prt.overflows:Int))/\w=w'
theorem port_of (hF:L.Full N Zp) (hN:N<=1000000000) (h:Held (fun _=>False) Z W (tLink p L::ts) w) {n:Nat} (hn:n < 2):∃pp,PortOf Z W ts p L n pp w:=by
 obtain ⟨cs,v,u,e1,e2,e3,h4⟩:=h.link
 have okl:L.l.prt.Ok N:=by obtain ⟨_,i⟩:=hF.fit.l;exact i.ok
 have okr:L.r.prt.Ok N:=by obtain ⟨_,i⟩:=hF.fit.r;exact i.ok
 obtain rfl|rfl:n=0\/n=1:=by omega
 ·exact ⟨v.pp,port_o e1 e2 h4 0 (.inl rfl),fun c hc=>(counts_any h4 1 rfl okl hN c hc).mono fun e w' ⟨he,hh⟩=>⟨he,hh.link_shut e1 e2 e3⟩,up_any h4 1 rfl,overflows_any h4 1 rfl⟩
 ·exact ⟨u.pp,port_o e1 e2 h4 1 (.inr rfl),fun c hc=>(counts_any h4 7 rfl okr hN c hc).mono fun e w' ⟨he,hh⟩=>⟨he,hh.link_shut e1 e2 e3⟩,up_any h4 7 rfl,overflows_any h4 7 rfl⟩
end
theorem Lk.Full.nd {L:Lk} {N:Nat} {Z:Prop} (h:L.Full N Z) (n:Nat):∃ws,(L.nd n).Inv N ws:=by
 obtain ⟨wl,wr,oa,ga,pa,ob,gb,pb,da,db,i,_⟩:=h
 unfold Lk.nd
 split
 ·exact ⟨_,i.l⟩
 ·exact ⟨_,i.r⟩
theorem Lk.Full.buf64 {L:Lk} {N:Nat} {Z:Prop} (h:L.Full N Z) (n c:Nat) (hc:c < (L.nd n).prt.rooms.length):((L.nd n).prt.buffer.getD c []).length<=64:=by
 obtain ⟨_,i⟩:=h.nd n
 have h1:((L.nd n).prt.buffer.getD c []).length<=(L.nd n).prt.rooms.getD c 0:=by
  unfold Lk.nd at hc ⊢
  split
  ·rw [if_pos ‹_›] at hc;exact h.room.2 c hc
  ·rw [if_neg ‹_›] at hc;exact h.swap.room.2 c hc
 exact Nat.le_trans h1 (getD_all (P:=fun x=>x<=64) (fun x hx=>(i.ok.rm x hx).2) (by decide) c)
end
end Go.Proofs.YtckdblgobmofgaaGreatDoor
