/- Common to the walks of the laws of a link. -/
import Derived.Test.YtckdblgobmofgaaGreatDoorPkK1
namespace Go.Proofs.YtckdblgobmofgaaGreatDoor
section
open Go.RowKit
set_option maxRecDepth 100000
abbrev setO (s:RSet) (aa:Option Addr) (ak:Nat) (ba:Option Addr) (bk:Nat) (ta:Option Addr) (tk:Nat) (ya:Option Addr) (yk:Nat):Obj:=
 .cells #[.int .i64 s.a.inc,.slice aa s.a.rooms.length ak,.int .i64 s.a.w,.int .i64 s.a.t,.int .i64 s.a.d,.int .i64 s.b.inc,.slice ba s.b.rooms.length bk,.int .i64 s.b.w,.int .i64 s.b.t,.int .i64 s.b.d,
  .int .i64 s.delay,.slice ta s.there.length tk,.slice ya s.back.length yk] 43
section
variable {Z:BS} {W w:World} {ts:List Th} {p:Nat} {L:Lk}
set_option maxHeartbeats 16000000 in
theorem port_o {cs:Array Value} {v u:EV} (e1:EndAt cs 0 L.l v) (e2:EndAt cs 7 L.r u) (h0:Held (fun _=>False) Z W (tBlk p (lkRow cs)::(endThs L.l v++(endThs L.r u++ts))) w) (s:Int) (hs:s=0\/s=1) :
  Calls Tryz.prog 22 #[.pointer (some ⟨p,0,none⟩),.int .i64 s] w fun e w'=>e=.returned (.pointer (some ⟨if s=0 then v.pp else u.pp,0,none⟩))/\w=w':=by
 obtain ⟨c0,_⟩:=end_cells0 e1 (h0.blk 0 rfl)
 obtain ⟨d0,_⟩:=end_cells7 e2 (h0.blk 0 rfl)
 have HX:=Lib.hid (show decide (s=0\/s=1)=true by simpa using hs)
 clear h0 e1 e2
 rcases hs with rfl|rfl
 all_goals
  go_enter Tryz.func22,Tryz.ntmps22
  go_wp2_with (go_at_call 46;refine (exists_c _ _).mono ?_;rw [HX.out];rintro e' w1 ⟨rfl,rfl⟩)
  go_ret
  exact ⟨rfl,rfl⟩
end
theorem rooms_at {c:RCfg} {rooms:List Nat} (hv:c.V) (hr:rooms=c.cfg.rooms) {k:Nat} {x:Int} (hx:c.rooms[k]? = some x):k < rooms.length/\((rooms.getD k 0:Nat):Int)=x:=by
 subst hr
 obtain ⟨_,_,_,_,h5,h6⟩:=hv.nums
 have hk:=lt_of_get hx
 have hk2:k < c.cfg.rooms.length:=by omega
 refine ⟨hk2,?_⟩
 rw [<-h6,List.getElem?_map,getD_of (d:=0) hk2] at hx
 exact Option.some.inj hx
end
end Go.Proofs.YtckdblgobmofgaaGreatDoor
