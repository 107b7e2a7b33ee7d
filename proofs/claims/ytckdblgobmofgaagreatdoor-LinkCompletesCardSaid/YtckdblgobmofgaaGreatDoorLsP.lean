/- Common to the walks of LinkCompletes and LinkReturns. No program in sight, but for the contracts' names. -/
import Derived.Test.YtckdblgobmofgaaGreatDoorLsO
import Derived.Test.YtckdblgobmofgaaGreatDoorLsN
import Derived.Test.YtckdblgobmofgaaGreatDoorLsG
import Derived.Test.YtckdblgobmofgaaGreatDoorLsL
namespace Go.Proofs.YtckdblgobmofgaaGreatDoor
section
theorem not_late {a b:List Flt} (h:(a++b).any lateF=false):Early a 200/\Early b 200:=by
 have:∀f ∈ a++b,f.at' < ((200:Nat):Int):=fun f hf=>by
  have h2:=List.any_eq_false.1 h f hf
  unfold lateF at h2
  have h3:¬(200:Int)<=f.at':=by simpa using h2
  have:f.at' < 200:=by omega
  exact this
 exact ⟨fun f hf=>this f (List.mem_append_left _ hf),fun f hf=>this f (List.mem_append_right _ hf)⟩
theorem setup_quiet {s:RSet} (hs:Small s) (hroom:s.a.rooms.length=s.b.rooms.length) (hlate:(s.there++s.back).any lateF=false) {X:Lk} {N n:Nat} {Z:Prop} (k:s.lk.Kin X) (hX:X.Full N Z) (h2:200<=N) (hN:N<=400000) (ht:X.Tots n) (hn:n<=156) :
  ∃q,q<=(X.noff+4)*(max s.a.t.toNat s.b.t.toNat+4*s.delay.toNat+12)+800/\q<=10737/\((X.step [⟨4,0,0,[]⟩]).drain q).Quiet:=by
 obtain ⟨e1,e2⟩:=not_late hlate
 obtain ⟨h1,h2',h3,h4,h5,h6,h7,h8,h9,h10,h11,h12⟩:=hs
 have hT:max s.a.t.toNat s.b.t.toNat<=40:=Nat.max_le.2 ⟨by omega,by omega⟩
 have hD:s.delay.toNat<=6:=by omega
 refine ⟨202+7*s.delay.toNat+(X.noff+1)*(max s.a.t.toNat s.b.t.toNat+1)+X.noff*(4*s.delay.toNat+2),q_room _ _ _,q_small (Nat.le_trans ht.n hn) hT hD,?_⟩
 refine mend_quiet (L:=s.lk) k hX h2 hN ht hn ?_ rfl rfl hD e2 e1 (by show 2<=s.a.d.toNat;omega) (by show 2<=s.b.d.toNat;omega) (Nat.le_max_left ..) (Nat.le_max_right ..) hT
 show s.a.cfg.rooms.length=s.b.cfg.rooms.length
 unfold RCfg.cfg
 rw [List.length_map,List.length_map];exact hroom
theorem set_len {s:RSet} {X:Lk} (k:s.lk.Kin X) (hroom:s.a.rooms.length=s.b.rooms.length):X.l.prt.rooms.length=s.a.rooms.length/\X.r.prt.rooms.length=s.a.rooms.length:=by
 refine ⟨by rw [k.rl];show s.a.cfg.rooms.length=_;unfold RCfg.cfg;rw [List.length_map],?_⟩
 rw [k.rr]
 show s.b.cfg.rooms.length=_
 unfold RCfg.cfg
 rw [List.length_map];exact hroom.symm
end
end Go.Proofs.YtckdblgobmofgaaGreatDoor
