/- Taking everything that a link holds, by events: plain. -/
import Derived.Test.YtckdblgobmofgaaGreatDoorLsK
import Derived.Test.YtckdblgobmofgaaGreatDoorPkP2
namespace Go.Proofs.YtckdblgobmofgaaGreatDoor
section
def tev (n c:Nat):Evt:=⟨2,(n:Int),(c:Int),[]⟩
def evs (n:Nat) (x:Lnd) (k:Nat):List Evt:=((List.range k).map fun c=>List.replicate (x.prt.buffer.getD c []).length (tev n c)).flatten
theorem evs_succ (n:Nat) (x:Lnd) (k:Nat):evs n x (k+1)=evs n x k++List.replicate (x.prt.buffer.getD k []).length (tev n k):=by
 unfold evs
 rw [List.range_succ,List.map_append,List.flatten_append]
 simp
def drainEvs (Y:Lk) (R:Nat):Nat->List Evt
 |0=>[]
 |n+1=>drainEvs Y R n++evs n (Y.nd n) R
theorem evs_all (n:Nat) (x:Lnd):evs n x x.prt.rooms.length=x.prt.all.map (tev n):=by
 unfold evs Prt.all
 rw [List.map_flatten,List.map_map]
 congr 1
 refine List.map_congr_left fun c _=>?_
 show _=(List.replicate _ c).map (tev n)
 rw [List.map_replicate]
theorem acts_app:∀(a b:List Evt) (L:Lk),(L.acts (a++b)).2=((L.acts a).2.acts b).2
 |[],_,_=>rfl
 |e::a,b,L=>acts_app a b (L.act e).2
theorem act_tev0 (L:Lk) (c:Nat):(L.act (tev 0 c)).2=⟨(L.l.take (c:Int)).2,L.r⟩:=rfl
theorem act_tev1 (L:Lk) (c:Nat):(L.act (tev 1 c)).2=⟨L.l,(L.r.take (c:Int)).2⟩:=rfl
theorem acts_tev0:∀(cs:List Nat) (L:Lk),(L.acts (cs.map (tev 0))).2=⟨L.l.takes cs,L.r⟩
 |[],_=>rfl
 |c::cs,L=>by
  show ((L.act (tev 0 c)).2.acts (cs.map (tev 0))).2=_
  rw [act_tev0,acts_tev0 cs]
  rfl
theorem acts_tev1:∀(cs:List Nat) (L:Lk),(L.acts (cs.map (tev 1))).2=⟨L.l,L.r.takes cs⟩
 |[],_=>rfl
 |c::cs,L=>by
  show ((L.act (tev 1 c)).2.acts (cs.map (tev 1))).2=_
  rw [act_tev1,acts_tev1 cs]
  rfl
theorem drain_step {Y:Lk} {R:Nat} (hl:Y.l.prt.rooms.length=R) (hr:Y.r.prt.rooms.length=R):Y.step (drainEvs Y R 2)=Y.empty.tick:=by
 have e0:evs 0 (Y.nd 0) R=Y.l.prt.all.map (tev 0):=by rw [<-hl];exact evs_all 0 Y.l
 have e1:evs 1 (Y.nd 1) R=Y.r.prt.all.map (tev 1):=by rw [<-hr];exact evs_all 1 Y.r
 have e:drainEvs Y R 2=Y.l.prt.all.map (tev 0)++Y.r.prt.all.map (tev 1):=by
  show ([]++evs 0 (Y.nd 0) R)++evs 1 (Y.nd 1) R=_
  rw [e0,e1,List.nil_append]
 unfold Lk.step
 rw [e,acts_app,acts_tev0,acts_tev1]
 rfl
theorem evs_data (n:Nat) (x:Lnd) (k:Nat):∀e ∈ evs n x k,e.data=[]:=fun e he=>by
 unfold evs at he
 obtain ⟨l,hl,h⟩:=List.mem_flatten.1 he
 obtain ⟨c,_,rfl⟩:=List.mem_map.1 hl
 rw [List.eq_of_mem_replicate h];rfl
theorem drainEvs_data (Y:Lk) (R:Nat):∀n,∀e ∈ drainEvs Y R n,e.data=[]
 |0,_,h=>by cases h
 |n+1,e,h=>by
  rcases List.mem_append.1 h with h|h
  ·exact drainEvs_data Y R n e h
  ·exact evs_data n _ R e h
def mendEv:Evt:=⟨4,0,0,[]⟩
set_option maxRecDepth 100000 in
theorem drain_num_aux {N a b:Nat} (h:N+14000+(b+13256)<=160000000) (hab:a<=b):N+13065+a+65*512+13000<=170000000:=by omega
theorem drain_num (N q:Nat) (h:N+14000+13256*(q+1)<=160000000) {m:Nat} (hm:m<=q):N+13065+13256*m+65*512+13000<=170000000:=by
 rw [Nat.mul_succ] at h
 exact drain_num_aux h (Nat.mul_le_mul_left _ hm)
end
end Go.Proofs.YtckdblgobmofgaaGreatDoor
