/- A link without events: both ports are up after 2 cB + 2 cC, and it is quiet as long as they are. No program in sight. -/
import Derived.Test.YtcbnhebiagdbiaaGreatDoorPkL1
import Derived.Test.YtcbnhebiagdbiaaGreatDoorPkI1
namespace Go.Proofs.YtcbnhebiagdbiaaGreatDoor
set_option maxHeartbeats 64000000
section
theorem Both.front2 {a b:Prt} {wa wb:List Way} {oa ga ob gb:Nat->List dV} {da db:Nat->Nat} (h:Both a b wa wb oa ga ob gb da db) (hd:∀c,da c=0) (c:Nat):gb c++b.aY.getD c [] <+: oa c:=by
 obtain ⟨hA,tA,hB,tB,⟨d1,c1⟩,_⟩:=h
 obtain ⟨E,P,g1,g2,g3,g4⟩:=c1 c
 rw [hd c] at g3 g4
 by_cases hl:Lkd a b
 ·obtain ⟨P0,q1,q2,q3⟩:=g3 hl
  obtain rfl:P0=[]:=List.length_eq_zero_iff.1 (by omega)
  obtain rfl:E=[]:=List.sublist_nil.1 q2
  have hk:=(d1.lnk hl.1 hl.2).cT
  have e:oa c=frm c hA++a.aX.getD c []:=by rw [g2,q1,hk,<-cG c hA a.snd.aG];simp only [List.nil_append,List.append_assoc]
  rw [g1,e,<-cG c hA b.rcv,List.nil_append,List.append_assoc]
  exact List.prefix_append _ _
 ·obtain ⟨q1,q2,_⟩:=g4 hl
  obtain rfl:P=[]:=List.length_eq_zero_iff.1 (by omega)
  have q3:E++frm c hA=[]:=List.sublist_nil.1 q1
  have q4:E=[]/\frm c hA=[]:=List.append_eq_nil_iff.1 q3
  have q5:frm c (hA.take b.rcv)=[]:=by
   have:=cG c hA b.rcv
   rw [q4.2] at this
   exact (List.append_eq_nil_iff.1 this).1
  rw [q4.1,q5] at g1
  rw [g1]
  exact List.nil_prefix
structure Lk.Bare (L:Lk):Prop where
 ol:∀c,L.l.aV.getD c []=[]
 or':∀c,L.r.aV.getD c []=[]
 sl:∀c,L.l.aE.getD c 0=0
 sr:∀c,L.r.aE.getD c 0=0
theorem bare_quiet {L:Lk} {N:Nat} (h:L.Full N True) (b:L.Bare):L.Quiet↔(L.l.prt.cS.state=2/\L.r.prt.cS.state=2):=by
 obtain ⟨wl,wr,oa,ga,pa,ob,gb,pb,da,db,i,k1,k2,z⟩:=h
 obtain ⟨z1,z2,z3,z4⟩:=z trivial
 have e1:∀c,L.r.prt.aY.getD c []=[]:=fun c=>by
  have:=i.both.front2 z3 c
  rw [<-k1.off,b.ol] at this
  exact (List.append_eq_nil_iff.1 (List.prefix_nil.1 this)).2
 have e2:∀c,L.l.prt.aY.getD c []=[]:=fun c=>by
  have:=i.both.swap.front2 z4 c
  rw [<-k2.off,b.or'] at this
  exact (List.append_eq_nil_iff.1 (List.prefix_nil.1 this)).2
 exact ⟨fun q=>⟨q.1.1,q.2.1⟩,fun q=>⟨⟨q.1,fun c _=>⟨e2 c,by rw [b.sl];exact Nat.zero_le _⟩⟩,⟨q.2,fun c _=>⟨e1 c,by rw [b.sr];exact Nat.zero_le _⟩⟩⟩⟩
def Lk.idle (L:Lk):Nat->Lk
 |0=>L
 |n+1=>(L.idle n).step []
theorem Lk.Bare.cR {L:Lk} (h:L.Bare):L.cR.Bare:=by
 obtain ⟨h1,h2,h3,h4⟩:=tick_since L
 exact ⟨fun c=>by rw [h3];exact h.ol c,fun c=>by rw [h4];exact h.or' c,fun c=>by rw [h1];exact h.sl c,fun c=>by rw [h2];exact h.sr c⟩
theorem idle_bare {L:Lk} (h:L.Bare):∀n,(L.idle n).Bare
 |0=>h
 |n+1=>(idle_bare h n).cR
theorem getD_zeros (n c:Nat):(List.replicate n (0:Nat)).getD c 0=0:=by
 unfold List.getD
 rw [List.getElem?_replicate]
 split <;> rfl
theorem newLk_bare (a b:Cfg) (d:Nat) (there back:List Flt):(newLk a b d there back).Bare:=
 ⟨fun c=>getD_nils _ c,fun c=>getD_nils _ c,fun c=>getD_zeros _ c,fun c=>getD_zeros _ c⟩
theorem idle_full {L:Lk} {N:Nat} (h:L.Full N True):∀n,(L.idle n).Full (N+13000*n) True
 |0=>h
 |n+1=>((idle_full h n).cR).mono (by rw [Nat.mul_succ,Nat.add_assoc];exact Nat.le_refl _) id
theorem Lk.Clean.idle {L:Lk} {s:Qst} {D N:Nat} {pa pb:Nat->List dV} {da db:Nat->Nat} (h:L.Clean s D N pa pb da db) (hc:L.Calm D) (hf:L.FineL) (hs:s.Small) :
  ∀n,N+13000*n<=1000000000->(L.idle n).Clean (s.run id id n) D (N+13000*n) pa pb da db/\(L.idle n).Calm D/\(L.idle n).FineL/\(s.run id id n).Small
 |0,_=>⟨h,hc,hf,hs⟩
 |n+1,hN=>by
  obtain ⟨M,hM⟩:∃M,M=N+13000*n:=⟨_,rfl⟩
  have hN':M+13000<=1000000000:=by rw [hM,Nat.add_assoc,<-Nat.mul_succ];exact hN
  clear hN
  obtain ⟨h1,h2,h3,h4⟩:=h.idle hc hf hs n (by rw [<-hM];exact Nat.le_trans (Nat.le_add_right _ _) hN')
  rw [<-hM] at h1
  obtain ⟨k1,k2⟩:=h1.cR h2 h3 h4 hN'
  have e:M+13000=N+13000*(n+1):=by rw [hM,Nat.mul_succ,Nat.add_assoc]
  rw [<-e]
  exact ⟨k1,h2.cR,h3.cR,k2⟩
theorem newLk_clean {a b:Cfg} (ha:a.Ok) (hb:b.Ok) {d:Nat} (d1:1<=d) (d6:d<=6):∃pa pb da db,(newLk a b d [] []).Clean ⟨dG a.inc a.aZ a.w a.t a.d,dG b.inc b.aZ b.w b.t b.d,List.replicate d [],List.replicate d []⟩ d 200 pa pb da db/\(newLk a b d [] []).Calm d/\(newLk a b d [] []).FineL:=by
 refine ⟨fun _=>[],fun _=>[],fun _=>0,fun _=>0,⟨rfl,rfl,List.length_replicate ..,List.length_replicate ..,fun _=>[],fun _=>[],fun _=>[],fun _=>[],?_,newLnd_book a d [],newLnd_book b d []⟩,⟨d6,rfl,rfl,rfl,rfl⟩,⟨fun k _=>rfl,fun k _=>rfl⟩⟩
 dsimp only
 rw [dueQ_nils,dueQ_nils]
 exact ⟨newLnd_inv ha d1 (by omega) rfl (by decide),newLnd_inv hb d1 (by omega) rfl (by decide),both_new ha.i1 hb.i1 _ _ _ _ _ _ _ _,⟨List.replicate d [],List.length_replicate ..,(dueQ_nils _ _).symm⟩,⟨List.replicate d [],List.length_replicate ..,(dueQ_nils _ _).symm⟩,kno_new _ _ _ _ _ _ _ _ _ _⟩
theorem wayz_nils:∀n:Nat,wayz (List.replicate n ([]:List (Option Way)))=[]
 |0=>rfl
 |n+1=>by
  show ([]:List Way)++wayz (List.replicate n [])=[]
  rw [wayz_nils n];rfl
theorem newLk_up {a b:Cfg} (ha:a.Ok) (hb:b.Ok) {d:Nat} (d1:1<=d) (d6:d<=6) (ka:2<=a.d) (kb:2<=b.d) {n:Nat} (h1:2*d+1<=n) (h2:n<=60) :
  ((newLk a b d [] []).idle n).l.prt.cS.state=2/\((newLk a b d [] []).idle n).r.prt.cS.state=2:=by
 obtain ⟨pa,pb,da,db,hcl,hca,hfi⟩:=newLk_clean ha hb d1 d6
 obtain ⟨s,hs⟩:∃s:Qst,s=⟨dG a.inc a.aZ a.w a.t a.d,dG b.inc b.aZ b.w b.t b.d,List.replicate d [],List.replicate d []⟩:=⟨_,rfl⟩
 have hsm:s.Small:=by
  rw [hs]
  exact ⟨fun q hq=>by rw [(List.mem_replicate.1 hq).2];exact Nat.zero_le _,fun q hq=>by rw [(List.mem_replicate.1 hq).2];exact Nat.zero_le _⟩
 have okA:dG a.inc a.aZ a.w a.t a.d |>.Ok 200:=newPrt_ok ha.n1 ha.n4 ha.rm ha.i1 ha.i2 ha.w1 ha.w2 ha.t1 ha.t2 ha.d1 ha.d2
 have okB:dG b.inc b.aZ b.w b.t b.d |>.Ok 200:=newPrt_ok hb.n1 hb.n4 hb.rm hb.i1 hb.i2 hb.w1 hb.w2 hb.t1 hb.t2 hb.d1 hb.d2
 have g:Go d (fun n=>(s.run id id n).a) (fun n=>(s.run id id n).b) (fun n=>bat (s.run id id n).qa) (fun n=>bat (s.run id id n).qb):=by
  have e1:wayz s.qa=[]:=by rw [hs];exact wayz_nils d
  have e2:wayz s.qb=[]:=by rw [hs];exact wayz_nils d
  refine Qst.go (fun p=>.refl) (fun p=>.refl) (by rw [hs];exact List.length_replicate ..) (by rw [hs];exact List.length_replicate ..) d1 ⟨200,by rw [hs];exact okA⟩ ⟨200,by rw [hs];exact okB⟩ (by rw [hs];rfl) (by rw [hs];rfl) (by rw [e1];intro v hv;cases hv) (by rw [e2];intro v hv;cases hv) ?_
  rw [e1,e2,hs]
  exact ⟨_,_,_,_,_,_,both_new ha.i1 hb.i1 _ _ _ _ _ _ _ _⟩
 rw [<-hs] at hcl
 obtain ⟨m,rfl⟩:∃m,n=m+1:=⟨n - 1,by omega⟩
 obtain ⟨h3,_⟩:=hcl.idle hca hfi hsm (m+1) (by omega)
 have sd:((fun n=>(s.run id id n).a) 0).cS.dead=a.d:=by show s.a.cS.dead=_;rw [hs];rfl
 have se:((fun n=>(s.run id id n).b) 0).cS.dead=b.d:=by show s.b.cS.dead=_;rw [hs];rfl
 have y1:=(g.up_from (n:=m) (by rw [sd];exact ka) (by omega) (by rw [se];exact kb)).1
 have y2:=(g.swap.up_from (n:=m) (by rw [se];exact kb) (by omega) (by rw [sd];exact ka)).1
 exact ⟨by rw [h3.a];exact y1,by rw [h3.b];exact y2⟩
end
end Go.Proofs.YtcbnhebiagdbiaaGreatDoor
