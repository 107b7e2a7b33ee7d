/- Several texts in one: Two ports over a way that loses nothing: one direction is a flow (the law). No program in sight.; Two ports over a way that loses nothing: after a while both are up. No program in sight.; What a port counts: frames acknowledged, kept and waiting are all that were offered in its life; frames received are taken or in the buffer. No program in sight.; Two ports that are both up are in one session, whatever restarts there were. No program in sight.; The invariant of a link: what is under way between its ports. No program in sight.; The events of a link keep its invariant. No program in sight.; A link through events and ticks; what follows. No program in sight.; A new link, and whole runs of it. No program in sight.; Everything that a port of a link sends is a valid packet, and at most seven at a tick. No program in sight.; Two connected ports, in plain words: what is taken is a beginning of what was offered, and nothing overflows. No program in sight.; A pair of ports, nothing lost, everything taken: in the end everything has come. No program in sight.; A pair of ports, nothing lost, everything taken: both are up, nothing is kept, nothing waits, everything was taken. No program in sight.; A link in order, without faults: its ports make a run that loses nothing. No program in sight.; A link in order: what it sends arrives, tick by tick. No program in sight.; A link in order becomes quiet. No program in sight.; A link whose cables are mended and whose faults are over becomes quiet, and then everything has been taken. No program in sight.; A link with mended cables: after the last faults and a while it is quiet. No program in sight. -/
import Derived.Test.YtckdblgobmofgaaGreatDoorPkP1
namespace Go.Proofs.YtckdblgobmofgaaGreatDoor
section
theorem drop_facts (s:Snd) (k:Nat):(s.drop k).kept.length=s.kept.length - k/\(s.drop k).pos=s.pos - k/\((k=0->(s.drop k).timer=s.timer)/\(k≠0->(s.drop k).timer=0))/\(s.drop k).timeout=s.timeout:=by
 unfold Snd.drop
 split
 ·rename_i h;subst h;exact ⟨rfl,rfl,⟨fun _=>rfl,fun h=>absurd rfl h⟩,rfl⟩
 ·exact ⟨List.length_drop,rfl,⟨fun h=>by omega,fun _=>rfl⟩,rfl⟩
theorem raise_sent (t:Tak) (l:Int):(t.raise l).sent=t.sent:=by unfold Tak.raise;split <;> rfl
theorem getD_mem_rm {l:List Nat} (h:∀x ∈ l,1<=x/\x<=64) {c:Nat} (hc:c < l.length):1<=l.getD c 0:=by
 rw [List.getD,List.getElem?_eq_getElem hc]
 exact (h _ (List.getElem_mem hc)).1
section
variable {D:Nat} {a b:Nat->Prt} {Ba Bb:Nat->List Way}
theorem Go.step (g : Go D a b Ba Bb) (u : Up D a b Ba Bb 0) (n : Nat) : ∃ ch k1 p1 t1, k1 = (a n).snd.kept.length - ((a (n + 1)).snd.acked - (a n).snd.acked) ∧ p1 = (a n).snd.pos - ((a (n + 1)).snd.acked - (a n).snd.acked) ∧
    (((a (n + 1)).snd.acked = (a n).snd.acked → t1 = (a n).snd.timer) ∧ ((a (n + 1)).snd.acked ≠ (a n).snd.acked → t1 = 0)) ∧ (a (n + 1)).snd.kept.length = k1 + ch ∧ wt (a (n + 1)) + ch = wt (a n) ∧
    (ch = 0 ∧ ((a 0).window ≤ k1 ∨ ∀ c, c < (a 0).rooms.length → ((a n).waiting.getD c []).length = 0 ∨ ((a (n + 1)).tk c).limit ≤ ((a n).tk c).sent) ∧ (∀ c, ((a (n + 1)).tk c).sent = ((a n).tk c).sent) ∨ ch = 1) ∧
    (((a (n + 1)).snd.kept.length = 0 ∧ (a (n + 1)).snd.pos = p1 ∧ (a (n + 1)).snd.timer = t1 ∧ (b (n + D + 1)).rcv = (b (n + D)).rcv) ∨
     (0 < (a (n + 1)).snd.kept.length ∧ (a (n + 1)).snd.kept.length ≤ p1 ∧ t1 + 1 < (a 0).snd.timeout ∧ (a (n + 1)).snd.pos = p1 ∧ (a (n + 1)).snd.timer = t1 + 1 ∧ (b (n + D + 1)).rcv = (b (n + D)).rcv) ∨
     (0 < (a (n + 1)).snd.kept.length ∧ (a (n + 1)).snd.kept.length ≤ p1 ∧ (a 0).snd.timeout ≤ t1 + 1 ∧ (a (n + 1)).snd.pos = 1 ∧ (a (n + 1)).snd.timer = 0 ∧ ((b (n + D + 1)).rcv = (b (n + D)).rcv + 1 ∧ (a (n + 1)).snd.acked = (b (n + D)).rcv ∨ (b (n + D + 1)).rcv = (b (n + D)).rcv ∧ (a (n + 1)).snd.acked ≠ (b (n + D)).rcv)) ∨
     (p1 < (a (n + 1)).snd.kept.length ∧ (a (n + 1)).snd.pos = p1 + 1 ∧ (a (n + 1)).snd.timer = 0 ∧ ((b (n + D + 1)).rcv = (b (n + D)).rcv + 1 ∧ (a (n + 1)).snd.acked + p1 = (b (n + D)).rcv ∨ (b (n + D + 1)).rcv = (b (n + D)).rcv ∧ (a (n + 1)).snd.acked + p1 ≠ (b (n + D)).rcv))) := by
  have hD := g.hD
  obtain ⟨t, l, ds, ds', q, eB, eA, hds', hds, ht, htk, r1, r3, hA1, rK, hs, hr, ti, ts, Nq, okq⟩ := g.sender u n
  obtain ⟨t', l', dt, dt', p, eB2, eA2, hdt', hdt, ht2, htk2, r12, r32, hA12, rK2, hs2, hr2, ti2, ts2, _⟩ := g.swap.sender u.swap (n + D)
  obtain ⟨c1, c2, c3, c4, c5⟩ := g.const u n
  obtain ⟨d1, d2, d3, d4, d5⟩ := g.const u (n + D)
  obtain ⟨e1, e2, e3, e4, e5⟩ := g.swap.const u.swap n
  obtain ⟨f1, f2, f3, f4, f5⟩ := g.swap.const u.swap (n + D)
  rw [c1, c2, e1] at eA
  rw [d1, d2, f1] at eB2
  obtain ⟨rfl, rfl, _⟩ := upB_inj rfl (eA.symm.trans eB2)
  have hrcv : (b (n + D + 1)).rcv = ((b (n + D)).recvs ds').rcv := hr2.symm.trans ht2.rcv
  have A := g.at (n + D)
  have hup := g.up_all u (n + D)
  obtain ⟨oa, ga, ob, gb, da, db, hA, tA, hB, tB, ⟨w1, _⟩, _, _⟩ := A.both
  have hmem : ∀ y ∈ ds', (q.tag, y) ∈ ways Ba D (n + D) := fun y hy => ways_mem (j := 0) (by omega) _ (by
    rw [Nat.add_zero, eA]
    refine List.mem_map.2 ⟨y, ?_, rfl⟩
    unfold upB
    exact List.mem_cons_of_mem _ (List.mem_cons_of_mem _ (List.mem_append_right _ hy)))
  have hidx : ∀ (idx : Nat) (c : Int) (d : Bytes), ds' = [⟨2#8, c, ((idx % 256 : Nat) : Int), ((a n).inc : Int), d⟩] → idx < q.snd.acked + q.snd.sent → q.snd.acked + q.snd.sent ≤ idx + 128 →
      ((b (n + D + 1)).rcv = (b (n + D)).rcv + 1 ∧ idx = (b (n + D)).rcv) ∨ ((b (n + D + 1)).rcv = (b (n + D)).rcv ∧ idx ≠ (b (n + D)).rcv) := fun idx c d e h1 h2 => by
    rw [hrcv, e]
    obtain ⟨g1, g2, g3⟩ := w1.fly _ (hmem _ (by rw [e]; exact List.mem_cons_self ..)) (show q.inc = (b (n + D)).peer by rw [hup.lk.1, d1, ht.inc, c1]) (show q.peer = (b (n + D)).inc by rw [ht.peer, (g.up_all u n).lk.2, e1, f1])
    exact recv_index w1.rc g1 g2 (g3 rfl) rfl h1 h2
  have hnone : ds' = [] → (b (n + D + 1)).rcv = (b (n + D)).rcv := fun e => by rw [hrcv, e]; rfl
  obtain ⟨ch, tk, g1, g2, g3, g4, g5, g6⟩ := ht.send
  obtain ⟨N, ok⟩ := (g.at n).okA
  obtain ⟨k1, k2, k3, k4⟩ := drop_facts (a n).snd (t.r - (a n).snd.acked)
  have hac : ((a n).snd.drop (t.r - (a n).snd.acked)).acked = t.r := by rw [(drop_acked _ _ (by omega)).1]; omega
  have hwin := okq.snd.kept; have hw2 := okq.snd.w2; have hsk := okq.snd.sent
  rw [hA1]
  obtain ⟨s2, hs2'⟩ : ∃ s2 : Snd, s2 = { (a n).snd.drop (t.r - (a n).snd.acked) with kept := ((a n).snd.drop (t.r - (a n).snd.acked)).kept ++ ch.map (·.2) } := ⟨_, rfl⟩
  rw [← hs2'] at g4 g5
  have m1 : s2.kept.length = (a n).snd.kept.length - (t.r - (a n).snd.acked) + ch.length := by rw [hs2']; simp [k1]
  have m2 : s2.pos = (a n).snd.pos - (t.r - (a n).snd.acked) := by rw [hs2']; exact k2
  have m3 : (t.r = (a n).snd.acked → s2.timer = (a n).snd.timer) ∧ (t.r ≠ (a n).snd.acked → s2.timer = 0) := ⟨fun h => by rw [hs2']; exact k3.1 (by omega), fun h => by rw [hs2']; exact k3.2 (by omega)⟩
  have m4 : s2.timeout = (a 0).snd.timeout := by rw [hs2']; exact k4.trans c5
  have m5 : s2.acked = t.r := by rw [hs2']; exact hac
  have m6 : (a (n + 1)).snd.kept.length = s2.kept.length := by rw [← hs, g4, (tick_snd s2).2.2]
  have hea := htk.eq
  have hwt : wt (a (n + 1)) = wt q := by unfold wt; rw [hea]
  have htak : (a (n + 1)).tak = q.tak := by rw [hea]
  refine ⟨ch.length, _, _, s2.timer, rfl, rfl, m3, m6.trans m1, ?_, ?_, ?_⟩
  · rw [hwt]
    rcases g6 with ⟨rfl, x1, _⟩ | ⟨c, d, w, rfl, x1, x2, x3, _⟩
    · unfold wt; rw [x1]; rfl
    · unfold wt; rw [x3]; exact wt_set x2
  · rcases g6 with ⟨rfl, x1, x2, x3⟩ | ⟨c, d, w, rfl, _⟩
    · refine .inl ⟨rfl, ?_, fun c => ?_⟩
      · rcases x3 with x3 | x3
        · refine .inl ?_
          rw [c3, k1] at x3
          exact x3
        · refine .inr fun c hc => ?_
          have hc3 : c < (a n).rooms.length := by rw [c2]; exact hc
          rcases x3 c hc3 with h | this
          · exact .inl (by rw [h]; rfl)
          · refine .inr ?_
            unfold Prt.tk
            rw [htak, x2]
            refine Nat.le_trans this (Nat.le_of_eq ?_)
            rw [g2 c]
            split
            · exact raise_sent _ _
            · rfl
      · unfold Prt.tk
        rw [htak, x2, g2 c]
        split
        · exact raise_sent _ _
        · rfl
    · exact .inr rfl
  · rw [m6, ← hs, g4]
    rw [g4] at hidx hsk hwin hw2
    have hdat : ∀ (m : Nat) (d : Bytes), s2.tick.1 = some (m, d) → ∃ c : Nat, ds' = [⟨2#8, (c : Int), (m : Int), ((a n).inc : Int), d⟩] := fun m d e => by
      rcases g5 with ⟨e', _⟩ | ⟨m', d', c, e', e2⟩
      · rw [e] at e'; cases e'
      · rw [e] at e'
        simp only [Option.some.injEq, Prod.mk.injEq] at e'
        obtain ⟨rfl, rfl⟩ := e'
        exact ⟨c, e2⟩
    have hnon : s2.tick.1 = none → ds' = [] := fun e => by
      rcases g5 with ⟨_, e'⟩ | ⟨m', d', c, e', _⟩
      · exact e'
      · rw [e] at e'; cases e'
    rcases snd_tick4 s2 with ⟨x1, x2⟩ | ⟨x1, x2, x3, x4⟩ | ⟨x1, x2, x3, d, x4⟩ | ⟨x1, d, x4⟩
    · refine .inl ⟨x1, ?_, ?_, hnone (hnon (by rw [x2]))⟩
      · rw [x2]; exact m2
      · rw [x2]
    · refine .inr (.inl ⟨x1, by omega, by omega, ?_, ?_, hnone (hnon (by rw [x4]))⟩)
      · rw [x4]; exact m2
      · rw [x4]
    · obtain ⟨c, e⟩ := hdat _ _ (by rw [x4])
      rw [x4] at hidx hsk hwin hw2
      dsimp only at hidx hsk hwin hw2
      refine .inr (.inr (.inl ⟨x1, by omega, by omega, by rw [x4], by rw [x4], ?_⟩))
      have := hidx s2.acked c d e (by omega) (by omega)
      rwa [m5] at this
    · obtain ⟨c, e⟩ := hdat _ _ (by rw [x4])
      rw [x4] at hidx hsk hwin hw2
      dsimp only at hidx hsk hwin hw2
      refine .inr (.inr (.inr ⟨by omega, by rw [x4, ← m2], by rw [x4], ?_⟩))
      have := hidx (s2.acked + s2.pos) c d e (by omega) (by omega)
      rwa [m5, m2] at this
theorem Go.total (g:Go D a b Ba Bb) (u:Up D a b Ba Bb 0) (n:Nat):(a n).snd.acked+(a n).snd.kept.length+wt (a n)=(a 0).snd.acked+(a 0).snd.kept.length+wt (a 0):=by
 induction n with
 |zero=>rfl
 |succ n ih=>
  obtain ⟨ch,k1,p1,t1,e1,_,_,e4,e5,_⟩:=g.step u n
  obtain ⟨t,l,ds,ds',q,eB,eA,hds',hds,ht,htk,r1,r3,hA1,rK,_⟩:=g.sender u n
  clear e1 e4 e5
  obtain ⟨ch,k1,p1,t1,e1,-,-,e4,e5,-⟩:=g.step u n
  omega
theorem Go.flow0 (g:Go D a b Ba Bb) (u:Up D a b Ba Bb 0) (hr:(b 0).rooms.length=(a 0).rooms.length) (hM:(a 0).snd.acked+(a 0).snd.kept.length+wt (a 0)<=1000000000) :
  Flow0 D (a 0).snd.timeout (a 0).window (a 0).rooms.length (fun n=>(b n).rcv) (fun n=>(a n).snd.acked) (fun n=>(a n).snd.kept.length) (fun n=>(a n).snd.pos) (fun n=>(a n).snd.timer) (fun n=>wt (a n)) (fun n c=>((a n).tk c).sent) (fun n c=>((a n).tk c).limit)
   (fun n c=>((a n).waiting.getD c []).length) (fun n c=>((b n).gv c).freed) (fun n c=>((b n).gv c).received) (fun c=>(b 0).bs c) (fun c=>(b 0).rooms.getD c 0):=by
 have hhist:∀n,∃(hA:Hist) (tA:Nat),Rec (b n) hA tA/\Lnk (a n) (b n) hA tA/\hA.length=(a n).snd.acked+(a n).snd.kept.length:=fun n=>by
  obtain ⟨oa,ga,ob,gb,da,db,hA,tA,hB,tB,⟨w1,_⟩,_,_⟩:=(g.at n).both
  have hup:=g.up_all u n
  obtain ⟨N,ok⟩:=(g.at n).okA
  have hl:=w1.lnk hup.lk.1 hup.lk.2
  refine ⟨hA,tA,w1.rc,hl,?_⟩
  have h1:(a n).kept.length=(a n).snd.kept.length:=by rw [<-ok.kept,List.length_map]
  have h2:=congrArg List.length hl.kept
  rw [List.length_drop] at h2
  have h3:=hl.ack;have h4:=w1.rc.rt;have h5:=w1.rc.tl
  omega
 refine ⟨?_,?_,fun n=>?_,fun n=>?_,fun n=>?_,fun n=>?_,fun n=>?_,fun n=>?_,fun n=>g.step u n,fun n hn=>?_,fun n c hc=>?_,fun c hc=>?_,fun n c hc hR=>?_,fun n=>?_⟩
 ·obtain ⟨N,ok⟩:=g.okA
  exact ok.snd.t1
 ·obtain ⟨N,ok⟩:=g.okA
  exact ok.w1
 ·obtain ⟨t,l,ds,ds',q,eB,eA,hds',hds,ht,htk,r1,r3,hA1,rK,hs,hr,ti,ts,Nq,okq⟩:=g.swap.sender u.swap n
  show (b n).rcv<=(b (n+1)).rcv
  rw [<-hr,ht.rcv]
  rcases hds with rfl|⟨_,_,_,rfl⟩
  ·exact Nat.le_refl _
  ·show (b n).rcv<=((b n).receive _).rcv
   unfold Prt.receive
   split
   ·exact Nat.le_refl _
   ·dsimp only;split <;> exact Nat.le_succ _
 ·obtain ⟨t,l,ds,ds',q,eB,eA,hds',hds,ht,htk,r1,r3,hA1,rK,hs,hr,ti,ts,Nq,okq⟩:=g.sender u (n+D)
  obtain ⟨t2,l2,dt,dt',p,eB2,eA2,hdt',hdt,ht2,htk2,r12,r32,hA12,rK2,hs2,hr2,ti2,ts2,_⟩:=g.swap.sender u.swap n
  obtain ⟨c1,_⟩:=g.const u n
  obtain ⟨d1,_⟩:=g.const u (n+D)
  obtain ⟨e1,e2,_⟩:=g.swap.const u.swap n
  obtain ⟨f1,f2,_⟩:=g.swap.const u.swap (n+D)
  rw [c1,e1,e2] at eA2
  rw [d1,f1,f2] at eB
  obtain ⟨rfl,_,_⟩:=upB_inj rfl (eA2.symm.trans eB)
  show (b (n+1)).rcv<=(a (n+D+1)).snd.acked
  rw [hA1,<-hr2]
  exact Nat.le_refl _
 ·obtain ⟨hA,tA,h1,h2,h3⟩:=hhist n
  exact h2.ack
 ·obtain ⟨t,l,ds,ds',q,eB,eA,hds',hds,ht,htk,r1,r3,hA1,rK,hs,hr,ti,ts,Nq,okq⟩:=g.sender u n
  show (a n).snd.acked<=(a (n+1)).snd.acked/\(a (n+1)).snd.acked<=_
  rw [hA1]
  exact ⟨r1,rK⟩
 ·obtain ⟨N,ok⟩:=(g.at n).okA
  exact Nat.le_trans ok.snd.pos ok.snd.sent
 ·obtain ⟨N,ok⟩:=(g.at n).okA
  have:=ok.snd.timer
  have:=(g.const u n).2.2.2.2
  show (a n).snd.timer<=(a 0).snd.timeout
  omega
 ·obtain ⟨N,ok⟩:=(g.at n).okA
  obtain ⟨_,c2,_⟩:=g.const u n
  apply Classical.byContradiction
  intro hno
  have hz:wt (a n)=0:=wt_zero fun c hc=>by
   have hc':c < (a 0).rooms.length:=by rw [<-c2,<-ok.wl];exact hc
   exact List.eq_nil_of_length_eq_zero (Nat.le_zero.1 (Nat.le_of_not_lt fun h=>hno ⟨c,hc',h⟩))
  have hn:0 < wt (a n):=hn
  omega
 ·obtain ⟨t,l,ds,ds',q,eB,eA,hds',hds,ht,htk,r1,r3,hA1,rK,hs,hrr,ti,ts,Nq,okq⟩:=g.sender u (n+D)
  obtain ⟨t2,l2,dt,dt',p,eB2,eA2,hdt',hdt,ht2,htk2,r12,r32,hA12,rK2,hs2,hr2,ti2,ts2,_⟩:=g.swap.sender u.swap n
  obtain ⟨c1,c2,_⟩:=g.const u n
  obtain ⟨d1,d2,_⟩:=g.const u (n+D)
  obtain ⟨e1,e2,_,e4,_⟩:=g.swap.const u.swap n
  obtain ⟨f1,f2,_⟩:=g.swap.const u.swap (n+D)
  rw [c1,e1,e2] at eA2
  rw [d1,f1,f2] at eB
  obtain ⟨rfl,_,hl⟩:=upB_inj rfl (eA2.symm.trans eB)
  have hl:=hl c (by omega)
  obtain ⟨ch,tk,g1,g2,g3,g4,g5,g6⟩:=ht.send
  obtain ⟨hA,tA,w1,w2,w3⟩:=hhist n
  have hcr:c < (b n).rooms.length:=by rw [e2];omega
  have b1:=w1.room c;have b2:=w1.got c;have b3:=w1.rm c hcr;have b4:=w1.buf c hcr
  have b5:=cnt_take_le hA (b n).rcv c
  have b6:cnt hA c<=hA.length:=by unfold cnt;exact List.length_filter_le _ _
  have b7:=g.total u n
  have b8:(b n).rooms.getD c 0<=64:=by
   obtain ⟨N,ok⟩:=(g.at n).okB
   exact getD_all (P:=fun x:Nat=>x<=64) (fun x hx=>(ok.rm x hx).2) (Nat.zero_le _) c
  have hbs:(b n).bs c=(b 0).bs c:=by unfold Prt.bs;rw [e4]
  have hpb:p.bs c=(b 0).bs c:=by unfold Prt.bs;rw [ht2.base,e4]
  have hpg:(p.gv c).limit=(b n).rooms.getD c 0+((b n).gv c).freed:=by
   have q1:=recvs_gv hdt (b n) c
   show (p.giv.getD c ⟨0,0,0⟩).limit=_
   rw [ht2.giv]
   show ((b n).recvs dt |>.gv c).room+((b n).recvs dt |>.gv c).freed=_
   rw [q1.1,q1.2,b3]
  unfold Giv.limit at b1
  rw [hpb,hpg] at hl
  have hlim:(b 0).rooms.getD c 0+((b n).gv c).freed<=(b 0).bs c+((tk.getD c ⟨0,0⟩).limit):=by
   rw [g2 c,if_pos ⟨by rw [f2];omega,by rw [d2];exact hc⟩,<-hl]
   unfold Tak.raise
   rw [if_neg (by rw [e2] at *;omega)]
   dsimp only
   rw [e2] at *
   omega
  refine Nat.le_trans hlim (Nat.add_le_add_left ?_ _)
  show _<=((a (n+D+1)).tak.getD c ⟨0,0⟩).limit
  rw [show (a (n+D+1)).tak=q.tak by rw [htk.eq]]
  rcases g6 with ⟨_,_,x2,_⟩|⟨k,d,w,_,x1,_,_,x4,_⟩
  ·rw [x2];exact Nat.le_refl _
  ·rw [x4]
   obtain ⟨N,ok⟩:=(g.at (n+D)).okA
   rw [getD_set _ _ _ _ _ (by rw [g1,ok.tl];exact x1)]
   split
   ·rename_i e;subst e;exact Nat.le_refl _
   ·exact Nat.le_refl _
 ·obtain ⟨N,ok⟩:=g.okB
  exact getD_mem_rm ok.rm (by omega)
 ·obtain ⟨hA,tA,w1,w2,w3⟩:=hhist n
  have b2:=w1.got c
  have hR:(b n).rcv=(a n).snd.acked+(a n).snd.kept.length:=hR
  rw [List.take_of_length_le (by omega),<-w2.sent c] at b2
  obtain ⟨_,_,_,e4,_⟩:=g.swap.const u.swap n
  show ((b n).gv c).received=(b 0).bs c+((a n).tk c).sent
  rw [b2]
  unfold Prt.bs
  rw [e4]
 ·obtain ⟨hA,tA,w1,w2,w3⟩:=hhist n
  have h4:=w1.rt;have h5:=w1.tl
  show (b n).rcv<=(a n).snd.acked+(a n).snd.kept.length
  omega
theorem Go.flow (g:Go D a b Ba Bb) (u:Up D a b Ba Bb 0) (hr:(b 0).rooms.length=(a 0).rooms.length) (hM:(a 0).snd.acked+(a 0).snd.kept.length+wt (a 0)<=1000000000) (x:Nat)
  (hx:∀n c,c < (a 0).rooms.length->(b (n+x)).rcv=(b n).rcv->((b (n+x)).buffer.getD c [])=[]) :
  Flow D x (a 0).snd.timeout (a 0).window (a 0).rooms.length (fun n=>(b n).rcv) (fun n=>(a n).snd.acked) (fun n=>(a n).snd.kept.length) (fun n=>(a n).snd.pos) (fun n=>(a n).snd.timer) (fun n=>wt (a n)) (fun n c=>((a n).tk c).sent) (fun n c=>((a n).tk c).limit)
   (fun n c=>((a n).waiting.getD c []).length) (fun n c=>((b n).gv c).freed) (fun n c=>((b n).gv c).received) (fun c=>(b 0).bs c) (fun c=>(b 0).rooms.getD c 0):=by
 refine ⟨g.flow0 u hr hM,fun n c hc hR=>?_⟩
 obtain ⟨oa,ga,ob,gb,da,db,hA,tA,hB,tB,⟨w1,_⟩,_,_⟩:=(g.at (n+x)).both
 have:=w1.rc.buf c (by rw [(g.swap.const u.swap (n+x)).2.1];omega)
 rw [hx n c hc hR] at this
 exact this.symm
end
end

section
theorem handle_other {p:Prt} {y:Pt} (h:¬y.kind=1#8):(p.handle y).side=p.side/\(p.handle y).peer=p.peer/\(p.handle y).inc=p.inc:=by
 unfold Prt.handle
 rw [if_neg h]
 split
 ·exact ⟨rfl,rfl,rfl⟩
 ·split
  ·unfold Prt.receive;split
   ·exact ⟨rfl,rfl,rfl⟩
   ·dsimp only;split <;> exact ⟨rfl,rfl,rfl⟩
  ·split
   ·exact ⟨rfl,rfl,rfl⟩
   ·split
    ·unfold Prt.raise;split <;> exact ⟨rfl,rfl,rfl⟩
    ·exact ⟨rfl,rfl,rfl⟩
theorem handles_other:∀ {l:List Pt} {p:Prt},(∀y ∈ l,¬y.kind=1#8)->(l.foldl Prt.handle p).side=p.side/\(l.foldl Prt.handle p).peer=p.peer/\(l.foldl Prt.handle p).inc=p.inc
 |[],_,_=>⟨rfl,rfl,rfl⟩
 |y::l,p,h=>by
  obtain ⟨h1,h2,h3⟩:=handles_other (l:=l) (p:=p.handle y) fun z hz=>h z (List.mem_cons_of_mem _ hz)
  obtain ⟨k1,k2,k3⟩:=handle_other (p:=p) (h y (List.mem_cons_self ..))
  rw [List.foldl_cons]
  exact ⟨h1.trans k1,h2.trans k2,h3.trans k3⟩
def Greets (i:Nat) (v:Nat) (l:List Pt):Prop:=∃rest,l=⟨1#8,0,(i:Int),(v:Int),[]⟩::rest/\∀y ∈ rest,¬y.kind=1#8
theorem data_kind {i:Nat} {ds:List Pt} (h:IsData i ds):∀y ∈ ds,¬y.kind=1#8:=by
 rcases h with rfl|⟨c,n,d,rfl⟩
 ·intro y hy;cases hy
 ·intro y hy;rw [List.mem_singleton.1 hy];exact kk21
theorem upB_greets {i v r k:Nat} {l:Nat->Int} {ds:List Pt} (h:IsData i ds):Greets i v (upB i v r l k ds):=by
 refine ⟨_,rfl,fun y hy=>?_⟩
 rcases List.mem_cons.1 hy with rfl|hy
 ·exact kk31
 ·rcases List.mem_append.1 hy with hy|hy
  ·obtain ⟨c,_,rfl⟩:=List.mem_map.1 hy
   exact kk41
  ·exact data_kind h y hy
theorem tick_form_up {N:Nat} {a a1:Prt} {l:List Pt} (ok:a1.Ok N) (h:a1=l.foldl Prt.handle a) (hs:a1.side.tick.state=2) :
  (a.tick l).2.inc=a1.inc/\(a.tick l).2.peer=a1.peer/\(a.tick l).2.side=a1.side.tick/\∃(li:Nat->Int) (ds:List Pt),IsData a1.inc ds/\(a.tick l).1=upB a1.inc a1.side.tick.peer (a.tick l).2.rcv li a1.rooms.length ds:=by
 have hf:(Prt.choose { a1 with side:=a1.side.tick }).inc=a1.inc/\(Prt.choose { a1 with side:=a1.side.tick }).peer=a1.peer/\(Prt.choose { a1 with side:=a1.side.tick }).side=a1.side.tick/\(Prt.choose { a1 with side:=a1.side.tick }).rcv=a1.rcv:=by
  unfold Prt.choose
  split
  ·exact ⟨rfl,rfl,rfl,rfl⟩
  ·split <;> exact ⟨rfl,rfl,rfl,rfl⟩
 obtain ⟨f1,f2,f3,f4⟩:=hf
 rw [Prt.tick_up h hs]
 have hb:a1.base.length=a1.rooms.length:=ok.sl
 have e:∀ds:List Pt,a1.hail::a1.ackn::(List.range a1.base.length).map a1.cred++ds=upB a1.inc a1.side.tick.peer a1.rcv (fun c=>((a1.giv.getD c ⟨0,0,0⟩).limit:Int) - ((a1.base.getD c 0:Nat):Int)) a1.rooms.length ds:=fun ds=>by rw [hb];rfl
 generalize Prt.choose { a1 with side:=a1.side.tick }=q at f1 f2 f3 f4 ⊢
 rcases hq:q.snd.tick with ⟨o,s⟩
 cases o with
 |none=>exact ⟨f1,f2,f3,_,[],.inl rfl,by
   show a1.hail::a1.ackn::(List.range a1.base.length).map a1.cred=upB a1.inc a1.side.tick.peer q.rcv _ _ _
   rw [f4,<-e,List.append_nil]⟩
 |some nd=>
  obtain ⟨n,d⟩:=nd
  refine ⟨f1,f2,f3,fun c=>((a1.giv.getD c ⟨0,0,0⟩).limit:Int) - ((a1.base.getD c 0:Nat):Int),[⟨2#8,((Prt.classOf { q with snd:=s } n:Nat):Int),(n:Int),(q.inc:Int),d⟩],.inr ⟨((Prt.classOf { q with snd:=s } n:Nat):Int),(n:Int),d,by rw [f1]⟩,?_⟩
  show a1.hail::a1.ackn::(List.range a1.base.length).map a1.cred++_=upB a1.inc a1.side.tick.peer q.rcv _ _ _
  rw [f4,e]
  rfl
theorem tick_greets {N:Nat} {a:Prt} (ok:a.Ok N) (l:List Pt) (hl:∀y ∈ l,y.pay.length<=1000):Greets a.inc (a.tick l).2.side.peer (a.tick l).1:=by
 obtain ⟨a1,ha⟩:∃a1,a1=l.foldl Prt.handle a:=⟨_,rfl⟩
 have ok1:=ok.handles l hl
 have hi:=(handles_rooms l a).2
 rw [<-ha] at ok1 hi
 by_cases hs:a1.side.tick.state=2
 ·obtain ⟨f1,f2,f3,li,ds,f4,f5⟩:=tick_form_up ok1 ha hs
  rw [f5,f3,hi]
  exact upB_greets (by rw [<-hi];exact f4)
 ·rw [Prt.tick_down ha hs]
  exact ⟨[],by show [(⟨1#8,0,(a1.inc:Int),(a1.side.tick.peer:Int),[]⟩:Pt)]=_;rw [hi],fun y hy=>by cases hy⟩
theorem tick_greeted {N:Nat} {a:Prt} (ok:a.Ok N) (hm:a.Min) (hd:2<=a.side.dead) {i v:Nat} (h1:1<=i) (h2:i<=1099511627775) (hs:a.side.seen<=i) {l:List Pt} (hl:∀y ∈ l,y.pay.length<=1000) (hg:Greets i v l) :
  (a.tick l).2.side.peer=i/\(a.tick l).2.peer=i/\(a.tick l).2.side.state=(if v=a.inc then 2 else 1) /\
   (v=a.inc->∃(li:Nat->Int) (ds:List Pt),IsData a.inc ds/\(a.tick l).1=upB a.inc i (a.tick l).2.rcv li a.rooms.length ds):=by
 obtain ⟨rest,e,hr⟩:=hg
 obtain ⟨a1,ha⟩:∃a1,a1=l.foldl Prt.handle a:=⟨_,rfl⟩
 have ok1:=ok.handles l hl
 obtain ⟨r1,r2⟩:=handles_rooms l a
 rw [<-ha] at ok1 r1 r2
 have hm':a.side.mine=a.inc:=hm
 have e1:a.side.receive (i:Int) (v:Int)={ a.side with seen:=i,silent:=0,peer:=i,state:=if v=a.inc then 2 else 1 }:=by
  unfold Side.receive
  have e3:(if (v:Int)=(a.side.mine:Int) then 2 else 1)=if v=a.inc then 2 else 1:=by
   rw [hm']
   by_cases hv:v=a.inc
   ·rw [if_pos hv,if_pos (by rw [hv])]
   ·rw [if_neg hv,if_neg (by omega)]
  rw [if_neg (by omega),Int.toNat_natCast,e3]
 have hside:(a.handle ⟨1#8,0,(i:Int),(v:Int),[]⟩).side={ a.side with seen:=i,silent:=0,peer:=i,state:=if v=a.inc then 2 else 1 }/\(a.handle ⟨1#8,0,(i:Int),(v:Int),[]⟩).peer=i:=by
  unfold Prt.handle
  rw [if_pos rfl]
  unfold Prt.greet
  dsimp only
  rw [e1]
  by_cases hp:i≠0/\i≠a.peer
  ·rw [if_pos hp];exact ⟨rfl,rfl⟩
  ·rw [if_neg hp];exact ⟨rfl,by show a.peer=i;omega⟩
 obtain ⟨q1,q2,q3⟩:=handles_other (p:=a.handle ⟨1#8,0,(i:Int),(v:Int),[]⟩) hr
 have hA:a1.side={ a.side with seen:=i,silent:=0,peer:=i,state:=if v=a.inc then 2 else 1 }/\a1.peer=i:=by
  rw [ha,e,List.foldl_cons]
  exact ⟨q1.trans hside.1,q2.trans hside.2⟩
 have ht:a1.side.tick={ a.side with seen:=i,silent:=1,peer:=i,state:=if v=a.inc then 2 else 1 }:=by
  rw [hA.1]
  unfold Side.tick
  dsimp only
  rw [if_neg (by omega),if_neg (by omega)]
 by_cases hv:v=a.inc
 ·have hs2:a1.side.tick.state=2:=by rw [ht];exact if_pos hv
  obtain ⟨f1,f2,f3,li,ds,f4,f5⟩:=tick_form_up ok1 ha hs2
  refine ⟨by rw [f3,ht],f2.trans hA.2,by rw [f3,ht],fun _=>⟨li,ds,by rw [<-r2];exact f4,?_⟩⟩
  rw [f5,r2,r1,ht]
 ·have hs2:a1.side.tick.state≠2:=by rw [ht];dsimp only;rw [if_neg hv];decide
  rw [Prt.tick_down ha hs2]
  exact ⟨by show a1.side.tick.peer=i;rw [ht],hA.2,by show a1.side.tick.state=_;rw [ht],fun h=>absurd h hv⟩
section
variable {D:Nat} {a b:Nat->Prt} {Ba Bb:Nat->List Way}
theorem Go.shift (g:Go D a b Ba Bb) (m:Nat):Go D (fun n=>a (n+m)) (fun n=>b (n+m)) (fun n=>Ba (n+m)) (fun n=>Bb (n+m)):=by
 have A:=g.at m
 refine ⟨g.hD,fun n=>?_,fun n=>?_,fun n=>?_,fun n=>?_,by rw [Nat.zero_add];exact A.okA,by rw [Nat.zero_add];exact A.okB,by rw [Nat.zero_add];exact A.minA,by rw [Nat.zero_add];exact A.minB,fun j hj=>A.payA (j+m) (by omega),fun j hj=>A.payB (j+m) (by omega),?_⟩
 ·have:=g.ba (n+m)
  rwa [show n+m+D=n+D+m by omega] at this
 ·have:=g.bb (n+m)
  rwa [show n+m+D=n+D+m by omega] at this
 ·have:=g.na (n+m)
  rwa [show n+m+1=n+1+m by omega] at this
 ·have:=g.nb (n+m)
  rwa [show n+m+1=n+1+m by omega] at this
 ·have e:∀B:Nat->List Way,ways (fun n=>B (n+m)) D 0=ways B D m:=fun B=>by
   unfold ways
   congr 1
   refine List.map_congr_left fun j _=>?_
   show B (0+j+m)=B (m+j)
   rw [show 0+j+m=m+j by omega]
  rw [e,e,Nat.zero_add]
  exact A.both
theorem Go.kinds (g:Go D a b Ba Bb) (n:Nat):(a n).inc=(a 0).inc/\(a n).rooms=(a 0).rooms/\(a n).side.dead=(a 0).side.dead:=by
 induction n with
 |zero=>exact ⟨rfl,rfl,rfl⟩
 |succ n ih=>
  obtain ⟨h1,h2,h3⟩:=ih
  obtain ⟨k1,k2,_⟩:=tick_keeps (a n) ((Bb n).map (·.2))
  have k3:=tick_dead (a n) ((Bb n).map (·.2))
  rw [(g.na n).eq]
  exact ⟨k2.trans h1,k1.trans h2,k3.trans h3⟩
theorem Go.greets (g:Go D a b Ba Bb) (n:Nat):Greets (a 0).inc (a (n+1)).side.peer ((Ba (n+D)).map (·.2))/\∀y ∈ (Bb n).map (·.2),y.pay.length<=1000:=by
 have A:=g.at n
 obtain ⟨N,ok⟩:=A.okA
 have hp:∀y ∈ (Bb n).map (·.2),y.pay.length<=1000:=fun y hy=>by
  obtain ⟨p,hp,rfl⟩:=List.mem_map.1 hy
  have:=g.hD
  exact A.payB n (by omega) p hp
 have h:=tick_greets ok _ hp
 rw [(g.kinds n).1] at h
 have e:(Ba (n+D)).map (·.2)=((a n).tick ((Bb n).map (·.2))).1:=by rw [g.ba n,List.map_map];exact List.map_id _
 have es:(a (n+1)).side=((a n).tick ((Bb n).map (·.2))).2.side:=by rw [(g.na n).eq]
 rw [e,es]
 exact ⟨h,hp⟩
theorem Go.knows (g:Go D a b Ba Bb) (hd:2<=(a 0).side.dead) {n:Nat} (hn:D<=n):(a (n+1)).side.peer=(b 0).inc/\(a (n+1)).peer=(b 0).inc/\(a (n+1)).side.state=(if (b (n - D+1)).side.peer=(a 0).inc then 2 else 1) /\
  ((b (n - D+1)).side.peer=(a 0).inc->Bat (a 0).inc (b 0).inc (a 0).rooms.length (Ba (n+D))):=by
 obtain ⟨m,rfl⟩:∃m,n=m+D:=⟨n - D,by omega⟩
 rw [Nat.add_sub_cancel]
 obtain ⟨h1,_⟩:=g.swap.greets m
 have A:=g.at (m+D)
 obtain ⟨N,ok⟩:=A.okA
 obtain ⟨NB,okB⟩:=g.okB
 obtain ⟨oa,ga,ob,gb,da,db,hA,tA,hB,tB,⟨d1,_⟩,d2,_⟩:=A.both
 obtain ⟨c1,c2,c3⟩:=g.kinds (m+D)
 have e1:=(g.swap.kinds (m+D)).1
 have hs:=d2.sl
 rw [e1] at hs
 obtain ⟨q1,q2,q3,q4⟩:=tick_greeted ok A.minA (by rw [c3];exact hd) okB.i1 okB.i2 hs (g.greets (m+D)).2 h1
 have ea:=(g.na (m+D)).eq
 have es:(a (m+D+1)).side=((a (m+D)).tick ((Bb (m+D)).map (·.2))).2.side:=by rw [ea]
 have ep:(a (m+D+1)).peer=((a (m+D)).tick ((Bb (m+D)).map (·.2))).2.peer:=by rw [ea]
 rw [c1] at q3 q4
 refine ⟨by rw [es];exact q1,by rw [ep];exact q2,by rw [es];exact q3,fun hv=>?_⟩
 obtain ⟨li,ds,x1,x2⟩:=q4 hv
 rw [g.ba (m+D),x2,c2]
 refine ⟨_,li,ds,rfl,x1,?_,?_⟩
 ·show ((a (m+D)).tick ((Bb (m+D)).map (·.2))).2.inc=_
  rw [(tick_keeps _ _).2.1,c1]
 ·exact q2
theorem Go.up_from (g:Go D a b Ba Bb) (hd:2<=(a 0).side.dead) {n:Nat} (hn:2*D<=n) (hd2:2<=(b 0).side.dead):(a (n+1)).side.state=2/\Bat (a 0).inc (b 0).inc (a 0).rooms.length (Ba (n+D)):=by
 have h1:=(g.swap.knows hd2 (n:=n - D) (by omega)).1
 obtain ⟨_,_,h2,h3⟩:=g.knows hd (n:=n) (by have:=g.hD;omega)
 rw [if_pos h1] at h2
 exact ⟨h2,h3 h1⟩
theorem Go.up_at (g:Go D a b Ba Bb) (hd:2<=(a 0).side.dead) (hd2:2<=(b 0).side.dead) {n:Nat} (hn:3*D<=n):Up D a b Ba Bb n:=by
 have hD:=g.hD
 obtain ⟨c1,c2,c3⟩:=g.kinds n
 obtain ⟨e1,e2,e3⟩:=g.swap.kinds n
 obtain ⟨m,rfl⟩:∃m,n=m+1:=⟨n - 1,by omega⟩
 have k1:=(g.knows hd (n:=m) (by omega)).2.1
 have k2:=(g.swap.knows hd2 (n:=m) (by omega)).2.1
 refine ⟨⟨by rw [k2,c1],by rw [k1,e1]⟩,fun j hj=>?_,fun j hj=>?_,by rw [c3];exact hd,by rw [e3];exact hd2⟩
 ·rw [c1,e1,c2]
  have:=(g.up_from hd (n:=m+1+j - D) (by omega) hd2).2
  rwa [show m+1+j - D+D=m+1+j by omega] at this
 ·rw [c1,e1,e2]
  have:=(g.swap.up_from hd2 (n:=m+1+j - D) (by omega) hd).2
  rwa [show m+1+j - D+D=m+1+j by omega] at this
theorem Up.shift {n m:Nat} (u:Up D a b Ba Bb (n+m)):Up D (fun n=>a (n+m)) (fun n=>b (n+m)) (fun n=>Ba (n+m)) (fun n=>Bb (n+m)) n:=
 ⟨u.lk,fun j hj=>by have:=u.fa j hj;rwa [show n+m+j=n+j+m by omega] at this,fun j hj=>by have:=u.fb j hj;rwa [show n+m+j=n+j+m by omega] at this,u.dA,u.dB⟩
end
end

section
theorem tally_get:∀(ks:List (Nat × Bytes)) (l:List Nat) (c:Nat),(∀f ∈ ks,f.1 < l.length)->(tally l ks).getD c 0=l.getD c 0+cnt ks c
 |[],l,c,_=>by unfold tally cnt;simp
 |f::ks,l,c,h=>by
  have h0:=h f (List.mem_cons_self ..)
  show (tally (l.set f.1 (l.getD f.1 0+1)) ks).getD c 0=_
  rw [tally_get ks _ c fun g hg=>by rw [List.length_set];exact h g (List.mem_cons_of_mem _ hg),getD_set _ _ _ _ _ h0]
  have e:cnt (f::ks) c=cnt ks c+if f.1=c then 1 else 0:=by
   rw [show f::ks=[(f.1,f.2)]++ks from rfl,cnt_append,cnt_one,Nat.add_comm]
  rw [e]
  split
  ·rename_i e;subst e;omega
  ·omega
structure Prt.Cons (p:Prt) (m:Nat->Nat):Prop where
 off:∀c,c < p.rooms.length->p.acked.getD c 0+cnt p.kept c+(p.waiting.getD c []).length=m c
 got:∀c,c < p.rooms.length->p.received.getD c 0=p.taken.getD c 0+(p.buffer.getD c []).length
 tmo:p.snd.timeout=p.timeout
 dd:p.side.dead=p.dead
section
variable {N:Nat} {p:Prt} {m:Nat->Nat}
theorem again_len (ks:Hist) (c:Nat):((ks.filter fun f=>f.1 == c).map (·.2)).length=cnt ks c:=by rw [List.length_map];rfl
theorem Prt.Cons.begin (h:p.Cons m) (ok:p.Ok N) (i:Nat):(p.begin i).Cons m:=by
 refine ⟨fun c hc=>?_,h.got,rfl,h.dd⟩
 have h1:=h.off c hc
 show p.acked.getD c 0+cnt [] c+((p.begin i).waiting.getD c []).length=m c
 rw [begin_waiting (by rw [ok.wl];exact ok.kcl),List.length_append]
 have h2:(frm c p.kept).length=cnt p.kept c:=again_len p.kept c
 have h3:cnt [] c=0:=rfl
 omega
theorem Prt.Cons.side (h:p.Cons m) {s:Side} (hs:s.dead=p.side.dead):({ p with side:=s }:Prt).Cons m:=⟨h.off,h.got,h.tmo,hs.trans h.dd⟩
theorem side_ok {s:Side} (h:p.Ok N) (hs:s.Ok):({ p with side:=s }:Prt).Ok N:=⟨h.n1,h.n4,h.rm,h.i1,h.i2,h.w1,h.w2,h.t1,h.t2,h.d1,h.d2,hs,h.arb,h.wl,h.bl,h.tl,h.gl,h.sl,h.al,h.rl,h.kl,h.peer,h.snd,h.win,h.tot,h.rcv,h.kept,h.kcl,h.wsz,h.wln,h.bsz,h.bln,h.tak,h.giv,h.bas,h.acn,h.ren,h.tan,h.ovn⟩
theorem Prt.Cons.handle (h:p.Cons m) (ok:p.Ok N) (y:Pt):(p.handle y).Cons m:=by
 have hd:=handle_dead p y
 unfold Prt.handle at hd ⊢
 split
 ·unfold Prt.greet
  dsimp only
  have hr:(p.side.receive y.number y.value).dead=p.side.dead:=by unfold Side.receive;split <;> rfl
  split
  ·exact (h.side hr).begin (side_ok ok (ok.side.receive _ _)) _
  ·exact h.side hr
 ·split
  ·exact h
  ·split
   ·unfold Prt.receive
    split
    ·exact h
    ·rename_i hx
     dsimp only
     split
     ·exact ⟨h.off,h.got,h.tmo,h.dd⟩
     ·refine ⟨h.off,fun c hc=>?_,h.tmo,h.dd⟩
      have hh:0<=y.cls/\y.cls < p.rooms.length:=Decidable.byContradiction fun hn=>hx (.inl hn)
      have hc2:y.cls.toNat < p.rooms.length:=by omega
      show (p.received.set y.cls.toNat (p.received.getD y.cls.toNat 0+1)).getD c 0=p.taken.getD c 0+((p.buffer.set y.cls.toNat (p.buffer.getD y.cls.toNat []++[y.pay])).getD c []).length
      rw [getD_set _ _ _ _ _ (by rw [ok.rl];exact hc2),getD_set _ _ _ _ _ (by rw [ok.bl];exact hc2)]
      have:=h.got c hc
      split
      ·rename_i e;subst e
       rw [List.length_append,List.length_singleton];omega
      ·exact this
   ·split
    ·obtain ⟨k,hk,e⟩:=ack_step p y
     rw [e]
     refine ⟨fun c hc=>?_,h.got,?_,h.dd⟩
     ·show (tally p.acked (p.kept.take k)).getD c 0+cnt (p.kept.drop k) c+(p.waiting.getD c []).length=m c
      rw [tally_get _ _ _ fun f hf=>by rw [ok.al];exact ok.kcl f (List.mem_of_mem_take hf)]
      have h1:=h.off c hc
      have h2:cnt (p.kept.take k) c+cnt (p.kept.drop k) c=cnt p.kept c:=by rw [<-cnt_append,List.take_append_drop]
      omega
     ·show (p.snd.drop k).timeout=p.timeout
      rw [<-h.tmo];unfold Snd.drop;split <;> rfl
    ·split
     ·unfold Prt.raise
      split
      ·exact ⟨h.off,h.got,h.tmo,h.dd⟩
      ·exact h
     ·exact h
theorem Prt.Cons.handles:∀ {N:Nat} {p:Prt} (l:List Pt),p.Cons m->p.Ok N->(∀y ∈ l,y.pay.length<=1000)->(l.foldl Prt.handle p).Cons m
 |_,_,[],h,_,_=>h
 |_,_,y::l,h,ok,hl=>by
  rw [List.foldl_cons]
  exact Prt.Cons.handles l (h.handle ok y) (ok.handle y (hl y (List.mem_cons_self ..))) fun z hz=>hl z (List.mem_cons_of_mem _ hz)
theorem Prt.Cons.choose (h:p.Cons m) (ok:p.Ok N):p.choose.Cons m:=by
 rcases Prt.choose_eq ok with ⟨r,e⟩|⟨c,d,l,r,h1,h2,h3,h4,e⟩
 ·rw [e];exact ⟨h.off,h.got,h.tmo,h.dd⟩
 ·rw [e]
  refine ⟨fun k hk=>?_,h.got,h.tmo,h.dd⟩
  show p.acked.getD k 0+cnt (p.kept++[(c,d)]) k+((p.waiting.set c l).getD k []).length=m k
  rw [cnt_append,cnt_one,getD_set _ _ _ _ _ (by rw [ok.wl];exact h1)]
  have:=h.off k hk
  by_cases e:c=k
  ·subst e
   rw [if_pos rfl,if_pos rfl]
   rw [h2,List.length_cons] at this
   omega
  ·rw [if_neg e,if_neg e];omega
theorem Prt.Cons.tick (h:p.Cons m) (ok:p.Ok N) {l:List Pt} (hl:∀y ∈ l,y.pay.length<=1000):(p.tick l).2.Cons m:=by
 have ok1:=ok.handles l hl
 have h1:=Prt.Cons.handles l h ok hl
 obtain ⟨a,ha⟩:∃a,a=l.foldl Prt.handle p:=⟨_,rfl⟩
 rw [<-ha] at ok1 h1
 have hs:∀s:Side,s.tick.dead=s.dead:=fun s=>by unfold Side.tick;split;rfl;split <;> rfl
 have h2:({ a with side:=a.side.tick }:Prt).Cons m:=h1.side (hs _)
 by_cases hst:a.side.tick.state=2
 ·rw [Prt.tick_up ha hst]
  have h3:=h2.choose (show Prt.Ok (N+200*l.length) { a with side:=a.side.tick } from ok1.sideTick)
  generalize Prt.choose { a with side:=a.side.tick }=q at h3 ⊢
  have h4:∀s,q.snd.tick.2=s->({ q with snd:=s }:Prt).Cons m:=fun s e=>by
   refine ⟨h3.off,h3.got,?_,h3.dd⟩
   show s.timeout=q.timeout
   rw [<-e,<-h3.tmo]
   rcases snd_tick4 q.snd with ⟨_,e⟩|⟨_,_,_,e⟩|⟨_,_,_,_,e⟩|⟨_,_,e⟩ <;> rw [e]
  rcases hq:q.snd.tick with ⟨o,s⟩
  cases o with
  |none=>exact h4 s (by rw [hq])
  |some nd=>exact h4 s (by rw [hq])
 ·rw [Prt.tick_down ha hst]
  exact h2
theorem Prt.Cons.offer (h:p.Cons m) (ok:p.Ok N) {c:Nat} (hc:c < p.rooms.length) (d:Bytes):({ p with waiting:=p.waiting.set c (p.waiting.getD c []++[d]) }:Prt).Cons (fun k=>if k=c then m c+1 else m k):=by
 refine ⟨fun k hk=>?_,h.got,h.tmo,h.dd⟩
 show p.acked.getD k 0+cnt p.kept k+((p.waiting.set c (p.waiting.getD c []++[d])).getD k []).length=_
 rw [getD_set _ _ _ _ _ (by rw [ok.wl];exact hc)]
 have:=h.off k hk
 by_cases e:c=k
 ·subst e
  rw [if_pos rfl,if_pos rfl,List.length_append,List.length_singleton]
  omega
 ·rw [if_neg e,if_neg fun h=>e h.symm];exact this
theorem Prt.Cons.take (h:p.Cons m) (ok:p.Ok N) {c:Nat} (hc:c < p.rooms.length) {d:Bytes} {l:List Bytes} (hd:p.buffer.getD c []=d::l) :
  ({ p with buffer:=p.buffer.set c l,giv:=p.giv.set c (p.gv c).free,taken:=p.taken.set c (p.taken.getD c 0+1) }:Prt).Cons m:=by
 refine ⟨h.off,fun k hk=>?_,h.tmo,h.dd⟩
 show p.received.getD k 0=(p.taken.set c (p.taken.getD c 0+1)).getD k 0+((p.buffer.set c l).getD k []).length
 rw [getD_set _ _ _ _ _ (by rw [ok.kl];exact hc),getD_set _ _ _ _ _ (by rw [ok.bl];exact hc)]
 have:=h.got k hk
 split
 ·rename_i e;subst e
  rw [hd,List.length_cons] at this
  omega
 ·exact this
theorem new_cons (i:Nat) (rooms:List Nat) (wi ti de:Nat):(newPrt i rooms wi ti de).Cons fun _=>0:=by
 have hz:∀c,(List.replicate rooms.length 0).getD c 0=0:=fun c=>by
  rw [List.getD,List.getElem?_replicate]
  split <;> rfl
 refine ⟨fun c _=>?_,fun c _=>?_,rfl,rfl⟩
 ·rw [new_wait]
  show (List.replicate rooms.length 0).getD c 0+0+0=0
  rw [hz]
 ·rw [new_buf]
  show (List.replicate rooms.length 0).getD c 0=(List.replicate rooms.length 0).getD c 0+0
  rfl
theorem cnt_sum:∀(n:Nat) (ks:Hist),(∀f ∈ ks,f.1 < n)->((List.range n).map (cnt ks)).sum=ks.length
 |n,[],_=>by
  have:∀l:List Nat,(l.map (cnt [])).sum=0:=fun l=>by
   induction l with
   |nil=>rfl
   |cons x l ih=>rw [List.map_cons,List.sum_cons,ih];rfl
  exact this _
 |n,f::ks,h=>by
  have h0:=h f (List.mem_cons_self ..)
  have ih:=cnt_sum n ks fun g hg=>h g (List.mem_cons_of_mem _ hg)
  have e:∀c,cnt (f::ks) c=cnt ks c+if f.1=c then 1 else 0:=fun c=>by
   rw [show f::ks=[(f.1,f.2)]++ks from rfl,cnt_append,cnt_one,Nat.add_comm]
  have key:∀(n:Nat),((List.range n).map (cnt (f::ks))).sum=((List.range n).map (cnt ks)).sum+if f.1 < n then 1 else 0:=fun n=>by
   induction n with
   |zero=>rfl
   |succ n ih=>
    rw [List.range_succ,List.map_append,List.map_append,List.sum_append,List.sum_append,ih]
    show _+(cnt (f::ks) n+0)=_+(cnt ks n+0)+_
    rw [e n]
    by_cases h1:f.1 < n
    ·rw [if_pos h1,if_neg (by omega),if_pos (by omega)];omega
    ·rw [if_neg h1]
     by_cases h2:f.1=n
     ·rw [if_pos h2,if_pos (by omega)];omega
     ·rw [if_neg h2,if_neg (by omega)];omega
  rw [key,if_pos h0,ih,List.length_cons]
end
end

section
def Evid (a b:Prt) (wb:List Way):Prop:=(a.side.state=2/\a.side.peer < b.inc)\/∃p ∈ wb,p.1.i < b.inc/\p.1.s=a.inc
def Kno1 (a b:Prt) (wa wb:List Way):Prop:=Evid a b wb->(∀p ∈ wa,p.1.s=b.inc->p.1.i=a.inc)/\(b.side.state=2->b.side.peer=a.inc)
def Kno (a b:Prt) (wa wb:List Way):Prop:=Kno1 a b wa wb/\Kno1 b a wb wa
theorem Kno.swap {a b:Prt} {wa wb:List Way} (h:Kno a b wa wb):Kno b a wb wa:=⟨h.2,h.1⟩
theorem Kno.ways {a b:Prt} {wa wb wa' wb':List Way} (h:Kno a b wa wb) (ha:∀p ∈ wa',p ∈ wa) (hb:∀p ∈ wb',p ∈ wb):Kno a b wa' wb':=by
 refine ⟨fun e=>?_,fun e=>?_⟩
 ·obtain ⟨h1,h2⟩:=h.1 (e.imp id fun ⟨p,hp,x⟩=>⟨p,hb p hp,x⟩)
  exact ⟨fun p hp=>h1 p (ha p hp),h2⟩
 ·obtain ⟨h1,h2⟩:=h.2 (e.imp id fun ⟨p,hp,x⟩=>⟨p,ha p hp,x⟩)
  exact ⟨fun p hp=>h1 p (hb p hp),h2⟩
theorem Kno.side {a b a':Prt} {wa wb:List Way} (h:Kno a b wa wb) (hi:a'.inc=a.inc) (hs:a'.side.state=2->a.side.state=2/\a'.side.peer=a.side.peer):Kno a' b wa wb:=by
 refine ⟨fun e=>?_,fun e=>?_⟩
 ·rw [hi]
  refine h.1 (e.imp (fun ⟨x,y⟩=>?_) fun ⟨p,hp,x⟩=>⟨p,hp,by rw [<-hi];exact x⟩)
  obtain ⟨z1,z2⟩:=hs x
  exact ⟨z1,by rw [<-z2];exact y⟩
 ·have e':Evid b a wa:=e.imp (fun ⟨x,y⟩=>⟨x,by rw [<-hi];exact y⟩) fun ⟨p,hp,x,y⟩=>⟨p,hp,by rw [<-hi];exact x,y⟩
  obtain ⟨h1,h2⟩:=h.2 e'
  refine ⟨fun p hp=>by rw [hi];exact h1 p hp,fun x=>?_⟩
  obtain ⟨z1,z2⟩:=hs x
  rw [z2];exact h2 z1
theorem receive_side (p:Prt) (y:Pt):(p.receive y).side=p.side/\(p.receive y).inc=p.inc:=by
 unfold Prt.receive
 split
 ·exact ⟨rfl,rfl⟩
 ·dsimp only;split <;> exact ⟨rfl,rfl⟩
theorem handle_inc (p:Prt) (y:Pt):(p.handle y).inc=p.inc:=by
 unfold Prt.handle
 split
 ·unfold Prt.greet;dsimp only;split <;> rfl
 ·split
  ·rfl
  ·split
   ·exact (receive_side p y).2
   ·split
    ·rfl
    ·split
     ·unfold Prt.raise;split <;> rfl
     ·rfl
theorem handle_side (p:Prt) (y:Pt):(p.handle y).side=p.side\/(y.kind=1#8/\1<=y.number/\((p.handle y).side.peer:Int)=y.number/\((p.handle y).side.state=2->y.value=p.side.mine)):=by
 unfold Prt.handle
 split
 ·rename_i hk
  unfold Prt.greet
  dsimp only
  by_cases hx:y.number < 1\/1099511627775 < y.number\/y.number < p.side.seen
  ·have e:p.side.receive y.number y.value=p.side:=by unfold Side.receive;rw [if_pos hx]
   left
   rw [e]
   split <;> rfl
  ·have e:p.side.receive y.number y.value={ p.side with seen:=y.number.toNat,silent:=0,peer:=y.number.toNat,state:=if y.value=p.side.mine then 2 else 1 }:=by unfold Side.receive;rw [if_neg hx]
   right
   have hs:∀s:Side,s=p.side.receive y.number y.value->(s.peer:Int)=y.number/\(s.state=2->y.value=p.side.mine):=fun s hs=>by
    rw [hs,e]
    refine ⟨by show ((y.number.toNat:Nat):Int)=_;omega,fun h2=>?_⟩
    by_cases hv:y.value=p.side.mine
    ·exact hv
    ·have h2:(if y.value=(p.side.mine:Int) then 2 else 1)=2:=h2
     rw [if_neg hv] at h2;cases h2
   split
   ·exact ⟨hk,by omega,hs _ rfl⟩
   ·exact ⟨hk,by omega,hs _ rfl⟩
 ·left
  split
  ·rfl
  ·split
   ·exact (receive_side p y).1
   ·split
    ·rfl
    ·split
     ·unfold Prt.raise;split <;> rfl
     ·rfl
section
variable {N:Nat} {a b:Prt} {wa wb:List Way} {oa ga ob gb:Nat->List Bytes} {da db:Nat->Nat}
theorem Kno.handle {t:Tag} {y:Pt} (k:Kno a b wa ((t,y)::wb)) (h:Both a b wa ((t,y)::wb) oa ga ob gb da db):Kno (a.handle y) b wa wb:=by
 obtain ⟨hA,tA,hB,tB,⟨d1,_⟩,d2,_⟩:=h
 have hmem:(t,y) ∈ (t,y)::wb:=List.mem_cons_self ..
 have hi:=handle_inc a y
 have hmine:a.side.mine=a.inc:=d2.mine
 have hinc:1<=a.inc:=d2.inc
 rcases handle_side a y with hs|⟨hk,hn,hp,hst⟩
 ·exact (k.ways (fun _ hp=>hp) fun p hp=>List.mem_cons_of_mem _ hp).side hi fun x=>by rw [hs] at x ⊢;exact ⟨x,rfl⟩
 ·obtain ⟨f1,f2⟩:=(d2.fit _ hmem).num hk
  have hpi:(a.handle y).side.peer=t.i:=by
   have:((a.handle y).side.peer:Int)=(t.i:Int):=hp.trans f1
   omega
  have hts:(a.handle y).side.state=2->t.s=a.inc:=fun x=>by
   have h1:(t.v:Int)=(a.side.mine:Int):=f2.symm.trans (hst x)
   have h2:t.v=0\/t.v=t.s:=d2.vs _ hmem
   omega
  refine ⟨fun e=>?_,fun e=>?_⟩
  ·rw [hi]
   refine k.1 ?_
   rcases e with ⟨x,z⟩|⟨p,hp,x,z⟩
   ·exact .inr ⟨_,hmem,by show t.i < b.inc;rw [<-hpi];exact z,hts x⟩
   ·exact .inr ⟨p,List.mem_cons_of_mem _ hp,x,by rw [<-hi];exact z⟩
  ·have e':Evid b a wa:=e.imp (fun ⟨x,z⟩=>⟨x,by rw [<-hi];exact z⟩) fun ⟨p,hp,x,z⟩=>⟨p,hp,by rw [<-hi];exact x,z⟩
   obtain ⟨h1,h2⟩:=k.2 e'
   refine ⟨fun p hp=>by rw [hi];exact h1 p (List.mem_cons_of_mem _ hp),fun x=>?_⟩
   rw [hpi]
   exact h1 _ hmem (hts x)
theorem Kno.handles:∀ {N:Nat} {a:Prt} {wb:List Way} (l:List Way),(∀x ∈ l,x.2.pay.length<=1000)->Kno a b wa (l++wb)->Both a b wa (l++wb) oa ga ob gb da db->a.Ok N->b.inc<=1099511627775->Kno ((l.map (·.2)).foldl Prt.handle a) b wa wb
 |_,_,_,[],_,k,_,_,_=>k
 |_,_,_,(t,y)::l,hl,k,h,ok,okb=>by
  rw [List.map_cons,List.foldl_cons]
  exact Kno.handles l (fun x hx=>hl x (List.mem_cons_of_mem _ hx)) (Kno.handle k h) (Both.handle h ok okb) (ok.handle y (hl _ (List.mem_cons_self ..))) okb
theorem sideTick_up (s:Side) (h:s.tick.state=2):s.state=2/\s.tick.peer=s.peer:=by
 unfold Side.tick at h ⊢
 split
 ·rename_i h0;rw [if_pos h0] at h;exact ⟨h,rfl⟩
 ·rename_i h0
  rw [if_neg h0] at h
  split
  ·rename_i h1;rw [if_pos h1] at h;cases h
  ·rename_i h1;rw [if_neg h1] at h;exact ⟨h,rfl⟩
theorem Kno.emit (k:Kno a b wa wb):Kno (a.tick []).2 b (wa++(a.tick []).1.map fun y=>((a.tick []).2.tag,y)) wb:=by
 have hi:(a.tick []).2.inc=a.inc:=(tick_keeps a []).2.1
 have hs:(a.tick []).2.side=a.side.tick:=by
  have ha:a=([]:List Pt).foldl Prt.handle a:=rfl
  by_cases h:a.side.tick.state=2
  ·rw [Prt.tick_up ha h]
   have h2:=(choose_side { a with side:=a.side.tick }).1
   split <;> exact h2
  ·rw [Prt.tick_down ha h]
 have k':Kno (a.tick []).2 b wa wb:=k.side hi fun x=>by rw [hs] at x ⊢;exact sideTick_up _ x
 refine ⟨fun e=>?_,fun e=>?_⟩
 ·obtain ⟨h1,h2⟩:=k'.1 e
  refine ⟨fun p hp hps=>?_,h2⟩
  rcases List.mem_append.1 hp with hp|hp
  ·exact h1 p hp hps
  ·obtain ⟨y,_,rfl⟩:=List.mem_map.1 hp;rfl
 ·refine k'.2 (e.imp id fun ⟨p,hp,x,z⟩=>⟨p,?_,x,z⟩)
  rcases List.mem_append.1 hp with hp|hp
  ·exact hp
  ·obtain ⟨y,_,rfl⟩:=List.mem_map.1 hp
   exact absurd x (Nat.lt_irrefl _)
theorem Kno.tick {l:List Way} (k:Kno a b wa (l++wb)) (h:Both a b wa (l++wb) oa ga ob gb da db) (ok:a.Ok N) (okb:b.inc<=1099511627775) (hl:∀x ∈ l,x.2.pay.length<=1000) :
  Kno (a.tick (l.map (·.2))).2 b (wa++(a.tick (l.map (·.2))).1.map fun y=>((a.tick (l.map (·.2))).2.tag,y)) wb:=by
 rw [tick_emit]
 exact (Kno.handles l hl k h ok okb).emit
theorem Kno.restart (h:Both a b wa wb oa ga ob gb da db) {i:Nat} (hi:a.inc < i) (rooms:List Nat) (wi ti de:Nat):Kno (newPrt i rooms wi ti de) b wa wb:=by
 obtain ⟨hA,tA,hB,tB,⟨d1,_⟩,d2,_⟩:=h
 have hno:∀p ∈ wb,p.1.s≠i:=fun p hp e=>by have:=d2.si p hp;omega
 refine ⟨fun e=>?_,fun e=>⟨fun p hp e=>absurd e (hno p hp),fun x=>?_⟩⟩
 ·rcases e with ⟨x,_⟩|⟨p,hp,_,x⟩
  ·cases (show (0:Nat)=2 from x)
  ·exact absurd x (hno p hp)
 ·cases (show (0:Nat)=2 from x)
theorem kno_new (i j:Nat) (ra rb:List Nat) (wia tia dea wib tib deb:Nat):Kno (newPrt i ra wia tia dea) (newPrt j rb wib tib deb) [] []:=
 ⟨fun _=>⟨(fun p hp=>by cases hp),fun x=>by cases (show (0:Nat)=2 from x)⟩,fun _=>⟨(fun p hp=>by cases hp),fun x=>by cases (show (0:Nat)=2 from x)⟩⟩
theorem Kno.linked (k:Kno a b wa wb) (h:Both a b wa wb oa ga ob gb da db) (ha:a.side.state=2) (hb:b.side.state=2):Lkd a b:=by
 obtain ⟨hA,tA,hB,tB,⟨d1,_⟩,d2,_⟩:=h
 have u1:=(d1.up hb).1
 have u2:=(d2.up ha).1
 have p1:b.side.peer=b.peer:=by
  rcases d1.sp with x|x
  ·have:=d1.st.1 x;omega
  ·exact x
 have p2:a.side.peer=a.peer:=by
  rcases d2.sp with x|x
  ·have:=d2.st.1 x;omega
  ·exact x
 unfold Lx at u1 u2
 unfold Lkd
 have kb:a.side.peer < b.inc->b.side.peer=a.inc:=fun x=>(k.1 (.inl ⟨ha,x⟩)).2 hb
 have ka:b.side.peer < a.inc->a.side.peer=b.inc:=fun x=>(k.2 (.inl ⟨hb,x⟩)).2 ha
 have s1:=d1.sl;have s2:=d2.sl;have l1:=d1.pl;have l2:=d2.pl
 omega
end
end

section
def Lk.tick (L:Lk):Lk:=⟨L.l.tick.2.send L.r.tick.1,L.r.tick.2.send L.l.tick.1⟩
theorem Wire.good {fl:List (Nat × Byt)} {ws:List (Nat × Option Way)} (h:Wire fl ws):∀v ∈ held ws,Good v.2.pk:=by
 induction h with
 |nil=>intro v hv;cases hv
 |@cons x o fl ws n t _ ih=>
  intro v hv
  cases o with
  |none=>exact ih v hv
  |some u=>
   rcases List.mem_cons.1 (show v ∈ u::held ws from hv) with rfl|hv
   ·exact t.1
   ·exact ih v hv
def dueQ {α : Type}:Nat->List (List α)->List (Nat × α)
 |_,[]=>[]
 |T,q::qs=>(q.map fun o=>(T+1,o))++dueQ (T+1) qs
theorem dueQ_snoc {α : Type} (b:List α):∀(qs:List (List α)) (T:Nat),dueQ T (qs++[b])=dueQ T qs++b.map fun o=>(T+qs.length+1,o)
 |[],T=>by simp [dueQ]
 |q::qs,T=>by
  show (q.map fun o=>(T+1,o))++dueQ (T+1) (qs++[b])=_
  rw [dueQ_snoc b qs (T+1),List.length_cons,show T+1+qs.length+1=T+(qs.length+1)+1 by omega,<-List.append_assoc]
  rfl
theorem dueQ_nils {α : Type}:∀(n T:Nat),dueQ T (List.replicate n ([]:List α))=[]
 |0,_=>rfl
 |n+1,T=>by
  show ([]:List (Nat × α))++dueQ (T+1) (List.replicate n [])=[]
  rw [dueQ_nils n,List.nil_append]
theorem dueQ_late {α : Type}:∀(qs:List (List α)) (T:Nat),∀x ∈ dueQ T qs,T < x.1
 |[],_,x,h=>by cases h
 |q::qs,T,x,h=>by
  rcases List.mem_append.1 h with h|h
  ·obtain ⟨o,_,rfl⟩:=List.mem_map.1 h
   exact Nat.lt_succ_self T
  ·have:=dueQ_late qs (T+1) x h;omega
theorem dueQ_first {α : Type} (q:List α) (qs:List (List α)) (T:Nat):(dueQ T (q::qs)).takeWhile (fun x=>decide (x.1<=T+1))=q.map fun o=>(T+1,o):=by
 show ((q.map fun o=>(T+1,o))++dueQ (T+1) qs).takeWhile _=_
 rw [List.takeWhile_append_of_pos (fun x hx=>by obtain ⟨o,_,rfl⟩:=List.mem_map.1 hx;simp)]
 have h:=dueQ_late qs (T+1)
 cases hq:dueQ (T+1) qs with
 |nil=>simp
 |cons x l=>
  have:=h x (by rw [hq];exact List.mem_cons_self ..)
  rw [List.takeWhile_cons_of_neg (by simp;omega),List.append_nil]
theorem held_dueQ:∀(qs:List (List (Option Way))) (T:Nat),held (dueQ T qs)=(qs.map fun q=>q.filterMap id).flatten
 |[],_=>rfl
 |q::qs,T=>by
  show held ((q.map fun o=>(T+1,o))++dueQ (T+1) qs)=_
  rw [held_append,held_map,held_dueQ qs (T+1)]
  rfl
theorem dueQ_length {α : Type}:∀(qs:List (List α)) (T:Nat),(dueQ T qs).length=(qs.map List.length).sum
 |[],_=>rfl
 |q::qs,T=>by
  show ((q.map fun o=>(T+1,o))++dueQ (T+1) qs).length=_
  rw [List.length_append,dueQ_length qs (T+1),List.length_map]
  rfl
structure Lnd.Inv (x:Lnd) (N:Nat) (ws:List (Nat × Option Way)):Prop where
 ok:x.prt.Ok N
 cab:x.into.Ok
 wire:Wire x.into.flying ws
 out:x.sc.inside=false
 inc:x.prt.inc=x.inc
 cons:x.prt.Cons fun c=>x.since.getD c 0
 sl:x.since.length=x.prt.rooms.length
 tk:x.into.ticks<=N
 se:x.into.sent<=N
 lo:x.into.lost<=N
 bd:200*x.sc.bad<=N
 ob:∀l ∈ x.offered,l.length<=N
 tb:∀l ∈ x.taken,l.length<=N
 fb:x.into.faults.length<=1000
theorem Lnd.Inv.mono {x:Lnd} {N M:Nat} {ws:List (Nat × Option Way)} (h:x.Inv N ws) (hm:N<=M):x.Inv M ws:=
 ⟨h.ok.mono hm,h.cab,h.wire,h.out,h.inc,h.cons,h.sl,Nat.le_trans h.tk hm,Nat.le_trans h.se hm,Nat.le_trans h.lo hm,Nat.le_trans h.bd hm,fun l hl=>Nat.le_trans (h.ob l hl) hm,fun l hl=>Nat.le_trans (h.tb l hl) hm,h.fb⟩
def Lnd.Due (x:Lnd) (ws:List (Nat × Option Way)):Prop:=∃qs:List (List (Option Way)),qs.length=x.into.delay/\ws=dueQ x.into.ticks qs
theorem Lnd.send_ok:∀(ys:List Pt) {x:Lnd},x.into.Ok->(x.send ys).into.Ok
 |[],_,h=>h
 |y::ys,x,h=>by
  show ((x.send1 y).send ys).into.Ok
  refine Lnd.send_ok ys ?_
  unfold Lnd.send1
  split
  ·exact Cab.send_ok h _
  ·exact h
theorem Lnd.Inv.send {x:Lnd} {N:Nat} {ws vs:List (Nat × Option Way)} (h:x.Inv N ws) (ys:List Pt) (hw:Wire (x.send ys).into.flying vs):(x.send ys).Inv (N+ys.length) vs:=by
 have s:=x.send_same (ys:=ys)
 obtain ⟨k1,k2,k3,k4,k5,k6,k7⟩:=Lnd.send_keeps ys x
 have h1:=h.tk;have h2:=h.se;have h3:=h.lo;have h4:=h.bd
 exact ⟨by rw [s.prt];exact h.ok.mono (by omega),Lnd.send_ok ys h.cab,hw,by rw [s.sc];exact h.out,by rw [s.prt,s.inc];exact h.inc,by rw [s.prt,s.since];exact h.cons,by rw [s.prt,s.since];exact h.sl,by omega,by omega,by omega,by rw [s.sc];omega,by rw [s.offered];exact fun l hl=>Nat.le_trans (h.ob l hl) (Nat.le_add_right _ _),by rw [s.taken];exact fun l hl=>Nat.le_trans (h.tb l hl) (Nat.le_add_right _ _),by rw [k3];exact h.fb⟩
theorem tick_inc (p:Prt) (l:List Pt):(p.tick l).2.inc=p.inc:=by
 rw [tick_emit]
 have h2:=(handles_rooms l p).2
 generalize l.foldl Prt.handle p=q at h2
 rw [<-h2]
 by_cases hs:q.side.tick.state=2
 ·rw [Prt.tick_up (l:=[]) (a1:=q) (a:=q) rfl hs]
  have:=(choose_side { q with side:=q.side.tick }).2.1
  split <;> exact this
 ·rw [Prt.tick_down (l:=[]) (a1:=q) (a:=q) rfl hs]
theorem tick_rooms (p:Prt) (l:List Pt):(p.tick l).2.rooms=p.rooms:=by
 rw [tick_emit]
 have h2:=(handles_rooms l p).1
 generalize l.foldl Prt.handle p=q at h2
 rw [<-h2]
 by_cases hs:q.side.tick.state=2
 ·rw [Prt.tick_up (l:=[]) (a1:=q) (a:=q) rfl hs]
  have:=(choose_side { q with side:=q.side.tick }).2.2
  split <;> exact this
 ·rw [Prt.tick_down (l:=[]) (a1:=q) (a:=q) rfl hs]
theorem sent_few {N:Nat} {a:Prt} (ok:a.Ok N) (l:List Pt) (hl:∀y ∈ l,y.pay.length<=1000):(a.tick l).1.length<=7:=by
 obtain ⟨a1,ha⟩:∃a1,a1=l.foldl Prt.handle a:=⟨_,rfl⟩
 have ok1:=ok.handles l hl
 rw [<-ha] at ok1
 have h4:=ok1.n4;have h5:=ok1.sl
 by_cases hs:a1.side.tick.state=2
 ·rw [Prt.tick_up ha hs]
  have hlen:(a1.hail::a1.ackn::(List.range a1.base.length).map a1.cred).length<=6:=by
   simp only [List.length_cons,List.length_map,List.length_range];omega
  generalize Prt.choose { a1 with side:=a1.side.tick }=q
  generalize a1.hail::a1.ackn::(List.range a1.base.length).map a1.cred=sent at hlen ⊢
  rcases q.snd.tick with ⟨o,s⟩
  cases o with
  |none=>show sent.length<=7;omega
  |some nd=>obtain ⟨n,d⟩:=nd;show (sent++[_]).length<=7;rw [List.length_append];simp;omega
 ·rw [Prt.tick_down ha hs];simp
theorem Lnd.Inv.tick {x:Lnd} {N:Nat} {q:List (Option Way)} {qs:List (List (Option Way))} (h:x.Inv N (dueQ x.into.ticks (q::qs))) :
  q.length<=64/\x.tick.2.Inv (N+12900) (dueQ (x.into.ticks+1) qs)/\x.tick.1=(x.prt.tick ((q.filterMap id).map (·.2))).1/\x.tick.2.prt=(x.prt.tick ((q.filterMap id).map (·.2))).2/\∀v ∈ q.filterMap id,v.2.pay.length<=1000:=by
 obtain ⟨w1,s',h1,hb,h2⟩:=h.wire.tick h.out
 have ha:x.into.arrived.length=q.length:=by
  show (x.into.flying.takeWhile fun y=>decide (y.1<=x.into.ticks+1)).length=_
  rw [h.wire.due fun n=>decide (n<=x.into.ticks+1),dueQ_first,List.length_map]
 have hk:x.into.arrived.length<=64:=Nat.le_trans (List.takeWhile_prefix _).length_le h.cab.fly
 have e0:(dueQ x.into.ticks (q::qs)).take q.length=q.map fun o=>(x.into.ticks+1,o):=by
  show ((q.map fun o=>(x.into.ticks+1,o))++dueQ (x.into.ticks+1) qs).take q.length=_
  exact List.take_left' (by rw [List.length_map])
 have e3:(dueQ x.into.ticks (q::qs)).drop q.length=dueQ (x.into.ticks+1) qs:=by
  show ((q.map fun o=>(x.into.ticks+1,o))++dueQ (x.into.ticks+1) qs).drop q.length=_
  exact List.drop_left' (by rw [List.length_map])
 rw [ha] at w1 hb h2 hk
 rw [e3] at w1
 rw [e0,held_map] at h2
 have hp:(x.sc.scan x.into.tick.1.flatten).2.map Pk.pt=(q.filterMap id).map (·.2):=by
  rw [h2,List.map_map];rfl
 have hg:∀v ∈ q.filterMap id,v.2.pay.length<=1000:=fun v hv=>by
  have:=(h.wire.good v (by rw [held_dueQ];exact List.mem_flatten.2 ⟨_,List.mem_map.2 ⟨q,List.mem_cons_self ..,rfl⟩,hv⟩)).pay
  show v.2.pk.pay.length<=1000
  omega
 have e1:x.tick.1=(x.prt.tick ((q.filterMap id).map (·.2))).1:=by unfold Lnd.tick;dsimp only;rw [hp]
 have e2:x.tick.2.prt=(x.prt.tick ((q.filterMap id).map (·.2))).2:=by unfold Lnd.tick;dsimp only;rw [hp]
 have hn:(q.filterMap id).length<=64:=Nat.le_trans (List.length_filterMap_le ..) hk
 have hl:∀y ∈ (q.filterMap id).map (·.2),y.pay.length<=1000:=fun y hy=>by
  obtain ⟨v,hv,rfl⟩:=List.mem_map.1 hy
  exact hg v hv
 have t1:=h.tk;have t2:=h.se;have t3:=h.lo;have t4:=h.bd
 refine ⟨hk,⟨?_,Cab.tick_ok h.cab,w1,?_,?_,?_,?_,?_,?_,?_,?_,fun l hl=>Nat.le_trans (h.ob l hl) (Nat.le_add_right _ _),fun l hl=>Nat.le_trans (h.tb l hl) (Nat.le_add_right _ _),h.fb⟩,e1,e2,hg⟩
 ·rw [e2]
  exact (h.ok.tick hl).mono (by rw [List.length_map];omega)
 ·show (x.sc.scan x.into.tick.1.flatten).1.inside=false
  rw [h2];exact h1
 ·rw [e2,tick_inc];exact h.inc
 ·rw [e2];exact h.cons.tick h.ok hl
 ·rw [e2,tick_rooms];exact h.sl
 ·show x.into.ticks+1<=_;omega
 ·show x.into.sent<=_;omega
 ·show x.into.lost<=_;omega
 ·show 200*(x.sc.scan x.into.tick.1.flatten).1.bad<=_
  rw [h2];show 200*s'.bad<=_;omega
structure Lk.Inv (L:Lk) (N:Nat) (wl wr:List (Nat × Option Way)) (oa ga ob gb:Nat->List Bytes) (da db:Nat->Nat):Prop where
 l:L.l.Inv N wl
 r:L.r.Inv N wr
 both:Both L.l.prt L.r.prt (held wr) (held wl) oa ga ob gb da db
 dl:L.l.Due wl
 dr:L.r.Due wr
 kn:Kno L.l.prt L.r.prt (held wr) (held wl)
theorem Lk.Inv.swap {L:Lk} {N:Nat} {wl wr:List (Nat × Option Way)} {oa ga ob gb:Nat->List Bytes} {da db:Nat->Nat} (h:L.Inv N wl wr oa ga ob gb da db):(⟨L.r,L.l⟩:Lk).Inv N wr wl ob gb oa ga db da:=⟨h.r,h.l,h.both.swap,h.dr,h.dl,h.kn.swap⟩
theorem Lk.Inv.mono {L:Lk} {N M:Nat} {wl wr:List (Nat × Option Way)} {oa ga ob gb:Nat->List Bytes} {da db:Nat->Nat} (h:L.Inv N wl wr oa ga ob gb da db) (hm:N<=M):L.Inv M wl wr oa ga ob gb da db:=⟨h.l.mono hm,h.r.mono hm,h.both,h.dl,h.dr,h.kn⟩
theorem sub_sent {wa new:List Way} {ys:List Pt} {t:Tag} (hn:∀v ∈ new,∃y ∈ ys,v=(t,y)):∀p ∈ wa++new,p ∈ wa++ys.map fun y=>(t,y):=fun p hp=>by
 rcases List.mem_append.1 hp with hp|hp
 ·exact List.mem_append_left _ hp
 ·obtain ⟨y,hy,rfl⟩:=hn p hp
  exact List.mem_append_right _ (List.mem_map.2 ⟨y,hy,rfl⟩)
theorem Lk.Inv.tick {L:Lk} {N:Nat} {ql qr:List (Option Way)} {qsl qsr:List (List (Option Way))} {oa ga ob gb:Nat->List Bytes} {da db:Nat->Nat} (h:L.Inv N (dueQ L.l.into.ticks (ql::qsl)) (dueQ L.r.into.ticks (qr::qsr)) oa ga ob gb da db) (hl:qsl.length+1=L.l.into.delay) (hr:qsr.length+1=L.r.into.delay) {bl br:List (Option Way)}
  (w2:Wire L.tick.l.into.flying (dueQ (L.l.into.ticks+1) qsl++bl.map fun o=>(L.l.into.ticks+1+L.l.into.delay,o))) (q2:∀v ∈ bl.filterMap id,∃y ∈ L.r.tick.1,v=(L.r.tick.2.prt.tag,y))
  (w1:Wire L.tick.r.into.flying (dueQ (L.r.into.ticks+1) qsr++br.map fun o=>(L.r.into.ticks+1+L.r.into.delay,o))) (q1:∀v ∈ br.filterMap id,∃y ∈ L.l.tick.1,v=(L.l.tick.2.prt.tag,y)) :
  L.tick.Inv (N+13000) (dueQ L.tick.l.into.ticks (qsl++[bl])) (dueQ L.tick.r.into.ticks (qsr++[br])) oa ga ob gb da db:=by
 obtain ⟨hk,il,s1,p1,g1⟩:=h.l.tick
 obtain ⟨hm,ir,s2,p2,g2⟩:=h.r.tick
 have b:=h.both
 have k:=h.kn
 rw [held_dueQ,held_dueQ,List.map_cons,List.map_cons,List.flatten_cons,List.flatten_cons] at b k
 have b1:=b.tick h.l.ok h.r.ok.i2 g1
 have k1:=k.tick b h.l.ok h.r.ok.i2 g1
 rw [<-p1,<-s1] at b1 k1
 have b2:=(b1.sends q1).swap
 have k2:=(k1.ways (sub_sent q1) fun _ hp=>hp).swap
 rw [List.append_assoc] at b2 k2
 have b3:=b2.tick h.r.ok il.ok.i2 g2
 have k3:=k2.tick b2 h.r.ok il.ok.i2 g2
 rw [<-p2,<-s2] at b3 k3
 have b4:=(b3.sends q2).swap
 have k4:=(k3.ways (sub_sent q2) fun _ hp=>hp).swap
 have sl:=L.l.tick.2.send_same (ys:=L.r.tick.1)
 have sr:=L.r.tick.2.send_same (ys:=L.l.tick.1)
 have lenl:L.l.tick.1.length<=7:=by
  rw [s1];exact sent_few h.l.ok _ fun y hy=>by obtain ⟨v,hv,rfl⟩:=List.mem_map.1 hy;exact g1 v hv
 have lenr:L.r.tick.1.length<=7:=by
  rw [s2];exact sent_few h.r.ok _ fun y hy=>by obtain ⟨v,hv,rfl⟩:=List.mem_map.1 hy;exact g2 v hv
 obtain ⟨x1,x2,_⟩:=Lnd.send_keeps L.r.tick.1 L.l.tick.2
 obtain ⟨m1,m2,_⟩:=Lnd.send_keeps L.l.tick.1 L.r.tick.2
 have tl:L.tick.l.into.ticks=L.l.into.ticks+1:=x1
 have tr:L.tick.r.into.ticks=L.r.into.ticks+1:=m1
 have dl:L.tick.l.into.delay=L.l.into.delay:=x2
 have dr:L.tick.r.into.delay=L.r.into.delay:=m2
 have el:dueQ L.tick.l.into.ticks (qsl++[bl])=dueQ (L.l.into.ticks+1) qsl++bl.map fun o=>(L.l.into.ticks+1+L.l.into.delay,o):=by
  rw [tl,dueQ_snoc,show L.l.into.ticks+1+qsl.length+1=L.l.into.ticks+1+L.l.into.delay by omega]
 have er:dueQ L.tick.r.into.ticks (qsr++[br])=dueQ (L.r.into.ticks+1) qsr++br.map fun o=>(L.r.into.ticks+1+L.r.into.delay,o):=by
  rw [tr,dueQ_snoc,show L.r.into.ticks+1+qsr.length+1=L.r.into.ticks+1+L.r.into.delay by omega]
 refine ⟨?_,?_,?_,⟨qsl++[bl],by rw [dl,List.length_append];exact hl,rfl⟩,⟨qsr++[br],by rw [dr,List.length_append];exact hr,rfl⟩,?_⟩
 ·rw [el];exact (il.send _ w2).mono (by omega)
 ·rw [er];exact (ir.send _ w1).mono (by omega)
 ·show Both (L.l.tick.2.send L.r.tick.1).prt (L.r.tick.2.send L.l.tick.1).prt _ _ _ _ _ _ _ _
  rw [sl.prt,sr.prt,held_dueQ,held_dueQ,List.map_append,List.map_append,List.flatten_append,List.flatten_append,List.map_singleton,List.map_singleton,List.flatten_singleton,List.flatten_singleton]
  exact b4
 ·show Kno (L.l.tick.2.send L.r.tick.1).prt (L.r.tick.2.send L.l.tick.1).prt _ _
  rw [sl.prt,sr.prt,held_dueQ,held_dueQ,List.map_append,List.map_append,List.flatten_append,List.flatten_append,List.map_singleton,List.map_singleton,List.flatten_singleton,List.flatten_singleton]
  exact k4
theorem Lnd.Due.cons {x:Lnd} {ws:List (Nat × Option Way)} (h:x.Due ws) (d1:1<=x.into.delay):∃q qs,qs.length+1=x.into.delay/\ws=dueQ x.into.ticks (q::qs):=by
 obtain ⟨qs,h1,h2⟩:=h
 cases qs with
 |nil=>rw [List.length_nil] at h1;omega
 |cons q qs=>exact ⟨q,qs,by rw [<-h1,List.length_cons],h2⟩
theorem Lk.Inv.tick_any {L:Lk} {N:Nat} {wl wr:List (Nat × Option Way)} {oa ga ob gb:Nat->List Bytes} {da db:Nat->Nat} (h:L.Inv N wl wr oa ga ob gb da db) :
  ∃wl' wr',L.tick.Inv (N+13000) wl' wr' oa ga ob gb da db:=by
 obtain ⟨ql,qsl,hl,rfl⟩:=h.dl.cons h.l.cab.d1
 obtain ⟨qr,qsr,hr,rfl⟩:=h.dr.cons h.r.cab.d1
 obtain ⟨_,il,_⟩:=h.l.tick
 obtain ⟨_,ir,_⟩:=h.r.tick
 obtain ⟨bl,w2,q2,_⟩:=Lnd.send_wire L.r.tick.2.prt.tag L.r.tick.1 il.wire
 obtain ⟨br,w1,q1,_⟩:=Lnd.send_wire L.l.tick.2.prt.tag L.l.tick.1 ir.wire
 exact ⟨_,_,h.tick hl hr w2 q2 w1 q1⟩
end

section
def Lk.act (L:Lk) (e:Evt):Nat × Lk:=
 if e.kind=3 then (0,⟨{ L.l with into:=L.l.into.cut },{ L.r with into:=L.r.into.cut }⟩)
 else if e.kind=4 then (0,⟨{ L.l with into:=L.l.into.mend },{ L.r with into:=L.r.into.mend }⟩)
 else if e.kind≠1/\e.kind≠2/\e.kind≠5 then (16,L)
 else if e.side=0 then ((L.l.act e).1,⟨(L.l.act e).2,L.r⟩)
 else if e.side=1 then ((L.r.act e).1,⟨L.l,(L.r.act e).2⟩)
 else (2,L)
structure Lnd.Book (x:Lnd) (o g p:Nat->List Bytes):Prop where
 ol:x.offered.length=x.prt.rooms.length
 tl:x.taken.length=x.prt.rooms.length
 off:∀c,x.offered.getD c []=o c
 tak:∀c,x.taken.getD c []=p c++g c
theorem Prt.Cons.congr {p:Prt} {m m':Nat->Nat} (h:p.Cons m) (he:∀c,c < p.rooms.length->m c=m' c):p.Cons m':=⟨fun c hc=>(h.off c hc).trans (he c hc),h.got,h.tmo,h.dd⟩
theorem getD_upd {l:List (List Bytes)} {o:Nat->List Bytes} (h:∀c,l.getD c []=o c) {c:Nat} (hc:c < l.length) (v:List Bytes):∀k,(l.set c v).getD k []=upd o c v k:=fun k=>by
 rw [getD_set _ _ _ _ _ hc]
 unfold upd
 by_cases e:c=k
 ·rw [if_pos e,if_pos e.symm]
 ·rw [if_neg e,if_neg fun x=>e x.symm,h k]
section
variable {x:Lnd} {b:Prt} {N:Nat} {ws:List (Nat × Option Way)} {wx wy:List Way} {o g p ob gb:Nat->List Bytes} {da db:Nat->Nat}
theorem Lnd.offer_inv (h:x.Inv N ws) (k:x.Book o g p) (bo:Both x.prt b wx wy o g ob gb da db) (c:Int) (d:Bytes) :
  ∃o',(x.offer c d).2.Inv (N+65) ws/\(x.offer c d).2.Book o' g p/\Both (x.offer c d).2.prt b wx wy o' g ob gb da db:=by
 have ok:=h.ok.offer c d
 unfold Lnd.offer
 by_cases h0:(x.prt.offer c d).1=0
 ·rw [if_pos h0]
  unfold Prt.offer at h0 ok ⊢
  by_cases h1:¬x.prt.has c\/64 < d.length
  ·rw [if_pos h1] at h0;exact absurd h0 (by show ¬(2:Nat)=0;omega)
  ·rw [if_neg h1] at h0 ok ⊢
   by_cases h2:64<=(x.prt.waiting.getD c.toNat []).length
   ·rw [if_pos h2] at h0;exact absurd h0 (by show ¬(5:Nat)=0;omega)
   ·rw [if_neg h2] at ok ⊢
    have hh:x.prt.has c:=Classical.byContradiction fun e=>h1 (.inl e)
    have hc:c.toNat < x.prt.rooms.length:=by have:=hh.1;have:=hh.2;omega
    have t1:=h.tk;have t2:=h.se;have t3:=h.lo;have t4:=h.bd
    refine ⟨upd o c.toNat (o c.toNat++[d]),⟨ok,h.cab,h.wire,h.out,h.inc,?_,?_,by show x.into.ticks<=_;omega,by show x.into.sent<=_;omega,by show x.into.lost<=_;omega,by show 200*x.sc.bad<=_;omega,?_,fun l hl=>Nat.le_trans (h.tb l hl) (Nat.le_add_right _ _),h.fb⟩,⟨?_,k.tl,?_,k.tak⟩,bo.offer (by rw [h.ok.wl];exact hc) d⟩
    ·refine (h.cons.offer h.ok hc d).congr fun j hj=>?_
     show _=(x.since.set c.toNat (x.since.getD c.toNat 0+1)).getD j 0
     rw [getD_set _ _ _ _ _ (by rw [h.sl];exact hc)]
     by_cases e:c.toNat=j
     ·rw [if_pos e,if_pos e.symm]
     ·rw [if_neg e,if_neg fun x=>e x.symm]
    ·show (x.since.set _ _).length=_;rw [List.length_set];exact h.sl
    ·refine mem_set (P:=fun l:List Bytes=>l.length<=N+65) (fun l hl=>Nat.le_trans (h.ob l hl) (Nat.le_add_right _ _)) ?_
     rw [List.length_append]
     have:=getD_all (P:=fun l:List Bytes=>l.length<=N) h.ob (d:=[]) (Nat.zero_le _) c.toNat
     show _+1<=_;omega
    ·show (x.offered.set _ _).length=_;rw [List.length_set];exact k.ol
    ·show ∀j,(x.offered.set c.toNat (x.offered.getD c.toNat []++[d])).getD j []=_
     rw [k.off]
     exact getD_upd k.off (by rw [k.ol];exact hc) _
 ·rw [if_neg h0]
  exact ⟨o,h.mono (by omega),k,bo⟩
theorem Lnd.take_inv (h:x.Inv N ws) (k:x.Book o g p) (bo:Both x.prt b wx wy o g ob gb da db) (c:Int) :
  ∃g',(x.take c).2.Inv (N+1) ws/\(x.take c).2.Book o g' p/\Both (x.take c).2.prt b wx wy o g' ob gb da db:=by
 have ok:=h.ok.take c
 unfold Lnd.take
 have e:x.prt.take c=((x.prt.take c).1,(x.prt.take c).2):=rfl
 cases hp:x.prt.peek c with
 |none=>
  have:x.prt.take c=(none,x.prt):=by unfold Prt.take;rw [hp]
  rw [this]
  exact ⟨g,h.mono (by omega),k,bo⟩
 |some d=>
  have hh:x.prt.has c:=by
   unfold Prt.peek at hp
   split at hp
   ·assumption
   ·cases hp
  have hc:c.toNat < x.prt.rooms.length:=by have:=hh.1;have:=hh.2;omega
  obtain ⟨l,hl⟩:∃l,x.prt.buffer.getD c.toNat []=d::l:=by
   unfold Prt.peek at hp
   rw [if_pos hh] at hp
   cases hb:x.prt.buffer.getD c.toNat [] with
   |nil=>rw [hb] at hp;cases hp
   |cons y l=>rw [hb] at hp;injection hp with hp;rw [hp];exact ⟨l,rfl⟩
  have ht:x.prt.take c=(some d,{ x.prt with buffer:=x.prt.buffer.set c.toNat l,giv:=x.prt.giv.set c.toNat (x.prt.gv c.toNat).free,taken:=x.prt.taken.set c.toNat (x.prt.taken.getD c.toNat 0+1) }):=by
   unfold Prt.take;rw [hp];dsimp only;rw [hl];rfl
  rw [ht] at ok ⊢
  have t1:=h.tk;have t2:=h.se;have t3:=h.lo;have t4:=h.bd
  refine ⟨upd g c.toNat (g c.toNat++[d]),⟨ok,h.cab,h.wire,h.out,h.inc,h.cons.take h.ok hc hl,h.sl,by show x.into.ticks<=_;omega,by show x.into.sent<=_;omega,by show x.into.lost<=_;omega,by show 200*x.sc.bad<=_;omega,fun l hl=>Nat.le_trans (h.ob l hl) (Nat.le_add_right _ _),?_,h.fb⟩,⟨k.ol,?_,k.off,?_⟩,bo.take hc hl⟩
  ·refine mem_set (P:=fun l:List Bytes=>l.length<=N+1) (fun l hl=>Nat.le_trans (h.tb l hl) (Nat.le_add_right _ _)) ?_
   rw [List.length_append]
   have:=getD_all (P:=fun l:List Bytes=>l.length<=N) h.tb (d:=[]) (Nat.zero_le _) c.toNat
   show _+1<=_;omega
  ·show (x.taken.set _ _).length=_;rw [List.length_set];exact k.tl
  ·show ∀j,(x.taken.set c.toNat (x.taken.getD c.toNat []++[d])).getD j []=_
   intro j
   rw [getD_set _ _ _ _ _ (by rw [k.tl];exact hc)]
   unfold upd
   by_cases e:c.toNat=j
   ·rw [if_pos e,if_pos e.symm,<-e,k.tak,List.append_assoc]
   ·rw [if_neg e,if_neg fun x=>e x.symm,k.tak]
theorem Lnd.restart_inv (h:x.Inv N ws) (hN:200<=N) (k:x.Book o g p) (bo:Both x.prt b wx wy o g ob gb da db) :
  ∃g' p' da' db',x.restart.2.Inv N ws/\x.restart.2.Book o g' p'/\Both x.restart.2.prt b wx wy o g' ob gb da' db':=by
 unfold Lnd.restart Prt.restart
 by_cases hr:((x.inc:Int)+1<=x.prt.inc\/1099511627775 < (x.inc:Int)+1)
 ·rw [if_pos hr,if_neg (by show ¬(2:Nat)=0;omega)]
  exact ⟨g,p,da,db,h,k,bo⟩
 ·rw [if_neg hr,if_pos rfl]
  have hi:=h.inc
  have e:((x.inc:Int)+1).toNat=x.inc+1:=by omega
  refine ⟨fun _=>[],fun c=>p c++g c,_,_,⟨?_,h.cab,h.wire,rfl,?_,?_,?_,h.tk,h.se,h.lo,Nat.zero_le _,h.ob,h.tb,h.fb⟩,⟨k.ol,k.tl,k.off,fun c=>by rw [List.append_nil];exact k.tak c⟩,bo.restart (by omega) _ _ _ _⟩
  ·refine Prt.Ok.mono ?_ hN
   dsimp only
   exact newPrt_ok h.ok.n1 h.ok.n4 h.ok.rm (by omega) (by omega) h.ok.w1 h.ok.w2 h.ok.t1 h.ok.t2 h.ok.d1 h.ok.d2
  ·show ((x.inc:Int)+1).toNat=x.inc+1;exact e
  ·refine (new_cons _ _ _ _ _).congr fun j _=>?_
   show 0=(List.replicate x.since.length 0).getD j 0
   rw [List.getD,List.getElem?_replicate]
   split <;> rfl
  ·show (List.replicate x.since.length 0).length=_;rw [List.length_replicate];exact h.sl
end
end

section
def Lk.Full (L:Lk) (N:Nat) (Z:Prop):Prop:=
 ∃wl wr oa ga pa ob gb pb da db,L.Inv N wl wr oa ga ob gb da db/\L.l.Book oa ga pa/\L.r.Book ob gb pb/\(Z->(∀c,pa c=[])/\(∀c,pb c=[])/\(∀c,da c=0)/\∀c,db c=0)
theorem Lk.Full.mono {L:Lk} {N M:Nat} {Z Y:Prop} (h:L.Full N Z) (hm:N<=M) (hz:Y->Z):L.Full M Y:=by
 obtain ⟨wl,wr,oa,ga,pa,ob,gb,pb,da,db,i,k1,k2,z⟩:=h
 exact ⟨wl,wr,oa,ga,pa,ob,gb,pb,da,db,i.mono hm,k1,k2,fun y=>z (hz y)⟩
theorem Lk.Full.swap {L:Lk} {N:Nat} {Z:Prop} (h:L.Full N Z):(⟨L.r,L.l⟩:Lk).Full N Z:=by
 obtain ⟨wl,wr,oa,ga,pa,ob,gb,pb,da,db,i,k1,k2,z⟩:=h
 exact ⟨wr,wl,ob,gb,pb,oa,ga,pa,db,da,i.swap,k2,k1,fun y=>⟨(z y).2.1,(z y).1,(z y).2.2.2,(z y).2.2.1⟩⟩
theorem Lnd.Book.same {x y:Lnd} {o g p:Nat->List Bytes} (k:x.Book o g p) (h1:y.prt.rooms=x.prt.rooms) (h2:y.offered=x.offered) (h3:y.taken=x.taken):y.Book o g p:=
 ⟨by rw [h1,h2];exact k.ol,by rw [h1,h3];exact k.tl,by rw [h2];exact k.off,by rw [h3];exact k.tak⟩
theorem Lnd.Book.ticked {x:Lnd} {o g p:Nat->List Bytes} (k:x.Book o g p) (ys:List Pt):(x.tick.2.send ys).Book o g p:=by
 have s:=x.tick.2.send_same (ys:=ys)
 refine k.same ?_ s.offered s.taken
 rw [s.prt];exact tick_rooms _ _
theorem Lk.Full.tick {L:Lk} {N:Nat} {Z:Prop} (h:L.Full N Z):L.tick.Full (N+13000) Z:=by
 obtain ⟨wl,wr,oa,ga,pa,ob,gb,pb,da,db,i,k1,k2,z⟩:=h
 obtain ⟨wl',wr',i'⟩:=i.tick_any
 exact ⟨wl',wr',oa,ga,pa,ob,gb,pb,da,db,i',k1.ticked _,k2.ticked _,z⟩
theorem due_offer {x:Lnd} {ws:List (Nat × Option Way)} {c:Int} {d:Bytes} (h:x.Due ws):(x.offer c d).2.Due ws:=by
 unfold Lnd.offer;split <;> exact h
theorem due_take {x:Lnd} {ws:List (Nat × Option Way)} {c:Int} (h:x.Due ws):(x.take c).2.Due ws:=by
 unfold Lnd.take;split <;> exact h
theorem due_restart {x:Lnd} {ws:List (Nat × Option Way)} (h:x.Due ws):x.restart.2.Due ws:=by
 unfold Lnd.restart;split <;> exact h
theorem kno_offer {x:Lnd} {b:Prt} {wx wy:List Way} {c:Int} {d:Bytes} (k:Kno x.prt b wx wy):Kno (x.offer c d).2.prt b wx wy:=by
 have e:(x.prt.offer c d).2.inc=x.prt.inc/\(x.prt.offer c d).2.side=x.prt.side:=by
  unfold Prt.offer
  split
  ·exact ⟨rfl,rfl⟩
  ·split <;> exact ⟨rfl,rfl⟩
 unfold Lnd.offer
 split
 ·exact k.side e.1 fun h=>by rw [show ({ x with prt:=(x.prt.offer c d).2,offered:=_,since:=_ }:Lnd).prt.side=(x.prt.offer c d).2.side from rfl,e.2] at h ⊢;exact ⟨h,rfl⟩
 ·exact k
theorem kno_take {x:Lnd} {b:Prt} {wx wy:List Way} {c:Int} (k:Kno x.prt b wx wy):Kno (x.take c).2.prt b wx wy:=by
 have e:(x.prt.take c).2.inc=x.prt.inc/\(x.prt.take c).2.side=x.prt.side:=by
  unfold Prt.take
  split <;> exact ⟨rfl,rfl⟩
 unfold Lnd.take
 rcases hp:x.prt.take c with ⟨o,q⟩
 rw [hp] at e
 cases o with
 |none=>exact k
 |some d=>exact k.side (a':=q) e.1 fun h=>by dsimp only at e;rw [e.2] at h ⊢;exact ⟨h,rfl⟩
theorem kno_restart {x:Lnd} {b:Prt} {wx wy:List Way} {oa ga ob gb:Nat->List Bytes} {da db:Nat->Nat} (hx:x.prt.inc=x.inc) (k:Kno x.prt b wx wy) (h:Both x.prt b wx wy oa ga ob gb da db):Kno x.restart.2.prt b wx wy:=by
 unfold Lnd.restart Prt.restart
 by_cases hr:((x.inc:Int)+1<=x.prt.inc\/1099511627775 < (x.inc:Int)+1)
 ·rw [if_pos hr,if_neg (by show ¬(2:Nat)=0;omega)];exact k
 ·rw [if_neg hr,if_pos rfl]
  exact Kno.restart h (by omega) _ _ _ _
theorem cut_inv {x:Lnd} {N:Nat} {ws:List (Nat × Option Way)} (i:x.Inv N ws):({ x with into:=x.into.cut }:Lnd).Inv (N+65) []:=by
 have t1:=i.tk;have t2:=i.se;have t3:=i.lo;have t4:=i.bd;have t5:=i.cab.fly
 exact ⟨i.ok.mono (by omega),Cab.cut_ok i.cab,.nil,i.out,i.inc,i.cons,i.sl,by show x.into.ticks<=_;omega,by show x.into.sent<=_;omega,by show x.into.lost+x.into.flying.length<=_;omega,by show 200*x.sc.bad<=_;omega,fun l hl=>Nat.le_trans (i.ob l hl) (Nat.le_add_right _ _),fun l hl=>Nat.le_trans (i.tb l hl) (Nat.le_add_right _ _),i.fb⟩
theorem cut_due (x:Lnd):({ x with into:=x.into.cut }:Lnd).Due []:=⟨List.replicate x.into.delay [],List.length_replicate ..,(dueQ_nils _ _).symm⟩
theorem mend_inv {x:Lnd} {N:Nat} {ws:List (Nat × Option Way)} (i:x.Inv N ws):({ x with into:=x.into.mend }:Lnd).Inv N ws:=⟨i.ok,Cab.mend_ok i.cab,i.wire,i.out,i.inc,i.cons,i.sl,i.tk,i.se,i.lo,i.bd,i.ob,i.tb,i.fb⟩
theorem Lk.Full.actL {L:Lk} {N:Nat} {Z:Prop} (h:L.Full N Z) (hN:200<=N) (e:Evt):(⟨(L.l.act e).2,L.r⟩:Lk).Full (N+65) (Z/\(e.kind=1\/e.kind=2)):=by
 obtain ⟨wl,wr,oa,ga,pa,ob,gb,pb,da,db,i,k1,k2,z⟩:=h
 have ir:L.r.Inv (N+65) wr:=i.r.mono (by omega)
 unfold Lnd.act
 by_cases h1:e.kind=1
 ·rw [if_pos h1]
  obtain ⟨o',a1,a2,a3⟩:=Lnd.offer_inv i.l k1 i.both e.cls e.data
  exact ⟨wl,wr,o',ga,pa,ob,gb,pb,da,db,⟨a1,ir,a3,due_offer i.dl,i.dr,kno_offer i.kn⟩,a2,k2,fun y=>z y.1⟩
 ·rw [if_neg h1]
  by_cases h2:e.kind=2
  ·rw [if_pos h2]
   obtain ⟨g',a1,a2,a3⟩:=Lnd.take_inv i.l k1 i.both e.cls
   exact ⟨wl,wr,oa,g',pa,ob,gb,pb,da,db,⟨a1.mono (by omega),ir,a3,due_take i.dl,i.dr,kno_take i.kn⟩,a2,k2,fun y=>z y.1⟩
  ·rw [if_neg h2]
   obtain ⟨g',p',da',db',a1,a2,a3⟩:=Lnd.restart_inv i.l hN k1 i.both
   exact ⟨wl,wr,oa,g',p',ob,gb,pb,da',db',⟨a1.mono (by omega),ir,a3,due_restart i.dl,i.dr,kno_restart i.l.inc i.kn i.both⟩,a2,k2,fun y=>absurd y.2 (fun q=>q.elim h1 h2)⟩
theorem Lk.Full.act {L:Lk} {N:Nat} {Z:Prop} (h:L.Full N Z) (hN:200<=N) (e:Evt):(L.act e).2.Full (N+65) (Z/\e.kind≠5):=by
 have hm:=h.mono (show N<=N+65 by omega) (Y:=Z/\e.kind≠5) (fun y=>y.1)
 unfold Lk.act
 by_cases h3:e.kind=3
 ·rw [if_pos h3]
  obtain ⟨wl,wr,oa,ga,pa,ob,gb,pb,da,db,i,k1,k2,z⟩:=h
  exact ⟨[],[],oa,ga,pa,ob,gb,pb,da,db,⟨cut_inv i.l,cut_inv i.r,i.both.ways (fun _ hp=>by cases hp) .nil (fun _ hp=>by cases hp) .nil,cut_due _,cut_due _,i.kn.ways (fun _ hp=>by cases hp) fun _ hp=>by cases hp⟩,⟨k1.ol,k1.tl,k1.off,k1.tak⟩,⟨k2.ol,k2.tl,k2.off,k2.tak⟩,fun y=>z y.1⟩
 ·rw [if_neg h3]
  by_cases h4:e.kind=4
  ·rw [if_pos h4]
   obtain ⟨wl,wr,oa,ga,pa,ob,gb,pb,da,db,i,k1,k2,z⟩:=hm
   exact ⟨wl,wr,oa,ga,pa,ob,gb,pb,da,db,⟨mend_inv i.l,mend_inv i.r,i.both,i.dl,i.dr,i.kn⟩,⟨k1.ol,k1.tl,k1.off,k1.tak⟩,⟨k2.ol,k2.tl,k2.off,k2.tak⟩,z⟩
  ·rw [if_neg h4]
   by_cases h5:e.kind≠1/\e.kind≠2/\e.kind≠5
   ·rw [if_pos h5];exact hm
   ·rw [if_neg h5]
    have hk:∀ {P:Prop},P/\e.kind≠5->P/\(e.kind=1\/e.kind=2):=fun y=>⟨y.1,by omega⟩
    by_cases s0:e.side=0
    ·rw [if_pos s0];exact (h.actL hN e).mono (Nat.le_refl _) hk
    ·rw [if_neg s0]
     by_cases s1:e.side=1
     ·rw [if_pos s1];exact ((h.swap.actL hN e).swap).mono (Nat.le_refl _) hk
     ·rw [if_neg s1];exact hm
theorem Lk.Full.exact {L:Lk} {N:Nat} (h:L.Full N True) (c:Nat):L.r.taken.getD c [] <+: L.l.offered.getD c []:=by
 obtain ⟨wl,wr,oa,ga,pa,ob,gb,pb,da,db,i,k1,k2,z⟩:=h
 have:=i.both.front (z trivial).2.2.1 c
 rw [k1.off,k2.tak,(z trivial).2.1]
 exact this
theorem Lk.Full.room {L:Lk} {N:Nat} {Z:Prop} (h:L.Full N Z):L.l.prt.overflows=0/\∀c,c < L.l.prt.rooms.length->(L.l.prt.buffer.getD c []).length<=L.l.prt.rooms.getD c 0:=by
 obtain ⟨wl,wr,oa,ga,pa,ob,gb,pb,da,db,i,k1,k2,z⟩:=h
 exact ⟨i.both.over.1,fun c hc=>i.both.room hc⟩
end

section
structure Cfg where
 inc:Nat
 rooms:List Nat
 w:Nat
 t:Nat
 d:Nat
structure Cfg.Ok (c:Cfg):Prop where
 n1:1<=c.rooms.length
 n4:c.rooms.length<=4
 rm:∀x ∈ c.rooms,1<=x/\x<=64
 i1:1<=c.inc
 i2:c.inc<=1099511627775
 w1:1<=c.w
 w2:c.w<=128
 t1:1<=c.t
 t2:c.t<=1000
 d1:1<=c.d
 d2:c.d<=1000
def newLk (a b:Cfg) (delay:Nat) (there back:List Flt):Lk:=⟨newLnd a.inc a.rooms a.w a.t a.d delay back,newLnd b.inc b.rooms b.w b.t b.d delay there⟩
theorem getD_nils (n c:Nat):(List.replicate n ([]:List Bytes)).getD c []=[]:=by
 unfold List.getD
 rw [List.getElem?_replicate]
 split <;> rfl
theorem newLnd_inv {c:Cfg} (h:c.Ok) {delay:Nat} {fs:List Flt} (d1:1<=delay) (d2:delay<=100) (hf:okF (-1) fs=true) (hl:fs.length<=1000):(newLnd c.inc c.rooms c.w c.t c.d delay fs).Inv 200 []:=
 ⟨newPrt_ok h.n1 h.n4 h.rm h.i1 h.i2 h.w1 h.w2 h.t1 h.t2 h.d1 h.d2,Cab.new_ok d1 d2 hf,.nil,rfl,rfl,(new_cons _ _ _ _ _).congr fun j _=>by show 0=(List.replicate c.rooms.length 0).getD j 0;rw [List.getD,List.getElem?_replicate];split <;> rfl,List.length_replicate ..,Nat.zero_le _,Nat.zero_le _,Nat.zero_le _,Nat.zero_le _,(fun l hl=>by rw [(List.mem_replicate.1 hl).2];exact Nat.zero_le _),(fun l hl=>by rw [(List.mem_replicate.1 hl).2];exact Nat.zero_le _),hl⟩
theorem newLnd_book (c:Cfg) (delay:Nat) (fs:List Flt):(newLnd c.inc c.rooms c.w c.t c.d delay fs).Book (fun _=>[]) (fun _=>[]) (fun _=>[]):=
 ⟨List.length_replicate ..,List.length_replicate ..,fun k=>getD_nils _ k,fun k=>getD_nils _ k⟩
theorem newLk_full {a b:Cfg} (ha:a.Ok) (hb:b.Ok) {delay:Nat} {there back:List Flt} (d1:1<=delay) (d2:delay<=100) (h1:okF (-1) there=true) (h2:okF (-1) back=true) (l1:there.length<=1000) (l2:back.length<=1000):(newLk a b delay there back).Full 200 True:=
 ⟨[],[],_,_,_,_,_,_,_,_,⟨newLnd_inv ha d1 d2 h2 l2,newLnd_inv hb d1 d2 h1 l1,both_new ha.i1 hb.i1 _ _ _ _ _ _ _ _,⟨List.replicate delay [],List.length_replicate ..,(dueQ_nils _ _).symm⟩,⟨List.replicate delay [],List.length_replicate ..,(dueQ_nils _ _).symm⟩,kno_new _ _ _ _ _ _ _ _ _ _⟩,newLnd_book a delay back,newLnd_book b delay there,fun _=>⟨fun _=>rfl,fun _=>rfl,fun _=>rfl,fun _=>rfl⟩⟩
def Lk.acts (L:Lk):List Evt->List Nat × Lk
 |[]=>([],L)
 |e::es=>((L.act e).1::((L.act e).2.acts es).1,((L.act e).2.acts es).2)
def Lk.step (L:Lk) (es:List Evt):Lk:=(L.acts es).2.tick
theorem Lk.Full.acts:∀(es:List Evt) {L:Lk} {N:Nat} {Z:Prop},L.Full N Z->200<=N->(L.acts es).2.Full (N+65*es.length) (Z/\∀e ∈ es,e.kind≠5)
 |[],_,_,_,h,_=>h.mono (by simp) fun y=>y.1
 |e::es,L,N,Z,h,hN=>by
  have:=Lk.Full.acts es (h.act hN e) (by omega)
  exact this.mono (by rw [List.length_cons];omega) fun y=>⟨⟨y.1,y.2 e (List.mem_cons_self ..)⟩,fun f hf=>y.2 f (List.mem_cons_of_mem _ hf)⟩
theorem Lk.Full.step {L:Lk} {N:Nat} {Z:Prop} (h:L.Full N Z) (hN:200<=N) (es:List Evt):(L.step es).Full (N+65*es.length+13000) (Z/\∀e ∈ es,e.kind≠5):=
 (h.acts es hN).tick
end

section
theorem good_of {k:BitVec 8} {c n v:Int} {d:Bytes} (hk:k≠0) (c0:0<=c) (c1:c < 4) (n0:0<=n) (n1:n < 1099511627776) (v0:0<=v) (v1:v < 1099511627776) (hd:d.length<=64):Good (⟨k,c,n,v,d⟩:Pt).pk:=
 ⟨hk,c0,c1,n0,n1,v0,v1,hd⟩
section
variable {N:Nat} {a b:Prt} {wa wb:List Way} {oa ga ob gb:Nat->List Bytes} {da db:Nat->Nat}
theorem Both.rec (h:Both a b wa wb oa ga ob gb da db):∃hB tB,Rec a hB tB:=by
 obtain ⟨hA,tA,hB,tB,_,d2,_⟩:=h
 exact ⟨hB,tB,d2.rc⟩
theorem hail_good (ok:a.Ok N):Good a.hail.pk:=by
 have h:=ok.side.tick
 have h1:=h.peer;have h2:=h.seen;have h3:=ok.i2
 exact good_of (by decide) (by omega) (by omega) (by omega) (by omega) (by omega) (by omega) (by simp)
theorem ackn_good (ok:a.Ok N):Good a.ackn.pk:=by
 have h3:=ok.i2
 exact good_of (by decide) (by omega) (by omega) (by omega) (by omega) (by omega) (by omega) (by simp)
theorem cred_good (ok:a.Ok N) (hN:N<=1000000000) {hB:Hist} {tB:Nat} (r:Rec a hB tB) {c:Nat} (hc:c < a.base.length):Good (a.cred c).pk:=by
 have h3:=ok.i2
 have h4:=ok.n4;have h5:=ok.sl
 have h6:=r.room c
 have h7:(a.gv c).limit<=64+N:=by
  show (a.gv c).room+(a.gv c).freed<=_
  have:=ok.giv
  have hg:(a.gv c).room<=64/\(a.gv c).freed<=(a.gv c).received/\(a.gv c).received<=N:=getD_all (P:=fun g:Giv=>g.room<=64/\g.freed<=g.received/\g.received<=N) this ⟨by simp,by simp,by simp⟩ c
  omega
 have h8:((a.giv.getD c ⟨0,0,0⟩).limit:Int)=((a.gv c).limit:Int):=rfl
 have h9:((a.base.getD c 0:Nat):Int)=(a.bs c:Int):=rfl
 refine good_of (by decide) (by omega) (by omega) ?_ ?_ (by omega) (by omega) (by simp)
 ·rw [h8,h9];omega
 ·rw [h8,h9];omega
theorem classOf_lt (ok:a.Ok N) (n:Nat):a.classOf n < a.rooms.length:=by
 have:=ok.n1
 exact getD_all (P:=fun f:Nat × Bytes=>f.1 < a.rooms.length) ok.kcl (by show 0 < a.rooms.length;omega) _
theorem sent_good (h:Both a b wa wb oa ga ob gb da db) (ok:a.Ok N) (hN:N<=1000000000):(∀y ∈ (a.tick []).1,Good y.pk)/\(a.tick []).1.length<=7:=by
 have ha:a=([]:List Pt).foldl Prt.handle a:=rfl
 obtain ⟨hB,tB,r⟩:=h.rec
 have h4:=ok.n4;have h5:=ok.sl
 by_cases hs:a.side.tick.state=2
 ·rw [Prt.tick_up ha hs]
  have hhead:∀y ∈ a.hail::a.ackn::(List.range a.base.length).map a.cred,Good y.pk:=fun y hy=>by
   rcases List.mem_cons.1 hy with rfl|hy
   ·exact hail_good ok
   ·rcases List.mem_cons.1 hy with rfl|hy
    ·exact ackn_good ok
    ·obtain ⟨c,hc,rfl⟩:=List.mem_map.1 hy
     exact cred_good ok hN r (List.mem_range.1 hc)
  have hlen:(a.hail::a.ackn::(List.range a.base.length).map a.cred).length<=6:=by
   simp only [List.length_cons,List.length_map,List.length_range];omega
  have ok3:=(show Prt.Ok N { a with side:=a.side.tick } from ok.sideTick).choose
  have hi:(Prt.choose { a with side:=a.side.tick }).inc=a.inc:=(choose_side _).2.1
  generalize Prt.choose { a with side:=a.side.tick }=q at ok3 hi ⊢
  generalize a.hail::a.ackn::(List.range a.base.length).map a.cred=sent at hhead hlen ⊢
  rcases hq:q.snd.tick with ⟨o,s⟩
  cases o with
  |none=>exact ⟨hhead,by show sent.length<=7;omega⟩
  |some nd=>
   obtain ⟨n,d⟩:=nd
   refine ⟨fun y hy=>?_,by show (sent++[_]).length<=7;rw [List.length_append];simp;omega⟩
   rcases List.mem_append.1 (show y ∈ sent++[_] from hy) with hy|hy
   ·exact hhead y hy
   ·rw [List.mem_singleton.1 hy]
    have hn:=(tick_some ok3.snd hq).1
    have hd:d.length<=64:=by
     rcases Snd.tick_cases q.snd with ⟨e1,t,e2⟩|⟨i,hi',e1,e2⟩
     ·rw [hq] at e1;cases e1
     ·rw [hq] at e1
      injection e1 with e1
      have e3:d=q.snd.kept.getD i []:=congrArg Prod.snd e1
      rw [e3]
      exact getD_all (P:=fun l:Bytes=>l.length<=64) ok3.snd.small (by simp) _
    have hq4:=ok3.n4
    have hcl:Prt.classOf { q with snd:=s } n < 4:=by
     have:Prt.classOf { q with snd:=s } n < q.rooms.length:=by
      have:=ok3.n1
      exact getD_all (P:=fun f:Nat × Bytes=>f.1 < q.rooms.length) ok3.kcl (by show 0 < q.rooms.length;omega) _
     omega
    have h3:=ok3.i2
    exact good_of (by decide) (Int.natCast_nonneg _) (show ((Prt.classOf { q with snd:=s } n:Nat):Int) < ((4:Nat):Int) from Int.ofNat_lt.2 hcl) (by omega) (by omega) (by omega) (by omega) hd
 ·rw [Prt.tick_down ha hs]
  refine ⟨fun y hy=>?_,by simp⟩
  rw [List.mem_singleton.1 hy]
  exact hail_good ok
theorem sent_good' (h:Both a b wa wb oa ga ob gb da db) (ok:a.Ok N) {l:List Way} {wb':List Way} (hw:wb=l++wb') (okb:b.inc<=1099511627775) (hl:∀x ∈ l,x.2.pay.length<=1000) (hN:N+200*l.length<=1000000000) :
  (∀y ∈ (a.tick (l.map (·.2))).1,Good y.pk)/\(a.tick (l.map (·.2))).1.length<=7:=by
 subst hw
 have hb:=Both.handles l hl h ok okb
 have ok1:=ok.handles (l.map (·.2)) (fun y hy=>by obtain ⟨v,hv,rfl⟩:=List.mem_map.1 hy;exact hl v hv)
 rw [List.length_map] at ok1
 rw [tick_emit]
 exact sent_good hb ok1 hN
end
end

section
def Pr.Inv (P:Pr) (oa ga ob gb:Nat->List Bytes) (da db:Nat->Nat):Prop:=
 ∃wa wb:List Way,wa.map (·.2)=P.l.fly/\wb.map (·.2)=P.r.fly/\Both P.l.prt P.r.prt wa wb oa ga ob gb da db
def sing (bs:Bytes):List Bytes:=bs.map fun b=>[b]
theorem sing_prefix {xs ys : Bytes} (h : sing xs <+: sing ys) : xs <+: ys := by
  have h1 := List.prefix_iff_eq_take.1 h
  rw [List.prefix_iff_eq_take]
  unfold sing at h1
  rw [List.length_map, ← List.map_take] at h1
  have hinj : ∀ (a b : Bytes), a.map (fun x => [x]) = b.map (fun x => [x]) → a = b := fun a => by
    induction a with
    | nil => intro b hb; cases b with
             | nil => rfl
             | cons _ _ => cases hb
    | cons x a ih => intro b hb; cases b with
                     | nil => cases hb
                     | cons y b =>
                       simp only [List.map_cons, List.cons.injEq, and_true] at hb
                       rw [hb.1, ih b hb.2]
  exact hinj _ _ h1
section
variable {N:Nat} {P:Pr} {oa ga ob gb:Nat->List Bytes} {da db:Nat->Nat}
theorem Pr.Inv.tick (h:P.Inv oa ga ob gb da db) (ok:P.Ok N) (lose dbl:Nat):(P.tick lose dbl).Inv oa ga ob gb da db:=by
 obtain ⟨wa,wb,ea,eb,hb⟩:=h
 have hpa:∀x ∈ wa,x.2.pay.length<=1000:=fun x hx=>Nat.le_trans (ok.l.f1 x.2 (by rw [<-ea];exact List.mem_map.2 ⟨x,hx,rfl⟩)).1 (by decide)
 have hpb:∀x ∈ wb,x.2.pay.length<=1000:=fun x hx=>Nat.le_trans (ok.r.f1 x.2 (by rw [<-eb];exact List.mem_map.2 ⟨x,hx,rfl⟩)).1 (by decide)
 have h1:=Both.tick (l:=wb) (wb:=[]) (by rw [List.append_nil];exact hb) ok.l.ok ok.r.ok.i2 hpb
 rw [eb] at h1
 have okl:(P.l.prt.tick P.r.fly).2.inc<=1099511627775:=by rw [(tick_keeps P.l.prt P.r.fly).2.1];exact ok.l.ok.i2
 have h2:=Both.tick (l:=wa) h1.swap ok.r.ok okl hpa
 rw [ea] at h2
 have h3:=h2.swap
 refine ⟨(sift lose dbl 0 (P.l.prt.tick P.r.fly).1).map (fun y=>((P.l.prt.tick P.r.fly).2.tag,y)),(sift lose dbl (P.l.prt.tick P.r.fly).1.length (P.r.prt.tick P.l.fly).1).map (fun y=>((P.r.prt.tick P.l.fly).2.tag,y)),?_,?_,h3.ways (fun p hp=>?_) ?_ (fun p hp=>?_) ?_⟩
 ·rw [List.map_map];exact List.map_id _
 ·rw [List.map_map];exact List.map_id _
 ·obtain ⟨y,hy,rfl⟩:=List.mem_map.1 hp
  exact List.mem_map.2 ⟨y,sift_mem _ _ _ _ y hy,rfl⟩
 ·exact List.pairwise_map.2 (List.pairwise_of_forall fun _ _=>Tag.le.refl _)
 ·obtain ⟨y,hy,rfl⟩:=List.mem_map.1 hp
  rw [List.nil_append]
  exact List.mem_map.2 ⟨y,sift_mem _ _ _ _ y hy,rfl⟩
 ·exact List.pairwise_map.2 (List.pairwise_of_forall fun _ _=>Tag.le.refl _)
theorem Pr.Inv.swap (h:P.Inv oa ga ob gb da db):(⟨P.r,P.l⟩:Pr).Inv ob gb oa ga db da:=by
 obtain ⟨wa,wb,ea,eb,hb⟩:=h
 exact ⟨wb,wa,eb,ea,hb.swap⟩
theorem Pr.Inv.takeL (h:P.Inv oa ga ob gb da db) (ok:P.Ok N) {c:Nat} (hc:c < 2) :
  (P.l.take c=P.l/\P.l.prt.buffer.getD c []=[])\/∃x,(P.l.take c).got=P.l.got.set c (P.l.got.getD c []++[x])/\(P.l.take c).off=P.l.off/\(⟨P.l.take c,P.r⟩:Pr).Inv oa (upd ga c (ga c++[[x]])) ob gb da db:=by
 rcases take_cases ok.l hc with ⟨h1,_,e⟩|⟨x,l,h1,_,_,e⟩
 ·exact .inl ⟨e,h1⟩
 ·refine .inr ⟨x,by rw [e],by rw [e],?_⟩
  rw [e]
  obtain ⟨wa,wb,ea,eb,hb⟩:=h
  exact ⟨wa,wb,ea,eb,hb.take (by rw [ok.l.two];exact hc) h1⟩
def Nd.os (n:Nd):Nat->List Bytes:=fun c=>sing (n.off.getD c [])
def Nd.gs (n:Nd):Nat->List Bytes:=fun c=>sing (n.got.getD c [])
def Pr.Good (P:Pr):Prop:=P.Inv P.l.os P.l.gs P.r.os P.r.gs (fun _=>0) (fun _=>0)
theorem sing_set {l:List Bytes} {c:Nat} (hc:c < l.length) (b:BitVec 8):(fun k=>sing ((l.set c (l.getD c []++[b])).getD k []))=upd (fun k=>sing (l.getD k [])) c (sing (l.getD c [])++[[b]]):=by
 funext k
 unfold upd
 rw [getD_set _ _ _ _ _ hc]
 by_cases e:k=c
 ·subst e;rw [if_pos rfl,if_pos rfl];unfold sing;rw [List.map_append];rfl
 ·rw [if_neg e,if_neg fun h=>e h.symm]
theorem Pr.Good.tick (h:P.Good) (ok:P.Ok N) (lose dbl:Nat):(P.tick lose dbl).Good:=Pr.Inv.tick h ok lose dbl
theorem Pr.Good.swap (h:P.Good):(⟨P.r,P.l⟩:Pr).Good:=Pr.Inv.swap h
theorem Pr.Good.takeL (h:P.Good) (ok:P.Ok N) {c:Nat} (hc:c < 2):(⟨P.l.take c,P.r⟩:Pr).Good:=by
 rcases Pr.Inv.takeL h ok hc with ⟨e,_⟩|⟨x,e1,e2,h⟩
 ·rw [e];exact h
 ·unfold Pr.Good Nd.os Nd.gs
  rw [e1,e2,sing_set (by rw [ok.l.g2];exact hc)]
  exact h
theorem Pr.Ok.swap (h:P.Ok N):(⟨P.r,P.l⟩:Pr).Ok N:=⟨h.r,h.l⟩
theorem Pr.Good.take (h:P.Good) (ok:P.Ok N) (s:Nat) {c:Nat} (hc:c < 2):(P.take s c).Good:=by
 unfold Pr.take
 split
 ·exact h.takeL ok hc
 ·exact (Pr.Good.takeL h.swap ok.swap hc).swap
theorem Pr.Good.front (h:P.Good):(∀c,c < 2->P.r.got.getD c [] <+: P.l.off.getD c []/\P.l.got.getD c [] <+: P.r.off.getD c [])/\P.l.prt.overflows=0/\P.r.prt.overflows=0:=by
 obtain ⟨wa,wb,_,_,hb⟩:=h
 exact ⟨fun c _=>⟨sing_prefix (hb.front (fun _=>rfl) c),sing_prefix (hb.swap.front (fun _=>rfl) c)⟩,hb.over⟩
end
end

section
def Pr.serve (P:Pr):Pr:=((((P.tick 0 0).take 0 0).take 1 0).take 0 1).take 1 1
def serves (P:Pr):Nat->Pr
 |0=>P
 |n+1=>(serves P n).serve
section
variable {N:Nat} {P:Pr} {oa ga ob gb:Nat->List Bytes} {da db:Nat->Nat}
theorem Took.trans {a p q:Prt} (h1:Took a p) (h2:Took p q):Took a q:=by
 induction h2 with
 |refl=>exact h1
 |step _ hc hd ih=>exact .step ih hc hd
theorem Pr.Ok.serve (h:P.Ok N):P.serve.Ok (N+2010):=((((h.tick 0 0).take 0 (by decide)).take 1 (by decide)).take 0 (by decide)).take 1 (by decide) |>.mono (by omega)
end
theorem recvs_still {i:Nat} {ds:List Pt} (h:IsData i ds) (p:Prt):p.rcv<=(p.recvs ds).rcv/\((p.recvs ds).rcv=p.rcv->(p.recvs ds).buffer=p.buffer):=by
 rcases h with rfl|⟨_,_,_,rfl⟩
 ·exact ⟨Nat.le_refl _,fun _=>rfl⟩
 ·show p.rcv<=(p.receive _).rcv/\((p.receive _).rcv=p.rcv->(p.receive _).buffer=p.buffer)
  unfold Prt.receive
  split
  ·exact ⟨Nat.le_refl _,fun _=>rfl⟩
  ·dsimp only
   split
   ·exact ⟨Nat.le_succ _,fun _=>rfl⟩
   ·exact ⟨Nat.le_succ _,fun h=>by dsimp only at h;omega⟩
section
variable {D:Nat} {a b:Nat->Prt} {Ba Bb:Nat->List Way}
theorem Go.rcv_le (g:Go D a b Ba Bb) (u:Up D a b Ba Bb 0) (n:Nat):(a n).rcv<=(a (n+1)).rcv/\((a (n+1)).rcv=(a n).rcv->((a n).tick ((Bb n).map (·.2))).2.buffer=(a n).buffer):=by
 obtain ⟨t,l,ds,ds',q,e,ti,ts,hds,hds',r1,r3,htick,ht,htk⟩:=g.turn (g.up_all u n)
 obtain ⟨h1,h2⟩:=recvs_still hds (a n)
 have e1:(a (n+1)).rcv=q.rcv:=by rw [htk.eq]
 rw [e1,ht.rcv,htick]
 refine ⟨h1,fun h=>?_⟩
 show q.buffer=_
 rw [ht.buffer];exact h2 h
theorem Go.rcv_mono (g:Go D a b Ba Bb) (u:Up D a b Ba Bb 0) (n:Nat):∀j,(a n).rcv<=(a (n+j)).rcv
 |0=>Nat.le_refl _
 |j+1=>Nat.le_trans (g.rcv_mono u n j) (g.rcv_le u (n+j)).1
end
end

section
theorem handle_tmo (p:Prt) (y:Pt):(p.handle y).timeout=p.timeout:=by
 unfold Prt.handle
 split
 ·unfold Prt.greet;dsimp only
  split <;> rfl
 ·split
  ·rfl
  ·split
   ·unfold Prt.receive;split
    ·rfl
    ·dsimp only;split <;> rfl
   ·split
    ·rfl
    ·split
     ·unfold Prt.raise;split <;> rfl
     ·rfl
theorem handles_tmo:∀(l:List Pt) (p:Prt),(l.foldl Prt.handle p).timeout=p.timeout
 |[],_=>rfl
 |y::l,p=>by rw [List.foldl_cons,handles_tmo l,handle_tmo]
theorem tick_tmo (p:Prt) (l:List Pt):(p.tick l).2.timeout=p.timeout:=by
 obtain ⟨a,ha⟩:∃a,a=l.foldl Prt.handle p:=⟨_,rfl⟩
 have h1:a.timeout=p.timeout:=by rw [ha];exact handles_tmo l p
 by_cases h:a.side.tick.state=2
 ·rw [Prt.tick_up ha h]
  have h2:(Prt.choose { a with side:=a.side.tick }).timeout=p.timeout:=by
   unfold Prt.choose
   split
   ·exact h1
   ·split <;> exact h1
  split
  ·exact h2
  ·exact h2
 ·rw [Prt.tick_down ha h]
  exact h1
theorem Took.cons {N:Nat} {a p:Prt} {m:Nat->Nat} (h:Took a p) (ok:a.Ok N) (hc:a.Cons m):p.Cons m:=by
 induction h with
 |refl=>exact hc
 |step ht hk hd ih=>
  obtain ⟨N',ok'⟩:=ht.ok ⟨N,ok⟩
  exact ih.take ok' hk hd
structure Full (a b:Prt):Prop where
 ua:a.side.state=2
 ub:b.side.state=2
 lk:Lkd a b
 ka:a.kept=[]
 kb:b.kept=[]
 wa:∀c,c < a.rooms.length->a.waiting.getD c []=[]
 wb:∀c,c < b.rooms.length->b.waiting.getD c []=[]
 ba:∀c,c < a.rooms.length->a.buffer.getD c []=[]
 bb:∀c,c < b.rooms.length->b.buffer.getD c []=[]
theorem wt_nil:∀ {l:List (List Bytes)},(l.map List.length).sum=0->∀c,l.getD c []=[]
 |[],_,c=>by simp
 |x::l,h,0=>by
  simp only [List.map_cons,List.sum_cons] at h
  exact (show x=[] from List.eq_nil_of_length_eq_zero (by omega))
 |x::l,h,c+1=>by
  simp only [List.map_cons,List.sum_cons] at h
  exact wt_nil (l:=l) (by omega) c
theorem wt_sum:∀(l:List (List Bytes)),(l.map List.length).sum=((List.range l.length).map fun c=>(l.getD c []).length).sum
 |[]=>rfl
 |x::l=>by
  rw [List.length_cons,List.range_succ_eq_map,List.map_cons,List.map_cons,List.sum_cons,List.sum_cons,wt_sum l,List.map_map]
  rfl
theorem sum_le {n:Nat} {f g:Nat->Nat} (h:∀c,c < n->f c<=g c):((List.range n).map f).sum<=((List.range n).map g).sum:=by
 induction n with
 |zero=>exact Nat.le_refl _
 |succ n ih=>
  rw [List.range_succ,List.map_append,List.map_append,List.sum_append,List.sum_append]
  exact Nat.add_le_add (ih fun c hc=>h c (by omega)) (by show f n+0<=g n+0;have:=h n (by omega);omega)
theorem sum_add (n:Nat) (f g:Nat->Nat):((List.range n).map fun c=>f c+g c).sum=((List.range n).map f).sum+((List.range n).map g).sum:=by
 induction n with
 |zero=>rfl
 |succ n ih=>
  rw [List.range_succ,List.map_append,List.map_append,List.map_append,List.sum_append,List.sum_append,List.sum_append,ih]
  show _+(f n+g n+0)=_+(f n+0)+(_+(g n+0))
  omega
theorem Prt.Cons.few {N:Nat} {p:Prt} {m:Nat->Nat} (h:p.Cons m) (ok:p.Ok N):p.snd.kept.length+wt p<=((List.range p.rooms.length).map m).sum:=by
 have h1:p.snd.kept.length=p.kept.length:=by rw [<-ok.kept,List.length_map]
 unfold wt
 rw [h1,<-cnt_sum p.rooms.length p.kept ok.kcl,wt_sum,ok.wl,<-sum_add]
 exact sum_le fun c hc=>by have:=h.off c hc;omega
section
variable {N:Nat} {P:Pr} {oa ga ob gb:Nat->List Bytes} {da db:Nat->Nat}
end
theorem Both.full {a b:Prt} {wa wb:List Way} {oa ga ob gb:Nat->List Bytes} {da db:Nat->Nat} (h:Both a b wa wb oa ga ob gb da db) (f:Full a b) {c:Nat} (hc:c < a.rooms.length) (hc2:c < b.rooms.length) :
  ∃(E P0 F:List Bytes),gb c=E++F/\oa c=P0++F/\List.Sublist E P0/\P0.length<=da c/\F.length=(a.tk c).sent:=by
 obtain ⟨hA,tA,hB,tB,⟨d1,c1⟩,_⟩:=h
 obtain ⟨E,P,g1,g2,g3,_⟩:=c1 c
 obtain ⟨P0,q1,q2,q3⟩:=g3 f.lk
 have hl:=d1.lnk f.lk.1 f.lk.2
 have hk:=hl.kept
 rw [f.ka] at hk
 have hlen:hA.length<=a.snd.acked:=by
  have:=congrArg List.length hk
  rw [List.length_drop] at this
  have h0:([]:Hist).length=0:=rfl
  omega
 have h1:=hl.ack
 rw [f.bb c hc2,List.append_nil,List.take_of_length_le (by omega)] at g1
 rw [f.ka,f.wa c hc,q1,List.take_of_length_le hlen,frm_nil,List.append_nil,List.append_nil] at g2
 refine ⟨E,P0,frm c hA,g1,g2,q2,q3,?_⟩
 rw [hl.sent c]
 unfold frm cnt
 rw [List.length_map]
end

section
structure Qst where
 a:Prt
 b:Prt
 qa:List (List (Option Way))
 qb:List (List (Option Way))
abbrev bat (qs:List (List (Option Way))):List Way:=(qs.headD []).filterMap id
abbrev wayz (qs:List (List (Option Way))):List Way:=(qs.map fun q=>q.filterMap id).flatten
def Qst.ta (s:Qst):List Pt × Prt:=s.a.tick ((bat s.qb).map (·.2))
def Qst.tb (s:Qst):List Pt × Prt:=s.b.tick ((bat s.qa).map (·.2))
def outs (t:List Pt × Prt):List (Option Way):=t.1.map fun y=>some (t.2.tag,y)
def Qst.step (f g:Prt->Prt) (s:Qst):Qst:=⟨f s.ta.2,g s.tb.2,s.qa.tail++[outs s.ta],s.qb.tail++[outs s.tb]⟩
def Qst.run (f g:Prt->Prt) (s:Qst):Nat->Qst
 |0=>s
 |n+1=>(s.run f g n).step f g
theorem outs_some (t:List Pt × Prt):(outs t).filterMap id=t.1.map fun y=>(t.2.tag,y):=by
 unfold outs
 induction t.1 with
 |nil=>rfl
 |cons y l ih=>show (t.2.tag,y)::_=_;rw [List.map_cons,<-ih]
theorem queue_len {α : Type} {Q:Nat->List α} {x:Nat -> α} (h:∀n,Q (n+1)=(Q n).tail++[x n]) {D:Nat} (h0:(Q 0).length=D) (hD:1<=D):∀n,(Q n).length=D
 |0=>h0
 |n+1=>by rw [h n,List.length_append,List.length_tail,queue_len h h0 hD n,List.length_singleton];omega
theorem queue_get {α : Type} {Q:Nat->List α} {x:Nat -> α} (h:∀n,Q (n+1)=(Q n).tail++[x n]) {D:Nat} (h0:(Q 0).length=D) (hD:1<=D) (n:Nat):∀j i,i+j < D->(Q (n+j))[i]? = (Q n)[i+j]?
 |0,i,_=>rfl
 |j+1,i,hi=>by
  have hl:=queue_len h h0 hD (n+j)
  rw [show n+(j+1)=n+j+1 by omega,h (n+j),List.getElem?_append_left (by rw [List.length_tail,hl];omega),List.getElem?_tail,queue_get h h0 hD n j (i+1) (by omega),show i+1+j=i+(j+1) by omega]
theorem queue_last {α : Type} {Q:Nat->List α} {x:Nat -> α} (h:∀n,Q (n+1)=(Q n).tail++[x n]) {D:Nat} (h0:(Q 0).length=D) (hD:1<=D) (n:Nat):(Q (n+D))[0]? = some (x n):=by
 have hl:=queue_len h h0 hD n
 have:=queue_get h h0 hD (n+1) (D - 1) 0 (by omega)
 rw [show n+1+(D - 1)=n+D by omega,h n,List.getElem?_append_right (by rw [List.length_tail,hl];omega),List.length_tail,hl] at this
 rw [this,show 0+(D - 1) - (D - 1)=0 by omega]
 rfl
theorem headD_of {α : Type} {l:List α} {x d : α} (h:l[0]? = some x):l.headD d=x:=by
 cases l with
 |nil=>cases h
 |cons y l=>injection h
theorem ways_queue {Q:Nat->List (List (Option Way))} {x:Nat->List (Option Way)} (h:∀n,Q (n+1)=(Q n).tail++[x n]) {D:Nat} (h0:(Q 0).length=D) (hD:1<=D) (n:Nat):ways (fun n=>bat (Q n)) D n=wayz (Q n):=by
 unfold ways wayz
 congr 1
 refine List.ext_getElem? fun j=>?_
 rw [List.getElem?_map,List.getElem?_map]
 have hl:=queue_len h h0 hD n
 rcases Nat.lt_or_ge j D with hj|hj
 ·rw [List.getElem?_range hj]
  have:=queue_get h h0 hD n j 0 (by omega)
  rw [Nat.zero_add,List.getElem?_eq_getElem (show j < (Q n).length by omega)] at this
  rw [List.getElem?_eq_getElem (show j < (Q n).length by omega)]
  show some (((Q (n+j)).headD []).filterMap id)=some (((Q n)[j]).filterMap id)
  rw [headD_of this]
 ·rw [List.getElem?_eq_none (by rw [List.length_range];exact hj),List.getElem?_eq_none (show (Q n).length<=j by omega)]
  rfl
theorem Qst.go {s:Qst} {f g:Prt->Prt} (hf:∀p,Took p (f p)) (hg:∀p,Took p (g p)) {D:Nat} (la:s.qa.length=D) (lb:s.qb.length=D) (hD:1<=D) (okA:∃N,s.a.Ok N) (okB:∃N,s.b.Ok N) (minA:s.a.Min) (minB:s.b.Min)
  (pa:∀v ∈ wayz s.qa,v.2.pay.length<=1000) (pb:∀v ∈ wayz s.qb,v.2.pay.length<=1000) (both:∃oa ga ob gb da db,Both s.a s.b (wayz s.qa) (wayz s.qb) oa ga ob gb da db) :
  Go D (fun n=>(s.run f g n).a) (fun n=>(s.run f g n).b) (fun n=>bat (s.run f g n).qa) (fun n=>bat (s.run f g n).qb):=by
 have ha:∀n,(s.run f g (n+1)).qa=(s.run f g n).qa.tail++[outs (s.run f g n).ta]:=fun n=>rfl
 have hb:∀n,(s.run f g (n+1)).qb=(s.run f g n).qb.tail++[outs (s.run f g n).tb]:=fun n=>rfl
 have wA:=ways_queue (Q:=fun n=>(s.run f g n).qa) ha la hD 0
 have wB:=ways_queue (Q:=fun n=>(s.run f g n).qb) hb lb hD 0
 refine ⟨hD,fun n=>?_,fun n=>?_,fun n=>hf _,fun n=>hg _,okA,okB,minA,minB,fun j hj v hv=>?_,fun j hj v hv=>?_,?_⟩
 ·show ((s.run f g (n+D)).qa.headD []).filterMap id=_
  rw [headD_of (queue_last (Q:=fun n=>(s.run f g n).qa) ha la hD n),outs_some]
  rfl
 ·show ((s.run f g (n+D)).qb.headD []).filterMap id=_
  rw [headD_of (queue_last (Q:=fun n=>(s.run f g n).qb) hb lb hD n),outs_some]
  rfl
 ·refine pa v ?_
  rw [show wayz s.qa=wayz (s.run f g 0).qa from rfl,<-wA]
  exact ways_mem (B:=fun n=>bat (s.run f g n).qa) (n:=0) hj v (by rw [Nat.zero_add];exact hv)
 ·refine pb v ?_
  rw [show wayz s.qb=wayz (s.run f g 0).qb from rfl,<-wB]
  exact ways_mem (B:=fun n=>bat (s.run f g n).qb) (n:=0) hj v (by rw [Nat.zero_add];exact hv)
 ·obtain ⟨oa,ga,ob,gb,da,db,h⟩:=both
  exact ⟨oa,ga,ob,gb,da,db,by rw [wA,wB];exact h⟩
def Prt.takes (p:Prt):List Nat->Prt
 |[]=>p
 |c::cs=>((p.take (c:Int)).2).takes cs
def Lnd.takes (x:Lnd):List Nat->Lnd
 |[]=>x
 |c::cs=>((x.take (c:Int)).2).takes cs
theorem Lnd.take_prt (x:Lnd) (c:Int):(x.take c).2.prt=(x.prt.take c).2/\(x.take c).2.into=x.into/\(x.take c).2.sc=x.sc:=by
 unfold Lnd.take
 rcases hp:x.prt.take c with ⟨o,p⟩
 cases o with
 |none=>
  refine ⟨?_,rfl,rfl⟩
  show x.prt=p
  unfold Prt.take at hp
  cases hk:x.prt.peek c with
  |none=>rw [hk] at hp;exact congrArg Prod.snd hp
  |some d=>rw [hk] at hp;cases congrArg Prod.fst hp
 |some d=>exact ⟨rfl,rfl,rfl⟩
theorem Lnd.takes_prt:∀(cs:List Nat) (x:Lnd),(x.takes cs).prt=x.prt.takes cs/\(x.takes cs).into=x.into/\(x.takes cs).sc=x.sc
 |[],_=>⟨rfl,rfl,rfl⟩
 |c::cs,x=>by
  obtain ⟨h1,h2,h3⟩:=Lnd.takes_prt cs (x.take c).2
  obtain ⟨k1,k2,k3⟩:=Lnd.take_prt x c
  exact ⟨by show ((x.take c).2.takes cs).prt=_;rw [h1,k1];rfl,h2.trans k2,h3.trans k3⟩
theorem take_took (p:Prt) (c:Nat):Took p (p.take (c:Int)).2:=by
 unfold Prt.take
 cases hk:p.peek (c:Int) with
 |none=>exact .refl
 |some d=>
  unfold Prt.peek at hk
  by_cases hh:p.has (c:Int)
  ·rw [if_pos hh,Int.toNat_natCast] at hk
   have hc:c < p.rooms.length:=by have:=hh.2;omega
   cases hb:p.buffer.getD c [] with
   |nil=>rw [hb] at hk;cases hk
   |cons d' l=>
    have:=Took.step (a:=p) .refl hc hb
    show Took p { p with buffer:=p.buffer.set (c:Int).toNat ((p.buffer.getD (c:Int).toNat []).drop 1),giv:=p.giv.set (c:Int).toNat (p.giv.getD (c:Int).toNat ⟨0,0,0⟩).free,taken:=p.taken.set (c:Int).toNat (p.taken.getD (c:Int).toNat 0+1) }
    rw [Int.toNat_natCast,hb,List.drop_succ_cons,List.drop_zero]
    exact this
  ·rw [if_neg hh] at hk;cases hk
theorem takes_took:∀(cs:List Nat) (p:Prt),Took p (p.takes cs)
 |[],_=>.refl
 |c::cs,p=>(take_took p c).trans (takes_took cs _)
def Prt.all (p:Prt):List Nat:=((List.range p.rooms.length).map fun c=>List.replicate (p.buffer.getD c []).length c).flatten
def Prt.empty (p:Prt):Prt:=p.takes p.all
def Lnd.empty (x:Lnd):Lnd:=x.takes x.prt.all
def Lk.empty (L:Lk):Lk:=⟨L.l.empty,L.r.empty⟩
end

section
def Cab.Fine (c:Cab):Prop:=∀k:Nat,c.sent<=k->(faultOf c.faults k).kind=0
theorem Cab.Fine.more {c d:Cab} (h:c.Fine) (hf:d.faults=c.faults) (hs:c.sent<=d.sent):d.Fine:=fun k hk=>by rw [hf];exact h k (by omega)
theorem Lnd.send_clean (t:Tag):∀(ys:List Pt) {x:Lnd} {ws:List (Nat × Option Way)},Wire x.into.flying ws->x.into.up=true->x.into.Fine->(∀y ∈ ys,Good y.pk)->x.into.flying.length+ys.length<=64 ->
  Wire (x.send ys).into.flying (ws++(ys.map fun y=>some (t,y)).map fun o=>(x.into.ticks+x.into.delay,o))
 |[],x,ws,h,_,_,_,_=>by simpa [Lnd.send] using h
 |y::ys,x,ws,h,hu,hf,hg,hl=>by
  show Wire ((x.send1 y).send ys).into.flying _
  have hy:=hg y (List.mem_cons_self ..)
  rw [List.length_cons] at hl
  have w1:=h.send1 t hy hu (hf _ (Nat.le_refl _)) (by omega)
  unfold Lnd.send1
  rw [if_pos (validP_iff.2 hy)]
  obtain ⟨e1,e2,e3,e4,e5,e6⟩:=cab_send_keeps x.into (symP y.pk)
  have hl1:(x.into.send (symP y.pk)).2.flying.length=x.into.flying.length+1:=by
   rw [w1.length,List.length_append,<-h.length];rfl
  have:=Lnd.send_clean t ys (x:={ x with into:=(x.into.send (symP y.pk)).2 }) w1 (by show (x.into.send (symP y.pk)).2.up=true;rw [e5];exact hu) (hf.more e3 (by show x.into.sent<=(x.into.send (symP y.pk)).2.sent;rw [e4];omega)) (fun z hz=>hg z (List.mem_cons_of_mem _ hz)) (by show (x.into.send (symP y.pk)).2.flying.length+ys.length<=64;omega)
  dsimp only at this
  rw [e1,e2,List.append_assoc] at this
  exact this
theorem Lnd.send_sent (y:Pt) (ys:List Pt) (x:Lnd) (hy:Good y.pk):x.into.sent+1<=(x.send (y::ys)).into.sent:=by
 show _<=((x.send1 y).send ys).into.sent
 have h:=(Lnd.send_keeps ys (x.send1 y)).2.2.2.2.1
 unfold Lnd.send1 at h ⊢
 rw [if_pos (validP_iff.2 hy)] at h ⊢
 dsimp only at h
 rw [(cab_send_keeps x.into (symP y.pk)).2.2.2.1] at h
 exact h
section
variable {L:Lk} {s:Qst} {D N:Nat} {oa ga ob gb pa pb:Nat->List Bytes} {da db:Nat->Nat} {wl wr:List (Nat × Option Way)}
structure Lk.Calm (L:Lk) (D:Nat):Prop where
 D6:D<=6
 dl:L.l.into.delay=D
 dr:L.r.into.delay=D
 ul:L.l.into.up=true
 ur:L.r.into.up=true
theorem tick_into (L:Lk):L.tick.l.into.delay=L.l.into.delay/\L.tick.l.into.faults=L.l.into.faults/\L.tick.l.into.up=L.l.into.up/\L.l.into.sent<=L.tick.l.into.sent/\L.tick.l.into.ticks=L.l.into.ticks+1:=by
 obtain ⟨k1,k2,k3,k4,k5,_⟩:=Lnd.send_keeps L.r.tick.1 L.l.tick.2
 exact ⟨k2,k3,k4,k5,k1⟩
theorem tick_into' (L:Lk):L.tick.r.into.delay=L.r.into.delay/\L.tick.r.into.faults=L.r.into.faults/\L.tick.r.into.up=L.r.into.up/\L.r.into.sent<=L.tick.r.into.sent/\L.tick.r.into.ticks=L.r.into.ticks+1:=by
 obtain ⟨k1,k2,k3,k4,k5,_⟩:=Lnd.send_keeps L.l.tick.1 L.r.tick.2
 exact ⟨k2,k3,k4,k5,k1⟩
theorem Lk.Calm.tick (h:L.Calm D):L.tick.Calm D:=by
 obtain ⟨a1,a2,a3,a4,_⟩:=tick_into L
 obtain ⟨b1,b2,b3,b4,_⟩:=tick_into' L
 exact ⟨h.D6,a1.trans h.dl,b1.trans h.dr,a3.trans h.ul,b3.trans h.ur⟩
theorem Lk.Calm.empty (h:L.Calm D):L.empty.Calm D:=by
 obtain ⟨_,a2,_⟩:=Lnd.takes_prt L.l.prt.all L.l
 obtain ⟨_,b2,_⟩:=Lnd.takes_prt L.r.prt.all L.r
 exact ⟨h.D6,by show (L.l.takes L.l.prt.all).into.delay=D;rw [a2];exact h.dl,by show (L.r.takes L.r.prt.all).into.delay=D;rw [b2];exact h.dr,by show (L.l.takes L.l.prt.all).into.up=true;rw [a2];exact h.ul,by show (L.r.takes L.r.prt.all).into.up=true;rw [b2];exact h.ur⟩
structure Lk.FineL (L:Lk):Prop where
 l:L.l.into.Fine
 r:L.r.into.Fine
theorem Lk.FineL.tick (h:L.FineL):L.tick.FineL:=by
 obtain ⟨a1,a2,a3,a4,_⟩:=tick_into L
 obtain ⟨b1,b2,b3,b4,_⟩:=tick_into' L
 exact ⟨h.l.more a2 a4,h.r.more b2 b4⟩
theorem Lk.FineL.empty (h:L.FineL):L.empty.FineL:=by
 obtain ⟨_,a2,_⟩:=Lnd.takes_prt L.l.prt.all L.l
 obtain ⟨_,b2,_⟩:=Lnd.takes_prt L.r.prt.all L.r
 exact ⟨by show (L.l.takes L.l.prt.all).into.Fine;rw [a2];exact h.l,by show (L.r.takes L.r.prt.all).into.Fine;rw [b2];exact h.r⟩
structure Lk.Clean (L:Lk) (s:Qst) (D N:Nat) (pa pb:Nat->List Bytes) (da db:Nat->Nat):Prop where
 a:L.l.prt=s.a
 b:L.r.prt=s.b
 la:s.qa.length=D
 lb:s.qb.length=D
 inv:∃oa ga ob gb,L.Inv N (dueQ L.l.into.ticks s.qb) (dueQ L.r.into.ticks s.qa) oa ga ob gb da db/\L.l.Book oa ga pa/\L.r.Book ob gb pb
structure Qst.Small (s:Qst):Prop where
 fa:∀q ∈ s.qa,q.length<=7
 fb:∀q ∈ s.qb,q.length<=7
theorem small_sum:∀ {qs:List (List (Option Way))},(∀q ∈ qs,q.length<=7)->(qs.map List.length).sum<=7*qs.length
 |[],_=>Nat.le_refl _
 |q::qs,h=>by
  have h1:=h q (List.mem_cons_self ..)
  have h2:=small_sum fun x hx=>h x (List.mem_cons_of_mem q hx)
  rw [List.map_cons,List.sum_cons,List.length_cons];omega
theorem Lk.Clean.tick (h:L.Clean s D N pa pb da db) (hc:L.Calm D) (hf:L.FineL) (hs:s.Small) (hN:N+13000<=1000000000):L.tick.Clean (s.step id id) D (N+13000) pa pb da db/\(s.step id id).Small:=by
 obtain ⟨oa,ga,ob,gb,hi,k1,k2⟩:=h.inv
 have hD:1<=D:=by rw [<-hc.dl];exact hi.l.cab.d1
 have hD6:=hc.D6
 obtain ⟨ql,qsl,el⟩:∃q qs,s.qb=q::qs:=by
  cases hq:s.qb with
  |nil=>have:=h.lb;rw [hq,List.length_nil] at this;omega
  |cons q qs=>exact ⟨q,qs,rfl⟩
 obtain ⟨qr,qsr,er⟩:∃q qs,s.qa=q::qs:=by
  cases hq:s.qa with
  |nil=>have:=h.la;rw [hq,List.length_nil] at this;omega
  |cons q qs=>exact ⟨q,qs,rfl⟩
 have lenl:qsl.length+1=D:=by rw [<-h.lb,el,List.length_cons]
 have lenr:qsr.length+1=D:=by rw [<-h.la,er,List.length_cons]
 have sl:=small_sum fun q hq=>hs.fb q (by rw [el];exact List.mem_cons_of_mem _ hq)
 have sr:=small_sum fun q hq=>hs.fa q (by rw [er];exact List.mem_cons_of_mem _ hq)
 rw [el,er] at hi
 obtain ⟨kl,il,s1,p1,g1⟩:=hi.l.tick
 obtain ⟨kr,ir,s2,p2,g2⟩:=hi.r.tick
 have ta1:L.l.tick.1=s.ta.1:=by rw [s1,h.a];unfold Qst.ta;rw [el];rfl
 have tb1:L.r.tick.1=s.tb.1:=by rw [s2,h.b];unfold Qst.tb;rw [er];rfl
 have ta2:L.l.tick.2.prt=s.ta.2:=by rw [p1,h.a];unfold Qst.ta;rw [el];rfl
 have tb2:L.r.tick.2.prt=s.tb.2:=by rw [p2,h.b];unfold Qst.tb;rw [er];rfl
 have nl:(ql.filterMap id).length<=64:=Nat.le_trans (List.length_filterMap_le ..) kl
 have nr:(qr.filterMap id).length<=64:=Nat.le_trans (List.length_filterMap_le ..) kr
 obtain ⟨gl,fl⟩:=sent_good' (l:=ql.filterMap id) (wb':=wayz qsl) hi.both hi.l.ok (by rw [held_dueQ];rfl) hi.r.ok.i2 g1 (by omega)
 obtain ⟨gr,fr⟩:=sent_good' (l:=qr.filterMap id) (wb':=wayz qsr) hi.both.swap hi.r.ok (by rw [held_dueQ];rfl) hi.l.ok.i2 g2 (by omega)
 rw [<-s1,ta1] at gl fl
 rw [<-s2,tb1] at gr fr
 have w2:=Lnd.send_clean s.tb.2.tag s.tb.1 (x:=L.l.tick.2) il.wire hc.ul hf.l gr (by rw [il.wire.length,dueQ_length];omega)
 have w1:=Lnd.send_clean s.ta.2.tag s.ta.1 (x:=L.r.tick.2) ir.wire hc.ur hf.r gl (by rw [ir.wire.length,dueQ_length];omega)
 have w2':Wire L.tick.l.into.flying (dueQ (L.l.into.ticks+1) qsl++(outs s.tb).map fun o=>(L.l.into.ticks+1+L.l.into.delay,o)):=by
  show Wire (L.l.tick.2.send L.r.tick.1).into.flying _
  rw [tb1];exact w2
 have w1':Wire L.tick.r.into.flying (dueQ (L.r.into.ticks+1) qsr++(outs s.ta).map fun o=>(L.r.into.ticks+1+L.r.into.delay,o)):=by
  show Wire (L.r.tick.2.send L.l.tick.1).into.flying _
  rw [ta1];exact w1
 have q2:∀v ∈ (outs s.tb).filterMap id,∃y ∈ L.r.tick.1,v=(L.r.tick.2.prt.tag,y):=fun v hv=>by
  rw [outs_some] at hv
  obtain ⟨y,hy,rfl⟩:=List.mem_map.1 hv
  rw [tb1,tb2]
  exact ⟨y,hy,rfl⟩
 have q1:∀v ∈ (outs s.ta).filterMap id,∃y ∈ L.l.tick.1,v=(L.l.tick.2.prt.tag,y):=fun v hv=>by
  rw [outs_some] at hv
  obtain ⟨y,hy,rfl⟩:=List.mem_map.1 hv
  rw [ta1,ta2]
  exact ⟨y,hy,rfl⟩
 have hi':=hi.tick (by rw [hc.dl];exact lenl) (by rw [hc.dr];exact lenr) w2' q2 w1' q1
 have pl:L.tick.l.prt=s.ta.2:=by
  show (L.l.tick.2.send L.r.tick.1).prt=_
  rw [(Lnd.send_same _ _).prt,ta2]
 have pr:L.tick.r.prt=s.tb.2:=by
  show (L.r.tick.2.send L.l.tick.1).prt=_
  rw [(Lnd.send_same _ _).prt,tb2]
 refine ⟨⟨pl,pr,?_,?_,oa,ga,ob,gb,?_,k1.ticked _,k2.ticked _⟩,⟨fun q hq=>?_,fun q hq=>?_⟩⟩
 ·show (s.qa.tail++[outs s.ta]).length=D
  rw [er,List.tail_cons,List.length_append];exact lenr
 ·show (s.qb.tail++[outs s.tb]).length=D
  rw [el,List.tail_cons,List.length_append];exact lenl
 ·show L.tick.Inv (N+13000) (dueQ L.tick.l.into.ticks (s.qb.tail++[outs s.tb])) (dueQ L.tick.r.into.ticks (s.qa.tail++[outs s.ta])) oa ga ob gb da db
  rw [el,er,List.tail_cons,List.tail_cons]
  exact hi'
 ·rcases List.mem_append.1 (show q ∈ s.qa.tail++[outs s.ta] from hq) with hq|hq
  ·exact hs.fa q (List.mem_of_mem_tail hq)
  ·rw [List.mem_singleton.1 hq];unfold outs;rw [List.length_map];exact fl
 ·rcases List.mem_append.1 (show q ∈ s.qb.tail++[outs s.tb] from hq) with hq|hq
  ·exact hs.fb q (List.mem_of_mem_tail hq)
  ·rw [List.mem_singleton.1 hq];unfold outs;rw [List.length_map];exact fr
end
theorem Lnd.takes_inv {b:Prt} {ws:List (Nat × Option Way)} {wx wy:List Way} {o p ob gb:Nat->List Bytes} {da db:Nat->Nat}:∀(cs:List Nat) {x:Lnd} {N:Nat} {g:Nat->List Bytes},x.Inv N ws->x.Book o g p->Both x.prt b wx wy o g ob gb da db ->
  ∃g',(x.takes cs).Inv (N+cs.length) ws/\(x.takes cs).Book o g' p/\Both (x.takes cs).prt b wx wy o g' ob gb da db
 |[],_,_,g,h,k,bo=>⟨g,h,k,bo⟩
 |c::cs,x,N,g,h,k,bo=>by
  obtain ⟨g1,h1,k1,b1⟩:=Lnd.take_inv h k bo (c:Int)
  obtain ⟨g2,h2,k2,b2⟩:=Lnd.takes_inv cs h1 k1 b1
  exact ⟨g2,h2.mono (by rw [List.length_cons];omega),k2,b2⟩
end

section
theorem takes_keep:∀(cs:List Nat) (p:Prt),(p.takes cs).rooms=p.rooms/\(p.takes cs).side=p.side/\(p.takes cs).inc=p.inc/\(p.takes cs).kept=p.kept/\(p.takes cs).waiting=p.waiting/\(p.takes cs).acked=p.acked/\(p.takes cs).rcv=p.rcv/\(p.takes cs).timeout=p.timeout/\(p.takes cs).dead=p.dead/\(p.takes cs).snd=p.snd:=fun cs p=>by
 have:=(takes_took cs p).eq
 rw [this]
 exact ⟨rfl,rfl,rfl,rfl,rfl,rfl,rfl,rfl,rfl,rfl⟩
theorem take_buf (p:Prt) (hl:p.buffer.length=p.rooms.length) (c:Nat) (hc:c < p.rooms.length):(p.take (c:Int)).2.buffer.length=p.buffer.length/\(p.take (c:Int)).2.rooms=p.rooms/\∀k,(p.take (c:Int)).2.buffer.getD k []=if c=k then (p.buffer.getD k []).drop 1 else p.buffer.getD k []:=by
 have hh:p.has (c:Int):=⟨by omega,by omega⟩
 cases hb:p.buffer.getD c [] with
 |nil=>
  have hk:p.peek (c:Int)=none:=by unfold Prt.peek;rw [if_pos hh,Int.toNat_natCast,hb];rfl
  have:p.take (c:Int)=(none,p):=by unfold Prt.take;rw [hk]
  rw [this]
  refine ⟨rfl,rfl,fun k=>?_⟩
  by_cases e:c=k
  ·rw [if_pos e,<-e,hb];rfl
  ·rw [if_neg e]
 |cons d l=>
  rw [take_is hc hb]
  refine ⟨by show (p.buffer.set c l).length=_;rw [List.length_set],rfl,fun k=>?_⟩
  show (p.buffer.set c l).getD k []=_
  rw [getD_set _ _ _ _ _ (by rw [hl];exact hc)]
  by_cases e:c=k
  ·rw [if_pos e,if_pos e,<-e,hb];rfl
  ·rw [if_neg e,if_neg e]
theorem takes_buf:∀(cs:List Nat) (p:Prt),p.buffer.length=p.rooms.length->(∀c ∈ cs,c < p.rooms.length)->∀k,(p.takes cs).buffer.getD k []=(p.buffer.getD k []).drop (cs.count k)
 |[],p,_,_,k=>rfl
 |c::cs,p,hl,hc,k=>by
  obtain ⟨h1,h2,h3⟩:=take_buf p hl c (hc c (List.mem_cons_self ..))
  have:=takes_buf cs (p.take (c:Int)).2 (by rw [h1,h2];exact hl) (fun x hx=>by rw [h2];exact hc x (List.mem_cons_of_mem _ hx)) k
  show ((p.take (c:Int)).2.takes cs).buffer.getD k []=_
  rw [this,h3 k,List.count_cons]
  by_cases e:c=k
  ·subst e;rw [if_pos rfl,List.drop_drop];simp [Nat.add_comm]
  ·rw [if_neg e];simp [e]
theorem count_all (f:Nat->Nat) (k:Nat):∀n,(((List.range n).map fun c=>List.replicate (f c) c).flatten).count k=if k < n then f k else 0
 |0=>by simp
 |n+1=>by
  rw [List.range_succ,List.map_append,List.flatten_append,List.count_append,count_all f k n]
  show _+((List.replicate (f n) n++[]).count k)=_
  rw [List.append_nil,List.count_replicate]
  by_cases h1:k < n
  ·rw [if_pos h1,if_pos (show k < n+1 by omega),if_neg (by simp;omega)];rfl
  ·rw [if_neg h1]
   by_cases h2:n=k
   ·subst h2;simp
   ·rw [if_neg (by simpa using h2),if_neg (show ¬k < n+1 by omega)]
theorem mem_all {p:Prt}:∀c ∈ p.all,c < p.rooms.length:=fun c hc=>by
 unfold Prt.all at hc
 obtain ⟨l,hl,h2⟩:=List.mem_flatten.1 hc
 obtain ⟨k,hk,rfl⟩:=List.mem_map.1 hl
 rw [List.eq_of_mem_replicate h2]
 exact List.mem_range.1 hk
theorem empty_buf {p:Prt} (hl:p.buffer.length=p.rooms.length) (k:Nat):p.empty.buffer.getD k []=[]:=by
 unfold Prt.empty
 rw [takes_buf _ _ hl mem_all]
 unfold Prt.all
 rw [count_all fun c=>(p.buffer.getD c []).length]
 by_cases h:k < p.rooms.length
 ·rw [if_pos h];exact List.drop_length
 ·rw [if_neg h,getD_out (by omega)];rfl
theorem all_len {p:Prt} (h4:p.rooms.length<=4) (hb:∀c,c < p.rooms.length->(p.buffer.getD c []).length<=64):p.all.length<=256:=by
 unfold Prt.all
 have:∀n,n<=p.rooms.length->((List.range n).map fun c=>List.replicate (p.buffer.getD c []).length c).flatten.length<=64*n:=fun n=>by
  induction n with
  |zero=>intro _;simp
  |succ n ih=>
   intro hn
   rw [List.range_succ,List.map_append,List.flatten_append,List.length_append]
   have:=ih (by omega)
   have h2:=hb n (by omega)
   show _+(List.replicate (p.buffer.getD n []).length n++[]).length<=_
   rw [List.append_nil,List.length_replicate];omega
 have:=this _ (Nat.le_refl _)
 omega
section
variable {a b:Prt} {wa wb:List Way} {oa ga ob gb:Nat->List Bytes} {da db:Nat->Nat} {N:Nat}
theorem Both.all_len (h:Both a b wa wb oa ga ob gb da db) (ok:a.Ok N):a.all.length<=256:=
 Go.Proofs.YtckdblgobmofgaaGreatDoor.all_len ok.n4 fun c hc=>Nat.le_trans (h.room hc) (getD_all (P:=fun x=>x<=64) (fun x hx=>(ok.rm x hx).2) (by decide) c)
end
theorem since_takes:∀(cs:List Nat) (x:Lnd),(x.takes cs).since=x.since/\(x.takes cs).offered=x.offered/\(x.takes cs).inc=x.inc
 |[],_=>⟨rfl,rfl,rfl⟩
 |c::cs,x=>by
  have h:(x.take (c:Int)).2.since=x.since/\(x.take (c:Int)).2.offered=x.offered/\(x.take (c:Int)).2.inc=x.inc:=by
   unfold Lnd.take
   split <;> exact ⟨rfl,rfl,rfl⟩
  obtain ⟨h1,h2,h3⟩:=since_takes cs (x.take (c:Int)).2
  exact ⟨h1.trans h.1,h2.trans h.2.1,h3.trans h.2.2⟩
section
variable {L:Lk} {s:Qst} {D N:Nat} {pa pb:Nat->List Bytes} {da db:Nat->Nat}
theorem Lk.Inv.empty {L:Lk} {N:Nat} {wl wr:List (Nat × Option Way)} {oa ga ob gb:Nat->List Bytes} (h:L.Inv N wl wr oa ga ob gb da db) (k1:L.l.Book oa ga pa) (k2:L.r.Book ob gb pb) :
  ∃ga' gb',L.empty.Inv (N+256) wl wr oa ga' ob gb' da db/\L.empty.l.Book oa ga' pa/\L.empty.r.Book ob gb' pb:=by
 have n1:=h.both.all_len h.l.ok
 have n2:=h.both.swap.all_len h.r.ok
 obtain ⟨ga',a1,a2,a3⟩:=Lnd.takes_inv L.l.prt.all h.l k1 h.both
 obtain ⟨gb',b1,b2,b3⟩:=Lnd.takes_inv L.r.prt.all h.r k2 a3.swap
 obtain ⟨e1,e2,e3⟩:=Lnd.takes_prt L.l.prt.all L.l
 obtain ⟨f1,f2,f3⟩:=Lnd.takes_prt L.r.prt.all L.r
 have s1:=takes_keep L.l.prt.all L.l.prt
 have s2:=takes_keep L.r.prt.all L.r.prt
 refine ⟨ga',gb',⟨a1.mono (by omega),b1.mono (by omega),b3.swap,?_,?_,?_⟩,a2,b2⟩
 ·obtain ⟨qs,q1,q2⟩:=h.dl
  exact ⟨qs,by show qs.length=(L.l.takes L.l.prt.all).into.delay;rw [e2];exact q1,by show wl=dueQ (L.l.takes L.l.prt.all).into.ticks qs;rw [e2];exact q2⟩
 ·obtain ⟨qs,q1,q2⟩:=h.dr
  exact ⟨qs,by show qs.length=(L.r.takes L.r.prt.all).into.delay;rw [f2];exact q1,by show wr=dueQ (L.r.takes L.r.prt.all).into.ticks qs;rw [f2];exact q2⟩
 ·show Kno (L.l.takes L.l.prt.all).prt (L.r.takes L.r.prt.all).prt _ _
  rw [e1,f1]
  refine Kno.swap (Kno.side (Kno.swap (h.kn.side s1.2.2.1 fun x=>?_)) s2.2.2.1 fun x=>?_)
  ·rw [s1.2.1] at x ⊢;exact ⟨x,rfl⟩
  ·rw [s2.2.1] at x ⊢;exact ⟨x,rfl⟩
theorem Lk.Full.empty {Z:Prop} (h:L.Full N Z):L.empty.Full (N+256) Z:=by
 obtain ⟨wl,wr,oa,ga,pa,ob,gb,pb,da,db,i,k1,k2,z⟩:=h
 obtain ⟨ga',gb',i',k1',k2'⟩:=i.empty k1 k2
 exact ⟨wl,wr,oa,ga',pa,ob,gb',pb,da,db,i',k1',k2',z⟩
theorem empty_into (L:Lk):L.empty.l.into=L.l.into/\L.empty.r.into=L.r.into:=⟨(Lnd.takes_prt _ _).2.1,(Lnd.takes_prt _ _).2.1⟩
theorem Lk.Clean.empty (h:L.Clean s D N pa pb da db):L.empty.Clean ⟨s.a.empty,s.b.empty,s.qa,s.qb⟩ D (N+256) pa pb da db:=by
 obtain ⟨oa,ga,ob,gb,hi,k1,k2⟩:=h.inv
 obtain ⟨ga',gb',i',k1',k2'⟩:=hi.empty k1 k2
 obtain ⟨e1,e2⟩:=empty_into L
 refine ⟨?_,?_,h.la,h.lb,oa,ga',ob,gb',?_,k1',k2'⟩
 ·show (L.l.takes L.l.prt.all).prt=s.a.empty
  rw [(Lnd.takes_prt _ _).1,h.a];rfl
 ·show (L.r.takes L.r.prt.all).prt=s.b.empty
  rw [(Lnd.takes_prt _ _).1,h.b];rfl
 ·rw [e1,e2];exact i'
def Lk.serve (L:Lk):Lk:=L.tick.empty
def Lk.serves (L:Lk):Nat->Lk
 |0=>L
 |n+1=>(L.serves n).serve
theorem Lk.Clean.serves (h:L.Clean s D N pa pb da db) (hc:L.Calm D) (hf:L.FineL) (hs:s.Small):∀n,N+13256*n<=1000000000->(L.serves n).Clean (s.run Prt.empty Prt.empty n) D (N+13256*n) pa pb da db/\(L.serves n).Calm D/\(L.serves n).FineL/\(s.run Prt.empty Prt.empty n).Small
 |0,_=>⟨h,hc,hf,hs⟩
 |n+1,hN=>by
  obtain ⟨M,hM⟩:∃M,M=N+13256*n:=⟨_,rfl⟩
  have hN':M+13256<=1000000000:=by rw [hM,Nat.add_assoc,<-Nat.mul_succ];exact hN
  clear hN
  obtain ⟨h1,h2,h3,h4⟩:=h.serves hc hf hs n (by rw [<-hM];exact Nat.le_trans (Nat.le_add_right _ _) hN')
  rw [<-hM] at h1
  obtain ⟨k1,k2⟩:=h1.tick h2 h3 h4 (Nat.le_trans (Nat.add_le_add_left (by decide) _) hN')
  have k3:=k1.empty
  refine ⟨?_,h2.tick.empty,h3.tick.empty,⟨k2.fa,k2.fb⟩⟩
  have e:M+13000+256=N+13256*(n+1):=by rw [hM,Nat.mul_succ,Nat.add_assoc,Nat.add_assoc]
  rw [<-e]
  exact k3
end
theorem tick_since (L:Lk):L.tick.l.since=L.l.since/\L.tick.r.since=L.r.since/\L.tick.l.offered=L.l.offered/\L.tick.r.offered=L.r.offered:=by
 have h1:L.tick.l.since=L.l.tick.2.since:=(Lnd.send_same _ _).since
 have h2:L.tick.r.since=L.r.tick.2.since:=(Lnd.send_same _ _).since
 have h3:L.tick.l.offered=L.l.tick.2.offered:=(Lnd.send_same _ _).offered
 have h4:L.tick.r.offered=L.r.tick.2.offered:=(Lnd.send_same _ _).offered
 exact ⟨h1,h2,h3,h4⟩
theorem empty_since (L:Lk):L.empty.l.since=L.l.since/\L.empty.r.since=L.r.since/\L.empty.l.offered=L.l.offered/\L.empty.r.offered=L.r.offered:=⟨(since_takes _ _).1,(since_takes _ _).1,(since_takes _ _).2.1,(since_takes _ _).2.1⟩
theorem serves_since (L:Lk):∀n,(L.serves n).l.since=L.l.since/\(L.serves n).r.since=L.r.since
 |0=>⟨rfl,rfl⟩
 |n+1=>by
  obtain ⟨h1,h2⟩:=serves_since L n
  obtain ⟨k1,k2,_⟩:=tick_since (L.serves n)
  obtain ⟨m1,m2,_⟩:=empty_since (L.serves n).tick
  exact ⟨(m1.trans k1).trans h1,(m2.trans k2).trans h2⟩
def Lnd.Quiet (x:Lnd):Prop:=x.prt.side.state=2/\∀c,c < x.prt.rooms.length->x.prt.buffer.getD c []=[]/\x.since.getD c 0<=x.prt.acked.getD c 0
def Lk.Quiet (L:Lk):Prop:=L.l.Quiet/\L.r.Quiet
def Lnd.some (x:Lnd):Nat:=((List.range x.prt.rooms.length).map fun c=>x.since.getD c 0).sum
theorem one_quiet {D:Nat} {a b:Nat->Prt} {Ba Bb:Nat->List Way} (g:Go D a b Ba Bb) (u:Up D a b Ba Bb 0) (hr:(b 0).rooms.length=(a 0).rooms.length) (he:∀n c,(b n).buffer.getD c []=[]) (hM:(a 0).snd.acked+(a 0).snd.kept.length+wt (a 0)<=1000000000) {M t:Nat} (hL:(a 0).snd.kept.length+wt (a 0)<=M) (ht:(a 0).snd.timeout<=t) {n:Nat} (hn:2*D+(M+1)*(t+1)+M*(4*D+2)+D+1<=n) :
  (b n).rcv=(a 0).snd.acked+(a 0).snd.kept.length+wt (a 0)/\(a n).snd.kept.length=0/\wt (a n)=0:=by
 have F:=g.flow u hr hM 0 fun n c _ _=>he n c
 have h:=F.done g.hD (n:=n) (by
  show 2*D+((a 0).snd.kept.length+wt (a 0)+1)*((a 0).snd.timeout+1)+((a 0).snd.kept.length+wt (a 0))*(0+4*D+2)+D+0+1<=n
  have h1:=Nat.mul_le_mul (show (a 0).snd.kept.length+wt (a 0)+1<=M+1 by omega) (show (a 0).snd.timeout+1<=t+1 by omega)
  have h2:=Nat.mul_le_mul hL (show 0+4*D+2<=4*D+2 by omega)
  omega)
 exact ⟨h.1,h.2.2.1,h.2.2.2.1⟩
end

section
section
variable {s:Qst} {D N:Nat} {pa pb:Nat->List Bytes} {da db:Nat->Nat}
theorem clean_quiet {Y:Lk} (h:Y.Clean s D N pa pb da db) (hc:Y.Calm D) (hf:Y.FineL) (hs:s.Small) (dl:2<=Y.l.prt.dead) (dr:2<=Y.r.prt.dead) {t M:Nat} (tl:Y.l.prt.timeout<=t) (tr:Y.r.prt.timeout<=t) (hr:Y.l.prt.rooms.length=Y.r.prt.rooms.length)
  (ml:Y.l.some<=M) (mr:Y.r.some<=M) (hM:M<=1000000) {n:Nat} (hn:6*D+(M+1)*(t+1)+M*(4*D+2)+1<=n) (hN:N+13256*(n+1)<=500000000):(Y.serves n).tick.Quiet:=by
 have run:=fun k (hk:k<=n)=>h.serves hc hf hs k (Nat.le_trans (Nat.add_le_add_left (Nat.mul_le_mul_left _ (show k<=n+1 by omega)) _) (Nat.le_trans hN (by decide)))
 have hN3:N+13256*n+13256<=500000000:=by rw [Nat.add_assoc,<-Nat.mul_succ];exact hN
 obtain ⟨oa,ga,ob,gb,hi,-,-⟩:=h.inv
 have hD:1<=D:=by rw [<-hc.dl];exact hi.l.cab.d1
 have hea:s.a=Y.l.prt:=h.a.symm
 have heb:s.b=Y.r.prt:=h.b.symm
 have hboth:=hi.both
 rw [held_dueQ,held_dueQ] at hboth
 have g:Go D (fun n=>(s.run Prt.empty Prt.empty n).a) (fun n=>(s.run Prt.empty Prt.empty n).b) (fun n=>bat (s.run Prt.empty Prt.empty n).qa) (fun n=>bat (s.run Prt.empty Prt.empty n).qb):=by
  refine Qst.go (fun p=>takes_took _ _) (fun p=>takes_took _ _) h.la h.lb hD ⟨N,by rw [hea];exact hi.l.ok⟩ ⟨N,by rw [heb];exact hi.r.ok⟩ ?_ ?_ ?_ ?_ ⟨oa,ga,ob,gb,da,db,by rw [hea,heb];exact hboth⟩
  ·obtain ⟨_,_,_,_,_,d2,_⟩:=hboth
   rw [hea];exact d2.mine
  ·obtain ⟨_,_,_,_,⟨d1,_⟩,_⟩:=hboth
   rw [heb];exact d1.mine
  ·intro v hv
   have:=(hi.r.wire.good v (by rw [held_dueQ];exact hv)).pay
   show v.2.pk.pay.length<=1000;omega
  ·intro v hv
   have:=(hi.l.wire.good v (by rw [held_dueQ];exact hv)).pay
   show v.2.pk.pay.length<=1000;omega
 have hdl:2<=((fun n=>(s.run Prt.empty Prt.empty n).a) 0).side.dead:=by show 2<=s.a.side.dead;rw [hea,hi.l.cons.dd];exact dl
 have hdr:2<=((fun n=>(s.run Prt.empty Prt.empty n).b) 0).side.dead:=by show 2<=s.b.side.dead;rw [heb,hi.r.cons.dd];exact dr
 have u3:=g.up_at (n:=0+3*D) hdl hdr (by omega)
 have u:=Up.shift (n:=0) (m:=3*D) u3
 have g3:=g.shift (3*D)
 have he:∀k c,((s.run Prt.empty Prt.empty (k+3*D)).a).buffer.getD c []=[]/\((s.run Prt.empty Prt.empty (k+3*D)).b).buffer.getD c []=[]:=fun k c=>by
  obtain ⟨j,hj⟩:∃j,k+3*D=j+1:=⟨k+3*D - 1,by omega⟩
  rw [hj]
  have A:=g.at j
  obtain ⟨NA,okA⟩:=A.okA
  obtain ⟨NB,okB⟩:=A.okB
  have pA:∀y ∈ (bat (s.run Prt.empty Prt.empty j).qa).map (·.2),y.pay.length<=1000:=fun y hy=>by
   obtain ⟨p,hp,rfl⟩:=List.mem_map.1 hy
   exact A.payA j (by omega) p hp
  have pB:∀y ∈ (bat (s.run Prt.empty Prt.empty j).qb).map (·.2),y.pay.length<=1000:=fun y hy=>by
   obtain ⟨p,hp,rfl⟩:=List.mem_map.1 hy
   exact A.payB j (by omega) p hp
  exact ⟨empty_buf (okA.tick pB).bl c,empty_buf (okB.tick pA).bl c⟩
 obtain ⟨r3,_⟩:=run (3*D) (by omega)
 obtain ⟨oa3,ga3,ob3,gb3,hi3,-,-⟩:=r3.inv
 obtain ⟨c1,c2⟩:=serves_since Y (3*D)
 have ka:=g.kinds (0+3*D)
 have kb:=g.swap.kinds (0+3*D)
 have hrl:((Y.serves (3*D)).l.prt).rooms=Y.l.prt.rooms:=by rw [r3.a,<-hea];have:=ka.2.1;rw [Nat.zero_add] at this;exact this
 have hrr:((Y.serves (3*D)).r.prt).rooms=Y.r.prt.rooms:=by rw [r3.b,<-heb];have:=kb.2.1;rw [Nat.zero_add] at this;exact this
 have w1:=hi3.l.cons.few hi3.l.ok
 have w2:=hi3.r.cons.few hi3.r.ok
 rw [c1,hrl] at w1
 rw [c2,hrr] at w2
 have t1:=hi3.l.ok.tot
 have t2:=hi3.r.ok.tot
 have z1:=hi3.l.cons.tmo
 have z2:=hi3.r.cons.tmo
 unfold Snd.total at t1 t2
 rw [r3.a] at w1 t1 z1 hrl
 rw [r3.b] at w2 t2 z2 hrr
 have tms:∀k,(s.run Prt.empty Prt.empty k).a.timeout=Y.l.prt.timeout/\(s.run Prt.empty Prt.empty k).b.timeout=Y.r.prt.timeout:=fun k=>by
  induction k with
  |zero=>exact ⟨by rw [<-hea];rfl,by rw [<-heb];rfl⟩
  |succ k ih=>
   have e1:(s.run Prt.empty Prt.empty (k+1)).a.timeout=(s.run Prt.empty Prt.empty k).ta.2.timeout:=(takes_keep _ _).2.2.2.2.2.2.2.1
   have e2:(s.run Prt.empty Prt.empty (k+1)).b.timeout=(s.run Prt.empty Prt.empty k).tb.2.timeout:=(takes_keep _ _).2.2.2.2.2.2.2.1
   exact ⟨e1.trans ((tick_tmo _ _).trans ih.1),e2.trans ((tick_tmo _ _).trans ih.2)⟩
 obtain ⟨q1,q2⟩:=tms (3*D)
 have hsml:((List.range Y.l.prt.rooms.length).map fun c=>Y.l.since.getD c 0).sum<=M:=ml
 have hsmr:((List.range Y.r.prt.rooms.length).map fun c=>Y.r.since.getD c 0).sum<=M:=mr
 obtain ⟨m,rfl⟩:∃m,n=m+3*D:=⟨n - 3*D,by omega⟩
 obtain ⟨rn,hcn,hfn,hsn⟩:=run (m+3*D) (Nat.le_refl _)
 obtain ⟨tn,_⟩:=rn.tick hcn hfn hsn (Nat.le_trans (Nat.add_le_add_left (show 13000<=13256 by decide) _) (Nat.le_trans hN3 (by decide)))
 obtain ⟨oan,gan,obn,gbn,hin,-,-⟩:=tn.inv
 have y1:=(g.up_from (n:=m+3*D) hdl (by omega) hdr).1
 have y2:=(g.swap.up_from (n:=m+3*D) hdr (by omega) hdl).1
 have e1:(s.run Prt.empty Prt.empty (m+3*D+1)).a=(s.run Prt.empty Prt.empty (m+3*D)).ta.2.empty:=rfl
 have e2:(s.run Prt.empty Prt.empty (m+3*D+1)).b=(s.run Prt.empty Prt.empty (m+3*D)).tb.2.empty:=rfl
 have pl:(Y.serves (m+3*D)).tick.l.prt=(s.run Prt.empty Prt.empty (m+3*D)).ta.2:=tn.a
 have pr:(Y.serves (m+3*D)).tick.r.prt=(s.run Prt.empty Prt.empty (m+3*D)).tb.2:=tn.b
 have kl:=takes_keep (s.run Prt.empty Prt.empty (m+3*D)).ta.2.all (s.run Prt.empty Prt.empty (m+3*D)).ta.2
 have kr:=takes_keep (s.run Prt.empty Prt.empty (m+3*D)).tb.2.all (s.run Prt.empty Prt.empty (m+3*D)).tb.2
 have ba:=he m
 have rl0:(s.run Prt.empty Prt.empty 0).a.rooms=s.a.rooms:=rfl
 obtain ⟨A,hA⟩:∃A:Nat->Prt,A=fun n=>(s.run Prt.empty Prt.empty (n+3*D)).a:=⟨_,rfl⟩
 obtain ⟨B,hB⟩:∃B:Nat->Prt,B=fun n=>(s.run Prt.empty Prt.empty (n+3*D)).b:=⟨_,rfl⟩
 have a0:A 0=(s.run Prt.empty Prt.empty (3*D)).a:=by rw [hA];show (s.run Prt.empty Prt.empty (0+3*D)).a=_;rw [Nat.zero_add]
 have b0:B 0=(s.run Prt.empty Prt.empty (3*D)).b:=by rw [hB];show (s.run Prt.empty Prt.empty (0+3*D)).b=_;rw [Nat.zero_add]
 have am:A m=(s.run Prt.empty Prt.empty (m+3*D)).a:=by rw [hA]
 have bm:B m=(s.run Prt.empty Prt.empty (m+3*D)).b:=by rw [hB]
 have am1:A (m+1)=(s.run Prt.empty Prt.empty (m+3*D)).ta.2.empty:=by rw [hA];show (s.run Prt.empty Prt.empty (m+1+3*D)).a=_;rw [show m+1+3*D=m+3*D+1 by omega];rfl
 have bm1:B (m+1)=(s.run Prt.empty Prt.empty (m+3*D)).tb.2.empty:=by rw [hB];show (s.run Prt.empty Prt.empty (m+1+3*D)).b=_;rw [show m+1+3*D=m+3*D+1 by omega];rfl
 have hea':∀k c,(A k).buffer.getD c []=[]/\(B k).buffer.getD c []=[]:=fun k c=>by rw [hA,hB];exact he k c
 rw [<-hA,<-hB] at g3 u
 rw [<-a0] at w1 t1 z1 hrl q1
 rw [<-b0] at w2 t2 z2 hrr q2
 have eqr:(B 0).rooms.length=(A 0).rooms.length:=by rw [hrl,hrr];exact hr.symm
 have hlen:∀k,m<=k->2*D+(M+1)*(t+1)+M*(4*D+2)+D+1<=k:=fun k hk=>by omega
 have O1:=fun k hk=>one_quiet g3 u eqr (fun n c=>(hea' n c).2) (by omega) (M:=M) (t:=t) (by omega) (by rw [z1,q1];exact tl) (n:=k) (hlen k hk)
 have O2:=fun k hk=>one_quiet g3.swap u.swap eqr.symm (fun n c=>(hea' n c).1) (by omega) (M:=M) (t:=t) (by omega) (by rw [z2,q2];exact tr) (n:=k) (hlen k hk)
 obtain ⟨o1,o2,o3⟩:=O1 (m+1) (by omega)
 obtain ⟨o4,o5,o6⟩:=O2 (m+1) (by omega)
 have x1:=(g3.rcv_le u m).2 ((O2 (m+1) (by omega)).1.trans (O2 m (Nat.le_refl _)).1.symm)
 have x2:=(g3.swap.rcv_le u.swap m).2 ((O1 (m+1) (by omega)).1.trans (O1 m (Nat.le_refl _)).1.symm)
 have v1:(s.run Prt.empty Prt.empty (m+3*D)).ta.2.buffer=(A m).buffer:=by
  rw [am]
  rw [am] at x1
  exact x1
 have v2:(s.run Prt.empty Prt.empty (m+3*D)).tb.2.buffer=(B m).buffer:=by
  rw [bm]
  rw [bm] at x2
  exact x2
 rw [am1] at o2 o3
 rw [bm1] at o5 o6
 have y1':((s.run Prt.empty Prt.empty (m+3*D)).ta.2.empty).side.state=2:=by rw [<-e1];exact y1
 have y2':((s.run Prt.empty Prt.empty (m+3*D)).tb.2.empty).side.state=2:=by rw [<-e2];exact y2
 have kl2:(s.run Prt.empty Prt.empty (m+3*D)).ta.2.empty.side=(s.run Prt.empty Prt.empty (m+3*D)).ta.2.side:=kl.2.1
 have kr2:(s.run Prt.empty Prt.empty (m+3*D)).tb.2.empty.side=(s.run Prt.empty Prt.empty (m+3*D)).tb.2.side:=kr.2.1
 have kl3:(s.run Prt.empty Prt.empty (m+3*D)).ta.2.empty.snd=(s.run Prt.empty Prt.empty (m+3*D)).ta.2.snd:=kl.2.2.2.2.2.2.2.2.2
 have kr3:(s.run Prt.empty Prt.empty (m+3*D)).tb.2.empty.snd=(s.run Prt.empty Prt.empty (m+3*D)).tb.2.snd:=kr.2.2.2.2.2.2.2.2.2
 have kl4:(s.run Prt.empty Prt.empty (m+3*D)).ta.2.empty.waiting=(s.run Prt.empty Prt.empty (m+3*D)).ta.2.waiting:=kl.2.2.2.2.1
 have kr4:(s.run Prt.empty Prt.empty (m+3*D)).tb.2.empty.waiting=(s.run Prt.empty Prt.empty (m+3*D)).tb.2.waiting:=kr.2.2.2.2.1
 rw [kl2] at y1'
 rw [kr2] at y2'
 rw [kl3] at o2
 rw [kr3] at o5
 unfold wt at o3 o6
 rw [kl4] at o3
 rw [kr4] at o6
 refine ⟨⟨by rw [pl];exact y1',fun c hcl=>⟨?_,?_⟩⟩,⟨by rw [pr];exact y2',fun c hcl=>⟨?_,?_⟩⟩⟩
 ·rw [pl,v1];exact (hea' m c).1
 ·have h1:=hin.l.cons.off c hcl
  have h2:=hin.l.ok.kept
  rw [pl] at h1 h2 ⊢
  rw [wt_nil o3 c] at h1
  have h3:(s.run Prt.empty Prt.empty (m+3*D)).ta.2.kept=[]:=by
   have:=congrArg List.length h2
   rw [List.length_map,o2] at this
   exact List.eq_nil_of_length_eq_zero this
  rw [h3] at h1
  have h4:cnt [] c=0:=rfl
  have h5:([]:List Bytes).length=0:=rfl
  omega
 ·rw [pr,v2];exact (hea' m c).2
 ·have h1:=hin.r.cons.off c hcl
  have h2:=hin.r.ok.kept
  rw [pr] at h1 h2 ⊢
  rw [wt_nil o6 c] at h1
  have h3:(s.run Prt.empty Prt.empty (m+3*D)).tb.2.kept=[]:=by
   have:=congrArg List.length h2
   rw [List.length_map,o5] at this
   exact List.eq_nil_of_length_eq_zero this
  rw [h3] at h1
  have h4:cnt [] c=0:=rfl
  have h5:([]:List Bytes).length=0:=rfl
  omega
end
end

section
def Lk.drain (X:Lk):Nat->Lk
 |0=>X
 |m+1=>(X.drain m).empty.tick
theorem drain_serves (X:Lk) (m:Nat):∀k,X.drain (m+1+k)=((X.drain m).empty.serves k).tick
 |0=>rfl
 |k+1=>by
  show (X.drain (m+1+k)).empty.tick=_
  rw [drain_serves X m k];rfl
section
variable {X L:Lk} {s:Qst} {D N j:Nat} {pa pb:Nat->List Bytes} {da db:Nat->Nat} {Z:Prop}
theorem drain_full (h:X.Full N Z):∀m,(X.drain m).Full (N+13256*m) Z
 |0=>h
 |m+1=>((drain_full h m).empty.tick).mono (by rw [Nat.mul_succ,Nat.add_assoc,Nat.add_assoc];exact Nat.le_refl _) id
theorem drain_calm (h:X.Calm D):∀m,(X.drain m).Calm D
 |0=>h
 |m+1=>(drain_calm h m).empty.tick
theorem drain_fine (h:X.FineL):∀m,(X.drain m).FineL
 |0=>h
 |m+1=>(drain_fine h m).empty.tick
theorem drain_since (X:Lk):∀m,(X.drain m).l.since=X.l.since/\(X.drain m).r.since=X.r.since/\(X.drain m).l.offered=X.l.offered/\(X.drain m).r.offered=X.r.offered
 |0=>⟨rfl,rfl,rfl,rfl⟩
 |m+1=>by
  obtain ⟨h1,h2,h3,h4⟩:=drain_since X m
  obtain ⟨k1,k2,k3,k4⟩:=empty_since (X.drain m)
  obtain ⟨m1,m2,m3,m4⟩:=tick_since (X.drain m).empty
  exact ⟨(m1.trans k1).trans h1,(m2.trans k2).trans h2,(m3.trans k3).trans h3,(m4.trans k4).trans h4⟩
theorem tick_kind (L:Lk):L.tick.l.prt.rooms=L.l.prt.rooms/\L.tick.r.prt.rooms=L.r.prt.rooms/\L.tick.l.prt.timeout=L.l.prt.timeout/\L.tick.r.prt.timeout=L.r.prt.timeout:=by
 have e1:L.tick.l.prt=L.l.tick.2.prt:=(Lnd.send_same _ _).prt
 have e2:L.tick.r.prt=L.r.tick.2.prt:=(Lnd.send_same _ _).prt
 rw [e1,e2]
 exact ⟨tick_rooms _ _,tick_rooms _ _,tick_tmo _ _,tick_tmo _ _⟩
theorem handle_deadP (p:Prt) (y:Pt):(p.handle y).dead=p.dead:=by
 unfold Prt.handle
 split
 ·unfold Prt.greet;dsimp only
  split <;> rfl
 ·split
  ·rfl
  ·split
   ·unfold Prt.receive;split
    ·rfl
    ·dsimp only;split <;> rfl
   ·split
    ·rfl
    ·split
     ·unfold Prt.raise;split <;> rfl
     ·rfl
theorem handles_deadP:∀(l:List Pt) (p:Prt),(l.foldl Prt.handle p).dead=p.dead
 |[],_=>rfl
 |y::l,p=>by rw [List.foldl_cons,handles_deadP l,handle_deadP]
theorem tick_deadP (p:Prt) (l:List Pt):(p.tick l).2.dead=p.dead:=by
 obtain ⟨a,ha⟩:∃a,a=l.foldl Prt.handle p:=⟨_,rfl⟩
 have h1:a.dead=p.dead:=by rw [ha];exact handles_deadP l p
 by_cases h:a.side.tick.state=2
 ·rw [Prt.tick_up ha h]
  have h2:(Prt.choose { a with side:=a.side.tick }).dead=p.dead:=by
   unfold Prt.choose
   split
   ·exact h1
   ·split <;> exact h1
  split
  ·exact h2
  ·exact h2
 ·rw [Prt.tick_down ha h]
  exact h1
structure Lk.Alike (L K:Lk):Prop where
 rl:K.l.prt.rooms=L.l.prt.rooms
 rr:K.r.prt.rooms=L.r.prt.rooms
 tl:K.l.prt.timeout=L.l.prt.timeout
 tr:K.r.prt.timeout=L.r.prt.timeout
 dl:K.l.prt.dead=L.l.prt.dead
 dr:K.r.prt.dead=L.r.prt.dead
 fl:K.l.into.faults=L.l.into.faults
 fr:K.r.into.faults=L.r.into.faults
 al:K.l.into.delay=L.l.into.delay
 ar:K.r.into.delay=L.r.into.delay
theorem Lk.Alike.refl (L:Lk):L.Alike L:=⟨rfl,rfl,rfl,rfl,rfl,rfl,rfl,rfl,rfl,rfl⟩
theorem Lk.Alike.trans {A B C:Lk} (h:A.Alike B) (k:B.Alike C):A.Alike C:=⟨k.rl.trans h.rl,k.rr.trans h.rr,k.tl.trans h.tl,k.tr.trans h.tr,k.dl.trans h.dl,k.dr.trans h.dr,k.fl.trans h.fl,k.fr.trans h.fr,k.al.trans h.al,k.ar.trans h.ar⟩
theorem tick_alike (L:Lk):L.Alike L.tick:=by
 have e1:L.tick.l.prt=L.l.tick.2.prt:=(Lnd.send_same _ _).prt
 have e2:L.tick.r.prt=L.r.tick.2.prt:=(Lnd.send_same _ _).prt
 obtain ⟨a1,a2,a3,a4,_⟩:=tick_into L
 obtain ⟨b1,b2,b3,b4,_⟩:=tick_into' L
 exact ⟨by rw [e1];exact tick_rooms _ _,by rw [e2];exact tick_rooms _ _,by rw [e1];exact tick_tmo _ _,by rw [e2];exact tick_tmo _ _,by rw [e1];exact tick_deadP _ _,by rw [e2];exact tick_deadP _ _,a2,b2,a1,b1⟩
theorem empty_alike (L:Lk):L.Alike L.empty:=by
 have k1:=takes_keep L.l.prt.all L.l.prt
 have k2:=takes_keep L.r.prt.all L.r.prt
 obtain ⟨e1,e2,_⟩:=Lnd.takes_prt L.l.prt.all L.l
 obtain ⟨f1,f2,_⟩:=Lnd.takes_prt L.r.prt.all L.r
 have g1:L.empty.l.prt=L.l.prt.takes L.l.prt.all:=e1
 have g2:L.empty.r.prt=L.r.prt.takes L.r.prt.all:=f1
 have g3:L.empty.l.into=L.l.into:=e2
 have g4:L.empty.r.into=L.r.into:=f2
 refine ⟨?_,?_,?_,?_,?_,?_,?_,?_,?_,?_⟩
 ·rw [g1];exact k1.1
 ·rw [g2];exact k2.1
 ·rw [g1];exact k1.2.2.2.2.2.2.2.1
 ·rw [g2];exact k2.2.2.2.2.2.2.2.1
 ·rw [g1];exact k1.2.2.2.2.2.2.2.2.1
 ·rw [g2];exact k2.2.2.2.2.2.2.2.2.1
 ·rw [g3]
 ·rw [g4]
 ·rw [g3]
 ·rw [g4]
theorem drain_alike (X:Lk):∀m,X.Alike (X.drain m)
 |0=>.refl X
 |m+1=>((drain_alike X m).trans (empty_alike _)).trans (tick_alike _)
theorem tick_sent (h:L.Full N Z):L.l.into.sent+1<=L.tick.l.into.sent/\L.r.into.sent+1<=L.tick.r.into.sent:=by
 obtain ⟨wl,wr,oa,ga,pa,ob,gb,pb,da,db,i,_,_,_⟩:=h
 obtain ⟨ql,qsl,hl,rfl⟩:=i.dl.cons i.l.cab.d1
 obtain ⟨qr,qsr,hr,rfl⟩:=i.dr.cons i.r.cab.d1
 obtain ⟨_,il,s1,p1,g1⟩:=i.l.tick
 obtain ⟨_,ir,s2,p2,g2⟩:=i.r.tick
 have good:∀ {p:Prt} {M:Nat} (l:List Way),p.Ok M->(∀v ∈ l,v.2.pay.length<=1000)->∃y ys,(p.tick (l.map (·.2))).1=y::ys/\Good y.pk:=fun {p M} l ok hl=>by
  have hl':∀y ∈ l.map (·.2),y.pay.length<=1000:=fun y hy=>by
   obtain ⟨v,hv,rfl⟩:=List.mem_map.1 hy;exact hl v hv
  obtain ⟨rest,e,_⟩:=tick_greets ok _ hl'
  have ok2:=ok.tick hl'
  have x1:=ok2.side.peer;have x2:=ok2.side.seen;have x3:=ok.i2
  exact ⟨_,rest,e,good_of (by decide) (by omega) (by omega) (by omega) (by omega) (by omega) (by omega) (by simp)⟩
 obtain ⟨y,ys,e,hy⟩:=good _ i.r.ok g2
 obtain ⟨z,zs,e',hz⟩:=good _ i.l.ok g1
 constructor
 ·show _<=(L.l.tick.2.send L.r.tick.1).into.sent
  rw [s2,e]
  exact Lnd.send_sent y ys L.l.tick.2 hy
 ·show _<=(L.r.tick.2.send L.l.tick.1).into.sent
  rw [s1,e']
  exact Lnd.send_sent z zs L.r.tick.2 hz
theorem serve_sent (h:L.Full N Z):L.l.into.sent+1<=L.empty.tick.l.into.sent/\L.r.into.sent+1<=L.empty.tick.r.into.sent:=by
 have k:=tick_sent h.empty
 obtain ⟨e1,e2⟩:=empty_into L
 generalize L.empty=K at *
 rw [e1,e2] at k
 exact k
theorem drain_sent (h:X.Full N Z):∀m,m<=(X.drain m).l.into.sent/\m<=(X.drain m).r.into.sent
 |0=>⟨Nat.zero_le _,Nat.zero_le _⟩
 |m+1=>by
  have hh:=drain_sent h m
  have k:=serve_sent (drain_full h m)
  have e:X.drain (m+1)=(X.drain m).empty.tick:=rfl
  rw [e]
  generalize X.drain m=K at *
  generalize K.empty.tick=K' at *
  omega
def Early (fs:List Flt) (n:Nat):Prop:=∀f ∈ fs,f.at' < (n:Int)
theorem Early.fine {c:Cab} {n:Nat} (h:Early c.faults n) (hs:n<=c.sent):c.Fine:=fun k hk=>by
 have:faultOf c.faults (k:Int)=Flt.zero:=faultOf_none fun i f hf e=>by
  have:=h f (List.mem_of_getElem? hf)
  omega
 rw [this];rfl
def Lk.Near (L:Lk) (D j N:Nat) (pa pb:Nat->List Bytes) (da db:Nat->Nat):Prop:=
 ∃qa qb oa ga ob gb,qa.length=D/\qb.length=D/\(∀q ∈ qa.drop (D - j),q.length<=7)/\(∀q ∈ qb.drop (D - j),q.length<=7)/\L.Inv N (dueQ L.l.into.ticks qb) (dueQ L.r.into.ticks qa) oa ga ob gb da db/\L.l.Book oa ga pa/\L.r.Book ob gb pb
theorem Lk.Near.empty (h:L.Near D j N pa pb da db):L.empty.Near D j (N+256) pa pb da db:=by
 obtain ⟨qa,qb,oa,ga,ob,gb,la,lb,fa,fb,hi,k1,k2⟩:=h
 obtain ⟨ga',gb',i',k1',k2'⟩:=hi.empty k1 k2
 obtain ⟨e1,e2⟩:=empty_into L
 exact ⟨qa,qb,oa,ga',ob,gb',la,lb,fa,fb,by rw [e1,e2];exact i',k1',k2'⟩
theorem drop_snoc {α : Type} {q : α} {qs:List α} {b : α} {k:Nat} {x : α} (hk:k<=qs.length) (hx:x ∈ (qs++[b]).drop k):x ∈ (q::qs).drop (k+1)\/x=b:=by
 rw [List.drop_append_of_le_length hk] at hx
 rcases List.mem_append.1 hx with h|h
 ·exact .inl h
 ·exact .inr (List.mem_singleton.1 h)
theorem Lk.Near.tick (h:L.Near D j N pa pb da db) (hc:L.Calm D) (hf:L.FineL) (hj:j < D):L.tick.Near D (j+1) (N+13000) pa pb da db:=by
 obtain ⟨qa,qb,oa,ga,ob,gb,la,lb,fa,fb,hi,k1,k2⟩:=h
 obtain ⟨ql,qsl,rfl⟩:∃q qs,qb=q::qs:=by
  cases qb with
  |nil=>rw [List.length_nil] at lb;omega
  |cons q qs=>exact ⟨q,qs,rfl⟩
 obtain ⟨qr,qsr,rfl⟩:∃q qs,qa=q::qs:=by
  cases qa with
  |nil=>rw [List.length_nil] at la;omega
  |cons q qs=>exact ⟨q,qs,rfl⟩
 rw [List.length_cons] at la lb
 obtain ⟨_,il,s1,p1,g1⟩:=hi.l.tick
 obtain ⟨_,ir,s2,p2,g2⟩:=hi.r.tick
 obtain ⟨bl,w2,q2,l2⟩:=Lnd.send_wire L.r.tick.2.prt.tag L.r.tick.1 (x:=L.l.tick.2) il.wire
 obtain ⟨br,w1,q1,l1⟩:=Lnd.send_wire L.l.tick.2.prt.tag L.l.tick.1 (x:=L.r.tick.2) ir.wire
 have f1:L.l.tick.1.length<=7:=by
  rw [s1];exact sent_few hi.l.ok _ fun y hy=>by obtain ⟨v,hv,rfl⟩:=List.mem_map.1 hy;exact g1 v hv
 have f2:L.r.tick.1.length<=7:=by
  rw [s2];exact sent_few hi.r.ok _ fun y hy=>by obtain ⟨v,hv,rfl⟩:=List.mem_map.1 hy;exact g2 v hv
 have m1:=l1 hf.r
 have m2:=l2 hf.l
 have hi':=hi.tick (by rw [hc.dl];exact lb) (by rw [hc.dr];exact la) w2 q2 w1 q1
 refine ⟨qsr++[br],qsl++[bl],oa,ga,ob,gb,by rw [List.length_append];exact la,by rw [List.length_append];exact lb,fun q hq=>?_,fun q hq=>?_,hi',k1.ticked _,k2.ticked _⟩
 ·rcases drop_snoc (q:=qr) (by omega) hq with hq|rfl
  ·exact fa q (by rwa [show D - (j+1)+1=D - j by omega] at hq)
  ·omega
 ·rcases drop_snoc (q:=ql) (by omega) hq with hq|rfl
  ·exact fb q (by rwa [show D - (j+1)+1=D - j by omega] at hq)
  ·omega
theorem Lk.Near.clean (h:L.Near D D N pa pb da db):∃s,L.Clean s D N pa pb da db/\s.Small:=by
 obtain ⟨qa,qb,oa,ga,ob,gb,la,lb,fa,fb,hi,k1,k2⟩:=h
 rw [Nat.sub_self,List.drop_zero] at fa fb
 exact ⟨⟨L.l.prt,L.r.prt,qa,qb⟩,⟨rfl,rfl,la,lb,oa,ga,ob,gb,hi,k1,k2⟩,fa,fb⟩
theorem drain_near (h:X.Near D 0 N pa pb da db) (hc:X.Calm D) (hf:X.FineL):∀j,j<=D->(X.drain j).Near D j (N+13256*j) pa pb da db
 |0,_=>h
 |j+1,hj=>by
  have:=((drain_near h hc hf j (by omega)).empty).tick (drain_calm hc j).empty (drain_fine hf j).empty (by omega)
  rw [Nat.mul_succ,<-Nat.add_assoc]
  rw [Nat.add_assoc (N+13256*j) 256 13000] at this
  exact this
theorem drain_add (X:Lk) (m:Nat):∀k,X.drain (m+k)=(X.drain m).drain k
 |0=>rfl
 |k+1=>by show (X.drain (m+k)).empty.tick=_;rw [drain_add X m k];rfl
theorem drain_quiet (h:X.Full N Z) (hc:X.Calm D) (el:Early X.l.into.faults 200) (er:Early X.r.into.faults 200) (dl:2<=X.l.prt.dead) (dr:2<=X.r.prt.dead) {t M:Nat} (tl:X.l.prt.timeout<=t) (tr:X.r.prt.timeout<=t) (hr:X.l.prt.rooms.length=X.r.prt.rooms.length)
  (ml:X.l.some<=M) (mr:X.r.some<=M) (hM:M<=1000000) {m:Nat} (hm:202+7*D+(M+1)*(t+1)+M*(4*D+2)<=m) (hN:N+13256*m<=400000000):(X.drain m).Quiet:=by
 obtain ⟨A,hA⟩:∃A,A=X.drain 200:=⟨_,rfl⟩
 have alA:=drain_alike X 200
 have hF:=drain_full h 200
 have hS:=drain_sent h 200
 have hC:=drain_calm hc 200
 have hs:=drain_since X 200
 rw [<-hA] at alA hF hS hC hs
 have fA:A.FineL:=⟨Early.fine (by rw [alA.fl];exact el) hS.1,Early.fine (by rw [alA.fr];exact er) hS.2⟩
 obtain ⟨wl,wr,oa,ga,pa,ob,gb,pb,da,db,i,k1,k2,_⟩:=hF
 obtain ⟨qb,lb,rfl⟩:=i.dl
 obtain ⟨qa,la,rfl⟩:=i.dr
 rw [hC.dl] at lb
 rw [hC.dr] at la
 have nA:A.Near D 0 (N+13256*200) pa pb da db:=⟨qa,qb,oa,ga,ob,gb,la,lb,(fun q hq=>by rw [Nat.sub_zero,List.drop_of_length_le (by omega)] at hq;cases hq),(fun q hq=>by rw [Nat.sub_zero,List.drop_of_length_le (by omega)] at hq;cases hq),i,k1,k2⟩
 have nB:=(drain_near nA hC fA D (Nat.le_refl _)).empty
 obtain ⟨s,hcl,hsm⟩:=nB.clean
 have hC2:=(drain_calm hC D).empty
 have hF2:=(drain_fine fA D).empty
 have al2:=(alA.trans (drain_alike A D)).trans (empty_alike (A.drain D))
 have s2:=drain_since A D
 have s3:=empty_since (A.drain D)
 obtain ⟨k,rfl⟩:∃k,m=200+D+1+k:=⟨m - (200+D+1),by omega⟩
 have e:X.drain (200+D+1+k)=((A.drain D).empty.serves k).tick:=by
  rw [drain_serves X (200+D) k,drain_add X 200 D,<-hA]
 rw [e]
 have hb:∀c,(A.drain D).empty.l.since.getD c 0=X.l.since.getD c 0/\(A.drain D).empty.r.since.getD c 0=X.r.since.getD c 0:=fun c=>by
  rw [s3.1,s3.2.1,s2.1,s2.2.1,hs.1,hs.2.1];exact ⟨rfl,rfl⟩
 refine clean_quiet hcl hC2 hF2 hsm (by rw [al2.dl];exact dl) (by rw [al2.dr];exact dr) (t:=t) (M:=M) (by rw [al2.tl];exact tl) (by rw [al2.tr];exact tr) (by rw [al2.rl,al2.rr];exact hr) ?_ ?_ hM (by omega) ?_
 ·unfold Lnd.some
  rw [al2.rl]
  refine Nat.le_trans (sum_le fun c _=>?_) ml
  rw [(hb c).1];exact Nat.le_refl _
 ·unfold Lnd.some
  rw [al2.rr]
  refine Nat.le_trans (sum_le fun c _=>?_) mr
  rw [(hb c).2];exact Nat.le_refl _
 ·have e1:N+13256*200+13256*D+256+13256*(k+1)=N+13256*(200+D+1+k)+256:=by
   rw [Nat.mul_add,Nat.mul_add,Nat.mul_add,Nat.mul_add];omega
  rw [e1]
  exact Nat.le_trans (Nat.add_le_add_right hN 256) (by decide)
theorem quiet_full (h:L.Full N Z) (q:L.Quiet):Full L.l.prt L.r.prt:=by
 obtain ⟨wl,wr,oa,ga,pa,ob,gb,pb,da,db,i,k1,k2,_⟩:=h
 have done:∀ {x:Lnd} {w:List (Nat × Option Way)},x.Inv N w->x.Quiet->x.prt.kept=[]/\∀c,c < x.prt.rooms.length->x.prt.waiting.getD c []=[]:=fun {x w} i q=>by
  have hc:∀c,c < x.prt.rooms.length->cnt x.prt.kept c=0/\(x.prt.waiting.getD c []).length=0:=fun c hc=>by
   have h1:=i.cons.off c hc
   have h2:=(q.2 c hc).2
   omega
  refine ⟨?_,fun c h=>List.eq_nil_of_length_eq_zero (hc c h).2⟩
  have h1:=cnt_sum x.prt.rooms.length x.prt.kept i.ok.kcl
  have h2:=sum_le (f:=cnt x.prt.kept) (g:=fun _=>0) fun c hc'=>by rw [(hc c hc').1];exact Nat.le_refl _
  have h3:∀n,((List.range n).map fun _=>0).sum=0:=fun n=>by
   induction n with
   |zero=>rfl
   |succ n ih=>rw [List.range_succ,List.map_append,List.sum_append,ih];rfl
  rw [h3] at h2
  exact List.eq_nil_of_length_eq_zero (by omega)
 obtain ⟨d1,d2⟩:=done i.l q.1
 obtain ⟨d3,d4⟩:=done i.r q.2
 exact ⟨q.1.1,q.2.1,i.kn.linked i.both q.1.1 q.2.1,d1,d3,d2,d4,fun c hc=>(q.1.2 c hc).1,fun c hc=>(q.2.2 c hc).1⟩
theorem quiet_same (h:L.Full N True) (q:L.Quiet) {c:Nat} (hc:c < L.l.prt.rooms.length) (hc2:c < L.r.prt.rooms.length):L.r.taken.getD c []=L.l.offered.getD c []:=by
 have F:=quiet_full h q
 obtain ⟨wl,wr,oa,ga,pa,ob,gb,pb,da,db,i,k1,k2,z⟩:=h
 obtain ⟨z1,z2,z3,z4⟩:=z trivial
 obtain ⟨E,P0,f,g1,g2,g3,g4,_⟩:=i.both.full F hc hc2
 rw [z3] at g4
 have:P0=[]:=List.eq_nil_of_length_eq_zero (by omega)
 subst this
 have:E=[]:=List.eq_nil_of_sublist_nil g3
 subst this
 rw [k2.tak,z2,k1.off,g1,g2]
 rfl
end
end

end Go.Proofs.YtckdblgobmofgaaGreatDoor
