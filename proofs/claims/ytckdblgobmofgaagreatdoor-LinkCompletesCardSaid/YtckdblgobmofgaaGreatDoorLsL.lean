/- The contract of drain: the link becomes quiet. -/
import Derived.Test.YtckdblgobmofgaaGreatDoorLsJ
namespace Go.Proofs.YtckdblgobmofgaaGreatDoor
section
open Go.RowKit
set_option maxRecDepth 100000
theorem slEvt:SlT Tryz.prog 48 36 (.agg #[.int .i64 0,.int .i64 0,.int .i64 0,.slice none 0 0]) 4 48:=⟨Tryz.underlying48,info_parts (by kernel_rfl),rfl,by decide⟩
theorem wpList_app_evt {F Z:BS} {W w1 w2:World} {ts:List Th} {ops:Array Oper} {rest:List Oper} {o:Oper} {ac:Act} {Q:Exit->Act->World->Prop} {a:Option Addr} {c:Nat} {xs:List Evt} {x1 x2 x3:Int}
  (hg:o.guard=none) (s x:Operand) (hop:o.op=Op.call { callee:=Callee.builtin Builtin.append,args := #[s,x],argTypes := #[48,48] })
  (h:Held F Z W ts w1) (i:Nat) (hi:ts[i]? = some (tSq eEvt 36 (.slice a xs.length c) xs)) (hb:Below w1.heap.size w1 w2) (hl:xs.length<=1000000) (hs:ac.eval s=.slice a xs.length c) (vb:Nat) (hx:ac.eval x=.slice (some ⟨vb,0,none⟩) 1 1) (hrow:w2.heap[vb]? = some (.cells #[.int .i64 x1,.int .i64 x2,.int .i64 x3,.slice none 0 0] 36))
  (hK:∀a' c' w3,Held F Z W (ts.set i (tSq eEvt 36 (.slice a' (xs++[(⟨x1,x2,x3,[]⟩:Evt)]).length c') (xs++[(⟨x1,x2,x3,[]⟩:Evt)]))) w3->wpList Tryz.prog ops Q rest (ac.put o.dst (.slice a' (xs.length+1) c')) w3):wpList Tryz.prog ops Q (o::rest) ac w2:=by
 obtain ⟨K,us,hsl,hKn,hback⟩:=h.app i hi
 have hrd:Rd w2 4 (.slice (some ⟨vb,0,none⟩) 1 1) 1 [.int .i64 x1,.int .i64 x2,.int .i64 x3,.slice none 0 0]:=by
  refine ⟨rfl,some ⟨vb,0,none⟩,1,rfl,Nat.le_refl _,by unfold maxLen;omega,(fun e=>by cases e),fun b hb k u hk=>?_⟩
  obtain rfl:=Option.some.inj hb
  refine ⟨rfl,?_⟩
  simp only [World.cell?,hrow,Nat.zero_add]
  simpa using hk
 refine wpList_apps slEvt hg s x hop K (.slice a xs.length c) xs.length us hs (Sl.keep hsl fun k _ hl=>hb.block k hl) _ 1 _ hx hrd (by intro u hu;simp only [List.mem_cons,List.not_mem_nil,or_false] at hu;rcases hu with rfl|rfl|rfl|rfl <;> rfl) (by unfold maxLen;omega) (by omega) ?_
 intro v' w' hs2 hf2
 obtain ⟨g2,off2,cap2,rfl,_⟩:=Sl.head hs2 (by omega)
 refine hK _ _ _ ?_
 have:=hback w2 w' _ [⟨x1,x2,x3,[]⟩] _ hb hs2 hf2 fun Y hoth=>⟨fun _=>False,fun _=>False,fun _ f=>f.elim,fun _ f=>f.elim,fun _ f=>f.elim,Els.single (E:=eEvt) ⟨_,rfl,ByZ.nil _ _⟩⟩
 rw [List.length_append]
 exact this
theorem eEvt_rd {w:World} {A B:BS} {cs:List Value} {e:Evt} (h:eEvt.rd w A B cs e):eEvt.rd w (fun _=>False) (fun k=>A k\/B k) cs e:=by
 obtain ⟨v,e,h⟩:=h;exact ⟨v,e,h.mono fun _ h=>.inr h⟩
section
variable {Z:BS} {W w:World} {ts:List Th} {p N:Nat} {Zp:Prop}
set_option maxHeartbeats 32000000 in
theorem drain_c (X Y:Lk) (hY:Y=X.step [⟨4,0,0,[]⟩]) (hX:X.Full N Zp) (h2:200<=N) (R:Nat) (hl:X.l.prt.rooms.length=R) (hr:X.r.prt.rooms.length=R) (q most:Nat) (hq:(Y.drain q).Quiet) (hm:q<=most) (hmost:most<=1000000) (hN:N+14000+13256*(q+1)<=160000000) (ht:Tabs W) (h:Held (fun _=>False) Z W (tLink p X::ts) w) :
  Calls Tryz.prog 37 #[.pointer (some ⟨p,0,none⟩),.int .i64 (R:Int),.int .i64 (most:Int)] w fun e w'=>∃m,m<=q/\e=.returned (.bool true)/\(Y.drain m).Quiet/\Held (fun _=>False) Z W (tLink p (Y.drain m)::ts) w':=by
 have hYF:Y.Full (N+13065) False:=by rw [hY];exact (hX.step h2 [⟨4,0,0,[]⟩]).mono (by simp) False.elim
 have hYr:Y.Rms X.l.prt.rooms X.r.prt.rooms:=by rw [hY];exact (Lk.Rms.acts [⟨4,0,0,[]⟩] ⟨rfl,rfl⟩).tick
 have hR4:R<=4:=by obtain ⟨_,i⟩:=hX.fit.l;have:=i.ok.n4;omega
 have HD:=Lib.hid (show ∀m,m<=q->(Y.drain m).Full (N+13065+13256*m) False/\(Y.drain m).l.prt.rooms.length=R/\(Y.drain m).r.prt.rooms.length=R/\N+13065+13256*m+65*512+13000<=170000000 from fun m hm=>by
  have al:=drain_alike Y m
  exact ⟨drain_full hYF m,by rw [al.rl,hYr.1];exact hl,by rw [al.rr,hYr.2];exact hr,drain_num N q hN hm⟩)
 have hN1:N+65*1+13000<=170000000:=by omega
 have HQ:=Lib.hid hq
 have HX:=Lib.hid hX
 have HT:=Lib.hid ht
 have H1:=Lib.hid (show Held (fun _=>False) Z W (tLink p X::tRd eEvt (.slice (some ⟨w.heap.size,0,none⟩) 1 1) [⟨4,0,0,[]⟩]::ts) (w.alloc (.cells #[.int .i64 4,.int .i64 0,.int .i64 0,.slice none 0 0] 36)) from
  Held.pickL (us:=[tRd eEvt (.slice (some ⟨w.heap.size,0,none⟩) 1 1) [⟨4,0,0,[]⟩],tLink p X]) (vs:=[tLink p X,tRd eEvt (.slice (some ⟨w.heap.size,0,none⟩) 1 1) [⟨4,0,0,[]⟩]]) (((h.add (Below.refl _ _) (T:=tBy (.slice none 0 0) []) (ByZ.nil _ _)).front).lit_evt ⟨4,0,0,[]⟩ 0 rfl) [1,0] (by decide) rfl)
 clear hX ht h hYF hYr hq hN hl hr
 go_enter Tryz.func37,Tryz.ntmps37
 go_wp2_with fail
 refine (tickL_c (ts:=tRd eEvt (.slice (some ⟨w.heap.size,0,none⟩) 1 1) [⟨4,0,0,[]⟩]::ts) HX.out h2 [⟨4,0,0,[]⟩] (by decide) hN1 (by simp) _ 0 rfl HT.out H1.out).mono ?_
 rintro e w1 ⟨a1,c1,rfl,h1⟩
 rw [<-hY] at h1
 have H2:=Lib.hid (Held.pickL (us:=[tSq eNat 25 (.slice a1 (X.acts [⟨4,0,0,[]⟩]).1.length c1) (X.acts [⟨4,0,0,[]⟩]).1,tLink p Y,tRd eEvt (.slice (some ⟨w.heap.size,0,none⟩) 1 1) [⟨4,0,0,[]⟩]]) (vs:=[tLink p (Y.drain 0)]) h1 [1] (by decide) rfl)
 clear h1 H1 hY HX
 go_wp2_with fail
 go_loopw [18] (fun i wr=>∃m:Nat,m<=q/\i=.int .i64 (m:Int)/\Hid (Held (fun _=>False) Z W (tLink p (Y.drain m)::ts) wr)) (fun i _=>most - (intOf i).toNat)
 case atStart=>exact ⟨0,by omega,rfl,H2⟩
 case round=>
  clear H2
  obtain ⟨m,hmq,rfl,HO⟩:=hrel
  obtain ⟨f1,f2,f3,f4⟩:=HD.out m hmq
  have hbig:N+13065+13256*m<=1000000000:=by omega
  by_cases hlt:m < most
  ·go_wp2_with fail
   refine (quiet_c f1 hbig HO.out).mono ?_
   rintro e w2 ⟨b,hb,rfl,h2⟩
   have H2:=Lib.hid h2
   clear h2 HO
   cases b with
   |true=>
    have HB:=Lib.hid (hb.1 rfl)
    clear hb f1 f2 f3 f4 hbig
    go_wp2_with fail
    go_ret
    exact ⟨m,hmq,rfl,HB.out,H2.out⟩
   |false=>
    have hmlt:m < q:=by
     rcases Nat.lt_or_ge m q with h|h
     ·exact h
     ·obtain rfl:m=q:=by omega
      exact absurd (hb.2 HQ.out) (by decide)
    have HST:=Lib.hid (show (Y.drain m).step (drainEvs (Y.drain m) R 2)=Y.drain (m+1) from drain_step f2 f3)
    have HF:=Lib.hid f1
    have HRR:=Lib.hid (And.intro f2 f3)
    have HNB:=Lib.hid f4
    have HBG:=Lib.hid hbig
    clear hb f1 f2 f3 f4 hbig
    obtain ⟨L,hL⟩:∃L,L=Y.drain m:=⟨_,rfl⟩
    rw [<-hL] at H2 HST HF HRR
    clear hL
    have H3:=Lib.hid (show Held (fun _=>False) Z W (tLink p L::tSq eEvt 36 (.slice none 0 0) []::ts) w2 from
     Held.pickL (us:=[tSq eEvt 36 (.slice none 0 0) [],tLink p L]) (vs:=[tLink p L,tSq eEvt 36 (.slice none 0 0) []]) ((H2.out.add (Below.refl _ _) (T:=tSq eEvt 36 (.slice none 0 0) []) (Sq.nil _ _ _ _ _)).front) [1,0] (by decide) rfl)
    clear H2
    go_wp2_with fail
    go_loopw [7,22] (fun v i wr=>∃n:Nat,n<=2/\i=.int .i64 (n:Int)/\∃(es:List Evt) (a:Option Addr) (c:Nat),v=.slice a es.length c/\Hid (es=drainEvs L R n/\es.length<=256*n)/\Hid (Held (fun _=>False) Z W (tLink p L::tSq eEvt 36 (.slice a es.length c) es::ts) wr)) (fun _ i _=>2 - (intOf i).toNat)
    case atStart=>exact ⟨0,by decide,rfl,[],none,0,rfl,Lib.hid ⟨rfl,Nat.zero_le _⟩,H3⟩
    case round=>
     clear H3
     obtain ⟨n,hn,rfl,es,a,c,rfl,HE,HO⟩:=hrel
     by_cases hn2:n < 2
     ·have hn2I:(n:Int) < 2:=by omega
      go_wp2_with fail
      go_loopw [7,26] (fun v i wr=>∃k:Nat,k<=R/\i=.int .i64 (k:Int)/\∃(es:List Evt) (a:Option Addr) (c:Nat),v=.slice a es.length c/\Hid (es=drainEvs L R n++evs n (L.nd n) k/\es.length<=256*n+64*k)/\Hid (Held (fun _=>False) Z W (tLink p L::tSq eEvt 36 (.slice a es.length c) es::ts) wr)) (fun _ i _=>R - (intOf i).toNat)
      case atStart=>exact ⟨0,by omega,rfl,es,a,c,rfl,Lib.hid ⟨by rw [HE.out.1];exact (List.append_nil _).symm,HE.out.2⟩,HO⟩
      case round=>
       clear HE HO
       obtain ⟨k,hk,rfl,es,a,c,rfl,HE,HO⟩:=hrel
       by_cases hkr:k < R
       ·obtain ⟨pp,hP⟩:=port_of HF.out HBG.out HO.out hn2
        have hkl:k < (L.nd n).prt.rooms.length:=by
         unfold Lk.nd
         split
         ·rw [HRR.out.1];exact hkr
         ·rw [HRR.out.2];exact hkr
        have h64:=HF.out.buf64 n k hkl
        have hgot:(L.nd n).prt.received.getD k 0=(L.nd n).prt.taken.getD k 0+((L.nd n).prt.buffer.getD k []).length:=by
         obtain ⟨_,i⟩:=HF.out.nd n
         exact i.cons.got k hkl
        have hrec:(L.nd n).prt.received.getD k 0<=1000000000:=by
         obtain ⟨_,i⟩:=HF.out.nd n
         exact Nat.le_trans (getD_all (P:=fun y=>y<=N+13065+13256*m) i.ok.ren (d:=0) (Nat.zero_le _) k) HBG.out
        have HEV:=Lib.hid (evs_succ n (L.nd n) k)
        have HPP:=Lib.hid hP.port
        have HPC:=Lib.hid (hP.counts k hkl)
        clear hP hkl
        generalize (L.nd n).prt.acked.getD k 0=q1 at *
        generalize (L.nd n).prt.received.getD k 0=q2 at *
        generalize (L.nd n).prt.taken.getD k 0=q3 at *
        generalize ((L.nd n).prt.buffer.getD k []).length=B at *
        have hw:IntKind.i64.wrap ((q2:Int) - (q3:Int))=(B:Int):=(IntWalk.i64_in _ (by omega)).trans (by omega)
        clear hgot hrec
        go_wp2_with fail
        refine HPP.out.mono ?_
        rintro e w3 ⟨rfl,rfl⟩
        go_wp2_with fail
        refine HPC.out.mono ?_
        rintro e w4 ⟨rfl,h4⟩
        have H4:=Lib.hid h4
        clear h4 HO HPP HPC
        go_wp2_with fail
        go_loopw [7,41] (fun v i wr=>∃j:Nat,j<=B/\i=.int .i64 (j:Int)/\∃(es:List Evt) (a:Option Addr) (c:Nat),v=.slice a es.length c/\Hid (es=drainEvs L R n++evs n (L.nd n) k++List.replicate j (tev n k)/\es.length<=256*n+64*k+j)/\Hid (Held (fun _=>False) Z W (tLink p L::tSq eEvt 36 (.slice a es.length c) es::ts) wr)) (fun _ i _=>B - (intOf i).toNat)
        case atStart=>exact ⟨0,by omega,rfl,es,a,c,rfl,Lib.hid ⟨by rw [HE.out.1];exact (List.append_nil _).symm,HE.out.2⟩,H4⟩
        case round=>
         clear HE H4
         obtain ⟨j,hj,rfl,es,a,c,rfl,HE,HO⟩:=hrel
         by_cases hjb:j < B
         ·have HLE:=Lib.hid (show es.length<=1000000 by have:=HE.out.2;omega)
          go_wp2_with (at_builtin;refine wpList_app_evt rfl _ _ rfl HO.out 1 rfl (below_alloc wr _) HLE.out rfl wr.heap.size rfl (heap_alloc_new wr _) ?_;intro a' c' w6 h6;have H6:=Lib.hid h6;clear h6)
          go_roundw
          case rel=>exact ⟨j+1,by omega,by go_num,es++[tev n k],a',c',by rw [List.length_append];rfl,Lib.hid ⟨by rw [HE.out.1,List.replicate_succ',List.append_assoc],by rw [List.length_append];have:=HE.out.2;show _+1<=_;omega⟩,H6⟩
          case measure=>simp [intOf];omega
         ·obtain rfl:j=B:=by omega
          go_wp2_with fail
          go_roundw
          case rel=>exact ⟨k+1,by omega,by go_num,es,a,c,rfl,Lib.hid ⟨by rw [HE.out.1,HEV.out,List.append_assoc],by have:=HE.out.2;omega⟩,HO⟩
          case measure=>simp [intOf];omega
       ·obtain rfl:k=R:=by omega
        go_wp2_with fail
        go_roundw
        case rel=>exact ⟨n+1,by omega,by go_num,es,a,c,rfl,Lib.hid ⟨HE.out.1,by have:=HE.out.2;omega⟩,HO⟩
        case measure=>simp [intOf];omega
     ·obtain rfl:n=2:=by omega
      have H5:=Lib.hid (HO.out.frz 1 rfl fun h=>eEvt_rd h)
      have HLE:=Lib.hid (show es.length<=512 from HE.out.2)
      have HDT:=Lib.hid (show ∀e ∈ es,e.data.length<=1000000 from fun e he=>by rw [HE.out.1] at he;rw [drainEvs_data L R 2 e he];exact Nat.zero_le _)
      have HNN:=Lib.hid (show N+13065+13256*m+65*es.length+13000<=170000000 by have:=HNB.out;have:=HE.out.2;omega)
      have HES:=Lib.hid (show L.step es=Y.drain (m+1) by rw [HE.out.1];exact HST.out)
      clear HO HE
      go_wp2_with fail
      refine (tickL_c (ts:=tRd eEvt (.slice a es.length c) es::ts) HF.out (by omega) es (by have:=HLE.out;omega) HNN.out HDT.out _ 0 rfl HT.out H5.out).mono ?_
      rintro e w6 ⟨a6,c6,rfl,h6⟩
      rw [HES.out] at h6
      have H7:=Lib.hid (Held.pickL (us:=[tSq eNat 25 (.slice a6 (L.acts es).1.length c6) (L.acts es).1,tLink p (Y.drain (m+1)),tRd eEvt (.slice a es.length c) es]) (vs:=[tLink p (Y.drain (m+1))]) h6 [1] (by decide) rfl)
      clear h6 H5
      go_wp2_with fail
      go_roundw
      case rel=>exact ⟨m+1,by omega,by go_num,H7⟩
      case measure=>simp [intOf];omega
  ·obtain rfl:m=q:=by omega
   go_wp2_with fail
   refine (quiet_c f1 hbig HO.out).mono ?_
   rintro e w2 ⟨b,hb,rfl,h2⟩
   obtain rfl:b=true:=hb.2 HQ.out
   have H2:=Lib.hid h2
   clear h2 HO f1 f2 f3 f4 hb hbig
   go_wp2_with fail
   go_ret
   exact ⟨m,hmq,rfl,HQ.out,H2.out⟩
end
end
end Go.Proofs.YtckdblgobmofgaaGreatDoor
