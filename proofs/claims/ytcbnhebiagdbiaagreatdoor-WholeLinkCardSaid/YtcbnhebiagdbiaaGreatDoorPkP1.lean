/- Lemmas of this proof (texts PqA PqB PqC LnkQ PqD PqE PqF PqG PqH PqI LnkA LnkB PprA PprB LvA LvB). -/
import Derived.Test.YtcbnhebiagdbiaaGreatDoorPkG1
import Derived.Test.YtcbnhebiagdbiaaGreatDoorPkG2
import Derived.Test.YtcbnhebiagdbiaaGreatDoorPkB1
import Derived.Test.YtcbnhebiagdbiaaGreatDoorPkG3
namespace Go.Proofs.YtcbnhebiagdbiaaGreatDoor
set_option maxHeartbeats 64000000
section
abbrev Hist:=List (Nat × dV)
def cnt (h:Hist) (c:Nat):Nat:=(h.filter fun f=>f.1 == c).length
theorem cnt_append (h k:Hist) (c:Nat):cnt (h++k) c=cnt h c+cnt k c:=by unfold cnt;rw [List.filter_append,List.length_append]
theorem cnt_one (d:dV) (c k:Nat):cnt [(c,d)] k=if c=k then 1 else 0:=by
 unfold cnt
 by_cases h:c=k
 ·subst h;simp
 ·simp [h]
theorem cnt_take_succ {h:Hist} {r c:Nat} {d:dV} (hr:h[r]? = some (c,d)) (k:Nat):cnt (h.take (r+1)) k=cnt (h.take r) k+if c=k then 1 else 0:=by
 rw [List.take_add_one,hr,cnt_append]
 show _+cnt [(c,d)] k=_
 rw [cnt_one]
theorem cnt_take_le (h:Hist) (n k:Nat):cnt (h.take n) k<=cnt h k:=by
 conv=>rhs;rw [<-List.take_append_drop n h,cnt_append]
 omega
abbrev Prt.gv (b:Prt) (c:Nat):Giv:=b.giv.getD c ⟨0,0,0⟩
abbrev Prt.bs (b:Prt) (c:Nat):Nat:=b.base.getD c 0
abbrev Prt.tk (b:Prt) (c:Nat):Tak:=b.tak.getD c ⟨0,0⟩
structure Rec (b:Prt) (hist:Hist) (top:Nat):Prop where
 gl:b.giv.length=b.aZ.length
 rt:b.rcv<=top
 tl:top<=hist.length
 low:top<=b.rcv+128
 cls:∀f ∈ hist,f.1 < b.aZ.length
 room:∀c,b.bs c+cnt hist c<=(b.gv c).cE
 got:∀c,(b.gv c).aW=b.bs c+cnt (hist.take b.rcv) c
 bl:b.aY.length=b.aZ.length
 rm:∀c,c < b.aZ.length->(b.gv c).room=b.aZ.getD c 0
 buf:∀c,c < b.aZ.length->(b.gv c).aW=(b.gv c).cI+(b.aY.getD c []).length
def Carries (hist:Hist) (top:Nat) (y:Pt):Prop:=∃m c:Nat,m < top/\top<=m+128/\y.cls=(c:Int)/\hist[m]? = some (c,y.pay)/\y.number=((m % 256:Nat):Int)
theorem getD_set {α : Type} (l:List α) (i j:Nat) (v d : α) (hi:i < l.length):(l.set i v).getD j d=if i=j then v else l.getD j d:=by
 simp only [List.getD,List.getElem?_set]
 by_cases h:i=j
 ·subst h;simp [hi]
 ·simp [h]
theorem Rec.cO {b:Prt} {hist:Hist} {top t:Nat} {y:Pt} (h:Rec b hist top) (hlo:b.rcv<=t) (hhi:t<=top) (hy:Carries hist t y) :
  Rec (b.cO y) hist top/\(b.cO y).bL=b.bL/\(b.cO y=b\/∃c:Nat,b.rcv < t/\hist[b.rcv]? = some (c,y.pay)/\c < b.aZ.length /\
   b.cO y={ b with
    rcv:=b.rcv+1
    giv:=b.giv.set c { b.gv c with aW:=(b.gv c).aW+1 }
    aY:=b.aY.set c (b.aY.getD c []++[y.pay])
    aW:=b.aW.set c (b.aW.getD c 0+1) }):=by
 obtain ⟨m,c,hm,hm2,hc,hh,hn⟩:=hy
 by_cases hg:¬b.has y.cls\/y.number≠(b.rcv % 256:Nat)
 ·have e:b.cO y=b:=by unfold Prt.cO;rw [if_pos hg]
  rw [e]
  exact ⟨h,rfl,.inl rfl⟩
 ·have hnum:y.number=(b.rcv % 256:Nat):=Decidable.byContradiction fun x=>hg (.inr x)
  obtain rfl:m=b.rcv:=by
   have h2:=h.low
   rw [hn] at hnum
   have h3:m % 256=b.rcv % 256:=by exact_mod_cast hnum
   omega
  have hcl:c < b.aZ.length:=h.cls _ (List.mem_of_getElem? hh)
  have hlt:=cnt_take_succ hh c
  rw [if_pos rfl] at hlt
  have hroom:=h.room c
  have hgot:=h.got c
  have hle:=cnt_take_le hist (b.rcv+1) c
  have hfree:¬(b.gv c).cE<=(b.gv c).aW:=by omega
  have e:b.cO y={ b with
    rcv:=b.rcv+1
    giv:=b.giv.set c { b.gv c with aW:=(b.gv c).aW+1 }
    aY:=b.aY.set c (b.aY.getD c []++[y.pay])
    aW:=b.aW.set c (b.aW.getD c 0+1) }:=by
   unfold Prt.cO
   rw [if_neg hg,hc]
   simp only [Int.toNat_natCast]
   unfold Giv.cO
   simp only [if_neg hfree]
   rfl
  refine ⟨?_,by rw [e],.inr ⟨c,hm,hh,hcl,e⟩⟩
  rw [e]
  have hgl:c < b.giv.length:=by rw [h.gl];exact hcl
  refine ⟨by simp [h.gl],Nat.le_trans hm hhi,h.tl,by have:=h.low;show top<=b.rcv+1+128;omega,h.cls,fun k=>?_,fun k=>?_,?_,fun k hk=>?_,fun k hk=>?_⟩
  ·show b.bs k+cnt hist k<=((b.giv.set c { b.gv c with aW:=(b.gv c).aW+1 }).getD k ⟨0,0,0⟩).cE
   rw [getD_set _ _ _ _ _ hgl]
   have:=h.room k
   split
   ·rename_i e;subst e;exact this
   ·exact this
  ·show ((b.giv.set c { b.gv c with aW:=(b.gv c).aW+1 }).getD k ⟨0,0,0⟩).aW=b.bs k+cnt (hist.take (b.rcv+1)) k
   rw [getD_set _ _ _ _ _ hgl,cnt_take_succ hh k]
   have:=h.got k
   split
   ·rename_i e;subst e
    show (b.gv c).aW+1=_
    omega
   ·rw [Nat.add_zero];exact this
  ·simp [h.bl]
  ·show ((b.giv.set c { b.gv c with aW:=(b.gv c).aW+1 }).getD k ⟨0,0,0⟩).room=_
   rw [getD_set _ _ _ _ _ hgl]
   have:=h.rm k hk
   split
   ·rename_i e;subst e;exact this
   ·exact this
  ·show ((b.giv.set c { b.gv c with aW:=(b.gv c).aW+1 }).getD k ⟨0,0,0⟩).aW=((b.giv.set c { b.gv c with aW:=(b.gv c).aW+1 }).getD k ⟨0,0,0⟩).cI+((b.aY.set c (b.aY.getD c []++[y.pay])).getD k []).length
   rw [getD_set _ _ _ _ _ hgl,getD_set _ _ _ _ _ (by rw [h.bl];exact hcl)]
   have:=h.buf k hk
   split
   ·rename_i e;subst e
    rw [List.length_append]
    show (b.gv c).aW+1=(b.gv c).cI+(_+1)
    omega
   ·exact this
structure Lnk (a b:Prt) (hist:Hist) (top:Nat):Prop where
 cT:a.cT=hist.drop a.snd.aG
 tq:top=a.snd.aG+a.snd.cP
 ack:a.snd.aG<=b.rcv
 cP:∀c,(a.tk c).cP=cnt hist c
 lim:∀c,b.bs c+(a.tk c).cE<=(b.gv c).cE
theorem ack_exact {a:Prt} {y:Pt} (hok:a.snd.Ok) {r:Nat} (ha:a.snd.aG<=r) (hb:r<=a.snd.aG+a.snd.cP) (hn:y.number=((r % 256:Nat):Int)) :
  a.bQ y={ a with snd:=a.snd.drop (r - a.snd.aG),aG:=tally a.aG (a.cT.take (r - a.snd.aG)),cT:=a.cT.drop (r - a.snd.aG) }/\(a.snd.drop (r - a.snd.aG)).aG=r/\(a.snd.drop (r - a.snd.aG)).cP=a.snd.cP - (r - a.snd.aG):=by
 have h4:=hok.cP;have h5:=hok.cT;have h6:=hok.w2
 have hc:a.snd.count y.number=some (r - a.snd.aG):=by
  unfold Snd.count
  rw [hn,if_neg (by omega),Int.toNat_natCast,show (r % 256+256 - a.snd.aG % 256) % 256=r - a.snd.aG by omega,if_neg (by omega)]
 have he:a.snd.ack y.number=(r - a.snd.aG,a.snd.drop (r - a.snd.aG)):=by
  unfold Snd.ack Snd.accept
  rw [hc]
 refine ⟨by unfold Prt.bQ;rw [he],?_⟩
 unfold Snd.drop
 split
 ·exact ⟨by omega,by omega⟩
 ·exact ⟨by dsimp only;omega,rfl⟩
theorem Lnk.bQ {a b:Prt} {hist:Hist} {top:Nat} {y:Pt} (h:Lnk a b hist top) (hr:Rec b hist top) (hok:a.snd.Ok) {r:Nat} (ha:a.snd.aG<=r) (hb:r<=b.rcv) (hn:y.number=((r % 256:Nat):Int)) :
  Lnk (a.bQ y) b hist top:=by
 have h1:=h.ack;have h2:=hr.rt;have h3:=h.tq
 obtain ⟨e,hd⟩:=ack_exact hok ha (by omega) hn
 rw [e]
 refine ⟨?_,by dsimp only;rw [hd.1,hd.2];omega,by dsimp only;rw [hd.1];exact hb,h.cP,h.lim⟩
 dsimp only
 rw [hd.1,h.cT,List.drop_drop,show a.snd.aG+(r - a.snd.aG)=r by omega]
theorem Lnk.raise {a b:Prt} {hist:Hist} {top:Nat} {y:Pt} (h:Lnk a b hist top) (hl:a.tak.length=a.aZ.length)
  (hy:∀c,y.cls=(c:Nat)->((b.bs c:Nat):Int)+y.number<=((b.gv c).cE:Nat)):Lnk (a.raise y) b hist top:=by
 unfold Prt.raise
 split
 ·rename_i hh
  obtain ⟨h0,h1⟩:=hh
  obtain ⟨c,hc⟩:=Int.eq_ofNat_of_zero_le h0
  rw [hc,Int.toNat_natCast]
  have hcl:c < a.tak.length:=by rw [hl];omega
  have hyc:=hy c hc
  refine ⟨h.cT,h.tq,h.ack,fun k=>?_,fun k=>?_⟩
  ·show ((a.tak.set c ((a.tak.getD c ⟨0,0⟩).raise y.number)).getD k ⟨0,0⟩).cP=_
   rw [getD_set _ _ _ _ _ hcl]
   have:=h.cP k
   split
   ·rename_i e;subst e
    rw [<-this];unfold Tak.raise;split <;> rfl
   ·exact this
  ·show b.bs k+((a.tak.set c ((a.tak.getD c ⟨0,0⟩).raise y.number)).getD k ⟨0,0⟩).cE<=_
   rw [getD_set _ _ _ _ _ hcl]
   have:=h.lim k
   split
   ·rename_i e;subst e
    unfold Tak.raise
    split
    ·exact this
    ·show b.bs c+max (a.tk c).cE y.number.toNat<=_
     omega
   ·exact this
 ·exact h
theorem Lnk.cO {a b:Prt} {hist:Hist} {top t:Nat} {y:Pt} (h:Lnk a b hist top) (hr:Rec b hist top) (hlo:b.rcv<=t) (hhi:t<=top) (hy:Carries hist t y):Lnk a (b.cO y) hist top:=by
 obtain ⟨_,_,e|⟨c,h1,h2,h3,e⟩⟩:=hr.cO hlo hhi hy
 ·rw [e];exact h
 ·rw [e]
  refine ⟨h.cT,h.tq,Nat.le_succ_of_le h.ack,h.cP,fun k=>?_⟩
  show b.bs k+(a.tk k).cE<=((b.giv.set c { b.gv c with aW:=(b.gv c).aW+1 }).getD k ⟨0,0,0⟩).cE
  rw [getD_set _ _ _ _ _ (by rw [hr.gl];exact h3)]
  have:=h.lim k
  split
  ·rename_i e;subst e;exact this
  ·exact this
end

section
theorem Rec.take {b:Prt} {hist:Hist} {top:Nat} (h:Rec b hist top) (c:Int):Rec (b.take c).2 hist top:=by
 unfold Prt.take
 split
 ·exact h
 ·rename_i d hd
  have hh:b.has c:=by
   unfold Prt.peek at hd
   split at hd
   ·assumption
   ·cases hd
  obtain ⟨c,rfl⟩:=Int.eq_ofNat_of_zero_le hh.1
  have hc:c < b.giv.length:=by rw [h.gl];have:=hh.2;omega
  rw [Int.toNat_natCast]
  have hf:(b.gv c).free.aW=(b.gv c).aW/\(b.gv c).cE<=(b.gv c).free.cE:=by
   unfold Giv.free Giv.cE
   split
   ·exact ⟨rfl,Nat.le_refl _⟩
   ·exact ⟨rfl,by dsimp only;omega⟩
  have hne:0 < (b.aY.getD c []).length:=by
   unfold Prt.peek at hd
   rw [if_pos hh,Int.toNat_natCast] at hd
   cases hx:b.aY.getD c [] with
   |nil=>rw [hx] at hd;cases hd
   |cons _ _=>simp
  have hcr:c < b.aZ.length:=by rw [<-h.gl];exact hc
  have hfr:(b.gv c).free={ b.gv c with cI:=(b.gv c).cI+1 }:=by
   have:=h.buf c hcr
   unfold Giv.free
   rw [if_neg (by omega)]
  refine ⟨by simp [h.gl],h.rt,h.tl,h.low,h.cls,fun k=>?_,fun k=>?_,by simp [h.bl],fun k hk=>?_,fun k hk=>?_⟩
  ·show b.bs k+cnt hist k<=((b.giv.set c (b.gv c).free).getD k ⟨0,0,0⟩).cE
   rw [getD_set _ _ _ _ _ hc]
   have:=h.room k
   split
   ·rename_i e;subst e;exact Nat.le_trans this hf.2
   ·exact this
  ·show ((b.giv.set c (b.gv c).free).getD k ⟨0,0,0⟩).aW=b.bs k+cnt (hist.take b.rcv) k
   rw [getD_set _ _ _ _ _ hc]
   have:=h.got k
   split
   ·rename_i e;subst e;rw [hf.1];exact this
   ·exact this
  ·show ((b.giv.set c (b.gv c).free).getD k ⟨0,0,0⟩).room=_
   rw [getD_set _ _ _ _ _ hc]
   have:=h.rm k hk
   split
   ·rename_i e;subst e;rw [hfr];exact this
   ·exact this
  ·show ((b.giv.set c (b.gv c).free).getD k ⟨0,0,0⟩).aW=((b.giv.set c (b.gv c).free).getD k ⟨0,0,0⟩).cI+((b.aY.set c ((b.aY.getD c []).drop 1)).getD k []).length
   rw [getD_set _ _ _ _ _ hc,getD_set _ _ _ _ _ (by rw [h.bl];exact hcr)]
   have:=h.buf k hk
   split
   ·rename_i e;subst e
    rw [hfr,List.length_drop]
    show (b.gv c).aW=(b.gv c).cI+1+_
    omega
   ·exact this
theorem Lnk.take {a b:Prt} {hist:Hist} {top:Nat} (h:Lnk a b hist top) (hr:Rec b hist top) (c:Int):Lnk a (b.take c).2 hist top:=by
 unfold Prt.take
 split
 ·exact h
 ·rename_i d hd
  have hh:b.has c:=by
   unfold Prt.peek at hd
   split at hd
   ·assumption
   ·cases hd
  obtain ⟨c,rfl⟩:=Int.eq_ofNat_of_zero_le hh.1
  have hc:c < b.giv.length:=by rw [hr.gl];have:=hh.2;omega
  rw [Int.toNat_natCast]
  have hf:(b.gv c).cE<=(b.gv c).free.cE:=by
   unfold Giv.free Giv.cE
   split
   ·exact Nat.le_refl _
   ·dsimp only;omega
  refine ⟨h.cT,h.tq,h.ack,h.cP,fun k=>?_⟩
  show b.bs k+(a.tk k).cE<=((b.giv.set c (b.gv c).free).getD k ⟨0,0,0⟩).cE
  rw [getD_set _ _ _ _ _ hc]
  have:=h.lim k
  split
  ·rename_i e;subst e;exact Nat.le_trans this hf
  ·exact this
theorem Prt.choose_eq {N:Nat} {a:Prt} (h:a.Ok N):(∃r,a.choose={ a with arb:=r })\/∃(c:Nat) (d:dV) (l:List dV) (r:Arb),c < a.aZ.length/\a.aX.getD c []=d::l/\(a.tk c).cP < (a.tk c).cE/\a.snd.cT.length < a.cA /\
  a.choose={ a with arb:=r,aX:=a.aX.set c l,tak:=a.tak.set c { a.tk c with cP:=(a.tk c).cP+1 },snd:={ a.snd with cT:=a.snd.cT++[d] },cT:=a.cT++[(c,d)] }:=by
 by_cases hw:a.cA<=a.snd.cT.length
 ·refine .inl ⟨a.arb,?_⟩
  unfold Prt.choose
  rw [if_pos hw]
 ·cases hp:(a.arb.pick a.bK).1 with
  |none=>
   refine .inl ⟨(a.arb.pick a.bK).2,?_⟩
   unfold Prt.choose
   rw [if_neg hw,hp]
  |some c=>
   obtain ⟨h1,h2,h3⟩:=Prt.pick_some h hp
   obtain ⟨d,l,hl⟩:∃d l,a.aX.getD c []=d::l:=by
    cases hx:a.aX.getD c [] with
    |nil=>rw [hx] at h2;cases h2
    |cons d l=>exact ⟨d,l,rfl⟩
   refine .inr ⟨c,d,l,(a.arb.pick a.bK).2,h1,hl,h3,by omega,?_⟩
   have hd:d.length<=64:=bM (P:=fun l:List dV=>∀d ∈ l,d.length<=64) h.wsz (d:=[]) (fun _ h=>by cases h) c d (by rw [hl];exact List.mem_cons_self ..)
   have ho:=offer_takes (s:=a.snd) hd (by rw [h.win];omega)
   unfold Prt.choose
   rw [if_neg hw,hp]
   simp only [hl,List.drop_succ_cons,List.drop_zero,List.getD_cons_zero,ho]
   unfold Tak.take
   rw [if_neg (by omega)]
theorem getD_out {α : Type} {l:List α} {i:Nat} {d : α} (h:l.length<=i):l.getD i d=d:=by
 rw [List.getD,List.getElem?_eq_none h];rfl
theorem Rec.choose {N:Nat} {a b:Prt} {hist:Hist} {top:Nat} (h:Rec b hist top) (hl:Lnk a b hist top) (ha:a.Ok N) :
  ∃k:Hist,Rec b (hist++k) top/\Lnk a.choose b (hist++k) top/\((k=[]/\∃r,a.choose={ a with arb:=r })\/∃(c:Nat) (d:dV) (l:List dV) (r:Arb),k=[(c,d)]/\c < a.aZ.length/\a.aX.getD c []=d::l /\
   a.choose={ a with arb:=r,aX:=a.aX.set c l,tak:=a.tak.set c { a.tk c with cP:=(a.tk c).cP+1 },snd:={ a.snd with cT:=a.snd.cT++[d] },cT:=a.cT++[(c,d)] }):=by
 rcases Prt.choose_eq ha with ⟨r,e⟩|⟨c,d,l,r,h1,h2,h3,h4,e⟩
 ·refine ⟨[],by rw [List.append_nil];exact h,?_,.inl ⟨rfl,r,e⟩⟩
  rw [e,List.append_nil]
  exact ⟨hl.cT,hl.tq,hl.ack,hl.cP,hl.lim⟩
 ·have hct:c < a.tak.length:=by rw [ha.tl];exact h1
  have hlim:=hl.lim c
  have hsen:=hl.cP c
  have hcb:c < b.aZ.length:=Decidable.byContradiction fun hx=>by
   have e:b.gv c=⟨0,0,0⟩:=getD_out (by rw [h.gl];omega)
   rw [e] at hlim
   unfold Giv.cE at hlim
   dsimp only at hlim
   omega
  refine ⟨[(c,d)],⟨h.gl,h.rt,by rw [List.length_append];exact Nat.le_trans h.tl (Nat.le_add_right _ _),h.low,fun f hf=>?_,fun k=>?_,fun k=>?_,h.bl,h.rm,h.buf⟩,?_,.inr ⟨c,d,l,r,rfl,h1,h2,e⟩⟩
  ·rcases List.mem_append.1 hf with hf|hf
   ·exact h.cls f hf
   ·rw [List.mem_singleton.1 hf];exact hcb
  ·rw [cnt_append,cnt_one]
   have:=h.room k
   split
   ·rename_i e;subst e;omega
   ·omega
  ·rw [List.take_append_of_le_length (Nat.le_trans h.rt h.tl)]
   exact h.got k
  ·rw [e]
   have hak:a.snd.aG<=hist.length:=Nat.le_trans hl.ack (Nat.le_trans h.rt h.tl)
   refine ⟨?_,hl.tq,hl.ack,fun k=>?_,fun k=>?_⟩
   ·show a.cT++[(c,d)]=(hist++[(c,d)]).drop a.snd.aG
    rw [List.drop_append_of_le_length hak,<-hl.cT]
   ·show ((a.tak.set c { a.tk c with cP:=(a.tk c).cP+1 }).getD k ⟨0,0⟩).cP=_
    rw [getD_set _ _ _ _ _ hct,cnt_append,cnt_one]
    have:=hl.cP k
    split
    ·rename_i e;subst e
     show (a.tk c).cP+1=_
     omega
    ·rw [Nat.add_zero];exact this
   ·show b.bs k+((a.tak.set c { a.tk c with cP:=(a.tk c).cP+1 }).getD k ⟨0,0⟩).cE<=_
    rw [getD_set _ _ _ _ _ hct]
    have:=hl.lim k
    split
    ·rename_i e;subst e;exact this
    ·exact this
theorem Snd.tick_cases (s:Snd):(s.cR.1=none/\∃t,s.cR.2={ s with timer:=t })\/∃i,i < s.cT.length/\s.cR.1=some ((s.aG+i) % 256,s.cT.getD i [])/\s.cR.2={ s with pos:=i+1,cP:=max s.cP (i+1),timer:=0 }:=by
 unfold Snd.cR
 split
 ·exact .inl ⟨rfl,s.timer,rfl⟩
 ·rename_i h0
  split
  ·split
   ·exact .inl ⟨rfl,s.timer+1,rfl⟩
   ·exact .inr ⟨0,by omega,rfl,rfl⟩
  ·rename_i h1
   exact .inr ⟨s.pos,by omega,rfl,rfl⟩
theorem Rec.sndTick {N:Nat} {a b:Prt} {hist:Hist} {top:Nat} (h:Rec b hist top) (hl:Lnk a b hist top) (ha:a.Ok N) :
  ∃top',top<=top'/\Rec b hist top'/\Lnk { a with snd:=a.snd.cR.2 } b hist top'/\∀(n:Nat) (d:dV),a.snd.cR.1=some (n,d)->Carries hist top' ⟨2#8,(Prt.classOf { a with snd:=a.snd.cR.2 } n:Nat),n,a.inc,d⟩:=by
 have hk:a.snd.cT.length=a.cT.length:=by rw [<-ha.cT,List.length_map]
 have hkl:a.cT.length=hist.length - a.snd.aG:=by rw [hl.cT,List.length_drop]
 have hs:=ha.snd.cP;have hw:=ha.snd.cT;have hw2:=ha.snd.w2
 have h1:=h.rt;have h2:=h.tl;have h3:=h.low;have h4:=hl.tq;have h5:=hl.ack
 rcases Snd.tick_cases a.snd with ⟨e1,t,e2⟩|⟨i,hi,e1,e2⟩
 ·refine ⟨top,Nat.le_refl _,h,?_,fun n d e=>by rw [e1] at e;cases e⟩
  rw [e2]
  exact ⟨hl.cT,hl.tq,hl.ack,hl.cP,hl.lim⟩
 ·refine ⟨a.snd.aG+max a.snd.cP (i+1),by omega,⟨h.gl,by omega,by omega,by omega,h.cls,h.room,h.got,h.bl,h.rm,h.buf⟩,?_,fun n d e=>?_⟩
  ·rw [e2]
   exact ⟨hl.cT,rfl,hl.ack,hl.cP,hl.lim⟩
  ·rw [e1] at e
   simp only [Option.some.injEq,Prod.mk.injEq] at e
   obtain ⟨rfl,rfl⟩:=e
   have hik:i < a.cT.length:=by omega
   obtain ⟨⟨c,d⟩,hcd⟩:∃f,a.cT[i]? = some f:=⟨_,List.getElem?_eq_getElem hik⟩
   have hcls:Prt.classOf { a with snd:=a.snd.cR.2 } ((a.snd.aG+i) % 256)=c:=by
    unfold Prt.classOf
    rw [e2]
    dsimp only
    rw [show ((a.snd.aG+i) % 256+256 - a.snd.aG % 256) % 256=i by omega,List.getD,hcd]
    rfl
   have hd:a.snd.cT.getD i []=d:=by
    rw [<-ha.cT,List.getD,List.getElem?_map,hcd]
    rfl
   rw [hcls,hd]
   refine ⟨a.snd.aG+i,c,by omega,by omega,rfl,?_,rfl⟩
   rw [<-List.getElem?_drop,<-hl.cT]
   exact hcd
end

section
structure Tag where
 i:Nat
 s:Nat
 v:Nat
 top:Nat
 r:Nat
 lim:Nat->Int
def Lx (i s j t:Nat):Prop:=i < j\/i=j/\s<=t
def Tag.le (t u:Tag):Prop:=Lx t.i t.s u.i u.s/\(t.i=u.i->t.s=u.s->t.top<=u.top/\t.r<=u.r/\∀c,t.lim c<=u.lim c)
theorem Tag.le.refl (t:Tag):t.le t:=⟨.inr ⟨rfl,Nat.le_refl _⟩,fun _ _=>⟨Nat.le_refl _,Nat.le_refl _,fun _=>Int.le_refl _⟩⟩
theorem Lx.trans {i s j t k u:Nat} (h:Lx i s j t) (h':Lx j t k u):Lx i s k u:=by unfold Lx at *;omega
theorem Tag.le.trans {t u x:Tag} (h:t.le u) (h':u.le x):t.le x:=by
 refine ⟨h.1.trans h'.1,fun e1 e2=>?_⟩
 have h1:=h.1;have h2:=h'.1
 unfold Lx at h1 h2
 obtain ⟨a1,a2,a3⟩:=h.2 (by omega) (by omega)
 obtain ⟨b1,b2,b3⟩:=h'.2 (by omega) (by omega)
 exact ⟨Nat.le_trans a1 b1,Nat.le_trans a2 b2,fun c=>Int.le_trans (a3 c) (b3 c)⟩
def Prt.tag (a:Prt):Tag:=⟨a.inc,a.cM,a.cS.cM,a.snd.aG+a.snd.cP,a.rcv,fun c=>((a.gv c).cE:Int) - ((a.bs c:Nat):Int)⟩
abbrev Way:=Tag × Pt
structure Fits (t:Tag) (y:Pt):Prop where
 num:y.kind=1#8->y.number=(t.i:Int)/\y.value=(t.v:Int)
 val:y.kind≠1#8->y.value=(t.i:Int)
 ack:y.kind=3#8->y.number=((t.r % 256:Nat):Int)
 crd:y.kind=4#8->∀c:Nat,y.cls=(c:Int)->y.number<=t.lim c
structure Half (a b:Prt) (wa wb:List Way) (hist:Hist) (top:Nat):Prop where
 srt:wa.Pairwise fun p q=>p.1.le q.1
 cur:∀p ∈ wa,p.1.le a.tag
 fit:∀p ∈ wa,Fits p.1 p.2
 one:∀p ∈ wa,1<=p.1.i
 vs:∀p ∈ wa,p.1.v=0\/p.1.v=p.1.s
 si:∀p ∈ wa,p.1.s<=b.inc
 mine:b.cS.mine=b.inc
 inc:1<=b.inc
 sp:b.cS.cM=0\/b.cS.cM=b.cM
 st:b.cS.cM=0↔b.cS.state=0
 pl:b.cM<=b.cS.seen
 sl:b.cS.seen<=a.inc
 up:b.cS.state=2->Lx b.cS.cM b.inc a.inc a.cM/\∀p ∈ wa,Lx b.cS.cM b.inc p.1.i p.1.s
 rc:Rec b hist top
 over:b.bL=0
 fly:∀p ∈ wa,p.1.i=b.cM->p.1.s=b.inc->b.rcv<=p.1.top/\p.1.top<=top/\(p.2.kind=2#8->Carries hist p.1.top p.2)
 frF:∀p ∈ wa,p.1.s=b.inc->b.cM < p.1.i->p.1.top=0/\p.1.r=0/\p.2.kind≠2#8
 lnk:b.cM=a.inc->a.cM=b.inc->Lnk a b hist top
 frR:b.cM=a.inc->a.cM≠b.inc->b.rcv=0/\∀c,(b.gv c).aW=b.bs c/\b.bs c<=(b.gv c).cE
 frS:b.cM≠a.inc->a.cM=b.inc->a.snd.aG=0/\a.snd.cP=0/\a.cT=[]/\∀c,a.tk c=⟨0,0⟩
 akd:∀u ∈ wb,u.1.i=b.inc->u.1.s=a.inc->b.cM=a.inc->a.cM=b.inc->a.snd.aG<=u.1.r
 old:∀u ∈ wb,u.1.i=a.cM->u.1.s=a.inc->a.cM≠b.inc->a.snd.aG<=u.1.r/\u.1.r<=a.snd.aG+a.snd.cP
section
variable {a a' b b':Prt} {wa wb wa' wb':List Way} {x:Way} {hist:Hist} {top:Nat}
theorem Half.ways (h:Half a b wa wb hist top) (h1:∀p ∈ wa',p ∈ wa) (h2:wa'.Pairwise fun p q=>p.1.le q.1) (h3:∀p ∈ wb',p ∈ wb):Half a b wa' wb' hist top:=
 { h with
  srt:=h2
  cur:=fun p hp=>h.cur p (h1 p hp)
  fit:=fun p hp=>h.fit p (h1 p hp)
  one:=fun p hp=>h.one p (h1 p hp)
  vs:=fun p hp=>h.vs p (h1 p hp)
  si:=fun p hp=>h.si p (h1 p hp)
  up:=fun e=>⟨(h.up e).1,fun p hp=>(h.up e).2 p (h1 p hp)⟩
  fly:=fun p hp=>h.fly p (h1 p hp)
  frF:=fun p hp=>h.frF p (h1 p hp)
  akd:=fun p hp=>h.akd p (h3 p hp)
  old:=fun p hp=>h.old p (h3 p hp) }
theorem Half.dropB (h:Half a b wa (x::wb) hist top):Half a b wa wb hist top:=h.ways (fun _ hp=>hp) h.srt fun _ hp=>List.mem_cons_of_mem _ hp
theorem Half.dropA (h:Half a b (x::wa) wb hist top):Half a b wa wb hist top:=h.ways (fun _ hp=>List.mem_cons_of_mem _ hp) (List.pairwise_cons.1 h.srt).2 fun _ hp=>hp
theorem Rec.same (h:Rec b hist top) (e1:b'.aZ=b.aZ) (e2:b'.rcv=b.rcv) (e3:b'.giv=b.giv) (e4:b'.base=b.base) (e5:b'.aY=b.aY):Rec b' hist top:=
 ⟨by rw [e1,e3];exact h.gl,by rw [e2];exact h.rt,h.tl,by rw [e2];exact h.low,by rw [e1];exact h.cls,by simpa only [e1,Prt.bs,Prt.gv,e3,e4] using h.room,by simpa only [e1,e2,Prt.bs,Prt.gv,e3,e4] using h.got,by rw [e1,e5];exact h.bl,by simpa only [e1,Prt.gv,e3] using h.rm,by simpa only [e1,e5,Prt.gv,e3] using h.buf⟩
theorem Lnk.sameB (h:Lnk a b hist top) (e2:b'.rcv=b.rcv) (e3:b'.giv=b.giv) (e4:b'.base=b.base):Lnk a b' hist top:=
 ⟨h.cT,h.tq,by rw [e2];exact h.ack,h.cP,by simpa only [Prt.bs,Prt.gv,e3,e4] using h.lim⟩
theorem Half.ofA (h:Half a b wa wb hist top) (e2:a'.inc=a.inc) (e3:a'.cM=a.cM) (ht:a.tag.le a'.tag)
  (hk:a'.snd.aG=a.snd.aG\/∀u ∈ wb,u.1.i=b.inc->u.1.s=a.inc->b.cM=a.inc->a.cM=b.inc->a'.snd.aG<=u.1.r)
  (hl:b.cM=a.inc->a.cM=b.inc->Lnk a b hist top->Lnk a' b hist top)
  (hs:b.cM≠a.inc->a.cM=b.inc->a'.snd.aG=0/\a'.snd.cP=0/\a'.cT=[]/\∀c,a'.tk c=⟨0,0⟩)
  (ho:∀u ∈ wb,u.1.i=a.cM->u.1.s=a.inc->a.cM≠b.inc->a'.snd.aG<=u.1.r/\u.1.r<=a'.snd.aG+a'.snd.cP):Half a' b wa wb hist top:=
 { h with
  cur:=fun p hp=>(h.cur p hp).trans ht
  sl:=by rw [e2];exact h.sl
  up:=by rw [e2,e3];exact h.up
  lnk:=by rw [e2,e3];exact fun x y=>hl x y (h.lnk x y)
  frR:=by rw [e2,e3];exact h.frR
  frS:=by rw [e2,e3];exact hs
  akd:=by
   rw [e2,e3]
   rcases hk with hk|hk
   ·rw [hk];exact h.akd
   ·exact hk
  old:=by rw [e2,e3];exact ho }
theorem Half.ofB (h:Half a b wa wb hist top) (e1:b'.aZ=b.aZ) (e2:b'.inc=b.inc) (e3:b'.cM=b.cM) (e4:b'.cS=b.cS)
  (e5:b'.rcv=b.rcv) (e6:b'.giv=b.giv) (e7:b'.base=b.base) (e8:b'.bL=b.bL) (e9:b'.aY=b.aY):Half a b' wa wb hist top where
 srt:=h.srt
 cur:=h.cur
 fit:=h.fit
 one:=h.one
 vs:=h.vs
 si:=by rw [e2];exact h.si
 mine:=by rw [e2,e4];exact h.mine
 inc:=by rw [e2];exact h.inc
 sp:=by rw [e3,e4];exact h.sp
 st:=by rw [e4];exact h.st
 pl:=by rw [e3,e4];exact h.pl
 sl:=by rw [e4];exact h.sl
 up:=by rw [e2,e4];exact h.up
 rc:=h.rc.same e1 e5 e6 e7 e9
 over:=by rw [e8];exact h.over
 fly:=by rw [e2,e3,e5];exact h.fly
 frF:=by rw [e2,e3];exact h.frF
 lnk:=by rw [e2,e3];exact fun x y=>(h.lnk x y).sameB e5 e6 e7
 frR:=by simpa only [e2,e3,e5,Prt.bs,Prt.gv,e6,e7] using h.frR
 frS:=by rw [e2,e3];exact h.frS
 akd:=by rw [e2,e3];exact h.akd
 old:=by rw [e2];exact h.old
end
end

section
def Pt.pk (y:Pt):Pk:=⟨y.kind,y.cls,y.number,y.value,y.pay⟩
def Pk.pt (y:Pk):Pt:=⟨y.kind,y.cls,y.number,y.value,y.pay⟩
inductive Wire:List (Nat × Byt)->List (Nat × Option Way)->Prop
 |nil:Wire [] []
 |cons {x:Byt} {o:Option Way} {fl ws} (n:Nat):Trn x (o.map fun v=>v.2.pk)->Wire fl ws->Wire ((n,x)::fl) ((n,o)::ws)
theorem Wire.append {fl gl:List (Nat × Byt)} {ws vs:List (Nat × Option Way)} (h:Wire fl ws) (g:Wire gl vs):Wire (fl++gl) (ws++vs):=by
 induction h with
 |nil=>exact g
 |cons n t _ ih=>exact .cons n t ih
theorem Wire.drop {fl:List (Nat × Byt)} {ws:List (Nat × Option Way)} (h:Wire fl ws):∀k,Wire (fl.drop k) (ws.drop k):=by
 induction h with
 |nil=>intro k;simpa using Wire.nil
 |cons n t w ih=>
  intro k
  cases k with
  |zero=>exact .cons n t w
  |succ k=>exact ih k
theorem Wire.length {fl:List (Nat × Byt)} {ws:List (Nat × Option Way)} (h:Wire fl ws):fl.length=ws.length:=by
 induction h with
 |nil=>rfl
 |cons _ _ _ ih=>simp [ih]
theorem Wire.trns {fl:List (Nat × Byt)} {ws:List (Nat × Option Way)} (h:Wire fl ws):∀k,Trns ((fl.take k).map (·.2)) ((ws.take k).map fun w=>w.2.map fun v=>v.2.pk):=by
 induction h with
 |nil=>intro k;simpa using Trns.nil
 |cons n t _ ih=>
  intro k
  cases k with
  |zero=>exact .nil
  |succ k=>exact .cons t (ih k)
theorem Wire.due {fl:List (Nat × Byt)} {ws:List (Nat × Option Way)} (h:Wire fl ws) (p:Nat->Bool):(fl.takeWhile fun x=>p x.1).length=(ws.takeWhile fun x=>p x.1).length:=by
 induction h with
 |nil=>rfl
 |cons n _ _ ih=>
  simp only [List.takeWhile_cons]
  split
  ·simp [ih]
  ·rfl
def held (ws:List (Nat × Option Way)):List Way:=ws.filterMap (·.2)
theorem held_append (ws vs:List (Nat × Option Way)):held (ws++vs)=held ws++held vs:=List.filterMap_append
theorem held_split (ws:List (Nat × Option Way)) (k:Nat):held (ws.take k)++held (ws.drop k)=held ws:=by rw [<-held_append,List.take_append_drop]
theorem held_map (n:Nat) (b:List (Option Way)):held (b.map fun o=>(n,o))=b.filterMap id:=by
 unfold held
 rw [List.filterMap_map]
 rfl
theorem wire_reps {x:Byt} {o:Option Way} (h:Trn x (o.map fun v=>v.2.pk)) (n:Nat):∀k,Wire (List.replicate k (n,x)) ((List.replicate k o).map fun o=>(n,o))
 |0=>.nil
 |k+1=>.cons n h (wire_reps h n k)
theorem Wire.send {c:Cab} {ws:List (Nat × Option Way)} (h:Wire c.aL ws) (t:Tag) {y:Pt} (hy:Good y.pk) :
  ∃b:List (Option Way),Wire (c.send (symP y.pk)).2.aL (ws++b.map fun o=>(c.cC+c.cB,o))/\b.length<=2/\(c.fault.kind=0->b.length<=1)/\∃k,b.filterMap id=List.replicate k (t,y):=by
 unfold Cab.send
 by_cases h1:c.up=false\/c.fault.kind=1
 ·rw [if_pos h1];exact ⟨[],by simpa using h,by simp,by simp,0,rfl⟩
 ·rw [if_neg h1]
  by_cases h2:64 < c.aL.length+c.copies
  ·rw [if_pos h2];exact ⟨[],by simpa using h,by simp,by simp,0,rfl⟩
  ·rw [if_neg h2]
   have hc:=(Cab.copies_le c).2
   have hc1:c.fault.kind=0->c.copies<=1:=fun h0=>by unfold Cab.copies;rw [h0];decide
   by_cases h3:c.fault.kind=2
   ·have hw:c.what (symP y.pk)=flipB (symP y.pk) c.fault.arg:=by unfold Cab.what;rw [if_pos h3]
    refine ⟨List.replicate c.copies none,h.append ?_,by simpa using hc,by simpa using hc1,0,?_⟩
    ·rw [hw];exact wire_reps (o:=none) (flip_trn hy _) _ _
    ·generalize c.copies=k
     induction k with
     |zero=>rfl
     |succ k ih=>exact ih
   ·have hw:c.what (symP y.pk)=symP y.pk:=by unfold Cab.what;rw [if_neg h3]
    refine ⟨List.replicate c.copies (some (t,y)),h.append ?_,by simpa using hc,by simpa using hc1,c.copies,?_⟩
    ·rw [hw];exact wire_reps (o:=some (t,y)) ⟨hy,rfl⟩ _ _
    ·generalize c.copies=k
     induction k with
     |zero=>rfl
     |succ k ih=>rw [List.replicate_succ,List.replicate_succ,<-ih];rfl
theorem Wire.send1 {c:Cab} {ws:List (Nat × Option Way)} (h:Wire c.aL ws) (t:Tag) {y:Pt} (hy:Good y.pk) (hup:c.up=true) (hf:c.fault.kind=0) (hl:c.aL.length < 64) :
  Wire (c.send (symP y.pk)).2.aL (ws++[(c.cC+c.cB,some (t,y))]):=by
 have h1:¬(c.up=false\/c.fault.kind=1):=by rw [hup,hf];decide
 have h3:c.copies=1:=by unfold Cab.copies;rw [hf];rfl
 have hw:c.what (symP y.pk)=symP y.pk:=by unfold Cab.what;rw [hf];rfl
 unfold Cab.send
 rw [if_neg h1,h3,if_neg (by omega),hw]
 exact h.append (.cons _ ⟨hy,rfl⟩ .nil)
theorem Wire.cR {c:Cab} {ws:List (Nat × Option Way)} (h:Wire c.aL ws) {s:Sc} (hs:s.inside=false) :
  Wire c.cR.2.aL (ws.drop c.bV.length)/\∃s',s'.inside=false/\s'.bad<=s.bad+c.bV.length/\s.scan c.cR.1.flatten=(s',(held (ws.take c.bV.length)).map fun v=>v.2.pk):=by
 refine ⟨h.drop _,?_⟩
 have ht:c.aL.take c.bV.length=c.bV:=by unfold Cab.bV;exact (List.prefix_iff_eq_take.1 (List.takeWhile_prefix _)).symm
 obtain ⟨s',h1,hb,h2⟩:=scan_trns (h.trns c.bV.length) hs
 rw [ht] at h2 hb
 refine ⟨s',h1,by rwa [List.length_map] at hb,?_⟩
 show s.scan (c.bV.map (·.2)).flatten=_
 rw [h2]
 congr 1
 unfold held
 generalize ws.take c.bV.length=l
 induction l with
 |nil=>rfl
 |cons w l ih=>
  obtain ⟨n,o⟩:=w
  cases o with
  |none=>exact ih
  |some v=>show v.2.pk::_=v.2.pk::_;rw [ih]
end

section
section
variable {N:Nat} {a b:Prt} {wa wb:List Way} {t:Tag} {y:Pt} {hA hB:Hist} {tA tB:Nat}
theorem Half.of_up (hb:Half b a ((t,y)::wb) wa hB tB) (hk:y.kind≠1#8) (hup:a.cS.state=2/\a.cS.cM≠0/\(a.cS.cM:Int)=y.value):t.i=a.cM/\t.s=a.inc/\(a.cM=b.inc->b.cM=a.inc\/a.inc < b.cM):=by
 have hv:=(hb.fit _ (List.mem_cons_self ..)).val hk
 dsimp only at hv
 have h1:a.cS.cM=t.i:=by have:=hup.2.2;rw [hv] at this;exact_mod_cast this
 have hp:a.cS.cM=a.cM:=(hb.sp).resolve_left hup.2.1
 obtain ⟨u1,u2⟩:=hb.up hup.1
 have u3:=u2 _ (List.mem_cons_self ..)
 have h4:=hb.si _ (List.mem_cons_self ..)
 unfold Lx at u1 u3
 dsimp only at u3 h4
 exact ⟨by omega,by omega,fun h=>by omega⟩
theorem drop_acked (s:Snd) (k:Nat) (hk:k<=s.cP):(s.drop k).aG=s.aG+k/\(s.drop k).aG+(s.drop k).cP=s.aG+s.cP:=by
 unfold Snd.drop
 split
 ·exact ⟨by omega,rfl⟩
 ·exact ⟨rfl,by dsimp only;omega⟩
theorem ack_step (a:Prt) (y:Pt):∃k,k<=a.snd.cP/\a.bQ y={ a with snd:=a.snd.drop k,aG:=tally a.aG (a.cT.take k),cT:=a.cT.drop k }:=by
 unfold Prt.bQ Snd.ack Snd.accept
 cases h:a.snd.count y.number with
 |none=>exact ⟨0,Nat.zero_le _,by simp [Snd.drop]⟩
 |some k=>exact ⟨k,count_le h,rfl⟩
theorem ack_tag (a:Prt) (y:Pt):(a.bQ y).tag=a.tag:=by
 obtain ⟨k,hk,e⟩:=ack_step a y
 rw [e]
 unfold Prt.tag
 dsimp only
 rw [(drop_acked a.snd k hk).2]
theorem both_ack (ha:Half a b wa ((t,y)::wb) hA tA) (hb:Half b a ((t,y)::wb) wa hB tB) (ok:a.Ok N) (hk:y.kind=3#8) (hup:a.cS.state=2/\a.cS.cM≠0/\(a.cS.cM:Int)=y.value) :
  Half (a.bQ y) b wa wb hA tA/\Half b (a.bQ y) wb wa hB tB/\a.snd.aG<=t.r/\t.r<=a.snd.aG+a.snd.cP/\t.i=a.cM/\t.s=a.inc /\
   a.bQ y={ a with snd:=a.snd.drop (t.r - a.snd.aG),aG:=tally a.aG (a.cT.take (t.r - a.snd.aG)),cT:=a.cT.drop (t.r - a.snd.aG) }:=by
 obtain ⟨hp,hs,hli⟩:=hb.of_up (by rw [hk];decide) hup
 have hbi:=Nat.le_trans ha.pl ha.sl
 have hnum:=(hb.fit _ (List.mem_cons_self ..)).ack hk
 dsimp only at hnum
 have hcur:=hb.cur _ (List.mem_cons_self ..)
 have hr:a.cM=b.inc->t.r<=b.rcv:=fun h=>(hcur.2 (hp.trans h) (hs.trans (by have:=hli h;show a.inc=b.cM;omega))).2.1
 have hlo:a.snd.aG<=t.r/\t.r<=a.snd.aG+a.snd.cP:=by
  by_cases h2:a.cM=b.inc
  ·have h1:b.cM=a.inc:=by have:=hli h2;omega
   have h3:=(ha.lnk h1 h2).tq
   have h4:=ha.rc.rt
   have h5:=hr h2
   exact ⟨ha.akd _ (List.mem_cons_self ..) (hp.trans h2) hs h1 h2,by omega⟩
  ·exact ha.old _ (List.mem_cons_self ..) hp hs h2
 obtain ⟨e,e1,e2⟩:=ack_exact ok.snd hlo.1 hlo.2 hnum
 have hak:(a.bQ y).snd.aG=t.r:=by rw [e];exact e1
 have hsum:(a.bQ y).snd.aG+(a.bQ y).snd.cP=a.snd.aG+a.snd.cP:=by rw [hak,e];dsimp only;rw [e2];omega
 have hle:∀u ∈ wb,u.1.i=a.cM->u.1.s=a.inc->t.r<=u.1.r:=fun u hu e1 e2=>(((List.pairwise_cons.1 hb.srt).1 u hu).2 (hp.trans e1.symm) (hs.trans e2.symm)).2.1
 refine ⟨ha.dropB.ofA rfl rfl (by rw [ack_tag];exact Tag.le.refl _) (.inr fun u hu e1 e2 h1 h2=>?_) (fun h1 h2 hl=>?_) (fun h1 h2=>?_) (fun u hu e1 e2 e3=>?_),hb.dropA.ofB rfl rfl rfl rfl rfl rfl rfl rfl rfl,hlo.1,hlo.2,hp,hs,e⟩
 ·rw [hak];exact hle u hu (e1.trans h2.symm) e2
 ·exact hl.bQ ha.rc ok.snd hlo.1 (hr h2) hnum
 ·have:=hli h2;omega
 ·rw [hak,<-hak,hsum,hak]
  exact ⟨hle u hu e1 e2,(ha.dropB.old u hu e1 e2 e3).2⟩
theorem raise_fields (a:Prt) (y:Pt):(a.raise y).aZ=a.aZ/\(a.raise y).inc=a.inc/\(a.raise y).cM=a.cM/\(a.raise y).cS=a.cS/\(a.raise y).rcv=a.rcv/\(a.raise y).giv=a.giv/\(a.raise y).base=a.base/\(a.raise y).bL=a.bL:=by
 unfold Prt.raise
 split <;> exact ⟨rfl,rfl,rfl,rfl,rfl,rfl,rfl,rfl⟩
theorem raise_buf (a:Prt) (y:Pt):(a.raise y).aY=a.aY:=by
 unfold Prt.raise
 split <;> rfl
theorem raise_snd (a:Prt) (y:Pt):(a.raise y).snd=a.snd:=by
 unfold Prt.raise
 split <;> rfl
theorem raise_tag (a:Prt) (y:Pt):(a.raise y).tag=a.tag:=by
 unfold Prt.raise
 split <;> rfl
theorem both_raise (ha:Half a b wa ((t,y)::wb) hA tA) (hb:Half b a ((t,y)::wb) wa hB tB) (ok:a.Ok N) (hk:y.kind=4#8) (hup:a.cS.state=2/\a.cS.cM≠0/\(a.cS.cM:Int)=y.value) :
  Half (a.raise y) b wa wb hA tA/\Half b (a.raise y) wb wa hB tB:=by
 obtain ⟨hp,hs,hli⟩:=hb.of_up (by rw [hk];decide) hup
 obtain ⟨e1,e2,e3,e4,e5,e6,e7,e8⟩:=raise_fields a y
 have hbi:=Nat.le_trans ha.pl ha.sl
 refine ⟨ha.dropB.ofA e2 e3 (by rw [raise_tag];exact Tag.le.refl _) (.inl (by rw [raise_snd])) (fun h1 h2 hl=>?_) (fun h1 h2=>?_) (by rw [raise_snd];exact ha.dropB.old),hb.dropA.ofB e1 e2 e3 e4 e5 e6 e7 e8 (raise_buf a y)⟩
 ·refine hl.raise ok.tl fun c hc=>?_
  have hn:=(hb.fit _ (List.mem_cons_self ..)).crd hk c hc
  have hc2:=((hb.cur _ (List.mem_cons_self ..)).2 (hp.trans h2) (hs.trans h1.symm)).2.2 c
  have hc3:t.lim c<=((b.gv c).cE:Int) - ((b.bs c:Nat):Int):=hc2
  dsimp only at hn
  omega
 ·have:=hli h2;omega
theorem both_receive (ha:Half a b wa ((t,y)::wb) hA tA) (hb:Half b a ((t,y)::wb) wa hB tB) (hk:y.kind=2#8) (hup:a.cS.state=2/\a.cS.cM≠0/\(a.cS.cM:Int)=y.value) :
  Half (a.cO y) b wa wb hA tA/\Half b (a.cO y) wb wa hB tB/\(a.cO y=a\/∃(c:Nat),hB[a.rcv]? = some (c,y.pay)/\c < a.aZ.length/\a.cO y={ a with
    rcv:=a.rcv+1
    giv:=a.giv.set c { a.gv c with aW:=(a.gv c).aW+1 }
    aY:=a.aY.set c (a.aY.getD c []++[y.pay])
    aW:=a.aW.set c (a.aW.getD c 0+1) }):=by
 obtain ⟨hp,hs,hli⟩:=hb.of_up (by rw [hk];decide) hup
 obtain ⟨f1,f2,f3⟩:=hb.fly _ (List.mem_cons_self ..) hp hs
 have hc:=f3 hk
 dsimp only at f1 f2 hc
 have hbi:=Nat.le_trans ha.pl ha.sl
 obtain ⟨hr,ho,e|⟨c,h1,h2,h3,e⟩⟩:=hb.rc.cO f1 f2 hc
 ·rw [e];exact ⟨ha.dropB,hb.dropA,.inl rfl⟩
 ·have hL:=fun x z=>(hb.lnk x z).cO hb.rc f1 f2 hc
  rw [e] at hr ho hL ⊢
  have hlim:∀k,((a.giv.set c { a.gv c with aW:=(a.gv c).aW+1 }).getD k ⟨0,0,0⟩).cE=(a.gv k).cE:=fun k=>by
   rw [getD_set _ _ _ _ _ (by rw [hb.rc.gl];exact h3)]
   split
   ·rename_i e;subst e;rfl
   ·rfl
  refine ⟨ha.dropB.ofA rfl rfl ⟨.inr ⟨rfl,Nat.le_refl _⟩,fun _ _=>⟨Nat.le_refl _,Nat.le_succ _,fun k=>?_⟩⟩ (.inl rfl) (fun _ _ hl=>⟨hl.cT,hl.tq,hl.ack,hl.cP,hl.lim⟩) ha.frS ha.dropB.old,?_,.inr ⟨c,h2,h3,rfl⟩⟩
  ·show ((a.gv k).cE:Int) - _<=(((a.giv.set c { a.gv c with aW:=(a.gv c).aW+1 }).getD k ⟨0,0,0⟩).cE:Int) - _
   rw [hlim k]
   exact Int.le_refl _
  ·have hd:=hb.dropA
   exact { hd with
    rc:=hr
    over:=by rw [ho];exact hd.over
    fly:=fun p hp' e1 e2=>by
     obtain ⟨g1,g2,g3⟩:=hd.fly p hp' e1 e2
     have hle:=(((List.pairwise_cons.1 hb.srt).1 p hp').2 (hp.trans e1.symm) (hs.trans e2.symm)).1
     dsimp only at hle
     exact ⟨Nat.le_trans h1 hle,g2,g3⟩
    lnk:=hL
    frR:=fun x z=>absurd (show b.cM=a.inc by have:=hli x;omega) z }
theorem greet_cases (hb:Half b a ((t,y)::wb) wa hB tB) (okb:b.inc<=1099511627775) (hk:y.kind=1#8) :
  a.greet y=a\/(a.cS.seen<=t.i/\∃sd:Side,sd.mine=a.cS.mine/\sd.dead=a.cS.dead/\sd.seen=t.i/\sd.silent=0/\sd.cM=t.i/\sd.state=(if t.v=a.inc then 2 else 1) /\
   a.greet y=if t.i=a.cM then { a with cS:=sd } else ({ a with cS:=sd }:Prt).begin t.i):=by
 obtain ⟨hn,hv⟩:=(hb.fit _ (List.mem_cons_self ..)).num hk
 have h1:=hb.one _ (List.mem_cons_self ..)
 have h2:t.i<=b.inc:=by
  have h3:=(hb.cur _ (List.mem_cons_self ..)).1
  unfold Lx at h3
  have h4:b.tag.i=b.inc:=rfl
  dsimp only at h3
  omega
 dsimp only at hn hv h1
 by_cases hs:t.i < a.cS.seen
 ·refine .inl ?_
  have e:a.cS.cO y.number y.value=a.cS:=by
   unfold Side.cO
   rw [if_pos (by rw [hn];omega)]
  unfold Prt.greet
  dsimp only
  rw [e,if_neg]
  rintro ⟨h3,h4⟩
  rcases hb.sp with h|h
  ·exact h3 h
  ·exact h4 h
 ·refine .inr ⟨by omega,{ a.cS with seen:=t.i,silent:=0,cM:=t.i,state:=if t.v=a.inc then 2 else 1 },rfl,rfl,rfl,rfl,rfl,rfl,?_⟩
  have e:a.cS.cO y.number y.value={ a.cS with seen:=t.i,silent:=0,cM:=t.i,state:=if t.v=a.inc then 2 else 1 }:=by
   unfold Side.cO
   have e3:(if (t.v:Int)=(a.cS.mine:Int) then 2 else 1)=if t.v=a.inc then 2 else 1:=by
    rw [hb.mine]
    by_cases hx:t.v=a.inc
    ·rw [hx];simp
    ·rw [if_neg hx,if_neg (by omega)]
   rw [if_neg (by rw [hn];omega),hn,hv,Int.toNat_natCast,e3]
  unfold Prt.greet
  dsimp only
  rw [e]
  dsimp only
  by_cases hx:t.i=a.cM
  ·rw [if_pos hx,if_neg (fun h=>h.2 hx)]
  ·rw [if_neg hx,if_pos ⟨by omega,hx⟩]
theorem Half.answer (hb:Half b a ((t,y)::wb) wa hB tB) (hi:1<=a.inc) (hv:t.v=a.inc):Lx t.i a.inc b.inc b.cM/\∀p ∈ wb,Lx t.i a.inc p.1.i p.1.s:=by
 have hs:t.s=a.inc:=by
  rcases hb.vs _ (List.mem_cons_self ..) with h|h
  ·dsimp only at h;omega
  ·dsimp only at h;omega
 refine ⟨?_,fun p hp=>?_⟩
 ·have:=(hb.cur _ (List.mem_cons_self ..)).1
  rw [<-hs];exact this
 ·have:=((List.pairwise_cons.1 hb.srt).1 p hp).1
  rw [<-hs];exact this
theorem both_stay (ha:Half a b wa ((t,y)::wb) hA tA) (hb:Half b a ((t,y)::wb) wa hB tB) (sd:Side) (h1:sd.mine=a.cS.mine) (h2:sd.seen=t.i) (h3:sd.cM=t.i) (h4:sd.state=if t.v=a.inc then 2 else 1) (hx:t.i=a.cM) :
  Half { a with cS:=sd } b wa wb hA tA/\Half b { a with cS:=sd } wb wa hB tB:=by
 have hst:sd.state=2->t.v=a.inc:=fun e=>by
  rw [h4] at e
  split at e
  ·assumption
  ·cases e
 have h5:t.i<=b.inc:=by
  have h3:=(hb.cur _ (List.mem_cons_self ..)).1
  unfold Lx at h3
  have h4:b.tag.i=b.inc:=rfl
  dsimp only at h3
  omega
 have hA:=ha.dropB
 have hB:=hb.dropA
 refine ⟨{ hA with
  lnk:=fun x z=>have h:=hA.lnk x z;⟨h.cT,h.tq,h.ack,h.cP,h.lim⟩ },{ hB with
  mine:=h1.trans hB.mine
  sp:=.inr (h3.trans hx)
  st:=?_
  pl:=by show a.cM<=sd.seen;omega
  sl:=by show sd.seen<=b.inc;rw [h2];exact h5
  up:=fun e=>by
   show Lx sd.cM a.inc b.inc b.cM/\∀p ∈ wb,Lx sd.cM a.inc p.1.i p.1.s
   rw [h3];exact hb.answer hB.inc (hst e)
  rc:=hB.rc.same rfl rfl rfl rfl rfl
  lnk:=fun x z=>(hB.lnk x z).sameB rfl rfl rfl }⟩
 show sd.cM=0↔sd.state=0
 have h6:=hb.one _ (List.mem_cons_self ..)
 dsimp only at h6
 rw [h3,h4]
 split <;> omega
end
end

section
theorem held_all (r:Nat):∀k,k<=r->Giv.held ⟨r,0,0⟩ k=⟨r,k,0⟩:=fun k hk=>by
 rw [held_eq,Nat.min_eq_left hk]
theorem begin_rec {b:Prt} {hist:Hist} {top p:Nat} (h:Rec b hist top) :
  Rec (b.begin p) [] 0/\∀c,((b.begin p).gv c).aW=(b.begin p).bs c/\(b.begin p).bs c<=((b.begin p).gv c).cE:=by
 have hout:∀c,b.aZ.length<=c->(b.begin p).gv c=⟨0,0,0⟩/\(b.begin p).bs c=0:=fun c hc=>⟨getD_out (by simp [Prt.begin];exact hc),getD_out (by simp [Prt.begin,h.bl];exact hc)⟩
 have hlen:∀c,c < b.aZ.length->(b.aY.getD c []).length<=b.aZ.getD c 0:=fun c hc=>by
  have h1:=h.buf c hc;have h2:=h.room c;have h3:=h.got c;have h4:=h.rm c hc
  have h5:=cnt_take_le hist b.rcv c
  unfold Giv.cE at h2
  omega
 have hg:∀c,c < b.aZ.length->(b.begin p).gv c=⟨b.aZ.getD c 0,(b.aY.getD c []).length,0⟩:=fun c hc=>by
  show ((List.range b.aZ.length).map fun c=>Giv.held ⟨b.aZ.getD c 0,0,0⟩ (b.aY.getD c []).length).getD c ⟨0,0,0⟩=_
  rw [List.getD,List.getElem?_map,List.getElem?_range hc]
  exact held_all _ _ (hlen c hc)
 have hb:∀c,c < b.aZ.length->(b.begin p).bs c=(b.aY.getD c []).length:=fun c hc=>by
  show (b.aY.map List.length).getD c 0=_
  rw [List.getD,List.getElem?_map,List.getD,List.getElem?_eq_getElem (by rw [h.bl];exact hc)]
  rfl
 refine ⟨⟨by simp [Prt.begin],Nat.le_refl _,Nat.zero_le _,Nat.zero_le _,(fun f hf=>by cases hf),fun c=>?_,fun c=>?_,h.bl,fun c hc=>?_,fun c hc=>?_⟩,fun c=>?_⟩
 ·rcases Nat.lt_or_ge c b.aZ.length with hc|hc
  ·rw [hg c hc,hb c hc]
   show (b.aY.getD c []).length+0<=b.aZ.getD c 0+0
   have:=hlen c hc
   omega
  ·rw [(hout c hc).1,(hout c hc).2];exact Nat.le_refl _
 ·rcases Nat.lt_or_ge c b.aZ.length with hc|hc
  ·rw [hg c hc,hb c hc];rfl
  ·rw [(hout c hc).1,(hout c hc).2];rfl
 ·rw [hg c hc];rfl
 ·rw [hg c hc];show _=0+(b.aY.getD c []).length;rw [Nat.zero_add]
 ·rcases Nat.lt_or_ge c b.aZ.length with hc|hc
  ·rw [hg c hc,hb c hc]
   have:=hlen c hc
   exact ⟨rfl,by show _<=b.aZ.getD c 0+0;omega⟩
  ·rw [(hout c hc).1,(hout c hc).2];exact ⟨rfl,Nat.le_refl _⟩
section
variable {N:Nat} {a b:Prt} {wa wb:List Way} {t:Tag} {y:Pt} {hA hB:Hist} {tA tB:Nat}
theorem begin_tk (a:Prt) (p c:Nat):(a.begin p).tk c=⟨0,0⟩:=by
 show (List.replicate a.aZ.length (⟨0,0⟩:Tak)).getD c ⟨0,0⟩=_
 rw [List.getD,List.getElem?_replicate]
 split <;> rfl
theorem both_begin (ha:Half a b wa ((t,y)::wb) hA tA) (hb:Half b a ((t,y)::wb) wa hB tB) (sd:Side) (h1:sd.mine=a.cS.mine) (h2:sd.seen=t.i) (h3:sd.cM=t.i) (h4:sd.state=if t.v=a.inc then 2 else 1) (hs:a.cS.seen<=t.i) (hx:t.i≠a.cM) :
  ∃hA' tA',Half (({ a with cS:=sd }:Prt).begin t.i) b wa wb hA' tA'/\Half b (({ a with cS:=sd }:Prt).begin t.i) wb wa [] 0/\((t.i=b.inc/\b.cM=a.inc/\hA'=[]/\b.rcv=0)\/(¬(t.i=b.inc/\b.cM=a.inc)/\hA'=hA/\tA'=tA)):=by
 have hst:sd.state=2->t.v=a.inc:=fun e=>by
  rw [h4] at e
  split at e
  ·assumption
  ·cases e
 have hlt:a.cM < t.i:=by have:=hb.pl;omega
 have hcu:=hb.cur _ (List.mem_cons_self ..)
 have hib:t.i<=b.inc:=by
  have h3:=hcu.1
  unfold Lx at h3
  have h4:b.tag.i=b.inc:=rfl
  dsimp only at h3
  omega
 have h1i:1<=t.i:=hb.one _ (List.mem_cons_self ..)
 have hne:a.cM≠b.inc:=by omega
 have hA0:=ha.dropB
 have hB0:=hb.dropA
 have hold:∀p ∈ wa,p.1.i=a.inc->p.1.s<=a.cM:=fun p hp e=>by
  have:=(ha.cur p hp).1
  unfold Lx at this
  have h4:a.tag.i=a.inc:=rfl
  have h5:a.tag.s=a.cM:=rfl
  omega
 obtain ⟨hrec,hfr⟩:=begin_rec (b:={ a with cS:=sd }) (p:=t.i) (hb.rc.same rfl rfl rfl rfl rfl)
 have htag:a.tag.le (({ a with cS:=sd }:Prt).begin t.i).tag:=⟨.inr ⟨rfl,Nat.le_of_lt hlt⟩,fun _ e=>absurd (show a.cM=t.i from e) (by omega)⟩
 have hBB:Half b (({ a with cS:=sd }:Prt).begin t.i) wb wa [] 0:={ hB0 with
  mine:=h1.trans hB0.mine
  sp:=.inr h3
  st:=by
   show sd.cM=0↔sd.state=0
   rw [h3,h4]
   split <;> omega
  pl:=by show t.i<=sd.seen;omega
  sl:=by show sd.seen<=b.inc;omega
  up:=fun e=>by
   show Lx sd.cM a.inc b.inc b.cM/\∀p ∈ wb,Lx sd.cM a.inc p.1.i p.1.s
   rw [h3];exact hb.answer hB0.inc (hst e)
  rc:=hrec
  over:=hB0.over
  fly:=fun p hp e1 e2=>by
   obtain ⟨f1,_,f2⟩:=hb.frF p (List.mem_cons_of_mem _ hp) e2 (by show a.cM < p.1.i;have e1':p.1.i=t.i:=e1;omega)
   exact ⟨Nat.zero_le _,by omega,fun e=>absurd e f2⟩
  frF:=fun p hp e1 e2=>hB0.frF p hp e1 (Nat.lt_trans hlt e2)
  lnk:=fun x z=>by
   obtain ⟨q1,q2,q3,q4⟩:=hb.frS hne z
   refine ⟨by rw [q3,List.drop_nil],by omega,by rw [q1];exact Nat.zero_le _,fun c=>by rw [q4 c];rfl,fun c=>?_⟩
   rw [q4 c]
   exact (hfr c).2
  frR:=fun _ _=>⟨rfl,hfr⟩
  frS:=fun _ z=>hb.frS hne z
  akd:=fun p hp e1 e2 e3 _=>by
   have:=hold p hp e1
   have e3':t.i=b.inc:=e3
   omega
  old:=fun p hp e1 e2 e3=>hb.old p hp e1 e2 (fun e4=>by
   have:=hold p hp (e1.trans e4)
   have e5:p.1.s=b.inc:=e2
   omega) }
 have hnew:∀u ∈ wb,u.1.i=t.i->u.1.s=a.inc->t.i≠b.inc->0<=u.1.r/\u.1.r<=0+0:=fun u hu e1 e2 _=>by
  have:=(hb.frF u (List.mem_cons_of_mem _ hu) e2 (by rw [e1];exact hlt)).2.1
  exact ⟨Nat.zero_le _,by omega⟩
 by_cases hl:t.i=b.inc/\b.cM=a.inc
 ·obtain ⟨hl1,hl2⟩:=hl
  obtain ⟨r0,r1⟩:=ha.frR hl2 hne
  refine ⟨[],0,{ hA0 with
   cur:=fun p hp=>(hA0.cur p hp).trans htag
   up:=fun e=>⟨by
    have:=(hA0.up e).1
    unfold Lx at this ⊢
    show b.cS.cM < a.inc\/b.cS.cM=a.inc/\b.inc<=t.i
    omega,(hA0.up e).2⟩
   rc:=⟨hA0.rc.gl,by omega,Nat.zero_le _,Nat.zero_le _,(fun f hf=>by cases hf),fun c=>(r1 c).2,fun c=>by rw [r0];exact (r1 c).1,hA0.rc.bl,hA0.rc.rm,hA0.rc.buf⟩
   fly:=fun p hp e1 e2=>by have:=hold p hp (e1.trans hl2);omega
   lnk:=fun _ _=>⟨rfl,rfl,Nat.zero_le _,fun c=>by rw [begin_tk];rfl,fun c=>by rw [begin_tk];exact (r1 c).2⟩
   frR:=fun _ z=>absurd hl1 z
   frS:=fun z _=>absurd hl2 z
   akd:=fun _ _ _ _ _ _=>Nat.zero_le _
   old:=hnew },hBB,.inl ⟨hl1,hl2,rfl,r0⟩⟩
 ·refine ⟨hA,tA,{ hA0 with
   cur:=fun p hp=>(hA0.cur p hp).trans htag
   up:=fun e=>⟨by
    have:=(hA0.up e).1
    unfold Lx at this ⊢
    show b.cS.cM < a.inc\/b.cS.cM=a.inc/\b.inc<=t.i
    omega,(hA0.up e).2⟩
   lnk:=fun x z=>absurd ⟨z,x⟩ hl
   frR:=fun x _=>hA0.frR x hne
   frS:=fun _ _=>⟨rfl,rfl,rfl,fun c=>begin_tk _ _ c⟩
   akd:=fun _ _ _ _ _ _=>Nat.zero_le _
   old:=hnew },hBB,.inr ⟨hl,rfl,rfl⟩⟩
end
end

section
def Step (t:Tag) (a a':Prt) (hB:Hist):Prop:=
 (∃sd tk,a'={ a with cS:=sd,tak:=tk }) \/
 (a.snd.aG<=t.r/\t.r<=a.snd.aG+a.snd.cP/\t.i=a.cM/\t.s=a.inc /\
  a'={ a with snd:=a.snd.drop (t.r - a.snd.aG),aG:=tally a.aG (a.cT.take (t.r - a.snd.aG)),cT:=a.cT.drop (t.r - a.snd.aG) }) \/
 ∃(c:Nat) (d:dV),hB[a.rcv]? = some (c,d)/\c < a.aZ.length/\a'={ a with
  rcv:=a.rcv+1
  giv:=a.giv.set c { a.gv c with aW:=(a.gv c).aW+1 }
  aY:=a.aY.set c (a.aY.getD c []++[d])
  aW:=a.aW.set c (a.aW.getD c 0+1) }
section
variable {N:Nat} {a b:Prt} {wa wb:List Way} {t:Tag} {y:Pt} {hA hB:Hist} {tA tB:Nat}
theorem both_handle (ha:Half a b wa ((t,y)::wb) hA tA) (hb:Half b a ((t,y)::wb) wa hB tB) (ok:a.Ok N) (okb:b.inc<=1099511627775) :
  ∃hA' tA' hB' tB',Half (a.cU y) b wa wb hA' tA'/\Half b (a.cU y) wb wa hB' tB' /\
   ((hA'=hA/\tA'=tA/\hB'=hB/\tB'=tB/\Step t a (a.cU y) hB)\/(a.cM < t.i/\hB'=[]/\((t.i=b.inc/\b.cM=a.inc/\hA'=[]/\b.rcv=0)\/(¬(t.i=b.inc/\b.cM=a.inc)/\hA'=hA/\tA'=tA))/\∃sd,a.cU y=({ a with cS:=sd }:Prt).begin t.i)):=by
 by_cases k1:y.kind=1#8
 ·have e:a.cU y=a.greet y:=by unfold Prt.cU;rw [if_pos k1]
  rw [e]
  rcases greet_cases hb okb k1 with e|⟨hs,sd,h1,_,h2,_,h3,h4,e⟩
  ·rw [e]
   exact ⟨hA,tA,hB,tB,ha.dropB,hb.dropA,.inl ⟨rfl,rfl,rfl,rfl,.inl ⟨a.cS,a.tak,rfl⟩⟩⟩
  ·by_cases hx:t.i=a.cM
   ·rw [e,if_pos hx]
    obtain ⟨q1,q2⟩:=both_stay ha hb sd h1 h2 h3 h4 hx
    exact ⟨hA,tA,hB,tB,q1,q2,.inl ⟨rfl,rfl,rfl,rfl,.inl ⟨sd,a.tak,rfl⟩⟩⟩
   ·rw [e,if_neg hx]
    obtain ⟨hA',tA',q1,q2,q3⟩:=both_begin ha hb sd h1 h2 h3 h4 hs hx
    exact ⟨hA',tA',[],0,q1,q2,.inr ⟨by have:=hb.pl;omega,rfl,q3,sd,rfl⟩⟩
 ·by_cases hup:a.cS.state=2/\a.cS.cM≠0/\(a.cS.cM:Int)=y.value
  ·by_cases k2:y.kind=2#8
   ·have e:a.cU y=a.cO y:=by unfold Prt.cU;rw [if_neg k1,if_neg (fun h=>h hup),if_pos k2]
    rw [e]
    obtain ⟨q1,q2,q3⟩:=both_receive ha hb k2 hup
    refine ⟨hA,tA,hB,tB,q1,q2,.inl ⟨rfl,rfl,rfl,rfl,?_⟩⟩
    rcases q3 with e|⟨c,w2,w3,e⟩
    ·exact .inl ⟨a.cS,a.tak,e⟩
    ·exact .inr (.inr ⟨c,y.pay,w2,w3,e⟩)
   ·by_cases k3:y.kind=3#8
    ·have e:a.cU y=a.bQ y:=by unfold Prt.cU;rw [if_neg k1,if_neg (fun h=>h hup),if_neg k2,if_pos k3]
     rw [e]
     obtain ⟨q1,q2,q3⟩:=both_ack ha hb ok k3 hup
     exact ⟨hA,tA,hB,tB,q1,q2,.inl ⟨rfl,rfl,rfl,rfl,.inr (.inl q3)⟩⟩
    ·by_cases k4:y.kind=4#8
     ·have e:a.cU y=a.raise y:=by unfold Prt.cU;rw [if_neg k1,if_neg (fun h=>h hup),if_neg k2,if_neg k3,if_pos k4]
      rw [e]
      obtain ⟨q1,q2⟩:=both_raise ha hb ok k4 hup
      refine ⟨hA,tA,hB,tB,q1,q2,.inl ⟨rfl,rfl,rfl,rfl,.inl ?_⟩⟩
      unfold Prt.raise
      split
      ·exact ⟨a.cS,_,rfl⟩
      ·exact ⟨a.cS,a.tak,rfl⟩
     ·have e:a.cU y=a:=by unfold Prt.cU;rw [if_neg k1,if_neg (fun h=>h hup),if_neg k2,if_neg k3,if_neg k4]
      rw [e]
      exact ⟨hA,tA,hB,tB,ha.dropB,hb.dropA,.inl ⟨rfl,rfl,rfl,rfl,.inl ⟨a.cS,a.tak,rfl⟩⟩⟩
  ·have e:a.cU y=a:=by unfold Prt.cU;rw [if_neg k1,if_pos hup]
   rw [e]
   exact ⟨hA,tA,hB,tB,ha.dropB,hb.dropA,.inl ⟨rfl,rfl,rfl,rfl,.inl ⟨a.cS,a.tak,rfl⟩⟩⟩
end
end

section
def frm (c:Nat) (h:Hist):List dV:=(h.filter fun f=>f.1 == c).map (·.2)
theorem frm_append (c:Nat) (h k:Hist):frm c (h++k)=frm c h++frm c k:=by unfold frm;rw [List.filter_append,List.map_append]
theorem frm_nil (c:Nat):frm c []=[]:=rfl
theorem frm_one (c k:Nat) (d:dV):frm c [(k,d)]=if k=c then [d] else []:=by
 unfold frm
 by_cases h:k=c
 ·subst h;simp
 ·simp [h]
theorem cG (c:Nat) (h:Hist) (n:Nat):frm c (h.take n)++frm c (h.drop n)=frm c h:=by rw [<-frm_append,List.take_append_drop]
theorem frm_take_add (c:Nat) (h:Hist) (n k:Nat):frm c (h.take (n+k))=frm c (h.take n)++frm c ((h.drop n).take k):=by
 rw [List.take_add,frm_append]
theorem frm_none {c n:Nat} {h:Hist} (hk:∀f ∈ h,f.1 < n) (hc:n<=c):frm c h=[]:=by
 unfold frm
 rw [List.filter_eq_nil_iff.2 fun f hf=>by have:=hk f hf;simp;omega]
 rfl
def Lkd (a b:Prt):Prop:=b.cM=a.inc/\a.cM=b.inc
def Cls (a b:Prt) (wb:List Way) (hist:Hist) (c:Nat) (all got:List dV) (old:Nat):Prop:=
 ∃E P,got++b.aY.getD c []=E++frm c (hist.take b.rcv)/\all=P++(frm c a.cT++a.aX.getD c []) /\
  (Lkd a b->∃P0,P=P0++frm c (hist.take a.snd.aG)/\List.Sublist E P0/\P0.length<=old) /\
  (¬Lkd a b->List.Sublist (E++frm c hist) P/\P.length<=old/\∀u ∈ wb,u.1.i=a.cM->u.1.s=a.inc->P.length+(frm c (a.cT.take (u.1.r - a.snd.aG))).length<=old)
section
variable {a a' b b':Prt} {wb wb':List Way} {hist:Hist} {c:Nat} {all got:List dV} {old:Nat}
theorem Cls.same (h:Cls a b wb hist c all got old) (hw:∀p ∈ wb',p ∈ wb) (a1:a'.inc=a.inc) (a2:a'.cM=a.cM) (a3:a'.cT=a.cT) (a4:a'.aX=a.aX) (a5:a'.snd.aG=a.snd.aG)
  (b1:b'.inc=b.inc) (b2:b'.cM=b.cM) (b3:b'.aY=b.aY) (b4:b'.rcv=b.rcv):Cls a' b' wb' hist c all got old:=by
 obtain ⟨E,P,h1,h2,h3,h4⟩:=h
 have hl:Lkd a' b'↔Lkd a b:=by unfold Lkd;rw [a1,a2,b1,b2]
 refine ⟨E,P,by rw [b3,b4];exact h1,by rw [a3,a4];exact h2,fun x=>by rw [a5];exact h3 (hl.1 x),fun x=>?_⟩
 obtain ⟨q1,q2,q3⟩:=h4 fun y=>x (hl.2 y)
 exact ⟨q1,q2,fun u hu e1 e2=>by rw [a3,a5];exact q3 u (hw u hu) (e1.trans a2) (e2.trans a1)⟩
theorem Cls.dQ (h:Cls a b wb hist c all got old) (d:dV) {k:Nat} (hk:k < a.aX.length) :
  Cls { a with aX:=a.aX.set k (a.aX.getD k []++[d]) } b wb hist c (if k=c then all++[d] else all) got old:=by
 obtain ⟨E,P,h1,h2,h3,h4⟩:=h
 refine ⟨E,P,h1,?_,h3,h4⟩
 dsimp only
 rw [getD_set _ _ _ _ _ hk]
 split
 ·rename_i e;subst e
  rw [h2];simp only [List.append_assoc]
 ·exact h2
theorem Cls.take (h:Cls a b wb hist c all got old) {d:dV} {l:List dV} {k:Nat} (hk:k < b.aY.length) (hd:b.aY.getD k []=d::l) (g:List Giv) (t:List Nat) :
  Cls a { b with aY:=b.aY.set k l,giv:=g,cF:=t } wb hist c all (if k=c then got++[d] else got) old:=by
 obtain ⟨E,P,h1,h2,h3,h4⟩:=h
 refine ⟨E,P,?_,h2,h3,h4⟩
 dsimp only
 rw [getD_set _ _ _ _ _ hk]
 split
 ·rename_i e;subst e
  rw [<-h1,hd];simp only [List.append_assoc,List.singleton_append]
 ·exact h1
theorem Cls.cO (h:Cls a b wb hist c all got old) {d:dV} {k:Nat} (hr:hist[b.rcv]? = some (k,d)) (hk:k < b.aY.length) (g:List Giv) (r:List Nat) (hw:∀p ∈ wb',p ∈ wb) :
  Cls a { b with rcv:=b.rcv+1,giv:=g,aY:=b.aY.set k (b.aY.getD k []++[d]),aW:=r } wb' hist c all got old:=by
 obtain ⟨E,P,h1,h2,h3,h4⟩:=h
 refine ⟨E,P,?_,h2,h3,fun x=>⟨(h4 x).1,(h4 x).2.1,fun u hu=>(h4 x).2.2 u (hw u hu)⟩⟩
 dsimp only
 rw [getD_set _ _ _ _ _ hk,List.take_add_one,hr,frm_append]
 show got++_=E++(_++frm c [(k,d)])
 rw [frm_one]
 split
 ·rename_i e;subst e
  rw [<-List.append_assoc,h1,List.append_assoc]
 ·rw [h1,List.append_nil]
theorem Cls.bQ {t:Tag} {y:Pt} (h:Cls a b ((t,y)::wb) hist c all got old) (_:wb.Pairwise fun p q=>p.1.le q.1) (hle:∀p ∈ wb,t.le p.1) (hk:Lkd a b->a.cT=hist.drop a.snd.aG)
  (h1:a.snd.aG<=t.r) (hi:t.i=a.cM) (ht:t.s=a.inc) (l:List Nat) {s:Snd} (hsn:s.aG=t.r) :
  Cls { a with snd:=s,aG:=l,cT:=a.cT.drop (t.r - a.snd.aG) } b wb hist c all got old:=by
 obtain ⟨E,P,g1,g2,g3,g4⟩:=h
 refine ⟨E,P++frm c (a.cT.take (t.r - a.snd.aG)),g1,?_,fun x=>?_,fun x=>?_⟩
 ·dsimp only
  rw [g2,<-cG c a.cT (t.r - a.snd.aG)]
  simp only [List.append_assoc]
 ·obtain ⟨P0,q1,q2,q3⟩:=g3 x
  refine ⟨P0,?_,q2,q3⟩
  dsimp only
  rw [hsn,q1,List.append_assoc,hk x,<-frm_take_add,Nat.add_sub_cancel' h1]
 ·obtain ⟨q1,q2,q3⟩:=g4 x
  have q4:=q3 _ (List.mem_cons_self ..) hi ht
  refine ⟨q1.trans (List.sublist_append_left ..),by rw [List.length_append];exact q4,fun u hu e1 e2=>?_⟩
  have q5:=q3 u (List.mem_cons_of_mem _ hu) e1 e2
  have q6:=((hle u hu).2 (hi.trans e1.symm) (ht.trans e2.symm)).2.1
  dsimp only
  rw [hsn,List.length_append,Nat.add_assoc,<-List.length_append,<-frm_take_add,show t.r - a.snd.aG+(u.1.r - t.r)=u.1.r - a.snd.aG by omega]
  exact q5
theorem Cls.beginB (h:Cls a b wb hist c all got old) {sd:Side} {i:Nat} (_:b.cM < i) (hb:b.cM≠a.inc) (_:i=a.inc->a.cM=b.inc->a.snd.aG=0/\a.cT=[]) (hw:∀p ∈ wb',p ∈ wb) :
  Cls a (({ b with cS:=sd }:Prt).begin i) wb' [] c all got old:=by
 obtain ⟨E,P,g1,g2,_,g4⟩:=h
 obtain ⟨q1,q2,q3⟩:=g4 fun x=>hb x.1
 have q4:List.Sublist (E++frm c (hist.take b.rcv)) P:=by
  refine List.Sublist.trans ?_ q1
  rw [<-cG c hist b.rcv,<-List.append_assoc]
  exact List.sublist_append_left ..
 refine ⟨E++frm c (hist.take b.rcv),P,?_,g2,fun x=>⟨P,?_,q4,q2⟩,fun x=>⟨?_,q2,fun u hu=>q3 u (hw u hu)⟩⟩
 ·show got++b.aY.getD c []=_++frm c ([].take 0)
  rw [g1];simp [frm]
 ·simp [frm]
 ·rw [frm_nil,List.append_nil];exact q4
theorem begin_waiting (ha:∀f ∈ a.cT,f.1 < a.aX.length) (i:Nat):(a.begin i).aX.getD c []=frm c a.cT++a.aX.getD c []:=by
 show ((List.range a.aX.length).map fun c=>((a.cT.filter fun f=>f.1 == c).map (·.2))++a.aX.getD c []).getD c []=_
 rcases Nat.lt_or_ge c a.aX.length with h|h
 ·rw [List.getD,List.getElem?_map,List.getElem?_range h];rfl
 ·rw [getD_out (by simpa using h),getD_out h,frm_none ha h];rfl
theorem Cls.beginA {hist':Hist} (h:Cls a b wb hist c all got old) {sd:Side} {i:Nat} (hk:∀f ∈ a.cT,f.1 < a.aX.length) (hn:a.cM≠b.inc)
  (hl:(i=b.inc/\b.cM=a.inc/\hist'=[]/\b.rcv=0)\/(¬(i=b.inc/\b.cM=a.inc)/\hist'=hist)) :
  Cls (({ a with cS:=sd }:Prt).begin i) b wb' hist' c all got old:=by
 obtain ⟨E,P,g1,g2,_,g4⟩:=h
 obtain ⟨q1,q2,q3⟩:=g4 fun x=>hn x.2
 have hw:all=P++(frm c (({ a with cS:=sd }:Prt).begin i).cT++(({ a with cS:=sd }:Prt).begin i).aX.getD c []):=by
  rw [begin_waiting (a:={ a with cS:=sd }) hk i,g2];rfl
 rcases hl with ⟨l1,l2,rfl,l3⟩|⟨l1,rfl⟩
 ·refine ⟨E,P,?_,hw,fun _=>⟨P,by simp [frm],(List.sublist_append_left ..).trans q1,q2⟩,fun x=>absurd ⟨l2,l1⟩ x⟩
  rw [g1,l3];simp [frm]
 ·exact ⟨E,P,g1,hw,fun x=>absurd ⟨x.2,x.1⟩ l1,fun _=>⟨q1,q2,fun u _ _ _=>by
   show P.length+(frm c (([]:Hist).take _)).length<=old
   rw [List.take_nil,frm_nil];exact q2⟩⟩
theorem Cls.choose (h:Cls a b wb hist c all got old) {k:Nat} {d:dV} {l:List dV} (hk:k < a.aX.length) (hd:a.aX.getD k []=d::l) (r:Arb) (s:Snd) (hs:s.aG=a.snd.aG) (tk:List Tak) {hist':Hist}
  (hh:(Lkd a b->hist'=hist++[(k,d)]/\b.rcv<=hist.length/\a.snd.aG<=hist.length)/\(¬Lkd a b->hist'=hist/\∀u ∈ wb,u.1.i=a.cM->u.1.s=a.inc->u.1.r - a.snd.aG<=a.cT.length)) :
  Cls { a with arb:=r,aX:=a.aX.set k l,tak:=tk,snd:=s,cT:=a.cT++[(k,d)] } b wb hist' c all got old:=by
 obtain ⟨E,P,g1,g2,g3,g4⟩:=h
 have hw:all=P++(frm c (a.cT++[(k,d)])++(a.aX.set k l).getD c []):=by
  rw [g2,frm_append,frm_one,getD_set _ _ _ _ _ hk]
  split
  ·rename_i e;subst e
   rw [hd];simp
  ·simp
 by_cases hl:Lkd a b
 ·obtain ⟨rfl,m1,m2⟩:=hh.1 hl
  refine ⟨E,P,by rw [List.take_append_of_le_length m1];exact g1,hw,fun x=>?_,fun x=>absurd hl x⟩
  dsimp only
  rw [hs,List.take_append_of_le_length m2]
  exact g3 hl
 ·obtain ⟨rfl,m1⟩:=hh.2 hl
  refine ⟨E,P,g1,hw,fun x=>absurd x hl,fun _=>?_⟩
  obtain ⟨q1,q2,q3⟩:=g4 hl
  refine ⟨q1,q2,fun u hu e1 e2=>?_⟩
  dsimp only
  rw [hs,List.take_append_of_le_length (m1 u hu e1 e2)]
  exact q3 u hu e1 e2
end
end

section
theorem kk12:¬(1#8:BitVec 8)=2#8:=by decide
theorem kk13:¬(1#8:BitVec 8)=3#8:=by decide
theorem kk14:¬(1#8:BitVec 8)=4#8:=by decide
theorem kk21:¬(2#8:BitVec 8)=1#8:=by decide
theorem kk23:¬(2#8:BitVec 8)=3#8:=by decide
theorem kk24:¬(2#8:BitVec 8)=4#8:=by decide
theorem kk31:¬(3#8:BitVec 8)=1#8:=by decide
theorem kk32:¬(3#8:BitVec 8)=2#8:=by decide
theorem kk34:¬(3#8:BitVec 8)=4#8:=by decide
theorem kk41:¬(4#8:BitVec 8)=1#8:=by decide
theorem kk42:¬(4#8:BitVec 8)=2#8:=by decide
theorem kk43:¬(4#8:BitVec 8)=3#8:=by decide
theorem sideTick_or (s:Side):(s.cR.cM=s.cM/\s.cR.state=s.state\/s.cR.cM=0/\s.cR.state=0)/\s.cR.mine=s.mine/\s.cR.seen=s.seen:=by
 unfold Side.cR
 split
 ·exact ⟨.inl ⟨rfl,rfl⟩,rfl,rfl⟩
 ·split
  ·exact ⟨.inr ⟨rfl,rfl⟩,rfl,rfl⟩
  ·exact ⟨.inl ⟨rfl,rfl⟩,rfl,rfl⟩
theorem Carries.more {h k:Hist} {t:Nat} {y:Pt} (hc:Carries h t y):Carries (h++k) t y:=by
 obtain ⟨m,c,h1,h2,h3,h4,h5⟩:=hc
 exact ⟨m,c,h1,h2,h3,by rw [List.getElem?_append_left (List.getElem?_eq_some_iff.1 h4).1];exact h4,h5⟩
section
variable {N:Nat} {a b:Prt} {wa wb:List Way} {hA hB:Hist} {tA tB:Nat}
theorem up_linked (ha:Half a b wa wb hA tA) (hb:Half b a wb wa hB tB) (hup:a.cS.state=2) (h:a.cM=b.inc):b.cM=a.inc:=by
 obtain ⟨u1,_⟩:=hb.up hup
 have h0:a.cS.cM≠0:=fun e=>by have:=hb.st.1 e;omega
 have hp:a.cS.cM=a.cM:=hb.sp.resolve_left h0
 have h1:=ha.pl;have h2:=ha.sl
 unfold Lx at u1
 omega
theorem Half.sideA (ha:Half a b wa wb hA tA) (sd:Side):Half { a with cS:=sd } b wa wb hA tA:=
 { ha with lnk:=fun x z=>have h:=ha.lnk x z;⟨h.cT,h.tq,h.ack,h.cP,h.lim⟩ }
theorem Half.sideTick (hb:Half b a wb wa hB tB):Half b { a with cS:=a.cS.cR } wb wa hB tB:=by
 obtain ⟨h1,h2,h3⟩:=sideTick_or a.cS
 refine { hb with
  mine:=h2.trans hb.mine
  sp:=?_
  st:=?_
  pl:=by show a.cM<=a.cS.cR.seen;rw [h3];exact hb.pl
  sl:=by show a.cS.cR.seen<=b.inc;rw [h3];exact hb.sl
  up:=fun e=>?_
  rc:=hb.rc.same rfl rfl rfl rfl rfl
  lnk:=fun x z=>(hb.lnk x z).sameB rfl rfl rfl }
 ·show a.cS.cR.cM=0\/a.cS.cR.cM=a.cM
  rcases h1 with ⟨e,_⟩|⟨e,_⟩
  ·rw [e];exact hb.sp
  ·exact .inl e
 ·show a.cS.cR.cM=0↔a.cS.cR.state=0
  rcases h1 with ⟨e,e'⟩|⟨e,e'⟩
  ·rw [e,e'];exact hb.st
  ·rw [e,e']
 ·show Lx a.cS.cR.cM a.inc b.inc b.cM/\∀p ∈ wb,Lx a.cS.cR.cM a.inc p.1.i p.1.s
  have e':a.cS.cR.state=2:=e
  rcases h1 with ⟨e1,e2⟩|⟨e1,e2⟩
  ·rw [e1];exact hb.up (by rw [<-e2];exact e')
  ·omega
theorem Half.sendA (h:Half a b wa wb hA tA) (hb:Half b a wb wa hB tB) {new:List Pt} (hf:∀y ∈ new,Fits a.tag y)
  (hd:a.inc=b.cM->a.cM=b.inc->∀y ∈ new,y.kind=2#8->Carries hA (a.snd.aG+a.snd.cP) y)
  (hn:a.cS.state≠2->∀y ∈ new,y.kind≠2#8):Half a b (wa++new.map fun y=>(a.tag,y)) wb hA tA:=by
 have hnew:∀p ∈ new.map (fun y=>(a.tag,y)),p.1=a.tag/\p.2 ∈ new:=fun p hp=>by
  obtain ⟨y,hy,rfl⟩:=List.mem_map.1 hp
  exact ⟨rfl,hy⟩
 have h1:=hb.pl;have h2:=hb.sl;have h3:=hb.sp;have h4:=hb.inc
 exact { h with
  srt:=List.pairwise_append.2 ⟨h.srt,List.pairwise_map.2 (List.pairwise_of_forall (fun _ _=>Tag.le.refl _)),fun p hp q hq=>by rw [(hnew q hq).1];exact h.cur p hp⟩
  cur:=fun p hp=>by
   rcases List.mem_append.1 hp with hp|hp
   ·exact h.cur p hp
   ·rw [(hnew p hp).1];exact Tag.le.refl _
  fit:=fun p hp=>by
   rcases List.mem_append.1 hp with hp|hp
   ·exact h.fit p hp
   ·rw [(hnew p hp).1];exact hf _ (hnew p hp).2
  one:=fun p hp=>by
   rcases List.mem_append.1 hp with hp|hp
   ·exact h.one p hp
   ·rw [(hnew p hp).1];exact h4
  vs:=fun p hp=>by
   rcases List.mem_append.1 hp with hp|hp
   ·exact h.vs p hp
   ·rw [(hnew p hp).1];exact h3
  si:=fun p hp=>by
   rcases List.mem_append.1 hp with hp|hp
   ·exact h.si p hp
   ·rw [(hnew p hp).1];exact Nat.le_trans h1 h2
  up:=fun e=>⟨(h.up e).1,fun p hp=>by
   rcases List.mem_append.1 hp with hp|hp
   ·exact (h.up e).2 p hp
   ·rw [(hnew p hp).1];exact (h.up e).1⟩
  fly:=fun p hp e1 e2=>by
   rcases List.mem_append.1 hp with hp|hp
   ·exact h.fly p hp e1 e2
   ·obtain ⟨q1,q2⟩:=hnew p hp
    rw [q1] at e1 e2 ⊢
    have hl:=h.lnk e1.symm e2
    have e3:a.tag.top=tA:=hl.tq.symm
    exact ⟨by rw [e3];exact h.rc.rt,Nat.le_of_eq e3,hd e1 e2 _ q2⟩
  frF:=fun p hp e1 e2=>by
   rcases List.mem_append.1 hp with hp|hp
   ·exact h.frF p hp e1 e2
   ·obtain ⟨q1,q2⟩:=hnew p hp
    rw [q1] at e1 e2 ⊢
    have e2':b.cM < a.inc:=e2
    have e1':a.cM=b.inc:=e1
    obtain ⟨f1,f2,_⟩:=h.frS (Nat.ne_of_lt e2') e1'
    obtain ⟨f3,_⟩:=hb.frR e1' (Nat.ne_of_lt e2')
    refine ⟨by show a.snd.aG+a.snd.cP=0;omega,f3,hn (fun hup=>?_) _ q2⟩
    have:=up_linked h hb hup e1'
    omega }
theorem Half.sendB (h:Half b a wb wa hB tB) (new:List Pt):Half b a wb (wa++new.map fun y=>(a.tag,y)) hB tB:=by
 have hnew:∀p ∈ new.map (fun y=>(a.tag,y)),p.1=a.tag:=fun p hp=>by
  obtain ⟨y,hy,rfl⟩:=List.mem_map.1 hp
  rfl
 exact { h with
  akd:=fun u hu e1 e2 e3 e4=>by
   rcases List.mem_append.1 hu with hu|hu
   ·exact h.akd u hu e1 e2 e3 e4
   ·rw [hnew u hu];exact (h.lnk e3 e4).ack
  old:=fun u hu e1 e2 e3=>by
   rcases List.mem_append.1 hu with hu|hu
   ·exact h.old u hu e1 e2 e3
   ·rw [hnew u hu] at e1;exact absurd e1.symm e3 }
theorem both_choose (ha:Half a b wa wb hA tA) (hb:Half b a wb wa hB tB) (ok:a.Ok N) (hup:a.cS.state=2) :
  ∃hA',Half a.choose b wa wb hA' tA/\Half b a.choose wb wa hB tB/\(((∃r,a.choose={ a with arb:=r })/\hA'=hA) \/
   ∃(c:Nat) (d:dV) (l:List dV) (r:Arb),c < a.aZ.length/\a.aX.getD c []=d::l/\(Lkd a b->hA'=hA++[(c,d)])/\(¬Lkd a b->hA'=hA/\a.cM≠b.inc) /\
   a.choose={ a with arb:=r,aX:=a.aX.set c l,tak:=a.tak.set c { a.tk c with cP:=(a.tk c).cP+1 },snd:={ a.snd with cT:=a.snd.cT++[d] },cT:=a.cT++[(c,d)] }):=by
 have hlk:=up_linked ha hb hup
 by_cases hl:Lkd a b
 ·obtain ⟨k,r1,r2,r3⟩:=ha.rc.choose (ha.lnk hl.1 hl.2) ok
  have hcase:(∃r,a.choose={ a with arb:=r }/\k=[])\/∃(c:Nat) (d:dV) (l:List dV) (r:Arb),k=[(c,d)]/\c < a.aZ.length/\a.aX.getD c []=d::l /\
   a.choose={ a with arb:=r,aX:=a.aX.set c l,tak:=a.tak.set c { a.tk c with cP:=(a.tk c).cP+1 },snd:={ a.snd with cT:=a.snd.cT++[d] },cT:=a.cT++[(c,d)] }:=by
   rcases r3 with ⟨e1,r,e2⟩|h
   ·exact .inl ⟨r,e2,e1⟩
   ·exact .inr h
  have hF:a.choose.inc=a.inc/\a.choose.cM=a.cM/\a.choose.tag=a.tag/\a.choose.snd.aG=a.snd.aG/\Half b a.choose wb wa hB tB:=by
   rcases hcase with ⟨r,e,_⟩|⟨c,d,l,r,_,_,_,e⟩
   ·rw [e];exact ⟨rfl,rfl,rfl,rfl,hb.ofB rfl rfl rfl rfl rfl rfl rfl rfl rfl⟩
   ·rw [e];exact ⟨rfl,rfl,rfl,rfl,hb.ofB rfl rfl rfl rfl rfl rfl rfl rfl rfl⟩
  obtain ⟨f1,f2,f3,f4,f5⟩:=hF
  refine ⟨hA++k,{ ha with
   cur:=by rw [f3];exact ha.cur
   sl:=by rw [f1];exact ha.sl
   up:=by rw [f1,f2];exact ha.up
   rc:=r1
   fly:=fun p hp e1 e2=>by
    obtain ⟨q1,q2,q3⟩:=ha.fly p hp e1 e2
    exact ⟨q1,q2,fun e=>(q3 e).more⟩
   lnk:=fun _ _=>r2
   frR:=by rw [f1,f2];exact ha.frR
   frS:=by rw [f1];exact fun x _=>absurd hl.1 x
   akd:=by rw [f1,f2,f4];exact ha.akd
   old:=by rw [f2];exact fun _ _ _ _ x=>absurd hl.2 x },f5,?_⟩
  rcases hcase with ⟨r,e,rfl⟩|⟨c,d,l,r,rfl,h1,h2,e⟩
  ·exact .inl ⟨⟨r,e⟩,List.append_nil _⟩
  ·exact .inr ⟨c,d,l,r,h1,h2,fun _=>rfl,fun x=>absurd hl x,e⟩
 ·have hne:a.cM≠b.inc:=fun e=>hl ⟨hlk e,e⟩
  rcases Prt.choose_eq ok with ⟨r,e⟩|⟨c,d,l,r,h1,h2,h3,h4,e⟩
  ·refine ⟨hA,?_,?_,.inl ⟨⟨r,e⟩,rfl⟩⟩
   ·rw [e];exact ha.ofA rfl rfl (Tag.le.refl _) (.inl rfl) (fun x z=>absurd ⟨x,z⟩ hl) (fun _ z=>absurd z hne) ha.old
   ·rw [e];exact hb.ofB rfl rfl rfl rfl rfl rfl rfl rfl rfl
  ·refine ⟨hA,?_,?_,.inr ⟨c,d,l,r,h1,h2,fun x=>absurd x hl,fun _=>⟨rfl,hne⟩,e⟩⟩
   ·rw [e];exact ha.ofA rfl rfl (Tag.le.refl _) (.inl rfl) (fun x z=>absurd ⟨x,z⟩ hl) (fun _ z=>absurd z hne) ha.old
   ·rw [e];exact hb.ofB rfl rfl rfl rfl rfl rfl rfl rfl rfl
theorem tick_snd (s:Snd):s.cR.2.aG=s.aG/\s.cP<=s.cR.2.cP/\s.cR.2.cT=s.cT:=by
 rcases Snd.tick_cases s with ⟨_,t,e⟩|⟨i,_,_,e⟩
 ·rw [e];exact ⟨rfl,Nat.le_refl _,rfl⟩
 ·rw [e];exact ⟨rfl,Nat.le_max_left _ _,rfl⟩
theorem both_sndTick (ha:Half a b wa wb hA tA) (hb:Half b a wb wa hB tB) (ok:a.Ok N) (hup:a.cS.state=2) :
  ∃tA',Half { a with snd:=a.snd.cR.2 } b wa wb hA tA'/\Half b { a with snd:=a.snd.cR.2 } wb wa hB tB /\
   (a.inc=b.cM->a.cM=b.inc->∀(n:Nat) (d:dV),a.snd.cR.1=some (n,d)->Carries hA (a.snd.cR.2.aG+a.snd.cR.2.cP) ⟨2#8,(Prt.classOf { a with snd:=a.snd.cR.2 } n:Nat),n,a.inc,d⟩):=by
 obtain ⟨s1,s2,s3⟩:=tick_snd a.snd
 have htag:a.tag.le ({ a with snd:=a.snd.cR.2 }:Prt).tag:=⟨.inr ⟨rfl,Nat.le_refl _⟩,fun _ _=>⟨by show a.snd.aG+a.snd.cP<=a.snd.cR.2.aG+a.snd.cR.2.cP;omega,Nat.le_refl _,fun _=>Int.le_refl _⟩⟩
 have hB':Half b { a with snd:=a.snd.cR.2 } wb wa hB tB:=hb.ofB rfl rfl rfl rfl rfl rfl rfl rfl rfl
 by_cases hl:Lkd a b
 ·obtain ⟨top',q1,q2,q3,q4⟩:=ha.rc.sndTick (ha.lnk hl.1 hl.2) ok
  refine ⟨top',{ ha with
   cur:=fun p hp=>(ha.cur p hp).trans htag
   rc:=q2
   fly:=fun p hp e1 e2=>by
    obtain ⟨g1,g2,g3⟩:=ha.fly p hp e1 e2
    exact ⟨g1,Nat.le_trans g2 q1,g3⟩
   lnk:=fun _ _=>q3
   frS:=fun x _=>absurd hl.1 x
   akd:=fun u hu e1 e2 e3 e4=>by
    show a.snd.cR.2.aG<=_
    rw [s1];exact ha.akd u hu e1 e2 e3 e4
   old:=fun _ _ _ _ x=>absurd hl.2 x },hB',fun _ _ n d e=>?_⟩
  have:=q4 n d e
  rw [q3.tq] at this
  exact this
 ·have hne:a.cM≠b.inc:=fun e=>hl ⟨up_linked ha hb hup e,e⟩
  refine ⟨tA,ha.ofA rfl rfl htag (.inl s1) (fun x z=>absurd ⟨x,z⟩ hl) (fun _ z=>absurd z hne) (fun u hu e1 e2 e3=>?_),hB',fun _ z=>absurd z hne⟩
  show a.snd.cR.2.aG<=_/\_<=a.snd.cR.2.aG+a.snd.cR.2.cP
  have:=ha.old u hu e1 e2 e3
  omega
def Emits (a a' b:Prt) (hA hA':Hist):Prop:=
 ∃sd ar sn,sn.aG=a.snd.aG/\((a'={ a with cS:=sd,arb:=ar,snd:=sn }/\hA'=hA) \/
  ∃(c:Nat) (d:dV) (l:List dV) (tk:List Tak),c < a.aZ.length/\a.aX.getD c []=d::l/\(Lkd a b->hA'=hA++[(c,d)])/\(¬Lkd a b->hA'=hA/\a.cM≠b.inc) /\
   a'={ a with cS:=sd,arb:=ar,snd:=sn,aX:=a.aX.set c l,tak:=tk,cT:=a.cT++[(c,d)] })
theorem fits_hail (a a':Prt) (h1:a'.inc=a.inc) (h2:a'.cS.cM=a.cS.cR.cM):Fits a'.tag a.hail:=by
 refine ⟨fun _=>⟨by show (a.inc:Int)=a'.inc;rw [h1],by show (a.cS.cR.cM:Int)=a'.cS.cM;rw [h2]⟩,fun h=>absurd rfl h,fun h=>absurd h kk13,fun h=>absurd h kk14⟩
theorem both_emit (ha:Half a b wa wb hA tA) (hb:Half b a wb wa hB tB) (ok:a.Ok N) :
  ∃hA' tA',Half (a.cR []).2 b (wa++(a.cR []).1.map fun y=>((a.cR []).2.tag,y)) wb hA' tA' /\
   Half b (a.cR []).2 wb (wa++(a.cR []).1.map fun y=>((a.cR []).2.tag,y)) hB tB/\Emits a (a.cR []).2 b hA hA':=by
 have ha1:=ha.sideA a.cS.cR
 have hb1:=hb.sideTick
 by_cases hs:a.cS.cR.state=2
 ·have ok1:=ok.sideTick
  obtain ⟨hA',ha2,hb2,hc⟩:=both_choose ha1 hb1 ok1 hs
  have ok2:=ok1.choose
  have hF:(Prt.choose { a with cS:=a.cS.cR }).inc=a.inc/\(Prt.choose { a with cS:=a.cS.cR }).cS=a.cS.cR/\(Prt.choose { a with cS:=a.cS.cR }).rcv=a.rcv/\(Prt.choose { a with cS:=a.cS.cR }).giv=a.giv/\(Prt.choose { a with cS:=a.cS.cR }).base=a.base:=by
   rcases hc with ⟨⟨r,e⟩,_⟩|⟨c,d,l,r,_,_,_,_,e⟩
   ·rw [e];exact ⟨rfl,rfl,rfl,rfl,rfl⟩
   ·rw [e];exact ⟨rfl,rfl,rfl,rfl,rfl⟩
  have hE:∀s:Snd,s.aG=(Prt.choose { a with cS:=a.cS.cR }).snd.aG->Emits a { Prt.choose { a with cS:=a.cS.cR } with snd:=s } b hA hA':=fun s hs'=>by
   rcases hc with ⟨⟨r,e⟩,e2⟩|⟨c,d,l,r,h1,h2,h3,h4,e⟩
   ·rw [e] at hs' ⊢;exact ⟨_,r,s,hs',.inl ⟨rfl,e2⟩⟩
   ·rw [e] at hs' ⊢;exact ⟨_,r,s,hs',.inr ⟨c,d,l,_,h1,h2,h3,h4,rfl⟩⟩
  rw [Prt.tick_up (a:=a) (l:=[]) (a1:=a) rfl hs]
  obtain ⟨c1,c2,c3,c4,c5⟩:=hF
  clear hc
  generalize Prt.choose { a with cS:=a.cS.cR }=q at ha2 hb2 ok2 c1 c2 c3 c4 c5 hE ⊢
  have hq:q.cS.state=2:=by rw [c2];exact hs
  obtain ⟨tA',ha3,hb3,hcar⟩:=both_sndTick ha2 hb2 ok2 hq
  have hac:=(tick_snd q.snd).1
  rcases hq':q.snd.cR with ⟨o,s⟩
  rw [hq'] at ha3 hb3 hcar hac
  dsimp only at ha3 hb3 hcar hac
  have hfit:∀y ∈ a.hail::a.ackn::(List.range a.base.length).map a.cred,Fits ({ q with snd:=s }:Prt).tag y/\y.kind≠2#8:=fun y hy=>by
   rcases List.mem_cons.1 hy with rfl|hy
   ·exact ⟨fits_hail a _ c1 (congrArg Side.cM c2),kk12⟩
   ·rcases List.mem_cons.1 hy with rfl|hy
    ·refine ⟨⟨fun h=>absurd h kk31,fun _=>?_,fun _=>?_,fun h=>absurd h kk34⟩,kk32⟩
     ·show (a.inc:Int)=q.inc;rw [c1]
     ·show ((a.rcv % 256:Nat):Int)=((q.rcv % 256:Nat):Int);rw [c3]
    ·obtain ⟨c,_,rfl⟩:=List.mem_map.1 hy
     refine ⟨⟨fun h=>absurd h kk41,fun _=>?_,fun h=>absurd h kk43,fun _ k hk=>?_⟩,kk42⟩
     ·show (a.inc:Int)=q.inc;rw [c1]
     ·have hk':(c:Int)=(k:Int):=hk
      obtain rfl:c=k:=by exact_mod_cast hk'
      show ((a.giv.getD c ⟨0,0,0⟩).cE:Int) - ((a.base.getD c 0:Nat):Int)<=((q.giv.getD c ⟨0,0,0⟩).cE:Int) - ((q.base.getD c 0:Nat):Int)
      rw [c4,c5];exact Int.le_refl _
  cases o with
  |none=>
   exact ⟨hA',tA',ha3.sendA hb3 (fun y hy=>(hfit y hy).1) (fun _ _ y hy e=>absurd e (hfit y hy).2) (fun h=>absurd hq h),hb3.sendB _,hE s hac⟩
  |some nd=>
   obtain ⟨n,d⟩:=nd
   refine ⟨hA',tA',ha3.sendA hb3 (fun y hy=>?_) (fun e1 e2 y hy e=>?_) (fun h=>absurd hq h),hb3.sendB _,hE s hac⟩
   ·rcases List.mem_append.1 hy with hy|hy
    ·exact (hfit y hy).1
    ·rw [List.mem_singleton.1 hy]
     exact ⟨fun h=>absurd h kk21,fun _=>rfl,fun h=>absurd h kk23,fun h=>absurd h kk24⟩
   ·rcases List.mem_append.1 hy with hy|hy
    ·exact absurd e (hfit y hy).2
    ·rw [List.mem_singleton.1 hy]
     exact hcar e1 e2 n d rfl
 ·rw [Prt.cX (a:=a) (l:=[]) (a1:=a) rfl hs]
  refine ⟨hA,tA,ha1.sendA hb1 (fun y hy=>?_) (fun _ _ y hy e=>?_) (fun _ y hy=>?_),hb1.sendB _,a.cS.cR,a.arb,a.snd,rfl,.inl ⟨rfl,rfl⟩⟩
  ·rw [List.mem_singleton.1 hy];exact fits_hail a _ rfl rfl
  ·rw [List.mem_singleton.1 hy] at e;exact absurd e kk12
  ·rw [List.mem_singleton.1 hy];exact kk12
end
end

section
structure Dir (a b:Prt) (wa wb:List Way) (hist:Hist) (top:Nat) (oa gb:Nat->List dV) (da:Nat->Nat):Prop where
 half:Half a b wa wb hist top
 cls:∀c,Cls a b wb hist c (oa c) (gb c) (da c)
def Both (a b:Prt) (wa wb:List Way) (oa ga ob gb:Nat->List dV) (da db:Nat->Nat):Prop:=
 ∃hA tA hB tB,Dir a b wa wb hA tA oa gb da/\Dir b a wb wa hB tB ob ga db
theorem Both.swap {a b:Prt} {wa wb:List Way} {oa ga ob gb:Nat->List dV} {da db:Nat->Nat} (h:Both a b wa wb oa ga ob gb da db):Both b a wb wa ob gb oa ga db da:=by
 obtain ⟨hA,tA,hB,tB,h1,h2⟩:=h
 exact ⟨hB,tB,hA,tA,h2,h1⟩
section
variable {N:Nat} {a b:Prt} {wa wb wa' wb':List Way} {oa ga ob gb:Nat->List dV} {da db:Nat->Nat}
theorem Both.cU {t:Tag} {y:Pt} (h:Both a b wa ((t,y)::wb) oa ga ob gb da db) (ok:a.Ok N) (okb:b.inc<=1099511627775):Both (a.cU y) b wa wb oa ga ob gb da db:=by
 obtain ⟨hA,tA,hB,tB,⟨h1,c1⟩,h2,c2⟩:=h
 have hsub:∀p ∈ wb,p ∈ (t,y)::wb:=fun p hp=>List.mem_cons_of_mem _ hp
 obtain ⟨hA',tA',hB',tB',q1,q2,q3⟩:=both_handle h1 h2 ok okb
 rcases q3 with ⟨rfl,rfl,rfl,rfl,hs⟩|⟨hlt,rfl,hA3,sd,e⟩
 ·rcases hs with ⟨sd,tk,e⟩|⟨g1,g2,g3,g4,e⟩|⟨c,d,g1,g2,e⟩
  ·rw [e] at q1 q2 ⊢
   exact ⟨_,_,_,_,⟨q1,fun c=>(c1 c).same hsub rfl rfl rfl rfl rfl rfl rfl rfl rfl⟩,q2,fun c=>(c2 c).same (fun _ hp=>hp) rfl rfl rfl rfl rfl rfl rfl rfl rfl⟩
  ·rw [e] at q1 q2 ⊢
   have hak:=(drop_acked a.snd (t.r - a.snd.aG) (by omega)).1
   refine ⟨_,_,_,_,⟨q1,fun c=>(c1 c).bQ (List.pairwise_cons.1 h2.srt).2 (fun p hp=>(List.pairwise_cons.1 h2.srt).1 p hp) (fun hl=>(h1.lnk hl.1 hl.2).cT) g1 g3 g4 _ (by rw [hak];omega)⟩,q2,fun c=>(c2 c).same (fun _ hp=>hp) rfl rfl rfl rfl rfl rfl rfl rfl rfl⟩
  ·rw [e] at q1 q2 ⊢
   exact ⟨_,_,_,_,⟨q1,fun c=>(c1 c).same hsub rfl rfl rfl rfl rfl rfl rfl rfl rfl⟩,q2,fun k=>(c2 k).cO g1 (by rw [h2.rc.bl];exact g2) _ _ fun _ hp=>hp⟩
 ·have hcu:=(h2.cur _ (List.mem_cons_self ..)).1
  have hib:t.i<=b.inc:=by
   unfold Lx at hcu
   have h4:b.tag.i=b.inc:=rfl
   dsimp only at hcu
   omega
  have hne:a.cM≠b.inc:=by omega
  rw [e] at q1 q2 ⊢
  refine ⟨_,_,_,_,⟨q1,fun c=>(c1 c).beginA (by rw [ok.wl];exact ok.kcl) hne ?_⟩,q2,fun c=>(c2 c).beginB hlt hne (fun _ e2=>?_) fun _ hp=>hp⟩
  ·rcases hA3 with ⟨x1,x2,x3,x4⟩|⟨x1,x2,_⟩
   ·exact .inl ⟨x1,x2,x3,x4⟩
   ·exact .inr ⟨x1,x2⟩
  ·obtain ⟨f1,_,f3,_⟩:=h2.frS hne e2
   exact ⟨f1,f3⟩
theorem Both.handles:∀ {N:Nat} {a:Prt} {wb:List Way} (l:List Way),(∀x ∈ l,x.2.pay.length<=1000)->Both a b wa (l++wb) oa ga ob gb da db->a.Ok N->b.inc<=1099511627775->Both ((l.map (·.2)).foldl Prt.cU a) b wa wb oa ga ob gb da db
 |_,_,_,[],_,h,_,_=>h
 |_,_,_,(t,y)::l,hl,h,ok,okb=>by
  rw [List.map_cons,List.foldl_cons]
  exact Both.handles l (fun x hx=>hl x (List.mem_cons_of_mem _ hx)) (Both.cU h ok okb) (ok.cU y (hl _ (List.mem_cons_self ..))) okb
theorem Both.ways (h:Both a b wa wb oa ga ob gb da db) (h1:∀p ∈ wa',p ∈ wa) (h2:wa'.Pairwise fun p q=>p.1.le q.1) (h3:∀p ∈ wb',p ∈ wb) (h4:wb'.Pairwise fun p q=>p.1.le q.1):Both a b wa' wb' oa ga ob gb da db:=by
 obtain ⟨hA,tA,hB,tB,⟨d1,c1⟩,d2,c2⟩:=h
 exact ⟨hA,tA,hB,tB,⟨d1.ways h1 h2 h3,fun c=>(c1 c).same h3 rfl rfl rfl rfl rfl rfl rfl rfl rfl⟩,d2.ways h3 h4 h1,fun c=>(c2 c).same h1 rfl rfl rfl rfl rfl rfl rfl rfl rfl⟩
theorem Cls.more {hist:Hist} {c:Nat} {all got:List dV} {old:Nat} (h:Cls b a wa hist c all got old) (new:List Pt):Cls b a (wa++new.map fun y=>(a.tag,y)) hist c all got old:=by
 obtain ⟨E,P,g1,g2,g3,g4⟩:=h
 refine ⟨E,P,g1,g2,g3,fun x=>⟨(g4 x).1,(g4 x).2.1,fun u hu e1 e2=>?_⟩⟩
 rcases List.mem_append.1 hu with hu|hu
 ·exact (g4 x).2.2 u hu e1 e2
 ·obtain ⟨y,_,rfl⟩:=List.mem_map.1 hu
  exact absurd (show Lkd b a from ⟨e2,e1.symm⟩) x
theorem Both.emit (h:Both a b wa wb oa ga ob gb da db) (ok:a.Ok N):Both (a.cR []).2 b (wa++(a.cR []).1.map fun y=>((a.cR []).2.tag,y)) wb oa ga ob gb da db:=by
 obtain ⟨hA,tA,hB,tB,⟨d1,c1⟩,d2,c2⟩:=h
 obtain ⟨hA',tA',q1,q2,sd,ar,sn,e1,q3⟩:=both_emit d1 d2 ok
 refine ⟨hA',tA',hB,tB,⟨q1,fun c=>?_⟩,q2,fun c=>?_⟩
 ·rcases q3 with ⟨e,rfl⟩|⟨k,d,l,tk,k1,k2,k3,k4,e⟩
  ·rw [e];exact (c1 c).same (fun _ hp=>hp) rfl rfl rfl rfl e1 rfl rfl rfl rfl
  ·rw [e]
   refine Cls.choose (a:={ a with cS:=sd }) ((c1 c).same (fun _ hp=>hp) rfl rfl rfl rfl rfl rfl rfl rfl rfl) (by show k < a.aX.length;rw [ok.wl];exact k1) k2 ar sn e1 tk ⟨fun hl=>⟨k3 hl,?_,?_⟩,fun hl=>⟨(k4 hl).1,fun u hu x1 x2=>?_⟩⟩
   ·exact Nat.le_trans d1.rc.rt d1.rc.tl
   ·exact Nat.le_trans (d1.lnk hl.1 hl.2).ack (Nat.le_trans d1.rc.rt d1.rc.tl)
   ·have h1:=d1.old u hu x1 x2 (k4 hl).2
    have h2:=ok.snd.cP
    have h3:a.cT.length=a.snd.cT.length:=by rw [<-ok.cT,List.length_map]
    show u.1.r - a.snd.aG<=a.cT.length
    omega
 ·refine Cls.more ?_ _
  rcases q3 with ⟨e,_⟩|⟨k,d,l,tk,_,_,_,_,e⟩
  ·rw [e];exact (c2 c).same (fun _ hp=>hp) rfl rfl rfl rfl rfl rfl rfl rfl rfl
  ·rw [e];exact (c2 c).same (fun _ hp=>hp) rfl rfl rfl rfl rfl rfl rfl rfl rfl
theorem tick_emit (a:Prt) (l:List Pt):a.cR l=(l.foldl Prt.cU a).cR []:=rfl
theorem Both.cR {l:List Way} (h:Both a b wa (l++wb) oa ga ob gb da db) (ok:a.Ok N) (okb:b.inc<=1099511627775) (hl:∀x ∈ l,x.2.pay.length<=1000) :
  Both (a.cR (l.map (·.2))).2 b (wa++(a.cR (l.map (·.2))).1.map fun y=>((a.cR (l.map (·.2))).2.tag,y)) wb oa ga ob gb da db:=by
 rw [tick_emit]
 exact (Both.handles l hl h ok okb).emit (ok.handles (l.map (·.2)) fun x hx=>by obtain ⟨p,hp,rfl⟩:=List.mem_map.1 hx;exact hl p hp)
def upd {α : Type} (f:Nat -> α) (c:Nat) (v : α):Nat -> α:=fun k=>if k=c then v else f k
theorem Both.dQ (h:Both a b wa wb oa ga ob gb da db) {c:Nat} (hc:c < a.aX.length) (d:dV):Both { a with aX:=a.aX.set c (a.aX.getD c []++[d]) } b wa wb (upd oa c (oa c++[d])) ga ob gb da db:=by
 obtain ⟨hA,tA,hB,tB,⟨d1,c1⟩,d2,c2⟩:=h
 refine ⟨hA,tA,hB,tB,⟨d1.ofA rfl rfl (Tag.le.refl _) (.inl rfl) (fun _ _ h=>⟨h.cT,h.tq,h.ack,h.cP,h.lim⟩) d1.frS d1.old,fun k=>?_⟩,d2.ofB rfl rfl rfl rfl rfl rfl rfl rfl rfl,fun k=>(c2 k).same (fun _ hp=>hp) rfl rfl rfl rfl rfl rfl rfl rfl rfl⟩
 have:=(c1 k).dQ d hc
 unfold upd
 by_cases e:k=c
 ·subst e;rw [if_pos rfl] at this ⊢;exact this
 ·rw [if_neg fun h=>e h.symm] at this
  rw [if_neg e];exact this
theorem take_tag (a:Prt) (c:Int) (h:(a.take c).2.giv.length=a.giv.length/\∀k,(a.gv k).cE<=((a.take c).2.gv k).cE) (e1:(a.take c).2.inc=a.inc) (e2:(a.take c).2.cM=a.cM) (e3:(a.take c).2.snd=a.snd) (e4:(a.take c).2.rcv=a.rcv) (e5:(a.take c).2.base=a.base):a.tag.le (a.take c).2.tag:=by
 refine ⟨.inr ⟨e1.symm,by show a.cM<=_;rw [show (a.take c).2.tag.s=(a.take c).2.cM from rfl,e2];exact Nat.le_refl _⟩,fun _ _=>⟨?_,?_,fun k=>?_⟩⟩
 ·show a.snd.aG+a.snd.cP<=(a.take c).2.snd.aG+(a.take c).2.snd.cP
  rw [e3];exact Nat.le_refl _
 ·show a.rcv<=(a.take c).2.rcv
  rw [e4];exact Nat.le_refl _
 ·show ((a.gv k).cE:Int) - ((a.bs k:Nat):Int)<=(((a.take c).2.gv k).cE:Int) - (((a.take c).2.bs k:Nat):Int)
  have:=h.2 k
  rw [show (a.take c).2.bs k=a.bs k by unfold Prt.bs;rw [e5]]
  omega
theorem Both.take (h:Both a b wa wb oa ga ob gb da db) {c:Nat} {d:dV} {l:List dV} (hc:c < a.aZ.length) (hd:a.aY.getD c []=d::l) :
  Both { a with aY:=a.aY.set c l,giv:=a.giv.set c (a.gv c).free,cF:=a.cF.set c (a.cF.getD c 0+1) } b wa wb oa (upd ga c (ga c++[d])) ob gb da db:=by
 obtain ⟨hA,tA,hB,tB,⟨d1,c1⟩,d2,c2⟩:=h
 have hh:a.has (c:Int):=⟨by omega,by omega⟩
 have hp:a.peek (c:Int)=some d:=by unfold Prt.peek;rw [if_pos hh,Int.toNat_natCast,hd];rfl
 have e:(a.take (c:Int)).2={ a with aY:=a.aY.set c l,giv:=a.giv.set c (a.gv c).free,cF:=a.cF.set c (a.cF.getD c 0+1) }:=by
  unfold Prt.take
  rw [hp]
  simp only [Int.toNat_natCast,hd,List.drop_succ_cons,List.drop_zero]
 have hcg:c < a.giv.length:=by rw [d2.rc.gl];exact hc
 have hf:(a.gv c).free.aW=(a.gv c).aW/\(a.gv c).cE<=(a.gv c).free.cE:=by
  unfold Giv.free Giv.cE
  split
  ·exact ⟨rfl,Nat.le_refl _⟩
  ·exact ⟨rfl,by dsimp only;omega⟩
 have hset:∀k,(a.gv k).aW=((a.giv.set c (a.gv c).free).getD k ⟨0,0,0⟩).aW/\(a.gv k).cE<=((a.giv.set c (a.gv c).free).getD k ⟨0,0,0⟩).cE:=fun k=>by
  rw [getD_set _ _ _ _ _ hcg]
  split
  ·rename_i e;subst e;exact ⟨hf.1.symm,hf.2⟩
  ·exact ⟨rfl,Nat.le_refl _⟩
 have htag:a.tag.le (a.take (c:Int)).2.tag:=take_tag a c (by rw [e];exact ⟨by simp,fun k=>(hset k).2⟩) (by rw [e]) (by rw [e]) (by rw [e]) (by rw [e]) (by rw [e])
 have hr:=d2.rc.take (c:Int)
 have hl:=fun x z=>(d2.lnk x z).take d2.rc (c:Int)
 rw [e] at htag hr hl
 refine ⟨hA,tA,hB,tB,⟨d1.ofA rfl rfl htag (.inl rfl) (fun _ _ h=>⟨h.cT,h.tq,h.ack,h.cP,h.lim⟩) d1.frS d1.old,fun k=>(c1 k).same (fun _ hp=>hp) rfl rfl rfl rfl rfl rfl rfl rfl rfl⟩,{ d2 with rc:=hr,lnk:=hl,frR:=fun x z=>?_ },fun k=>?_⟩
 ·obtain ⟨f1,f2⟩:=d2.frR x z
  refine ⟨f1,fun k=>?_⟩
  show ((a.giv.set c (a.gv c).free).getD k ⟨0,0,0⟩).aW=a.bs k/\a.bs k<=((a.giv.set c (a.gv c).free).getD k ⟨0,0,0⟩).cE
  exact ⟨(hset k).1.symm.trans (f2 k).1,Nat.le_trans (f2 k).2 (hset k).2⟩
 ·have:=(c2 k).take (by rw [d2.rc.bl];exact hc) hd (a.giv.set c (a.gv c).free) (a.cF.set c (a.cF.getD c 0+1))
  unfold upd
  by_cases e:k=c
  ·subst e;rw [if_pos rfl] at this ⊢;exact this
  ·rw [if_neg fun h=>e h.symm] at this
   rw [if_neg e];exact this
theorem new_gv (i:Nat) (aZ:List Nat) (wi ti de k:Nat):(dG i aZ wi ti de).gv k=⟨aZ.getD k 0,0,0⟩:=by
 show ((List.range aZ.length).map fun c=>Giv.held ⟨aZ.getD c 0,0,0⟩ ((List.replicate aZ.length ([]:List dV)).getD c []).length).getD k ⟨0,0,0⟩=_
 have e:∀c,(List.replicate aZ.length ([]:List dV)).getD c []=[]:=fun c=>by
  rw [List.getD,List.getElem?_replicate]
  split <;> rfl
 rcases Nat.lt_or_ge k aZ.length with h|h
 ·rw [List.getD,List.getElem?_map,List.getElem?_range h]
  show Giv.held ⟨aZ.getD k 0,0,0⟩ ((List.replicate aZ.length ([]:List dV)).getD k []).length=_
  rw [e];rfl
 ·rw [getD_out (by simpa using h),getD_out h]
theorem new_bs (i:Nat) (aZ:List Nat) (wi ti de k:Nat):(dG i aZ wi ti de).bs k=0:=by
 show ((List.replicate aZ.length ([]:List dV)).map List.length).getD k 0=0
 rw [List.map_replicate,List.getD,List.getElem?_replicate]
 split <;> rfl
theorem new_buf (i:Nat) (aZ:List Nat) (wi ti de k:Nat):(dG i aZ wi ti de).aY.getD k []=[]:=by
 show (List.replicate aZ.length ([]:List dV)).getD k []=[]
 rw [List.getD,List.getElem?_replicate]
 split <;> rfl
theorem new_wait (i:Nat) (aZ:List Nat) (wi ti de k:Nat):(dG i aZ wi ti de).aX.getD k []=[]:=by
 show ((List.range (List.replicate aZ.length ([]:List dV)).length).map fun c=>([]:List dV)++(List.replicate aZ.length ([]:List dV)).getD c []).getD k []=[]
 rcases Nat.lt_or_ge k (List.replicate aZ.length ([]:List dV)).length with h|h
 ·rw [List.getD,List.getElem?_map,List.getElem?_range h]
  show []++(List.replicate aZ.length ([]:List dV)).getD k []=[]
  rw [List.getD,List.getElem?_replicate]
  split <;> rfl
 ·rw [getD_out (by simpa using h)]
theorem new_rec (i:Nat) (aZ:List Nat) (wi ti de:Nat):Rec (dG i aZ wi ti de) [] 0:=by
 refine ⟨by simp [dG,Prt.begin],Nat.le_refl _,Nat.zero_le _,Nat.zero_le _,(fun f hf=>by cases hf),fun c=>?_,fun c=>?_,by simp [dG,Prt.begin],fun c hc=>?_,fun c hc=>?_⟩
 ·rw [new_bs];exact Nat.zero_le _
 ·rw [new_gv,new_bs];rfl
 ·rw [new_gv];rfl
 ·rw [new_gv,new_buf];rfl
theorem both_new {i j : Nat} (hi : 1 ≤ i) (hj : 1 ≤ j) (ra rb : List Nat) (wia tia dea wib tib deb : Nat) :
    Both (dG i ra wia tia dea) (dG j rb wib tib deb) [] [] (fun _ => []) (fun _ => []) (fun _ => []) (fun _ => []) (fun _ => 0) (fun _ => 0) := by
  have key : ∀ (i j : Nat) (ra rb : List Nat) (wia tia dea wib tib deb : Nat), 1 ≤ i → 1 ≤ j → Dir (dG i ra wia tia dea) (dG j rb wib tib deb) [] [] [] 0 (fun _ => []) (fun _ => []) (fun _ => 0) := fun i j ra rb wia tia dea wib tib deb hi hj =>
    ⟨{ srt := .nil, cur := fun _ h => (by cases h), fit := fun _ h => (by cases h), one := fun _ h => (by cases h), vs := fun _ h => (by cases h), si := fun _ h => (by cases h)
       mine := rfl, inc := hj, sp := .inl rfl, st := Iff.rfl, pl := Nat.zero_le _, sl := Nat.zero_le _, up := fun h => (by cases h), rc := new_rec _ _ _ _ _, over := rfl
       fly := fun _ h => (by cases h), frF := fun _ h => (by cases h)
       lnk := fun h _ => absurd (show (0 : Nat) = i from h) (by omega)
       frR := fun h _ => absurd (show (0 : Nat) = i from h) (by omega)
       frS := fun _ h => absurd (show (0 : Nat) = j from h) (by omega)
       akd := fun _ h => (by cases h), old := fun _ h => (by cases h) }, fun c => ⟨[], [], by rw [new_buf]; rfl, by rw [new_wait]; rfl, fun h => absurd (show (0 : Nat) = i from h.1) (by omega), fun _ => ⟨.slnil, Nat.le_refl _, fun _ h => (by cases h)⟩⟩⟩
  exact ⟨[], 0, [], 0, key _ _ _ _ _ _ _ _ _ _ hi hj, key _ _ _ _ _ _ _ _ _ _ hj hi⟩
theorem Both.restart (h:Both a b wa wb oa ga ob gb da db) {i:Nat} (hi:a.inc < i) (aZ:List Nat) (wi ti de:Nat) :
  Both (dG i aZ wi ti de) b wa wb oa (fun _=>[]) ob gb (fun c=>(oa c).length) (fun c=>(ob c).length):=by
 obtain ⟨hA,tA,hB,tB,⟨d1,c1⟩,d2,c2⟩:=h
 have h1:=d1.pl;have h2:=d1.sl;have h3:=d2.pl;have h4:=d2.sl;have h5:=d1.inc;have h6:=d2.inc
 have hbp:b.cM≠i:=by omega
 have hz:∀ {P:Prop},(0:Nat)=b.inc->P:=fun h=>absurd h (by omega)
 have hzw:∀u ∈ wb,u.1.i≠0:=fun u hu=>by have:=d2.one u hu;omega
 have hcur:a.tag.le (dG i aZ wi ti de).tag:=⟨.inl hi,fun e=>absurd (show a.inc=i from e) (by omega)⟩
 refine ⟨hA,tA,[],0,⟨{ d1 with
  cur:=fun p hp=>(d1.cur p hp).trans hcur
  sl:=by show b.cS.seen<=i;omega
  up:=fun e=>⟨.inl (by
   show b.cS.cM < i
   have:=d1.sp
   omega),(d1.up e).2⟩
  lnk:=fun x _=>absurd x hbp
  frR:=fun x _=>absurd x hbp
  frS:=fun _ z=>hz z
  akd:=fun _ _ _ _ x=>absurd x hbp
  old:=fun u hu e=>absurd e (hzw u hu) },fun c=>?_⟩,⟨{
  srt:=d2.srt
  cur:=d2.cur
  fit:=d2.fit
  one:=d2.one
  vs:=d2.vs
  si:=fun p hp=>Nat.le_trans (d2.si p hp) (Nat.le_of_lt hi)
  mine:=rfl
  inc:=Nat.le_trans h6 (Nat.le_of_lt hi)
  sp:=.inl rfl
  st:=Iff.rfl
  pl:=Nat.zero_le _
  sl:=Nat.zero_le _
  up:=fun h=>(by cases h)
  rc:=new_rec _ _ _ _ _
  over:=rfl
  fly:=fun p hp e=>absurd e (hzw p hp)
  frF:=fun p hp e=>absurd (show p.1.s=i from e) (by have:=d2.si p hp;omega)
  lnk:=fun x _=>hz x
  frR:=fun x _=>hz x
  frS:=fun _ z=>absurd (show b.cM=i from z) hbp
  akd:=fun _ _ _ _ x=>hz x
  old:=fun u hu e1 e2 _=>?_ },fun c=>?_⟩⟩
 ·obtain ⟨E,P,g1,g2,g3,g4⟩:=c1 c
  refine ⟨E,oa c,g1,?_,fun x=>absurd x.1 hbp,fun _=>⟨?_,Nat.le_refl _,fun u hu e=>absurd e (hzw u hu)⟩⟩
  ·rw [new_wait]
   show oa c=oa c++(frm c []++[])
   simp [frm]
  ·by_cases hl:Lkd a b
   ·obtain ⟨P0,q1,q2,_⟩:=g3 hl
    have hk:=(d1.lnk hl.1 hl.2).cT
    rw [g2,q1,hk,<-cG c hA a.snd.aG]
    simp only [List.append_assoc]
    refine List.Sublist.append q2 (List.Sublist.append_left ?_ _)
    exact List.sublist_append_left ..
   ·rw [g2]
    exact (g4 hl).1.trans (List.sublist_append_left ..)
 ·by_cases e3:b.cM=a.inc
  ·have e4:a.cM=b.inc:=by
    have:=(d1.cur u hu).1
    have q1:a.tag.i=a.inc:=rfl
    have q2:a.tag.s=a.cM:=rfl
    unfold Lx at this
    omega
   have hl:=d2.lnk e4 e3
   have e5:u.1.i=a.inc:=e1.trans e3
   have q:=((d1.cur u hu).2 e5 (e2.trans e4.symm)).2.1
   have q':u.1.r<=a.rcv:=q
   have:=d2.akd u hu e5 e2 e4 e3
   have t1:=hl.tq
   have t2:=d2.rc.rt
   omega
  ·exact d2.old u hu e1 e2 e3
 ·obtain ⟨E,P,g1,g2,g3,g4⟩:=c2 c
  refine ⟨[],P,by rw [new_buf];rfl,g2,fun x=>(hz x.1),fun _=>⟨List.nil_sublist _,by rw [g2,List.length_append];omega,fun u hu e1 e2=>?_⟩⟩
  rw [g2,List.length_append,List.length_append]
  have:(frm c (b.cT.take (u.1.r - b.snd.aG))).length<=(frm c b.cT).length:=by
   conv=>rhs;rw [<-cG c b.cT (u.1.r - b.snd.aG),List.length_append]
   omega
  omega
theorem Both.front (h:Both a b wa wb oa ga ob gb da db) (hd:∀c,da c=0) (c:Nat):gb c <+: oa c:=by
 obtain ⟨hA,tA,hB,tB,⟨d1,c1⟩,_⟩:=h
 obtain ⟨E,P,g1,g2,g3,g4⟩:=c1 c
 rw [hd c] at g3 g4
 by_cases hl:Lkd a b
 ·obtain ⟨P0,q1,q2,q3⟩:=g3 hl
  obtain rfl:P0=[]:=List.length_eq_zero_iff.1 (by omega)
  obtain rfl:E=[]:=List.sublist_nil.1 q2
  have hk:=(d1.lnk hl.1 hl.2).cT
  have e:oa c=frm c hA++a.aX.getD c []:=by rw [g2,q1,hk,<-cG c hA a.snd.aG];simp only [List.nil_append,List.append_assoc]
  refine (List.prefix_append (gb c) (b.aY.getD c [])).trans ?_
  rw [g1,e,<-cG c hA b.rcv,List.nil_append,List.append_assoc]
  exact List.prefix_append _ _
 ·obtain ⟨q1,q2,_⟩:=g4 hl
  obtain rfl:P=[]:=List.length_eq_zero_iff.1 (by omega)
  have q3:E++frm c hA=[]:=List.sublist_nil.1 q1
  have q4:E=[]/\frm c hA=[]:=List.append_eq_nil_iff.1 q3
  have q5:frm c (hA.take b.rcv)=[]:=by
   have:=cG c hA b.rcv
   rw [q4.2] at this
   exact (List.append_eq_nil_iff.1 this).1
  rw [q4.1,q5] at g1
  rw [(List.append_eq_nil_iff.1 g1).1]
  exact List.nil_prefix
theorem Both.over (h:Both a b wa wb oa ga ob gb da db):a.bL=0/\b.bL=0:=by
 obtain ⟨_,_,_,_,⟨d1,_⟩,d2,_⟩:=h
 exact ⟨d2.over,d1.over⟩
theorem Both.room (h:Both a b wa wb oa ga ob gb da db) {c:Nat} (hc:c < a.aZ.length):(a.aY.getD c []).length<=a.aZ.getD c 0:=by
 obtain ⟨_,_,hB,_,_,d2,_⟩:=h
 have h1:=d2.rc.buf c hc;have h2:=d2.rc.room c;have h3:=d2.rc.got c;have h4:=d2.rc.rm c hc
 have h5:=cnt_take_le hB a.rcv c
 unfold Giv.cE at h2
 omega
end
end

section
structure Lnd where
 prt:Prt
 sc:Sc
 cD:Cab
 inc:Nat
 aV:List (List dV)
 cF:List (List dV)
 aE:List Nat
structure Lk where
 l:Lnd
 r:Lnd
structure Evt where
 kind:Int
 cS:Int
 cls:Int
 data:dV
def newLnd (inc:Nat) (aZ:List Nat) (w t d:Nat) (cB:Nat) (fs:List Flt):Lnd:=
 ⟨dG inc aZ w t d,Sc.new,Cab.new cB fs,inc,List.replicate aZ.length [],List.replicate aZ.length [],List.replicate aZ.length 0⟩
def Lnd.cR (x:Lnd):List Pt × Lnd:=
 let found:=(x.sc.scan x.cD.cR.1.flatten)
 ((x.prt.cR (found.2.map Pk.pt)).1,{ x with prt:=(x.prt.cR (found.2.map Pk.pt)).2,sc:=found.1,cD:=x.cD.cR.2 })
def Lnd.send1 (x:Lnd) (y:Pt):Lnd:=if validP y.pk then { x with cD:=(x.cD.send (symP y.pk)).2 } else x
def Lnd.send (x:Lnd) (ys:List Pt):Lnd:=ys.foldl Lnd.send1 x
def Lnd.dQ (x:Lnd) (c:Int) (d:dV):Nat × Lnd:=
 if (x.prt.dQ c d).1=0 then (0,{ x with prt:=(x.prt.dQ c d).2,aV:=x.aV.set c.toNat (x.aV.getD c.toNat []++[d]),aE:=x.aE.set c.toNat (x.aE.getD c.toNat 0+1) })
 else ((x.prt.dQ c d).1,x)
def Lnd.take (x:Lnd) (c:Int):Nat × Lnd:=
 match x.prt.take c with
 |(none,_)=>(7,x)
 |(some d,p)=>(0,{ x with prt:=p,cF:=x.cF.set c.toNat (x.cF.getD c.toNat []++[d]) })
def Lnd.restart (x:Lnd):Nat × Lnd:=
 if (x.prt.restart (x.inc+1)).1=0 then (0,{ x with prt:=(x.prt.restart (x.inc+1)).2,inc:=x.inc+1,sc:=Sc.new,aE:=List.replicate x.aE.length 0 })
 else ((x.prt.restart (x.inc+1)).1,x)
def Lnd.act (x:Lnd) (e:Evt):Nat × Lnd:=
 if e.kind=1 then x.dQ e.cls e.data else if e.kind=2 then x.take e.cls else x.restart
end

section
theorem pairwise_rep {wa new:List Way} {ys:List Pt} {t:Tag} (h:(wa++ys.map fun y=>(t,y)).Pairwise fun p q=>p.1.le q.1) (hn:∀v ∈ new,∃y ∈ ys,v=(t,y)):(wa++new).Pairwise fun p q=>p.1.le q.1:=by
 rw [List.pairwise_append] at h ⊢
 refine ⟨h.1,?_,fun p hp q hq=>?_⟩
 ·refine List.Pairwise.imp_of_mem (R:=fun _ _=>True) (fun {p q} hp hq _=>?_) (List.pairwise_of_forall fun _ _=>trivial)
  obtain ⟨y,_,rfl⟩:=hn p hp
  obtain ⟨z,_,rfl⟩:=hn q hq
  exact Tag.le.refl _
 ·obtain ⟨y,hy,rfl⟩:=hn q hq
  exact h.2.2 p hp (t,y) (List.mem_map.2 ⟨y,hy,rfl⟩)
structure Lnd.Same (x y:Lnd):Prop where
 prt:y.prt=x.prt
 sc:y.sc=x.sc
 inc:y.inc=x.inc
 aV:y.aV=x.aV
 cF:y.cF=x.cF
 aE:y.aE=x.aE
theorem Lnd.Same.refl (x:Lnd):x.Same x:=⟨rfl,rfl,rfl,rfl,rfl,rfl⟩
theorem Lnd.Same.trans {x y z:Lnd} (h:x.Same y) (g:y.Same z):x.Same z:=⟨g.prt.trans h.prt,g.sc.trans h.sc,g.inc.trans h.inc,g.aV.trans h.aV,g.cF.trans h.cF,g.aE.trans h.aE⟩
theorem Lnd.send1_same (x:Lnd) (y:Pt):x.Same (x.send1 y):=by
 unfold Lnd.send1
 split
 ·exact ⟨rfl,rfl,rfl,rfl,rfl,rfl⟩
 ·exact .refl x
theorem Lnd.send_same:∀(ys:List Pt) (x:Lnd),x.Same (x.send ys)
 |[],x=>.refl x
 |y::ys,x=>(x.send1_same y).trans (Lnd.send_same ys (x.send1 y))
theorem cab_send_keeps (c:Cab) (d:Byt):(c.send d).2.cC=c.cC/\(c.send d).2.cB=c.cB/\(c.send d).2.bZ=c.bZ/\(c.send d).2.cP=c.cP+1/\(c.send d).2.up=c.up/\(c.send d).2.lost<=c.lost+1:=by
 unfold Cab.send
 split
 ·exact ⟨rfl,rfl,rfl,rfl,rfl,Nat.le_refl _⟩
 ·split
  ·exact ⟨rfl,rfl,rfl,rfl,rfl,Nat.le_refl _⟩
  ·exact ⟨rfl,rfl,rfl,rfl,rfl,Nat.le_succ _⟩
theorem Lnd.send_wire (t:Tag):∀(ys:List Pt) {x:Lnd} {ws:List (Nat × Option Way)},Wire x.cD.aL ws ->
  ∃b:List (Option Way),Wire (x.send ys).cD.aL (ws++b.map fun o=>(x.cD.cC+x.cD.cB,o))/\(∀v ∈ b.filterMap id,∃y ∈ ys,v=(t,y))/\((∀k:Nat,x.cD.cP<=k->(faultOf x.cD.bZ k).kind=0)->b.length<=ys.length)
 |[],x,ws,h=>⟨[],by simpa [Lnd.send] using h,(fun v hv=>by cases hv),fun _=>Nat.le_refl _⟩
 |y::ys,x,ws,h=>by
  show ∃b:List (Option Way),Wire ((x.send1 y).send ys).cD.aL (ws++b.map fun o=>(x.cD.cC+x.cD.cB,o))/\_
  unfold Lnd.send1
  split
  ·rename_i hv
   obtain ⟨n1,w1,_,l1,k,hk⟩:=h.send t (validP_iff.1 hv)
   obtain ⟨e1,e2,e3,e4,e5,e6⟩:=cab_send_keeps x.cD (symP y.pk)
   obtain ⟨n2,w2,h2,l2⟩:=Lnd.send_wire t ys (x:={ x with cD:=(x.cD.send (symP y.pk)).2 }) w1
   dsimp only at w2 l2
   rw [e1,e2] at w2
   rw [e3,e4] at l2
   refine ⟨n1++n2,by rw [List.map_append,<-List.append_assoc];exact w2,fun v hv=>?_,fun hf=>?_⟩
   ·rw [List.filterMap_append,hk] at hv
    rcases List.mem_append.1 hv with hv|hv
    ·exact ⟨y,List.mem_cons_self ..,List.eq_of_mem_replicate hv⟩
    ·obtain ⟨z,hz,e⟩:=h2 v hv
     exact ⟨z,List.mem_cons_of_mem _ hz,e⟩
   ·have:=l1 (hf _ (Nat.le_refl _))
    have:=l2 fun k hk=>hf k (by omega)
    rw [List.length_append,List.length_cons];omega
  ·obtain ⟨n2,w2,h2,l2⟩:=Lnd.send_wire t ys h
   exact ⟨n2,w2,fun v hv=>by obtain ⟨z,hz,e⟩:=h2 v hv;exact ⟨z,List.mem_cons_of_mem _ hz,e⟩,fun hf=>by have:=l2 hf;rw [List.length_cons];omega⟩
theorem Lnd.send_keeps:∀(ys:List Pt) (x:Lnd),(x.send ys).cD.cC=x.cD.cC/\(x.send ys).cD.cB=x.cD.cB/\(x.send ys).cD.bZ=x.cD.bZ/\(x.send ys).cD.up=x.cD.up/\x.cD.cP<=(x.send ys).cD.cP/\(x.send ys).cD.cP<=x.cD.cP+ys.length/\(x.send ys).cD.lost<=x.cD.lost+ys.length
 |[],x=>⟨rfl,rfl,rfl,rfl,Nat.le_refl _,Nat.le_refl _,Nat.le_refl _⟩
 |y::ys,x=>by
  show ((x.send1 y).send ys).cD.cC=_/\((x.send1 y).send ys).cD.cB=_/\((x.send1 y).send ys).cD.bZ=_/\((x.send1 y).send ys).cD.up=_/\_<=((x.send1 y).send ys).cD.cP/\((x.send1 y).send ys).cD.cP<=_/\((x.send1 y).send ys).cD.lost<=_
  obtain ⟨h1,h2,h3,h4,h5,h6,h7⟩:=Lnd.send_keeps ys (x.send1 y)
  obtain ⟨e1,e2,e3,e4,e5,e6⟩:=cab_send_keeps x.cD (symP y.pk)
  rw [h1,h2,h3,h4,List.length_cons]
  unfold Lnd.send1 at h5 h6 h7 ⊢
  split
  ·rename_i hv
   rw [if_pos hv] at h5 h6 h7
   dsimp only at h5 h6 h7 ⊢
   rw [e4] at h5 h6
   exact ⟨e1,e2,e3,e5,by omega,by omega,by omega⟩
  ·rename_i hv
   rw [if_neg hv] at h5 h6 h7
   exact ⟨rfl,rfl,rfl,rfl,by omega,by omega,by omega⟩
theorem Both.sorted {a b:Prt} {wa wb:List Way} {oa ga ob gb:Nat->List dV} {da db:Nat->Nat} (h:Both a b wa wb oa ga ob gb da db):(wa.Pairwise fun p q=>p.1.le q.1)/\wb.Pairwise fun p q=>p.1.le q.1:=by
 obtain ⟨_,_,_,_,⟨d1,_⟩,d2,_⟩:=h
 exact ⟨d1.srt,d2.srt⟩
theorem Both.sends {a b:Prt} {wa wb new:List Way} {ys:List Pt} {t:Tag} {oa ga ob gb:Nat->List dV} {da db:Nat->Nat} (h:Both a b (wa++ys.map fun y=>(t,y)) wb oa ga ob gb da db) (hn:∀v ∈ new,∃y ∈ ys,v=(t,y)) :
  Both a b (wa++new) wb oa ga ob gb da db:=
 h.ways (fun p hp=>by
  rcases List.mem_append.1 hp with hp|hp
  ·exact List.mem_append_left _ hp
  ·obtain ⟨y,hy,rfl⟩:=hn p hp
   exact List.mem_append_right _ (List.mem_map.2 ⟨y,hy,rfl⟩)) (pairwise_rep h.sorted.1 hn) (fun _ hp=>hp) h.sorted.2
end

section
structure Nd where
 prt:Prt
 fly:List Pt
 off:List dV
 got:List dV
structure Pr where
 l:Nd
 r:Nd
def Nd.dQ (n:Nd) (c:Nat) (b:BitVec 8):Nd:=
 if (n.prt.dQ c [b]).1=0 then { n with prt:=(n.prt.dQ c [b]).2,off:=n.off.set c (n.off.getD c []++[b]) } else n
def Nd.take (n:Nd) (c:Nat):Nd:=
 match n.prt.peek c with
 |none=>n
 |some d=>{ n with prt:=(n.prt.take c).2,got:=n.got.set c (n.got.getD c []++d) }
def sift (lose dbl:Nat):Nat->List Pt->List Pt
 |_,[]=>[]
 |k,y::l=>(if lose >>> (k % 16) % 2=0 then (if dbl >>> (k % 16) % 2=1 then [y,y] else [y]) else [])++sift lose dbl (k+1) l
def Pr.cR (P : Pr) (lose dbl : Nat) : Pr :=
  ⟨{ P.l with prt := (P.l.prt.cR P.r.fly).2, fly := sift lose dbl 0 (P.l.prt.cR P.r.fly).1 },
   { P.r with prt := (P.r.prt.cR P.l.fly).2, fly := sift lose dbl (P.l.prt.cR P.r.fly).1.length (P.r.prt.cR P.l.fly).1 }⟩
def Pr.dQ (P:Pr) (s c:Nat) (b:BitVec 8):Pr:=if s=0 then { P with l:=P.l.dQ c b } else { P with r:=P.r.dQ c b }
def Pr.take (P:Pr) (s c:Nat):Pr:=if s=0 then { P with l:=P.l.take c } else { P with r:=P.r.take c }
def Pr.act (P:Pr) (e:Nat):Pr:=
 if e / 4 % 4<=1 then P.dQ (e % 2) (e / 2 % 2) (BitVec.ofNat 8 (e / 4)) else if e / 4 % 4=2 then P.take (e % 2) (e / 2 % 2) else P
structure Prt.One (p:Prt):Prop where
 w:∀l ∈ p.aX,∀d ∈ l,d.length=1
 b:∀l ∈ p.aY,∀d ∈ l,d.length=1
 k:∀f ∈ p.cT,f.2.length=1
def Slim (y:Pt):Prop:=y.pay.length<=1/\(y.kind=2#8->y.pay.length=1)
theorem getD_one {l:List (List dV)} (h:∀x ∈ l,∀d ∈ x,d.length=1) (i:Nat):∀d ∈ l.getD i [],d.length=1:=
 bM (P:=fun x:List dV=>∀d ∈ x,d.length=1) h (d:=[]) (fun _ h=>by cases h) i
theorem set_one {l:List (List dV)} (h:∀x ∈ l,∀d ∈ x,d.length=1) {i:Nat} {v:List dV} (hv:∀d ∈ v,d.length=1):∀x ∈ l.set i v,∀d ∈ x,d.length=1:=
 mem_set (P:=fun x:List dV=>∀d ∈ x,d.length=1) h hv
theorem Prt.One.begin {p:Prt} (h:p.One) (q:Nat):(p.begin q).One:=by
 refine ⟨fun l hl d hd=>?_,h.b,fun f hf=>by cases hf⟩
 obtain ⟨c,_,rfl⟩:=List.mem_map.1 hl
 rcases List.mem_append.1 hd with hd|hd
 ·obtain ⟨f,hf,rfl⟩:=List.mem_map.1 hd
  exact h.k f (List.mem_filter.1 hf).1
 ·exact getD_one h.w c d hd
theorem Prt.One.cS {p:Prt} (h:p.One) (s:Side):({ p with cS:=s }:Prt).One:=⟨h.w,h.b,h.k⟩
theorem Prt.One.cU {p:Prt} (h:p.One) {y:Pt} (hy:Slim y):(p.cU y).One:=by
 unfold Prt.cU
 split
 ·unfold Prt.greet
  dsimp only
  split
  ·exact (h.cS _).begin _
  ·exact h.cS _
 ·split
  ·exact h
  ·split
   ·rename_i hk
    unfold Prt.cO
    split
    ·exact h
    ·dsimp only
     split
     ·exact ⟨h.w,h.b,h.k⟩
     ·refine ⟨h.w,set_one h.b fun d hd=>?_,h.k⟩
      rcases List.mem_append.1 hd with hd|hd
      ·exact getD_one h.b _ d hd
      ·rw [List.mem_singleton.1 hd];exact hy.2 hk
   ·split
    ·exact ⟨h.w,h.b,fun f hf=>h.k f (List.mem_of_mem_drop hf)⟩
    ·split
     ·unfold Prt.raise
      split
      ·exact ⟨h.w,h.b,h.k⟩
      ·exact h
     ·exact h
theorem Prt.One.handles {p:Prt} (h:p.One):∀l:List Pt,(∀y ∈ l,Slim y)->(l.foldl Prt.cU p).One
 |[],_=>h
 |y::l,hl=>by
  rw [List.foldl_cons]
  exact (h.cU (hl y (List.mem_cons_self ..))).handles l fun z hz=>hl z (List.mem_cons_of_mem _ hz)
theorem Prt.One.choose {N:Nat} {p:Prt} (h:p.One) (ok:p.Ok N):p.choose.One:=by
 rcases Prt.choose_eq ok with ⟨r,e⟩|⟨c,d,l,r,h1,h2,h3,h4,e⟩
 ·rw [e];exact ⟨h.w,h.b,h.k⟩
 ·have hd:=getD_one h.w c
  rw [h2] at hd
  rw [e]
  refine ⟨set_one h.w fun x hx=>hd x (List.mem_cons_of_mem _ hx),h.b,fun f hf=>?_⟩
  rcases List.mem_append.1 hf with hf|hf
  ·exact h.k f hf
  ·rw [List.mem_singleton.1 hf];exact hd d (List.mem_cons_self ..)
theorem slim_nil (k:BitVec 8) (c n v:Int) (h:k≠2#8):Slim ⟨k,c,n,v,[]⟩:=⟨Nat.zero_le _,fun e=>absurd e h⟩
theorem Prt.tick_sent {N:Nat} {p:Prt} (ok:p.Ok N) (h:p.One) {l:List Pt} (hl:∀y ∈ l,Slim y):(p.cR l).2.One/\(∀y ∈ (p.cR l).1,Slim y)/\(p.cR l).1.length<=3+p.aZ.length:=by
 obtain ⟨a,ha⟩:∃a,a=l.foldl Prt.cU p:=⟨_,rfl⟩
 have ok1:a.Ok (N+200*l.length):=by rw [ha];exact ok.handles l fun y hy=>Nat.le_trans (hl y hy).1 (by decide)
 have h1:a.One:=by rw [ha];exact h.handles l hl
 have hr:a.aZ.length=p.aZ.length:=by
  rw [ha]
  clear ha ok1 h1 ok h hl
  induction l generalizing p with
  |nil=>rfl
  |cons y l ih=>
   rw [List.foldl_cons,ih]
   unfold Prt.cU
   split
   ·unfold Prt.greet;dsimp only;split <;> rfl
   ·split
    ·rfl
    ·split
     ·unfold Prt.cO;split
      ·rfl
      ·dsimp only;split <;> rfl
     ·split
      ·rfl
      ·split
       ·unfold Prt.raise;split <;> rfl
       ·rfl
 by_cases hs:a.cS.cR.state=2
 ·rw [Prt.tick_up ha hs]
  have ok2:Prt.Ok (N+200*l.length) { a with cS:=a.cS.cR }:=ok1.sideTick
  have h2:Prt.One { a with cS:=a.cS.cR }:=h1.cS _
  have ok3:=ok2.choose
  have h3:=h2.choose ok2
  have hb:a.base.length=p.aZ.length:=by rw [<-hr];exact ok1.sl
  have hsent:∀y ∈ a.hail::a.ackn::(List.range a.base.length).map a.cred,Slim y:=fun y hy=>by
   rcases List.mem_cons.1 hy with rfl|hy
   ·exact slim_nil _ _ _ _ (by decide)
   ·rcases List.mem_cons.1 hy with rfl|hy
    ·exact slim_nil _ _ _ _ (by decide)
    ·obtain ⟨c,_,rfl⟩:=List.mem_map.1 hy
     exact slim_nil _ _ _ _ (by decide)
  have hlen:(a.hail::a.ackn::(List.range a.base.length).map a.cred).length=2+p.aZ.length:=by simp [hb];omega
  generalize Prt.choose { a with cS:=a.cS.cR }=q at ok3 h3 ⊢
  generalize a.hail::a.ackn::(List.range a.base.length).map a.cred=cP at hsent hlen ⊢
  have h4:∀s,Prt.One { q with snd:=s }:=fun s=>⟨h3.w,h3.b,h3.k⟩
  rcases Snd.tick_cases q.snd with ⟨e1,t,e2⟩|⟨i,hi,e1,e2⟩
  ·rcases hq:q.snd.cR with ⟨o,s⟩
   rw [hq] at e1
   dsimp only at e1
   subst e1
   exact ⟨h4 s,hsent,by dsimp only;omega⟩
  ·rcases hq:q.snd.cR with ⟨o,s⟩
   rw [hq] at e1
   dsimp only at e1
   subst e1
   refine ⟨h4 s,fun y hy=>?_,by dsimp only;rw [List.length_append,hlen];simp;omega⟩
   rcases List.mem_append.1 hy with hy|hy
   ·exact hsent y hy
   ·rw [List.mem_singleton.1 hy]
    have hd:(q.snd.cT.getD i []).length=1:=by
     have hm:q.snd.cT.getD i [] ∈ q.snd.cT:=by
      rw [List.getD,List.getElem?_eq_getElem hi];exact List.getElem_mem hi
     rw [<-ok3.cT] at hm
     obtain ⟨f,hf,e⟩:=List.mem_map.1 hm
     rw [<-ok3.cT,<-e]
     exact h3.k f hf
    exact ⟨Nat.le_of_eq hd,fun _=>hd⟩
 ·rw [Prt.cX ha hs]
  refine ⟨h1.cS _,fun y hy=>?_,by simp;omega⟩
  rw [List.mem_singleton.1 hy]
  exact slim_nil _ _ _ _ (by decide)
end

section
structure Nd.Ok (N:Nat) (n:Nd):Prop where
 ok:n.prt.Ok N
 min:n.prt.Min
 two:n.prt.aZ.length=2
 fl:n.fly.length<=10
 f1:∀y ∈ n.fly,Slim y
 one:n.prt.One
 o2:n.off.length=2
 g2:n.got.length=2
 ol:∀l ∈ n.off,l.length<=N
 gl:∀l ∈ n.got,l.length<=N
structure Pr.Ok (N:Nat) (P:Pr):Prop where
 l:P.l.Ok N
 r:P.r.Ok N
theorem Nd.Ok.mono {N M:Nat} {n:Nd} (h:n.Ok N) (hm:N<=M):n.Ok M:=
 ⟨h.ok.mono hm,h.min,h.two,h.fl,h.f1,h.one,h.o2,h.g2,fun l hl=>Nat.le_trans (h.ol l hl) hm,fun l hl=>Nat.le_trans (h.gl l hl) hm⟩
theorem Pr.Ok.mono {N M:Nat} {P:Pr} (h:P.Ok N) (hm:N<=M):P.Ok M:=⟨h.l.mono hm,h.r.mono hm⟩
theorem offer_cases {N:Nat} {n:Nd} (h:n.Ok N) {c:Nat} (hc:c < 2) (b:BitVec 8) :
  (64<=(n.prt.aX.getD c []).length/\n.dQ c b=n) \/
  ((n.prt.aX.getD c []).length < 64/\n.dQ c b={ n with prt:={ n.prt with aX:=n.prt.aX.set c (n.prt.aX.getD c []++[[b]]) },off:=n.off.set c (n.off.getD c []++[b]) }):=by
 have hh:n.prt.has (c:Int):=⟨by omega,by rw [h.two];omega⟩
 by_cases hw:64<=(n.prt.aX.getD c []).length
 ·refine .inl ⟨hw,?_⟩
  have e:(n.prt.dQ (c:Int) [b]).1=5:=by
   unfold Prt.dQ
   rw [if_neg (by simp [hh]),if_pos (by rw [Int.toNat_natCast];exact hw)]
  unfold Nd.dQ
  rw [if_neg (by rw [e];decide)]
 ·refine .inr ⟨by omega,?_⟩
  have e:n.prt.dQ (c:Int) [b]=(0,{ n.prt with aX:=n.prt.aX.set c (n.prt.aX.getD c []++[[b]]) }):=by
   unfold Prt.dQ
   rw [if_neg (by simp [hh]),if_neg (by rw [Int.toNat_natCast];exact hw),Int.toNat_natCast]
  unfold Nd.dQ
  rw [e,if_pos rfl]
theorem Nd.Ok.dQ {N:Nat} {n:Nd} (h:n.Ok N) {c:Nat} (hc:c < 2) (b:BitVec 8):(n.dQ c b).Ok (N+65):=by
 rcases offer_cases h hc b with ⟨_,e⟩|⟨hw,e⟩
 ·rw [e];exact h.mono (by omega)
 ·have hh:n.prt.has (c:Int):=⟨by omega,by rw [h.two];omega⟩
  have h1:=h.ok.dQ (c:Int) [b]
  have e1:(n.prt.dQ (c:Int) [b]).2={ n.prt with aX:=n.prt.aX.set c (n.prt.aX.getD c []++[[b]]) }:=by
   unfold Prt.dQ
   rw [if_neg (by simp [hh]),if_neg (by rw [Int.toNat_natCast];omega),Int.toNat_natCast]
  rw [e1] at h1
  rw [e]
  refine ⟨h1,h.min,h.two,h.fl,h.f1,⟨set_one h.one.w fun d hd=>?_,h.one.b,h.one.k⟩,by simp [h.o2],h.g2,mem_set (P:=fun l:dV=>l.length<=N+65) (fun l hl=>Nat.le_trans (h.ol l hl) (Nat.le_add_right _ _)) ?_,fun l hl=>Nat.le_trans (h.gl l hl) (Nat.le_add_right _ _)⟩
  ·rcases List.mem_append.1 hd with hd|hd
   ·exact getD_one h.one.w c d hd
   ·rw [List.mem_singleton.1 hd];rfl
  ·rw [List.length_append]
   have:=bM (P:=fun l:dV=>l.length<=N) h.ol (d:=[]) (Nat.zero_le _) c
   show _+1<=_
   omega
theorem take_cases {N:Nat} {n:Nd} (h:n.Ok N) {c:Nat} (hc:c < 2) :
  (n.prt.aY.getD c []=[]/\n.prt.peek (c:Int)=none/\n.take c=n) \/
  ∃(x:BitVec 8) (l:List dV),n.prt.aY.getD c []=[x]::l/\n.prt.peek (c:Int)=some [x]/\(n.prt.take (c:Int))=(some [x],{ n.prt with aY:=n.prt.aY.set c l,giv:=n.prt.giv.set c (n.prt.gv c).free,cF:=n.prt.cF.set c (n.prt.cF.getD c 0+1) }) /\
   n.take c={ n with prt:={ n.prt with aY:=n.prt.aY.set c l,giv:=n.prt.giv.set c (n.prt.gv c).free,cF:=n.prt.cF.set c (n.prt.cF.getD c 0+1) },got:=n.got.set c (n.got.getD c []++[x]) }:=by
 have hh:n.prt.has (c:Int):=⟨by omega,by rw [h.two];omega⟩
 have hp:n.prt.peek (c:Int)=(n.prt.aY.getD c []).head?:=by unfold Prt.peek;rw [if_pos hh,Int.toNat_natCast]
 cases hb:n.prt.aY.getD c [] with
 |nil=>
  rw [hb] at hp
  refine .inl ⟨rfl,hp,?_⟩
  unfold Nd.take
  rw [hp];rfl
 |cons d l=>
  have hd:=getD_one h.one.b c d (by rw [hb];exact List.mem_cons_self ..)
  obtain ⟨x,rfl⟩:=List.length_eq_one_iff.1 hd
  rw [hb] at hp
  have hp:n.prt.peek (c:Int)=some [x]:=hp
  have e:n.prt.take (c:Int)=(some [x],{ n.prt with aY:=n.prt.aY.set c l,giv:=n.prt.giv.set c (n.prt.gv c).free,cF:=n.prt.cF.set c (n.prt.cF.getD c 0+1) }):=by
   unfold Prt.take
   rw [hp]
   simp only [Int.toNat_natCast,hb,List.drop_succ_cons,List.drop_zero]
  refine .inr ⟨x,l,rfl,hp,e,?_⟩
  unfold Nd.take
  rw [hp,e]
theorem Nd.Ok.take {N:Nat} {n:Nd} (h:n.Ok N) {c:Nat} (hc:c < 2):(n.take c).Ok (N+1):=by
 rcases take_cases h hc with ⟨_,_,e⟩|⟨x,l,hb,hp,e1,e⟩
 ·rw [e];exact h.mono (by omega)
 ·have h1:=h.ok.take (c:Int)
  rw [e1] at h1
  rw [e]
  have hd:=getD_one h.one.b c
  rw [hb] at hd
  refine ⟨h1,h.min,h.two,h.fl,h.f1,⟨h.one.w,set_one h.one.b fun d hd'=>hd d (List.mem_cons_of_mem _ hd'),h.one.k⟩,h.o2,by simp [h.g2],fun l hl=>Nat.le_trans (h.ol l hl) (Nat.le_add_right _ _),mem_set (P:=fun l:dV=>l.length<=N+1) (fun l hl=>Nat.le_trans (h.gl l hl) (Nat.le_add_right _ _)) ?_⟩
  rw [List.length_append]
  have:=bM (P:=fun l:dV=>l.length<=N) h.gl (d:=[]) (Nat.zero_le _) c
  show _+1<=_
  omega
theorem sift_len (lose dbl:Nat):∀(l:List Pt) (k:Nat),(sift lose dbl k l).length<=2*l.length
 |[],_=>Nat.le_refl _
 |y::l,k=>by
  unfold sift
  have:=sift_len lose dbl l (k+1)
  rw [List.length_append,List.length_cons]
  split
  ·split
   ·show 2+_<=_;omega
   ·show 1+_<=_;omega
  ·show 0+_<=_;omega
theorem sift_mem (lose dbl:Nat):∀(l:List Pt) (k:Nat),∀y ∈ sift lose dbl k l,y ∈ l
 |[],_,y,h=>h
 |x::l,k,y,h=>by
  unfold sift at h
  rcases List.mem_append.1 h with h|h
  ·split at h
   ·split at h
    ·rcases List.mem_cons.1 h with rfl|h
     ·exact List.mem_cons_self ..
     ·rw [List.mem_singleton.1 h];exact List.mem_cons_self ..
    ·rw [List.mem_singleton.1 h];exact List.mem_cons_self ..
   ·cases h
  ·exact List.mem_cons_of_mem _ (sift_mem lose dbl l (k+1) y h)
theorem choose_side (p:Prt):p.choose.cS=p.cS/\p.choose.inc=p.inc/\p.choose.aZ=p.aZ:=by
 unfold Prt.choose
 split
 ·exact ⟨rfl,rfl,rfl⟩
 ·split <;> exact ⟨rfl,rfl,rfl⟩
theorem handle_rooms (p:Prt) (y:Pt):(p.cU y).aZ=p.aZ/\(p.cU y).inc=p.inc:=by
 unfold Prt.cU
 split
 ·unfold Prt.greet;dsimp only;split <;> exact ⟨rfl,rfl⟩
 ·split
  ·exact ⟨rfl,rfl⟩
  ·split
   ·unfold Prt.cO;split
    ·exact ⟨rfl,rfl⟩
    ·dsimp only;split <;> exact ⟨rfl,rfl⟩
   ·split
    ·exact ⟨rfl,rfl⟩
    ·split
     ·unfold Prt.raise;split <;> exact ⟨rfl,rfl⟩
     ·exact ⟨rfl,rfl⟩
theorem cH:∀(l:List Pt) (p:Prt),(l.foldl Prt.cU p).aZ=p.aZ/\(l.foldl Prt.cU p).inc=p.inc
 |[],_=>⟨rfl,rfl⟩
 |y::l,p=>by
  rw [List.foldl_cons,(cH l _).1,(cH l _).2]
  exact handle_rooms p y
theorem tick_keeps (p:Prt) (l:List Pt):(p.cR l).2.aZ=p.aZ/\(p.cR l).2.inc=p.inc/\(p.Min->(p.cR l).2.Min):=by
 obtain ⟨h1,h2⟩:=cH l p
 have h3:=fun h:p.Min=>h.handles l
 obtain ⟨a,ha⟩:∃a,a=l.foldl Prt.cU p:=⟨_,rfl⟩
 by_cases hs:a.cS.cR.state=2
 ·rw [Prt.tick_up ha hs]
  rw [<-ha] at h1 h2 h3
  obtain ⟨c1,c2,c3⟩:=choose_side { a with cS:=a.cS.cR }
  have c4:p.Min->(Prt.choose { a with cS:=a.cS.cR }).cS.mine=(Prt.choose { a with cS:=a.cS.cR }).inc:=fun h=>by
   rw [c1,c2]
   show a.cS.cR.mine=a.inc
   rw [sideTick_mine];exact h3 h
  split
  ·exact ⟨c3.trans h1,c2.trans h2,c4⟩
  ·exact ⟨c3.trans h1,c2.trans h2,c4⟩
 ·rw [Prt.cX ha hs]
  rw [<-ha] at h1 h2 h3
  refine ⟨h1,h2,fun h=>?_⟩
  show a.cS.cR.mine=a.inc
  rw [sideTick_mine];exact h3 h
theorem Nd.Ok.ticked {N:Nat} {n m:Nd} (h:n.Ok N) (h':m.Ok N) (lose dbl k:Nat):({ n with prt:=(n.prt.cR m.fly).2,fly:=sift lose dbl k (n.prt.cR m.fly).1 }:Nd).Ok (N+2001):=by
 obtain ⟨t1,t2,t3⟩:=Prt.tick_sent h.ok h.one h'.f1
 obtain ⟨k1,k2,k3⟩:=tick_keeps n.prt m.fly
 have hl:=h'.fl
 refine ⟨(h.ok.cR fun y hy=>Nat.le_trans (h'.f1 y hy).1 (by decide)).mono (by omega),k3 h.min,by rw [k1];exact h.two,?_,fun y hy=>t2 y (sift_mem _ _ _ _ y hy),t1,h.o2,h.g2,fun l hl=>Nat.le_trans (h.ol l hl) (Nat.le_add_right _ _),fun l hl=>Nat.le_trans (h.gl l hl) (Nat.le_add_right _ _)⟩
 have:=sift_len lose dbl (n.prt.cR m.fly).1 k
 have h2:=h.two
 show (sift lose dbl k (n.prt.cR m.fly).1).length<=10
 omega
theorem Pr.Ok.cR {N:Nat} {P:Pr} (h:P.Ok N) (lose dbl:Nat):(P.cR lose dbl).Ok (N+2001):=⟨h.l.ticked h.r lose dbl 0,h.r.ticked h.l lose dbl _⟩
theorem Pr.Ok.dQ {N:Nat} {P:Pr} (h:P.Ok N) (s:Nat) {c:Nat} (hc:c < 2) (b:BitVec 8):(P.dQ s c b).Ok (N+65):=by
 unfold Pr.dQ
 split
 ·exact ⟨h.l.dQ hc b,h.r.mono (by omega)⟩
 ·exact ⟨h.l.mono (by omega),h.r.dQ hc b⟩
theorem Pr.Ok.take {N:Nat} {P:Pr} (h:P.Ok N) (s:Nat) {c:Nat} (hc:c < 2):(P.take s c).Ok (N+1):=by
 unfold Pr.take
 split
 ·exact ⟨h.l.take hc,h.r.mono (by omega)⟩
 ·exact ⟨h.l.mono (by omega),h.r.take hc⟩
theorem Pr.Ok.act {N:Nat} {P:Pr} (h:P.Ok N) (e:Nat):(P.act e).Ok (N+65):=by
 unfold Pr.act
 split
 ·exact h.dQ _ (Nat.mod_lt _ (by decide)) _
 ·split
  ·exact (h.take _ (Nat.mod_lt _ (by decide))).mono (by omega)
  ·exact h.mono (by omega)
end

section
structure Flow0 (D tm wd cl : Nat) (R A K P T W : Nat → Nat) (s l w fr re : Nat → Nat → Nat) (base room : Nat → Nat) : Prop where
  tm1 : 1 ≤ tm
  wd1 : 1 ≤ wd
  mono : ∀ n, R n ≤ R (n + 1)
  ack : ∀ n, R (n + 1) ≤ A (n + D + 1)
  low : ∀ n, A n ≤ R n
  up : ∀ n, A n ≤ A (n + 1) ∧ A (n + 1) ≤ A n + K n
  pos : ∀ n, P n ≤ K n
  tim : ∀ n, T n ≤ tm
  step : ∀ n, ∃ ch k1 p1 t1, k1 = K n - (A (n + 1) - A n) ∧ p1 = P n - (A (n + 1) - A n) ∧ ((A (n + 1) = A n → t1 = T n) ∧ (A (n + 1) ≠ A n → t1 = 0)) ∧ K (n + 1) = k1 + ch ∧ W (n + 1) + ch = W n ∧
    (ch = 0 ∧ (wd ≤ k1 ∨ ∀ c, c < cl → w n c = 0 ∨ l (n + 1) c ≤ s n c) ∧ (∀ c, s (n + 1) c = s n c) ∨ ch = 1) ∧
    ((K (n + 1) = 0 ∧ P (n + 1) = p1 ∧ T (n + 1) = t1 ∧ R (n + D + 1) = R (n + D)) ∨
     (0 < K (n + 1) ∧ K (n + 1) ≤ p1 ∧ t1 + 1 < tm ∧ P (n + 1) = p1 ∧ T (n + 1) = t1 + 1 ∧ R (n + D + 1) = R (n + D)) ∨
     (0 < K (n + 1) ∧ K (n + 1) ≤ p1 ∧ tm ≤ t1 + 1 ∧ P (n + 1) = 1 ∧ T (n + 1) = 0 ∧ (R (n + D + 1) = R (n + D) + 1 ∧ A (n + 1) = R (n + D) ∨ R (n + D + 1) = R (n + D) ∧ A (n + 1) ≠ R (n + D))) ∨
     (p1 < K (n + 1) ∧ P (n + 1) = p1 + 1 ∧ T (n + 1) = 0 ∧ (R (n + D + 1) = R (n + D) + 1 ∧ A (n + 1) + p1 = R (n + D) ∨ R (n + D + 1) = R (n + D) ∧ A (n + 1) + p1 ≠ R (n + D))))
  wait : ∀ n, 0 < W n → ∃ c, c < cl ∧ 0 < w n c
  crd : ∀ n c, c < cl → room c + fr n c ≤ base c + l (n + D + 1) c
  rm : ∀ c, c < cl → 1 ≤ room c
  got : ∀ n c, c < cl → R n = A n + K n → re n c = base c + s n c
  top : ∀ n, R n ≤ A n + K n
structure Flow (D x tm wd cl:Nat) (R A K P T W:Nat->Nat) (s l w fr re:Nat->Nat->Nat) (base room:Nat->Nat):Prop extends Flow0 D tm wd cl R A K P T W s l w fr re base room where
 drain:∀n c,c < cl->R (n+x)=R n->fr (n+x) c=re (n+x) c
section
variable {D x tm wd cl:Nat} {R A K P T W:Nat->Nat} {s l w fr re:Nat->Nat->Nat} {base room:Nat->Nat}
theorem Flow0.le (h : Flow0 D tm wd cl R A K P T W s l w fr re base room) {n m : Nat} (hm : n ≤ m) : R n ≤ R m := by
  induction m with
  | zero => have : n = 0 := by omega
            rw [this]; exact Nat.le_refl _
  | succ m ih =>
    rcases Nat.lt_or_ge n (m + 1) with h1 | h1
    · exact Nat.le_trans (ih (by omega)) (h.mono m)
    · have : n = m + 1 := by omega
      rw [this]; exact Nat.le_refl _
theorem Flow0.sum (h:Flow0 D tm wd cl R A K P T W s l w fr re base room) (n:Nat):A n+K n+W n=A 0+K 0+W 0:=by
 induction n with
 |zero=>rfl
 |succ n ih=>
  obtain ⟨ch,k1,p1,t1,e1,e2,-,e4,e5,-⟩:=h.step n
  have:=h.up n
  omega
theorem Flow0.hmono (h : Flow0 D tm wd cl R A K P T W s l w fr re base room) {n m : Nat} (hm : n ≤ m) : A n + K n ≤ A m + K m := by
  induction m with
  | zero => have : n = 0 := by omega
            rw [this]; exact Nat.le_refl _
  | succ m ih =>
    rcases Nat.lt_or_ge n (m + 1) with h1 | h1
    · have := ih (by omega)
      obtain ⟨ch, k1, p1, t1, e1, e2, -, e4, e5, -⟩ := h.step m
      have := h.up m
      omega
    · have : n = m + 1 := by omega
      rw [this]; exact Nat.le_refl _
def Sync (D:Nat) (R A P:Nat->Nat) (n:Nat):Prop:=A n+P n<=R (n+D)
theorem Flow0.sync_next (h:Flow0 D tm wd cl R A K P T W s l w fr re base room) {n:Nat} (hs:Sync D R A P n):Sync D R A P (n+1):=by
 obtain ⟨ch,k1,p1,t1,e1,e2,-,e4,e5,-,e7⟩:=h.step n
 have h1:=h.up n;have h2:=h.low (n+1);have h3:=h.le (show n+1<=n+D+1 by omega);have h4:=h.mono (n+D);have h5:=h.pos n
 have h6:=h.ack n
 unfold Sync at *
 rw [show n+1+D=n+D+1 by omega]
 have hlow:A (n+1)<=R (n+D)\/D=0:=by
  rcases Nat.eq_zero_or_pos D with hd|hd
  ·exact .inr hd
  ·exact .inl (Nat.le_trans h2 (h.le (by omega)))
 rcases e7 with ⟨_,q1,_,q3⟩|⟨_,_,_,q1,_,q3⟩|⟨_,_,_,q1,_,q3⟩|⟨_,q1,_,q3⟩
 ·omega
 ·omega
 ·omega
 ·omega
theorem Flow0.sync_on (h : Flow0 D tm wd cl R A K P T W s l w fr re base room) {n m : Nat} (hm : n ≤ m) (hs : Sync D R A P n) : Sync D R A P m := by
  induction m with
  | zero => have : n = 0 := by omega
            rwa [← this]
  | succ m ih =>
    rcases Nat.lt_or_ge n (m + 1) with h1 | h1
    · exact h.sync_next (ih (by omega))
    · have : n = m + 1 := by omega
      rwa [← this]
theorem Flow0.amono (h:Flow0 D tm wd cl R A K P T W s l w fr re base room) (n:Nat):A 0<=A n:=by
 induction n with
 |zero=>exact Nat.le_refl _
 |succ n ih=>exact Nat.le_trans ih (h.up n).1
theorem Flow0.sync_soon (h:Flow0 D tm wd cl R A K P T W s l w fr re base room) (hD:1<=D):∃n,n<=2*D+(K 0+W 0+1)*(tm+1)/\Sync D R A P n:=by
 apply Classical.byContradiction
 intro hno
 have hns:∀n,n<=2*D+(K 0+W 0+1)*(tm+1)->R (n+D) < A n+P n:=fun n hn=>Nat.lt_of_not_le fun hs=>hno ⟨n,hn,hs⟩
 have hR:∀n,n<=2*D+(K 0+W 0+1)*(tm+1)->R (n+D)=R D:=fun n=>by
  induction n with
  |zero=>intro _;rw [Nat.zero_add]
  |succ n ih=>
   intro hn
   have i1:=ih (by omega)
   have i2:=hns n (by omega)
   have i3:=hns (n+1) hn
   obtain ⟨ch,k1,p1,t1,e1,e2,-,e4,e5,-,e7⟩:=h.step n
   have h1:=h.up n;have h2:=h.low (n+1);have h3:=h.le (show n+1<=n+D by omega)
   rw [show n+1+D=n+D+1 by omega] at i3 ⊢
   rcases e7 with ⟨_,q1,_,q3⟩|⟨_,_,_,q1,_,q3⟩|⟨_,_,_,q1,_,q3⟩|⟨_,q1,_,q3⟩
   ·omega
   ·omega
   ·omega
   ·omega
 have hA:∀n,2*D<=n->n<=2*D+(K 0+W 0+1)*(tm+1)->A n=R D:=fun n h1 h2=>by
  have g1:=h.low n
  have g2:=h.le (show n<=n+D by omega)
  have g3:=hR n h2
  obtain ⟨j,rfl⟩:∃j,n=j+D+1:=⟨n - D - 1,by omega⟩
  have g4:=h.ack j
  have g5:=h.le (show D<=j+1 by omega)
  omega
 have key:∀j,j<=(K 0+W 0+1)*(tm+1)->(K 0+W 0 - P (2*D+j))*(tm+1)+(tm - T (2*D+j))+j<=(K 0+W 0)*(tm+1)+tm:=fun j=>by
  induction j with
  |zero=>
   intro _
   rw [Nat.add_zero,Nat.add_zero]
   exact Nat.add_le_add (Nat.mul_le_mul_right _ (Nat.sub_le _ _)) (Nat.sub_le _ _)
  |succ j ih=>
   intro hj
   have i1:=ih (by omega)
   have a1:=hA (2*D+j) (by omega) (by omega)
   have a2:=hA (2*D+j+1) (by omega) (by omega)
   have b1:=hns (2*D+j) (by omega)
   have b2:=hns (2*D+j+1) (by omega)
   have r1:=hR (2*D+j) (by omega)
   have r2:=hR (2*D+j+1) (by omega)
   obtain ⟨ch,k1,p1,t1,e1,e2,E3,e4,e5,-,e7⟩:=h.step (2*D+j)
   have e3:=E3.1 (by clear E3 e7;omega)
   clear E3
   have u1:=h.tim (2*D+j)
   have u2:=h.tim (2*D+j+1)
   have u3:=h.sum (2*D+j+1)
   have u4:=h.pos (2*D+j+1)
   rw [show 2*D+(j+1)=2*D+j+1 by omega]
   have hp:p1=P (2*D+j):=by omega
   rcases e7 with ⟨_,q1,_,q3⟩|⟨q0,q1,q2,q3,q4,q5⟩|⟨_,_,_,q1,_,q3⟩|⟨q0,q1,q2,q3⟩
   ·omega
   ·rw [q3,q4,hp];omega
   ·rw [show 2*D+j+1+D=2*D+j+D+1 by omega] at b2 r2
    omega
   ·have hlt:P (2*D+j)+1<=K 0+W 0:=by have:=h.amono (2*D+j+1);omega
    rw [q1,hp,q2]
    obtain ⟨d,hd⟩:∃d,K 0+W 0=P (2*D+j)+1+d:=⟨_,(Nat.add_sub_cancel' hlt).symm⟩
    rw [hd] at i1 ⊢
    rw [show P (2*D+j)+1+d - P (2*D+j)=d+1 by omega,Nat.add_mul] at i1
    rw [show P (2*D+j)+1+d - (P (2*D+j)+1)=d by omega]
    omega
 have:=key ((K 0+W 0+1)*(tm+1)) (Nat.le_refl _)
 rw [Nat.add_mul] at this
 omega
theorem Flow0.goes (h:Flow0 D tm wd cl R A K P T W s l w fr re base room) (hD:1<=D) {n m:Nat} (hs:Sync D R A P n) (hm:m<=R (n+D)) (hH:m+1<=A n+K n):m+1<=R (n+3*D+1):=by
 apply Classical.byContradiction
 intro hno
 have hc:∀j,n+D<=j->j<=n+3*D+1->R j=m:=fun j h1 h2=>by
  have:=h.le h1
  have:=h.le h2
  omega
 have hs2:=h.sync_on (show n<=n+2*D by omega) hs
 have hs3:=h.sync_on (show n<=n+2*D+1 by omega) hs
 unfold Sync at hs2 hs3
 rw [hc _ (by omega) (by omega)] at hs2 hs3
 have ha:m<=A (n+2*D):=by
  have:=h.ack (n+D - 1)
  rw [show n+D - 1+1=n+D by omega,show n+D - 1+D+1=n+2*D by omega,hc _ (by omega) (by omega)] at this
  exact this
 have hh:=h.hmono (show n<=n+2*D+1 by omega)
 obtain ⟨ch,k1,p1,t1,e1,e2,-,e4,e5,-,e7⟩:=h.step (n+2*D)
 have h1:=h.up (n+2*D)
 have hR1:=hc (n+2*D+D+1) (by omega) (by omega)
 have hR2:=hc (n+2*D+D) (by omega) (by omega)
 rw [hR1,hR2] at e7
 rcases e7 with ⟨q0,q1,_,q3⟩|⟨q0,q1,q2,q3,q4,q5⟩|⟨_,_,_,q1,_,q3⟩|⟨q0,q1,q2,q3⟩
 ·omega
 ·omega
 ·omega
 ·omega
theorem Flow.chosen (h:Flow D x tm wd cl R A K P T W s l w fr re base room) (hD:1<=D) {n m:Nat} (hH:A n+K n=m) (hm:m<=R n) (hW:0 < W n):m+1<=A (n+x+D+1)+K (n+x+D+1):=by
 apply Classical.byContradiction
 intro hno
 have hHc:∀j,n<=j->j<=n+x+D+1->A j+K j=m:=fun j h1 h2=>by
  have:=h.hmono h1
  have:=h.hmono h2
  omega
 have hRc:∀j,n<=j->j<=n+x+D+1->R j=m:=fun j h1 h2=>by
  have:=h.le h1
  have:=h.top j
  have:=hHc j h1 h2
  omega
 have hWc:∀j,n<=j->j<=n+x+D+1->0 < W j:=fun j h1 h2=>by
  have:=h.sum j;have:=h.sum n
  have:=hHc j h1 h2
  omega
 have hsc:∀i,i<=x+D->∀c,s (n+i) c=s n c:=fun i=>by
  induction i with
  |zero=>intro _ c;rfl
  |succ i ih=>
   intro hi c
   obtain ⟨ch,k1,p1,t1,e1,e2,-,e4,e5,e6,-⟩:=h.step (n+i)
   have g1:=hHc (n+i) (by omega) (by omega)
   have g2:=hHc (n+i+1) (by omega) (by omega)
   have g3:=h.up (n+i)
   rcases e6 with ⟨_,_,e6⟩|e6
   ·rw [<-Nat.add_assoc,e6 c];exact ih (by omega) c
   ·omega
 obtain ⟨ch,k1,p1,t1,e1,e2,-,e4,e5,e6,-⟩:=h.step (n+x+D)
 have g1:=hHc (n+x+D) (by omega) (by omega)
 have g2:=hHc (n+x+D+1) (by omega) (by omega)
 have g3:=h.up (n+x+D)
 have g4:=h.ack (n+x)
 rw [hRc (n+x+1) (by omega) (by omega)] at g4
 rcases e6 with ⟨_,e6|e6,_⟩|e6
 ·have:=h.wd1
  omega
 ·obtain ⟨c,hc,hwc⟩:=h.wait (n+x+D) (hWc (n+x+D) (by omega) (by omega))
  have e6:=(e6 c hc).resolve_left (by omega)
  have d1:=h.drain n c hc (by rw [hRc (n+x) (by omega) (by omega),hRc n (by omega) (by omega)])
  have d2:=h.got (n+x) c hc (by rw [hRc (n+x) (by omega) (by omega),hHc (n+x) (by omega) (by omega)])
  have d3:=h.crd (n+x) c hc
  have d4:=h.rm c hc
  have d5:=hsc x (by omega) c
  have d6:=hsc (x+D) (by omega) c
  rw [<-Nat.add_assoc] at d6
  omega
 ·omega
theorem Flow.next (h:Flow D x tm wd cl R A K P T W s l w fr re base room) (hD:1<=D) {n m:Nat} (hs:Sync D R A P n) (hm:m<=R n) (hM:m+1<=A 0+K 0+W 0):m+1<=R (n+x+4*D+2):=by
 have h0:=h.top n
 have hsum:=h.sum n
 rcases Nat.lt_or_ge m (R n) with h1|h1
 ·exact Nat.le_trans h1 (h.le (by omega))
 ·rcases Nat.lt_or_ge m (A n+K n) with h2|h2
  ·exact Nat.le_trans (h.goes hD hs (Nat.le_trans hm (h.le (by omega))) h2) (h.le (by omega))
  ·have h3:=h.chosen hD (n:=n) (m:=m) (by omega) hm (by omega)
   have h4:=h.goes hD (n:=n+x+D+1) (m:=m) (h.sync_on (by omega) hs) (Nat.le_trans hm (h.le (by omega))) h3
   exact Nat.le_trans h4 (h.le (by omega))
theorem Flow.each (h:Flow D x tm wd cl R A K P T W s l w fr re base room) (hD:1<=D) {n:Nat} (hs:Sync D R A P n):∀m,m<=K 0+W 0->A 0+m<=R (n+m*(x+4*D+2))
 |0,_=>Nat.le_trans (h.amono n) (Nat.le_trans (h.low n) (h.le (by omega)))
 |m+1,hm=>by
  have ih:=h.each hD hs m (by omega)
  have:=h.next hD (n:=n+m*(x+4*D+2)) (m:=A 0+m) (h.sync_on (by omega) hs) ih (by omega)
  refine Nat.le_trans this (h.le ?_)
  rw [Nat.add_mul]
  omega
theorem Flow.done_from (h:Flow D x tm wd cl R A K P T W s l w fr re base room) (hD:1<=D) {n0 n:Nat} (hs:Sync D R A P n0) (hn:n0+(K 0+W 0)*(x+4*D+2)+D+x+1<=n) :
  R n=A 0+K 0+W 0/\A n=A 0+K 0+W 0/\K n=0/\W n=0/\∀c,c < cl->fr n c=re n c:=by
 have h1:=h.each hD hs _ (Nat.le_refl _)
 have hsum:=h.sum n
 have htop:=h.top n
 obtain ⟨j,rfl⟩:∃j,n=j+1+D+x:=⟨n - D - x - 1,by omega⟩
 have h2:A 0+(K 0+W 0)<=R (j+1):=Nat.le_trans h1 (h.le (by omega))
 have hj:=h.top (j+1)
 have hjs:=h.sum (j+1)
 have h3:=h.le (show j+1<=j+1+D+x by omega)
 have h4:A 0+K 0+W 0<=A (j+1+D+x):=by
  have hm:∀i,A (j+1+D)<=A (j+1+D+i):=fun i=>by
   induction i with
   |zero=>exact Nat.le_refl _
   |succ i ih=>exact Nat.le_trans ih (h.up _).1
  have a1:=hm x
  have a2:=h.ack j
  rw [show j+D+1=j+1+D by omega] at a2
  omega
 have h5:=h.low (j+1+D+x)
 refine ⟨by omega,by omega,by omega,by omega,fun c hc=>h.drain (j+1+D) c hc ?_⟩
 have h6:=h.le (show j+1<=j+1+D by omega)
 have h7:=h.top (j+1+D)
 have h8:=h.sum (j+1+D)
 omega
theorem Flow.done (h:Flow D x tm wd cl R A K P T W s l w fr re base room) (hD:1<=D) {n:Nat} (hn:2*D+(K 0+W 0+1)*(tm+1)+(K 0+W 0)*(x+4*D+2)+D+x+1<=n) :
  R n=A 0+K 0+W 0/\A n=A 0+K 0+W 0/\K n=0/\W n=0/\∀c,c < cl->fr n c=re n c:=by
 obtain ⟨n0,h0,hs⟩:=h.sync_soon hD
 exact h.done_from hD hs (by omega)
end
end

section
def upB (i v r:Nat) (l:Nat->Int) (k:Nat) (ds:List Pt):List Pt:=
 (⟨1#8,0,(i:Int),(v:Int),[]⟩:Pt)::⟨3#8,0,((r % 256:Nat):Int),(i:Int),[]⟩::((List.range k).map fun (c:Nat)=>(⟨4#8,(c:Int),l c,(i:Int),[]⟩:Pt))++ds
theorem handle_hail {a:Prt} {i v:Nat} (hm:a.cS.mine=a.inc) (h1:1<=i) (h2:i<=1099511627775) (hs:a.cS.seen<=i) (hp:a.cM=i) :
  a.cU ⟨1#8,0,(i:Int),(v:Int),[]⟩={ a with cS:={ a.cS with seen:=i,silent:=0,cM:=i,state:=if v=a.inc then 2 else 1 } }:=by
 have e:a.cS.cO (i:Int) (v:Int)={ a.cS with seen:=i,silent:=0,cM:=i,state:=if v=a.inc then 2 else 1 }:=by
  unfold Side.cO
  have e3:(if (v:Int)=(a.cS.mine:Int) then 2 else 1)=if v=a.inc then 2 else 1:=by
   rw [hm]
   by_cases hv:v=a.inc
   ·rw [if_pos hv,if_pos (by rw [hv])]
   ·rw [if_neg hv,if_neg (by omega)]
  rw [if_neg (by omega),Int.toNat_natCast,e3]
 unfold Prt.cU
 rw [if_pos rfl]
 unfold Prt.greet
 dsimp only
 rw [e]
 exact if_neg fun h=>h.2 hp.symm
theorem handle_up {a:Prt} {i:Nat} (hs:a.cS.state=2) (hp:a.cS.cM=i) (hi:1<=i) (k:BitVec 8) (hk:¬k=1#8) (c n:Int) (d:dV) :
  a.cU ⟨k,c,n,(i:Int),d⟩=if k=2#8 then a.cO ⟨k,c,n,(i:Int),d⟩ else if k=3#8 then a.bQ ⟨k,c,n,(i:Int),d⟩ else if k=4#8 then a.raise ⟨k,c,n,(i:Int),d⟩ else a:=by
 unfold Prt.cU
 rw [if_neg hk,if_neg]
 exact fun h=>h ⟨hs,by omega,by show (a.cS.cM:Int)=(i:Int);rw [hp]⟩
theorem handle_creds {i:Nat} (hi:1<=i) (l:Nat->Int) {a:Prt} (hs:a.cS.state=2) (hp:a.cS.cM=i) (hl:a.tak.length=a.aZ.length):∀k,
  ∃tk:List Tak,((List.range k).map fun (c:Nat)=>(⟨4#8,(c:Int),l c,(i:Int),[]⟩:Pt)).foldl Prt.cU a={ a with tak:=tk }/\tk.length=a.tak.length/\∀c,tk.getD c ⟨0,0⟩=if c < k/\c < a.aZ.length then (a.tk c).raise (l c) else a.tk c
 |0=>⟨a.tak,rfl,rfl,fun c=>by rw [if_neg fun h=>Nat.not_lt_zero c h.1]⟩
 |k+1=>by
  obtain ⟨tk,e,h1,h2⟩:=handle_creds hi l hs hp hl k
  by_cases hk:k < a.aZ.length
  ·refine ⟨tk.set k ((a.tk k).raise (l k)),?_,by simp [h1],fun c=>?_⟩
   ·rw [List.range_succ,List.map_append,List.foldl_append,e]
    show Prt.cU { a with tak:=tk } ⟨4#8,(k:Int),l k,(i:Int),[]⟩=_
    rw [handle_up (a:={ a with tak:=tk }) hs hp hi _ kk41,if_neg kk42,if_neg kk43,if_pos rfl]
    unfold Prt.raise
    rw [if_pos (show Prt.has { a with tak:=tk } (k:Int) from (show 0<=(k:Int)/\(k:Int) < (a.aZ.length:Int) by omega))]
    dsimp only
    rw [Int.toNat_natCast,h2 k,if_neg fun h=>Nat.lt_irrefl k h.1]
   ·rw [getD_set _ _ _ _ _ (by omega),h2 c]
    by_cases e:k=c
    ·subst e;rw [if_pos rfl,if_pos ⟨by omega,hk⟩]
    ·rw [if_neg e]
     by_cases h:c < k/\c < a.aZ.length
     ·rw [if_pos h,if_pos ⟨by omega,h.2⟩]
     ·rw [if_neg h,if_neg fun h'=>h ⟨by omega,h'.2⟩]
  ·refine ⟨tk,?_,h1,fun c=>?_⟩
   ·rw [List.range_succ,List.map_append,List.foldl_append,e]
    show Prt.cU { a with tak:=tk } ⟨4#8,(k:Int),l k,(i:Int),[]⟩=_
    rw [handle_up (a:={ a with tak:=tk }) hs hp hi _ kk41,if_neg kk42,if_neg kk43,if_pos rfl]
    unfold Prt.raise
    rw [if_neg (show ¬Prt.has { a with tak:=tk } (k:Int) from fun h=>hk (by have h:0<=(k:Int)/\(k:Int) < (a.aZ.length:Int):=h;omega))]
   ·rw [h2 c]
    by_cases h:c < k/\c < a.aZ.length
    ·rw [if_pos h,if_pos ⟨by omega,h.2⟩]
    ·rw [if_neg h,if_neg fun h'=>h ⟨by omega,h'.2⟩]
theorem receive_upd (a:Prt) (sd:Side) (s:Snd) (ak:List Nat) (kp:List (Nat × dV)) (tk:List Tak) (y:Pt) :
  ({ a with cS:=sd,snd:=s,aG:=ak,cT:=kp,tak:=tk }:Prt).cO y={ a.cO y with cS:=sd,snd:=s,aG:=ak,cT:=kp,tak:=tk }:=by
 unfold Prt.cO
 by_cases h:¬a.has y.cls\/y.number≠(a.rcv % 256:Nat)
 ·rw [if_pos h,if_pos (show ¬Prt.has { a with cS:=sd,snd:=s,aG:=ak,cT:=kp,tak:=tk } y.cls\/_ from h)]
 ·rw [if_neg h,if_neg (show ¬(¬Prt.has { a with cS:=sd,snd:=s,aG:=ak,cT:=kp,tak:=tk } y.cls\/_) from h)]
  dsimp only
  split <;> rfl
def Prt.recvs (a:Prt) (ds:List Pt):Prt:=ds.foldl Prt.cO a
def IsData (i:Nat) (ds:List Pt):Prop:=ds=[]\/∃c n d,ds=[⟨2#8,c,n,(i:Int),d⟩]
theorem foldl_upB {N:Nat} {a:Prt} (ok:a.Ok N) (hm:a.Min) {i r k:Nat} {l:Nat->Int} {ds:List Pt} (h1:1<=i) (h2:i<=1099511627775) (hs:a.cS.seen<=i) (hp:a.cM=i)
  (hr:a.snd.aG<=r) (hr2:r<=a.snd.aG+a.snd.cP) (hd:IsData i ds) :
  ∃tk ak,tk.length=a.tak.length/\(∀c,tk.getD c ⟨0,0⟩=if c < k/\c < a.aZ.length then (a.tk c).raise (l c) else a.tk c) /\
   (upB i a.inc r l k ds).foldl Prt.cU a={ a.recvs ds with cS:={ a.cS with seen:=i,silent:=0,cM:=i,state:=2 },snd:=a.snd.drop (r - a.snd.aG),aG:=ak,cT:=a.cT.drop (r - a.snd.aG),tak:=tk }:=by
 obtain ⟨sd,hsd⟩:∃sd:Side,sd={ a.cS with seen:=i,silent:=0,cM:=i,state:=2 }:=⟨_,rfl⟩
 have e1:a.cU ⟨1#8,0,(i:Int),(a.inc:Int),[]⟩={ a with cS:=sd }:=by
  rw [handle_hail hm h1 h2 hs hp,if_pos rfl,hsd]
 have s2:sd.state=2:=by rw [hsd]
 have s3:sd.cM=i:=by rw [hsd]
 have e2:Prt.cU { a with cS:=sd } ⟨3#8,0,((r % 256:Nat):Int),(i:Int),[]⟩={ a with cS:=sd,snd:=a.snd.drop (r - a.snd.aG),aG:=tally a.aG (a.cT.take (r - a.snd.aG)),cT:=a.cT.drop (r - a.snd.aG) }:=by
  rw [handle_up (a:={ a with cS:=sd }) s2 s3 h1 _ kk31,if_neg kk32,if_pos rfl]
  exact (ack_exact (a:={ a with cS:=sd }) (y:=⟨3#8,0,((r % 256:Nat):Int),(i:Int),[]⟩) ok.snd hr hr2 rfl).1
 obtain ⟨tk,e3,h3,h4⟩:=handle_creds h1 l (a:={ a with cS:=sd,snd:=a.snd.drop (r - a.snd.aG),aG:=tally a.aG (a.cT.take (r - a.snd.aG)),cT:=a.cT.drop (r - a.snd.aG) }) s2 s3 ok.tl k
 refine ⟨tk,tally a.aG (a.cT.take (r - a.snd.aG)),h3,h4,?_⟩
 show (((List.range k).map fun (c:Nat)=>(⟨4#8,(c:Int),l c,(i:Int),[]⟩:Pt))++ds).foldl Prt.cU (Prt.cU (a.cU ⟨1#8,0,(i:Int),(a.inc:Int),[]⟩) ⟨3#8,0,((r % 256:Nat):Int),(i:Int),[]⟩)=_
 rw [e1,e2,List.foldl_append,e3]
 rcases hd with rfl|⟨c,n,d,rfl⟩
 ·rw [hsd];rfl
 ·show Prt.cU { a with cS:=sd,snd:=a.snd.drop (r - a.snd.aG),aG:=tally a.aG (a.cT.take (r - a.snd.aG)),cT:=a.cT.drop (r - a.snd.aG),tak:=tk } ⟨2#8,c,n,(i:Int),d⟩=_
  rw [handle_up (a:={ a with cS:=sd,snd:=a.snd.drop (r - a.snd.aG),aG:=tally a.aG (a.cT.take (r - a.snd.aG)),cT:=a.cT.drop (r - a.snd.aG),tak:=tk }) s2 s3 h1 _ kk21,if_pos rfl,receive_upd,hsd]
  rfl
theorem receive_same (a:Prt) (y:Pt):(a.cO y).inc=a.inc/\(a.cO y).aZ=a.aZ/\(a.cO y).cA=a.cA/\(a.cO y).aN=a.aN/\(a.cO y).cM=a.cM/\(a.cO y).base=a.base/\(a.cO y).cF=a.cF/\(a.cO y).aX=a.aX/\(a.cO y).arb=a.arb/\(a.cO y).dead=a.dead:=by
 unfold Prt.cO
 split
 ·exact ⟨rfl,rfl,rfl,rfl,rfl,rfl,rfl,rfl,rfl,rfl⟩
 ·dsimp only;split <;> exact ⟨rfl,rfl,rfl,rfl,rfl,rfl,rfl,rfl,rfl,rfl⟩
theorem recvs_same {i:Nat} {ds:List Pt} (h:IsData i ds) (a:Prt):(a.recvs ds).inc=a.inc/\(a.recvs ds).aZ=a.aZ/\(a.recvs ds).cA=a.cA/\(a.recvs ds).aN=a.aN/\(a.recvs ds).cM=a.cM/\(a.recvs ds).base=a.base/\(a.recvs ds).cF=a.cF/\(a.recvs ds).aX=a.aX/\(a.recvs ds).arb=a.arb/\(a.recvs ds).dead=a.dead:=by
 rcases h with rfl|⟨c,n,d,rfl⟩
 ·exact ⟨rfl,rfl,rfl,rfl,rfl,rfl,rfl,rfl,rfl,rfl⟩
 ·exact receive_same _ _
theorem firstReq_none {req:List Bool} {ptr n:Nat}:∀ {k i:Nat},firstReq req ptr n i k=none->∀j,i<=j->j < i+k->req.getD ((ptr+j) % n) false=false
 |0,i,_,j,h1,h2=>by omega
 |k+1,i,h,j,h1,h2=>by
  unfold firstReq at h
  split at h
  ·cases h
  ·rename_i hr
   by_cases e:j=i
   ·subst e;simpa using hr
   ·exact firstReq_none h j (by omega) (by omega)
theorem choice_none {arb:Arb} {req:List Bool} (ok:arb.Ok req.length) (h:arb.choice req=none) {c:Nat} (hc:c < req.length):req.getD c false=false:=by
 have hp:=ok.ptr
 have key:=firstReq_none h
 rcases Nat.lt_or_ge c arb.ptr with h1|h1
 ·have:=key (c+req.length - arb.ptr) (Nat.zero_le _) (by omega)
  rwa [show arb.ptr+(c+req.length - arb.ptr)=c+req.length by omega,Nat.add_mod_right,Nat.mod_eq_of_lt hc] at this
 ·have:=key (c - arb.ptr) (Nat.zero_le _) (by omega)
  rwa [show arb.ptr+(c - arb.ptr)=c by omega,Nat.mod_eq_of_lt hc] at this
theorem Prt.choose_all {N:Nat} {a:Prt} (h:a.Ok N):(∃r,a.choose={ a with arb:=r }/\(a.cA<=a.snd.cT.length\/∀c,c < a.aZ.length->a.aX.getD c []=[]\/(a.tk c).cE<=(a.tk c).cP)) \/
  ∃(c:Nat) (d:dV) (l:List dV) (r:Arb),c < a.aZ.length/\a.aX.getD c []=d::l/\a.snd.cT.length < a.cA /\
   a.choose={ a with arb:=r,aX:=a.aX.set c l,tak:=a.tak.set c { a.tk c with cP:=(a.tk c).cP+1 },snd:={ a.snd with cT:=a.snd.cT++[d] },cT:=a.cT++[(c,d)] }:=by
 by_cases hw:a.cA<=a.snd.cT.length
 ·refine .inl ⟨a.arb,?_,.inl hw⟩
  unfold Prt.choose
  rw [if_pos hw]
 ·rcases Prt.choose_eq h with ⟨r,e⟩|⟨c,d,l,r,h1,h2,h3,h4,e⟩
  ·cases hp:(a.arb.pick a.bK).1 with
   |none=>
    refine .inl ⟨r,e,.inr fun c hc=>?_⟩
    have hl:a.bK.length=a.aZ.length:=by unfold Prt.bK;simp [h.wl]
    have:=choice_none (req:=a.bK) (by rw [hl];exact h.arb) hp (c:=c) (by rw [hl];exact hc)
    unfold Prt.bK at this
    rw [List.getD,List.getElem?_map,List.getElem?_range (by rw [h.wl];exact hc)] at this
    have this:(decide (0 < (a.aX.getD c []).length) && decide ((a.tak.getD c ⟨0,0⟩).cP < (a.tak.getD c ⟨0,0⟩).cE))=false:=this
    rw [Bool.and_eq_false_iff] at this
    rcases this with h1|h1
    ·have h1:=of_decide_eq_false h1
     exact .inl (List.eq_nil_of_length_eq_zero (by omega))
    ·have h1:=of_decide_eq_false h1
     exact .inr (Nat.le_of_not_lt h1)
   |some c=>
    exfalso
    have e2:a.choose.cT=a.cT:=by rw [e]
    unfold Prt.choose at e2
    rw [if_neg hw,hp] at e2
    have:=congrArg List.length e2
    simp at this
  ·exact .inr ⟨c,d,l,r,h1,h2,h4,e⟩
structure Turn (a q : Prt) (i r k : Nat) (l : Nat → Int) (ds ds' : List Pt) : Prop where
  cS : q.cS = { a.cS with seen := i, silent := 1, cM := i, state := 2 }
  inc : q.inc = a.inc
  aZ : q.aZ = a.aZ
  cA : q.cA = a.cA
  aN : q.aN = a.aN
  dead : q.dead = a.dead
  cM : q.cM = a.cM
  base : q.base = a.base
  cF : q.cF = a.cF
  rcv : q.rcv = (a.recvs ds).rcv
  giv : q.giv = (a.recvs ds).giv
  aY : q.aY = (a.recvs ds).aY
  send : ∃ (ch : Hist) (tk : List Tak), tk.length = a.tak.length ∧ (∀ c, tk.getD c ⟨0, 0⟩ = if c < k ∧ c < a.aZ.length then (a.tk c).raise (l c) else a.tk c) ∧
    q.cT = a.cT.drop (r - a.snd.aG) ++ ch ∧
    q.snd = ({ a.snd.drop (r - a.snd.aG) with cT := (a.snd.drop (r - a.snd.aG)).cT ++ ch.map (·.2) } : Snd).cR.2 ∧
    (({ a.snd.drop (r - a.snd.aG) with cT := (a.snd.drop (r - a.snd.aG)).cT ++ ch.map (·.2) } : Snd).cR.1 = none ∧ ds' = [] ∨
      ∃ (n : Nat) (d : dV) (c : Nat), ({ a.snd.drop (r - a.snd.aG) with cT := (a.snd.drop (r - a.snd.aG)).cT ++ ch.map (·.2) } : Snd).cR.1 = some (n, d) ∧ ds' = [⟨2#8, (c : Int), (n : Int), (a.inc : Int), d⟩]) ∧
    ((ch = [] ∧ q.aX = a.aX ∧ q.tak = tk ∧ (a.cA ≤ (a.snd.drop (r - a.snd.aG)).cT.length ∨ ∀ c, c < a.aZ.length → a.aX.getD c [] = [] ∨ (tk.getD c ⟨0, 0⟩).cE ≤ (tk.getD c ⟨0, 0⟩).cP)) ∨
     ∃ (c : Nat) (d : dV) (w : List dV), ch = [(c, d)] ∧ c < a.aZ.length ∧ a.aX.getD c [] = d :: w ∧ q.aX = a.aX.set c w ∧ q.tak = tk.set c { tk.getD c ⟨0, 0⟩ with cP := (tk.getD c ⟨0, 0⟩).cP + 1 } ∧ (a.snd.drop (r - a.snd.aG)).cT.length < a.cA)
theorem tick_upB {N : Nat} {a : Prt} (ok : a.Ok N) (hm : a.Min) (hdd : 2 ≤ a.cS.dead) {i r k : Nat} {l : Nat → Int} {ds : List Pt} (h1 : 1 ≤ i) (h2 : i ≤ 1099511627775) (hs : a.cS.seen ≤ i) (hp : a.cM = i)
    (hr : a.snd.aG ≤ r) (hr2 : r ≤ a.snd.aG + a.snd.cP) (hd : IsData i ds) (hpay : ∀ y ∈ ds, y.pay.length ≤ 1000) :
    ∃ (q : Prt) (ds' : List Pt), a.cR (upB i a.inc r l k ds) = (upB a.inc i q.rcv (fun c => ((q.gv c).cE : Int) - ((q.bs c : Nat) : Int)) a.aZ.length ds', q) ∧ IsData a.inc ds' ∧ Turn a q i r k l ds ds' := by
  obtain ⟨tk, ak, t1, t2, e⟩ := foldl_upB ok hm (l := l) h1 h2 hs hp hr hr2 hd
  obtain ⟨b1, b2, b3, b4, b5, b6, b7, b8, b9, b10⟩ := recvs_same hd a
  have okA := ok.handles (upB i a.inc r l k ds) fun y hy => by
    unfold upB at hy
    rcases List.mem_cons.1 hy with rfl | hy
    · exact Nat.zero_le _
    · rcases List.mem_cons.1 hy with rfl | hy
      · exact Nat.zero_le _
      · rcases List.mem_append.1 hy with hy | hy
        · obtain ⟨c, _, rfl⟩ := List.mem_map.1 hy
          exact Nat.zero_le _
        · exact hpay y hy
  obtain ⟨a1, ha1⟩ : ∃ a1, a1 = (upB i a.inc r l k ds).foldl Prt.cU a := ⟨_, rfl⟩
  rw [← ha1] at okA e
  have hst : a1.cS.cR = { a.cS with seen := i, silent := 1, cM := i, state := 2 } := by
    rw [e]
    unfold Side.cR
    dsimp only
    rw [if_neg (by omega), if_neg (by omega)]
  have hs2 : a1.cS.cR.state = 2 := by rw [hst]
  rw [Prt.tick_up ha1 hs2]
  have ok2 : Prt.Ok (N + 200 * (upB i a.inc r l k ds).length) { a1 with cS := a1.cS.cR } := okA.sideTick
  have hch := Prt.choose_all ok2
  have q0 : a1.hail = ⟨1#8, 0, (a.inc : Int), (i : Int), []⟩ := by
    show (⟨1#8, 0, (a1.inc : Int), (a1.cS.cR.cM : Int), []⟩ : Pt) = _
    rw [hst, e]; dsimp only; rw [b1]
  have q1 : a1.ackn = ⟨3#8, 0, (((a.recvs ds).rcv % 256 : Nat) : Int), (a.inc : Int), []⟩ := by
    show (⟨3#8, 0, ((a1.rcv % 256 : Nat) : Int), (a1.inc : Int), []⟩ : Pt) = _
    rw [e]; dsimp only; rw [b1]
  have q2 : (List.range a1.base.length).map a1.cred = (List.range a.aZ.length).map fun (c : Nat) => (⟨4#8, (c : Int), (((a.recvs ds).giv.getD c ⟨0, 0, 0⟩).cE : Int) - ((a.base.getD c 0 : Nat) : Int), (a.inc : Int), []⟩ : Pt) := by
    rw [show a1.base.length = a.aZ.length by rw [e]; dsimp only; rw [b6, ok.sl]]
    refine List.map_congr_left fun c _ => ?_
    show (⟨4#8, (c : Int), ((a1.giv.getD c ⟨0, 0, 0⟩).cE : Int) - ((a1.base.getD c 0 : Nat) : Int), (a1.inc : Int), []⟩ : Pt) = _
    rw [e]; dsimp only; rw [b1, b6]
  rw [q0, q1, q2]
  have hA : a1.snd = a.snd.drop (r - a.snd.aG) ∧ a1.cT = a.cT.drop (r - a.snd.aG) ∧ a1.tak = tk ∧ a1.aX = a.aX ∧ a1.aZ = a.aZ ∧ a1.cA = a.cA ∧ a1.aN = a.aN ∧ a1.dead = a.dead ∧ a1.cM = a.cM ∧ a1.base = a.base ∧ a1.cF = a.cF ∧ a1.inc = a.inc ∧ a1.rcv = (a.recvs ds).rcv ∧ a1.giv = (a.recvs ds).giv ∧ a1.aY = (a.recvs ds).aY := by
    rw [e]; exact ⟨rfl, rfl, rfl, b8, b2, b3, b4, b10, b5, b6, b7, b1, rfl, rfl, rfl⟩
  obtain ⟨c1, c2, c3, c4, c5, c6, c7, c8, c9, c10, c11, c12, c13, c14, c15⟩ := hA
  clear e q0 q1 q2 ok2 okA
  have hq : ∃ (ch : Hist) (q : Prt), Prt.choose { a1 with cS := a1.cS.cR } = q ∧ q.cS = a1.cS.cR ∧ q.inc = a.inc ∧ q.aZ = a.aZ ∧ q.cA = a.cA ∧ q.aN = a.aN ∧ q.dead = a.dead ∧ q.cM = a.cM ∧ q.base = a.base ∧ q.cF = a.cF ∧ q.rcv = (a.recvs ds).rcv ∧ q.giv = (a.recvs ds).giv ∧ q.aY = (a.recvs ds).aY ∧
      q.cT = a.cT.drop (r - a.snd.aG) ++ ch ∧ q.snd = { a.snd.drop (r - a.snd.aG) with cT := (a.snd.drop (r - a.snd.aG)).cT ++ ch.map (·.2) } ∧
      ((ch = [] ∧ q.aX = a.aX ∧ q.tak = tk ∧ (a.cA ≤ (a.snd.drop (r - a.snd.aG)).cT.length ∨ ∀ c, c < a.aZ.length → a.aX.getD c [] = [] ∨ (tk.getD c ⟨0, 0⟩).cE ≤ (tk.getD c ⟨0, 0⟩).cP)) ∨
       ∃ (c : Nat) (d : dV) (w : List dV), ch = [(c, d)] ∧ c < a.aZ.length ∧ a.aX.getD c [] = d :: w ∧ q.aX = a.aX.set c w ∧ q.tak = tk.set c { tk.getD c ⟨0, 0⟩ with cP := (tk.getD c ⟨0, 0⟩).cP + 1 } ∧ (a.snd.drop (r - a.snd.aG)).cT.length < a.cA) := by
    rcases hch with ⟨rr, e, h⟩ | ⟨c, d, w, rr, g1, g2, g3, e⟩
    · refine ⟨[], _, e, rfl, c12, c5, c6, c7, c8, c9, c10, c11, c13, c14, c15, by rw [List.append_nil]; exact c2, ?_, .inl ⟨rfl, c4, c3, ?_⟩⟩
      · rw [List.map_nil, List.append_nil]; exact c1
      · have h : a1.cA ≤ a1.snd.cT.length ∨ ∀ c, c < a1.aZ.length → a1.aX.getD c [] = [] ∨ (a1.tak.getD c ⟨0, 0⟩).cE ≤ (a1.tak.getD c ⟨0, 0⟩).cP := h
        rw [c6, c1, c5, c4, c3] at h
        exact h
    · have g1 : c < a1.aZ.length := g1
      have g2 : a1.aX.getD c [] = d :: w := g2
      have g3 : a1.snd.cT.length < a1.cA := g3
      rw [c5] at g1
      rw [c4] at g2
      rw [c1, c6] at g3
      refine ⟨[(c, d)], _, e, rfl, c12, c5, c6, c7, c8, c9, c10, c11, c13, c14, c15, ?_, ?_, .inr ⟨c, d, w, rfl, g1, g2, ?_, ?_, g3⟩⟩
      · show a1.cT ++ [(c, d)] = _
        rw [c2]
      · show ({ a1.snd with cT := a1.snd.cT ++ [d] } : Snd) = _
        rw [c1]; rfl
      · show a1.aX.set c w = _
        rw [c4]
      · show a1.tak.set c { a1.tak.getD c ⟨0, 0⟩ with cP := (a1.tak.getD c ⟨0, 0⟩).cP + 1 } = _
        rw [c3]
  obtain ⟨ch, q, hq0, d1, d2, d3, d4, d5, d6, d7, d8, d9, d10, d11, d12, d13, d14, d15⟩ := hq
  rw [hq0]
  have hlim : (fun (c : Nat) => (⟨4#8, (c : Int), (((a.recvs ds).giv.getD c ⟨0, 0, 0⟩).cE : Int) - ((a.base.getD c 0 : Nat) : Int), (a.inc : Int), []⟩ : Pt)) = fun (c : Nat) => (⟨4#8, (c : Int), ((q.gv c).cE : Int) - ((q.bs c : Nat) : Int), (a.inc : Int), []⟩ : Pt) := by
    funext c
    show _ = (⟨4#8, (c : Int), ((q.giv.getD c ⟨0, 0, 0⟩).cE : Int) - ((q.base.getD c 0 : Nat) : Int), (a.inc : Int), []⟩ : Pt)
    rw [d11, d8]
  rw [hlim, ← d10]
  have mk : ∀ (s : Snd) (ds' : List Pt), q.snd.cR.2 = s → (q.snd.cR.1 = none ∧ ds' = [] ∨ ∃ (n : Nat) (d : dV) (c : Nat), q.snd.cR.1 = some (n, d) ∧ ds' = [⟨2#8, (c : Int), (n : Int), (a.inc : Int), d⟩]) → Turn a { q with snd := s } i r k l ds ds' := fun s ds' hs' hds => by
    rw [d14] at hs' hds
    exact ⟨d1.trans hst, d2, d3, d4, d5, d6, d7, d8, d9, d10, d11, d12, ch, tk, t1, t2, d13, hs'.symm, hds, d15⟩
  rcases hsn : q.snd.cR with ⟨o, s⟩
  cases o with
  | none => exact ⟨{ q with snd := s }, [], by unfold upB; rw [List.append_nil], .inl rfl, mk s [] (by rw [hsn]) (.inl ⟨by rw [hsn], rfl⟩)⟩
  | some nd =>
    obtain ⟨n, d⟩ := nd
    refine ⟨{ q with snd := s }, [⟨2#8, ((Prt.classOf { q with snd := s } n : Nat) : Int), (n : Int), (a.inc : Int), d⟩], ?_, .inr ⟨_, _, _, rfl⟩, mk s _ (by rw [hsn]) (.inr ⟨n, d, _, by rw [hsn], rfl⟩)⟩
    dsimp only
    rw [d2]; rfl
end

end Go.Proofs.YtcbnhebiagdbiaaGreatDoor
