/- A link to which one frame is aV: it comes, and is cF (LinkMemory). No program in sight. -/
import Derived.Test.YtcbnhebiagdbiaaGreatDoorLsW
import Derived.Test.YtcbnhebiagdbiaaGreatDoorPkM1
namespace Go.Proofs.YtcbnhebiagdbiaaGreatDoor
set_option maxHeartbeats 64000000
section
def mCfg:Cfg:=⟨1,[3],4,4,9⟩
theorem mCfg_ok:mCfg.Ok:=⟨by decide,by decide,by decide,by decide,by decide,by decide,by decide,by decide,by decide,by decide,by decide⟩
def mL:Lk:=newLk mCfg mCfg 1 [] []
def mA (d:dV):Lk:=(mL.act ⟨1,0,0,d⟩).2
def mS (d:dV):Qst:=⟨{ dG 1 [3] 4 4 9 with aX:=[[d]] },dG 1 [3] 4 4 9,[[]],[[]]⟩
theorem mOffer {d:dV} (hd:d.length<=60):(dG 1 [3] 4 4 9).dQ 0 d=(0,{ dG 1 [3] 4 4 9 with aX:=[[d]] }):=by
 unfold Prt.dQ
 rw [if_neg (show ¬(¬(dG 1 [3] 4 4 9).has 0\/64 < d.length) from fun h=>h.elim (fun h=>h ⟨by decide,by decide⟩) fun h=>by omega)]
 rw [if_neg (show ¬ 64<=(((dG 1 [3] 4 4 9).aX.getD (0:Int).toNat []).length) by decide)]
 rfl
theorem mA_eq {d:dV} (hd:d.length<=60):mA d=⟨{ mL.l with prt:={ dG 1 [3] 4 4 9 with aX:=[[d]] },aV:=[[d]],aE:=[1] },mL.r⟩:=by
 have e:mA d=⟨(mL.l.dQ 0 d).2,mL.r⟩:=rfl
 rw [e]
 unfold Lnd.dQ
 have h:mL.l.prt.dQ 0 d=(0,{ dG 1 [3] 4 4 9 with aX:=[[d]] }):=mOffer hd
 rw [h]
 rfl
theorem mA_clean {d:dV} (hd:d.length<=60):∃pa pb da db,(mA d).Clean (mS d) 1 265 pa pb da db/\(mA d).Calm 1/\(mA d).FineL/\(mS d).Small:=by
 obtain ⟨pa,pb,da,db,h,hc,hf⟩:=newLk_clean mCfg_ok mCfg_ok (d:=1) (by decide) (by decide)
 obtain ⟨oa,ga,ob,gb,i,k1,k2⟩:=h.inv
 obtain ⟨o',a1,a2,a3⟩:=Lnd.offer_inv i.l k1 i.both 0 d
 have e:=mA_eq hd
 have e':mA d=⟨(mL.l.dQ 0 d).2,mL.r⟩:=rfl
 have hi:(mL.l.dQ 0 d).2.cD=mL.l.cD:=by
  have:=congrArg (fun x:Lk=>x.l.cD) (e'.symm.trans e)
  exact this
 refine ⟨pa,pb,da,db,⟨by rw [e];rfl,by rw [e];rfl,rfl,rfl,o',ga,ob,gb,?_,?_,?_⟩,⟨by decide,by rw [e];rfl,by rw [e];rfl,by rw [e];rfl,by rw [e];rfl⟩,⟨by rw [e];exact hf.l,by rw [e];exact hf.r⟩,⟨?_,?_⟩⟩
 ·rw [e']
  rw [hi]
  exact ⟨a1,i.r.mono (by omega),a3,due_offer i.dl,i.dr,kno_offer i.kn⟩
 ·rw [e'];exact a2
 ·rw [e'];exact k2
 ·intro q hq
  obtain rfl:=List.mem_singleton.1 hq
  exact Nat.zero_le _
 ·intro q hq
  obtain rfl:=List.mem_singleton.1 hq
  exact Nat.zero_le _
theorem mRunN (f:Nat->BitVec 8):∀n,n<=60->((mS ((List.range n).map f)).run id id 13).b.aY=[[(List.range n).map f]]
 |0,_=>by kernel_rfl
 |1,_=>by kernel_rfl
 |2,_=>by kernel_rfl
 |3,_=>by kernel_rfl
 |4,_=>by kernel_rfl
 |5,_=>by kernel_rfl
 |6,_=>by kernel_rfl
 |7,_=>by kernel_rfl
 |8,_=>by kernel_rfl
 |9,_=>by kernel_rfl
 |10,_=>by kernel_rfl
 |11,_=>by kernel_rfl
 |12,_=>by kernel_rfl
 |13,_=>by kernel_rfl
 |14,_=>by kernel_rfl
 |15,_=>by kernel_rfl
 |16,_=>by kernel_rfl
 |17,_=>by kernel_rfl
 |18,_=>by kernel_rfl
 |19,_=>by kernel_rfl
 |20,_=>by kernel_rfl
 |21,_=>by kernel_rfl
 |22,_=>by kernel_rfl
 |23,_=>by kernel_rfl
 |24,_=>by kernel_rfl
 |25,_=>by kernel_rfl
 |26,_=>by kernel_rfl
 |27,_=>by kernel_rfl
 |28,_=>by kernel_rfl
 |29,_=>by kernel_rfl
 |30,_=>by kernel_rfl
 |31,_=>by kernel_rfl
 |32,_=>by kernel_rfl
 |33,_=>by kernel_rfl
 |34,_=>by kernel_rfl
 |35,_=>by kernel_rfl
 |36,_=>by kernel_rfl
 |37,_=>by kernel_rfl
 |38,_=>by kernel_rfl
 |39,_=>by kernel_rfl
 |40,_=>by kernel_rfl
 |41,_=>by kernel_rfl
 |42,_=>by kernel_rfl
 |43,_=>by kernel_rfl
 |44,_=>by kernel_rfl
 |45,_=>by kernel_rfl
 |46,_=>by kernel_rfl
 |47,_=>by kernel_rfl
 |48,_=>by kernel_rfl
 |49,_=>by kernel_rfl
 |50,_=>by kernel_rfl
 |51,_=>by kernel_rfl
 |52,_=>by kernel_rfl
 |53,_=>by kernel_rfl
 |54,_=>by kernel_rfl
 |55,_=>by kernel_rfl
 |56,_=>by kernel_rfl
 |57,_=>by kernel_rfl
 |58,_=>by kernel_rfl
 |59,_=>by kernel_rfl
 |60,_=>by kernel_rfl
 |n+61,h=>by omega
theorem range_map (d:dV):(List.range d.length).map (fun i=>d.getD i 0)=d:=by
 refine List.ext_getElem? fun j=>?_
 rw [List.getElem?_map]
 rcases Nat.lt_or_ge j d.length with hj|hj
 ·rw [List.getElem?_range hj,List.getElem?_eq_getElem hj]
  show some (d.getD j 0)=_
  rw [List.getD_eq_getElem?_getD,List.getElem?_eq_getElem hj];rfl
 ·rw [List.getElem?_eq_none (by rw [List.length_range];exact hj),List.getElem?_eq_none hj];rfl
theorem mRun {d:dV} (hd:d.length<=60):((mS d).run id id 13).b.aY=[[d]]:=by
 have:=mRunN (fun i=>d.getD i 0) d.length hd
 rwa [range_map] at this
theorem tick_tak (L:Lk):L.cR.l.cF=L.l.cF/\L.cR.r.cF=L.r.cF:=by
 have h1:L.cR.l.cF=L.l.cR.2.cF:=(Lnd.send_same _ _).cF
 have h2:L.cR.r.cF=L.r.cR.2.cF:=(Lnd.send_same _ _).cF
 exact ⟨h1,h2⟩
theorem idle_keep (L:Lk):∀n,(L.idle n).l.aV=L.l.aV/\(L.idle n).r.cF=L.r.cF
 |0=>⟨rfl,rfl⟩
 |n+1=>by
  obtain ⟨h1,h2⟩:=idle_keep L n
  obtain ⟨_,_,h3,_⟩:=tick_since (L.idle n)
  exact ⟨h3.trans h1,(tick_tak (L.idle n)).2.trans h2⟩
def mZ (d:dV):Lk:=((mA d).idle 13).step [⟨2,1,0,[]⟩]
theorem mOff {d:dV} (hd:d.length<=60) (n:Nat):clsOf (((mA d).idle n).off 0) 0=[d]:=by
 have e:((mA d).idle n).off 0=((mA d).idle n).l.aV:=rfl
 rw [e,(idle_keep _ n).1,mA_eq hd];rfl
theorem mEnd {d:dV} (hd:d.length<=60):clsOf ((mZ d).off 0) 0=[d]/\clsOf ((mZ d).tak 1) 0=[d]:=by
 obtain ⟨pa,pb,da,db,h,hc,hf,hs⟩:=mA_clean hd
 obtain ⟨h13,_⟩:=h.idle hc hf hs 13 (by decide)
 have hb:((mA d).idle 13).r.prt.aY=[[d]]:=by rw [h13.b];exact mRun hd
 have hr:((mA d).idle 13).r.cF=[[]]:=by rw [(idle_keep _ 13).2,mA_eq hd];rfl
 have ho:((mA d).idle 13).l.aV=[[d]]:=by rw [(idle_keep _ 13).1,mA_eq hd]
 have hrl:((mA d).idle 13).r.prt.aZ.length=1:=by
  obtain ⟨oa,ga,ob,gb,i,k1,k2⟩:=h13.inv
  have:=i.r.ok.bl
  rw [hb] at this
  exact this.symm
 have hZ:mZ d=(((mA d).idle 13).act ⟨2,1,0,[]⟩).2.cR:=rfl
 rw [hZ]
 generalize (mA d).idle 13=K at *
 have ht:(K.act ⟨2,1,0,[]⟩).2=⟨K.l,(K.r.take 0).2⟩:=rfl
 rw [ht]
 have hp:K.r.prt.peek 0=some d:=by
  unfold Prt.peek
  rw [if_pos ⟨by decide,by rw [hrl];decide⟩,hb];rfl
 have htk:(K.r.take 0).2.cF=[[d]]:=by
  have hq:∃q,K.r.prt.take 0=(Option.some d,q):=by unfold Prt.take;rw [hp];exact ⟨_,rfl⟩
  obtain ⟨q,hq⟩:=hq
  unfold Lnd.take
  rw [hq]
  show K.r.cF.set (0:Int).toNat (K.r.cF.getD (0:Int).toNat []++[d])=[[d]]
  rw [hr];rfl
 obtain ⟨_,_,h3,_⟩:=tick_since ⟨K.l,(K.r.take 0).2⟩
 have h4:=(tick_tak ⟨K.l,(K.r.take 0).2⟩).2
 generalize (⟨K.l,(K.r.take 0).2⟩:Lk).cR=Q at *
 have e1:Q.off 0=Q.l.aV:=rfl
 have e2:Q.tak 1=Q.r.cF:=rfl
 rw [e1,e2,h3,h4]
 show clsOf K.l.aV 0=[d]/\clsOf (K.r.take 0).2.cF 0=[d]
 rw [ho,htk]
 exact ⟨rfl,rfl⟩
end
end Go.Proofs.YtcbnhebiagdbiaaGreatDoor
