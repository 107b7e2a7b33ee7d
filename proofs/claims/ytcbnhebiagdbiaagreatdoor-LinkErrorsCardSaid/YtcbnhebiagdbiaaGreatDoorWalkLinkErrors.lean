/- The walk of LinkErrors. -/
import Derived.Test.YtcbnhebiagdbiaaGreatDoorPkS1
namespace Go.Proofs.YtcbnhebiagdbiaaGreatDoor
set_option maxHeartbeats 64000000
section
open Go.RowKit Go.ChangeShapes Go.WideShapes Go.ChangeAt
set_option maxRecDepth 100000
def IsEvt (W:World) (v:Value):Prop:=∃(e:Evt) (da:Option Addr) (dc:Nat),v=dN e da dc/\ByZ W (Old W) (.slice da e.data.length dc) e.data
theorem open_isEvt {H:Type} {enc:TypeId × Value->H} {W:World} {v:Value} {d:DataW H} {ps:List MemPlace} {q:Reach} {base:Nat} (hval:Value.okWide Tryz.prog W q base 49 v) (hd:DataW.Trod enc Tryz.prog W 0 (fun _=>true) true 49 v d ps):IsEvt W v:=by
 obtain ⟨cs,rfl,_⟩:=okWide_struct Tryz.underlying49 hval
 obtain ⟨e,he⟩:=open_isR opensEvt hd
 obtain ⟨v,h1,h2⟩:=eEvt_of he
 obtain ⟨da,dc,rfl⟩:=h2.slice
 exact ⟨e,da,dc,by congr 1;exact Array.ext' h1,h2⟩
theorem ltick_nil (a:Option Addr) (n c:Nat) (w:World):Calls Tryz.prog 18 #[.pointer none,.slice a n c] w fun e w'=>e=.returned (.slice none 0 0)/\w=w':=by
 go_enter Tryz.func18,Tryz.ntmps18
 go_wp2_with fail
 go_ret
 exact ⟨rfl,rfl⟩
abbrev evO (e:Evt) (da:Option Addr) (dc:Nat):Obj:=.cells #[.int .i64 e.kind,.int .i64 e.cS,.int .i64 e.cls,.slice da e.data.length dc] 49
theorem ev_cells {w:World} {p:Nat} {a b c d:Value} {T:TypeId} (h:w.heap[p]? = some (.cells #[a,b,c,d] T)):w.cell? ⟨p,0,none⟩=some a/\w.cell? ⟨p,1,none⟩=some b/\w.cell? ⟨p,2,none⟩=some c/\w.cell? ⟨p,3,none⟩=some d:=
 ⟨aJ h rfl,aJ h rfl,aJ h rfl,aJ h rfl⟩
theorem nils_cls (n:Nat) (c:Int):clsOf (List.replicate n []) c=[]:=by
 unfold clsOf
 split
 ·exact getD_nils _ _
 ·rfl
theorem newLk_cls (a b:Cfg) (d:Nat) (there back:List Flt) (s c:Int):clsOf ((newLk a b d there back).tak s) c=[]/\clsOf ((newLk a b d there back).off s) c=[]:=by
 unfold Lk.tak Lk.off
 split
 ·exact ⟨nils_cls _ _,nils_cls _ _⟩
 ·split
  ·exact ⟨nils_cls _ _,nils_cls _ _⟩
  ·unfold clsOf;exact ⟨by split <;> rfl,by split <;> rfl⟩
theorem walkLinkErrors (W:World) (v0 v1 v2 v3:Value) (o0:IsSet W v0) (o1:IsInt .i64 v1) (o2:IsInt .i64 v2) (o3:IsEvt W v3) (ht:Tabs W) :
  Calls Tryz.prog 5 #[v0,v1,v2,v3] W fun e w'=>e=.returned (.bool true)/\Below W.heap.size W w':=by
 obtain ⟨s,aa,ak,ba,bk,ta,tk,ya,yk,rfl,r1,r2,r3,r4⟩:=o0
 obtain ⟨cS,rfl,_⟩:=o1
 obtain ⟨cls,rfl,_⟩:=o2
 obtain ⟨e0,da,dc,rfl,_⟩:=o3
 have H0:=aQ (((((((dY.start0 (fun _=>False) (Old W) (fun _ f _=>f) W).addOld (T:=tRd (eInt .i64) (.slice aa s.a.aZ.length ak) s.a.aZ) (RdS.mono r1 fun _ h=>⟨h,id⟩)).addOld (T:=tRd (eInt .i64) (.slice ba s.b.aZ.length bk) s.b.aZ) (RdS.mono r2 fun _ h=>⟨h,id⟩)).addOld (T:=tRd eFlt (.slice ta s.there.length tk) s.there) (RdS.mono r3 fun _ h=>⟨h,id⟩)).addOld (T:=tRd eFlt (.slice ya s.back.length yk) s.back) (RdS.mono r4 fun _ h=>⟨h,id⟩)).new (setO s aa ak ba bk ta tk ya yk)).new (evO e0 da dc))
 obtain ⟨ts,hts⟩:∃ts,ts=[tRd (eInt .i64) (.slice aa s.a.aZ.length ak) s.a.aZ,tRd (eInt .i64) (.slice ba s.b.aZ.length bk) s.b.aZ,tRd eFlt (.slice ta s.there.length tk) s.there,tRd eFlt (.slice ya s.back.length yk) s.back,dJ W.heap.size (setO s aa ak ba bk ta tk ya yk),dJ (W.heap.size+1) (evO e0 da dc)]:=⟨_,rfl⟩
 have HA:=aQ (show dY (fun _=>False) (Old W) W ts _ by rw [hts];have:=H0.out;rw [World.size_alloc] at this;exact this)
 have QS:=aQ (show SetAt ts 0 s aa ak ba bk ta tk ya yk by rw [hts];exact ⟨rfl,rfl,rfl,rfl⟩)
 have QB:=aQ (show ts[4]? = some (dJ W.heap.size (setO s aa ak ba bk ta tk ya yk)) by rw [hts];rfl)
 have QE:=aQ (show ts[5]? = some (dJ (W.heap.size+1) (evO e0 da dc)) by rw [hts];rfl)
 have HT:=aQ ht
 clear H0 hts r1 r2 r3 r4 ht
 go_enter Tryz.func5,Tryz.ntmps5
 go_wp2_with fail
 refine (awake_c _ (HT.out.below HA.out.below)).mono ?_
 rintro e w1 ⟨rfl,hb⟩
 have H1:=aQ (HA.out.own hb)
 clear hb HA
 obtain ⟨x0,x1,x2,x3,x4,x5,x6,x7,x8,x9,x10,x11,x12⟩:=aC (H1.out.blk 4 QB.out)
 by_cases hb1:500 < s.there.length
 ·skip
  go_wp2_with fail
  go_ret
  exact ⟨rfl,H1.out.below⟩
 by_cases hb2:500 < s.back.length
 ·skip
  go_wp2_with fail
  go_ret
  exact ⟨rfl,H1.out.below⟩
 by_cases hb3:50 < s.a.aZ.length
 ·skip
  go_wp2_with fail
  go_ret
  exact ⟨rfl,H1.out.below⟩
 by_cases hb4:50 < s.b.aZ.length
 ·skip
  go_wp2_with fail
  go_ret
  exact ⟨rfl,H1.out.below⟩
 go_wp2_with fail
 clear x0 x1 x2 x3 x4 x5 x6 x7 x8 x9 x10 x11 x12
 by_cases hva:s.a.V
 ·have HVa:=aQ hva
  by_cases hvb:s.b.V
  ·have HVb:=aQ hvb
   have HN:=aQ (show Calls Tryz.prog 10 #[cfgV s.a.inc aa s.a.aZ.length ak s.a.w s.a.t s.a.d,cfgV s.b.inc ba s.b.aZ.length bk s.b.w s.b.t s.b.d,.int .i64 s.cB,.slice ta s.there.length tk,.slice ya s.back.length yk] w1 (NewP (Old W) W ts s.a.cfg s.b.cfg s.cB s.there s.back) by
    obtain ⟨a1,a2,a3,a4,a5,a6⟩:=RCfg.V.nums hva
    obtain ⟨b1,b2,b3,b4,b5,b6⟩:=RCfg.V.nums hvb
    have k1:=H1.out.weak (T:=tRd dK (.slice aa s.a.aZ.length ak) s.a.cfg.aZ) 0 QS.out.a fun G Y hon=>rd_nat (by rw [a6];exact hon)
    have k2:=k1.front.weak (T:=tRd dK (.slice ba s.b.aZ.length bk) s.b.cfg.aZ) 2 (by have:=QS.out.b;exact this) fun G Y hon=>rd_nat (by rw [b6];exact hon)
    have:=newL_any (ts:=tRd dK (.slice ba s.b.aZ.length bk) s.b.cfg.aZ::tRd dK (.slice aa s.a.aZ.length ak) s.a.cfg.aZ::ts) s.a.cfg s.b.cfg (RCfg.V.ok hva) (RCfg.V.ok hvb) s.cB s.there s.back (by omega) (by omega) aa ba ak bk (.slice ta s.there.length tk) (.slice ya s.back.length yk) 1 0 4 5 (by rw [a5];rfl) (by rw [b5];rfl) QS.out.t QS.out.y k2.front
    rw [a1,a2,a3,a4,a5,b1,b2,b3,b4,b5] at this
    refine this.mono fun e w' hp=>?_
    rcases hp with ⟨h1,h2,h3⟩|⟨h1,h2,h3,h4⟩|⟨h1,h2,h3,p,h4,h5⟩
    ·exact .inl ⟨h1,h2,h3.tail.tail⟩
    ·exact .inr (.inl ⟨h1,h2,h3,h4.tail.tail⟩)
    ·exact .inr (.inr ⟨h1,h2,h3,p,h4,dY.pickL (us:=[bI p (newLk s.a.cfg s.b.cfg s.cB.toNat s.there s.back),tRd dK (.slice ba s.b.aZ.length bk) s.b.cfg.aZ,tRd dK (.slice aa s.a.aZ.length ak) s.a.cfg.aZ]) (vs:=[bI p (newLk s.a.cfg s.b.cfg s.cB.toNat s.there s.back)]) h5 [0] (by decide) rfl⟩))
   refine HN.out.mono ?_
   rintro e w2 (⟨hd,rfl,h3⟩|⟨hd,hf,rfl,h3⟩|⟨hd,hf1,hf2,p,rfl,h3⟩)
   ·have H3:=aQ h3
    clear h3 H1 HN hva hvb
    have hdd:s.cB < 1\/(1<=s.cB/\8 < s.cB):=by omega
    rcases hdd with q1|⟨q1,q2⟩
    ·skip
     obtain ⟨x0,x1,x2,x3,x4,x5,x6,x7,x8,x9,x10,x11,x12⟩:=aC (H3.out.blk 4 QB.out)
     go_wp2_with fail
     obtain ⟨_,_,hr⟩:=H3.out.get 0 (by have:=QS.out.a;exact this)
     have HVC:=aQ (valid11_c (inc:=s.a.inc) (wi:=s.a.w) (ti:=s.a.t) (de:=s.a.d) (rc:=ak) _ (by omega) (nums_of (show RdS (eInt .i64) _ _ (.slice aa s.a.aZ.length ak) s.a.aZ from hr)))
     clear hr
     refine HVC.out.mono ?_
     rw [show decide (V11 s.a.inc s.a.aZ s.a.w s.a.t s.a.d)=true from decide_eq_true HVa.out]
     rintro e wv ⟨rfl,hb⟩
     clear HVC
     have H20:=aQ (H3.out.own hb)
     clear hb H3
     clear x0 x1 x2 x3 x4 x5 x6 x7 x8 x9 x10 x11 x12
     obtain ⟨x0,x1,x2,x3,x4,x5,x6,x7,x8,x9,x10,x11,x12⟩:=aC (H20.out.blk 4 QB.out)
     go_wp2_with fail
     obtain ⟨_,_,hr⟩:=H20.out.get 1 (by have:=QS.out.b;exact this)
     have HVC:=aQ (valid11_c (inc:=s.b.inc) (wi:=s.b.w) (ti:=s.b.t) (de:=s.b.d) (rc:=bk) _ (by omega) (nums_of (show RdS (eInt .i64) _ _ (.slice ba s.b.aZ.length bk) s.b.aZ from hr)))
     clear hr
     refine HVC.out.mono ?_
     rw [show decide (V11 s.b.inc s.b.aZ s.b.w s.b.t s.b.d)=true from decide_eq_true HVb.out]
     rintro e wv ⟨rfl,hb⟩
     clear HVC
     have H21:=aQ (H20.out.own hb)
     clear hb H20
     clear x0 x1 x2 x3 x4 x5 x6 x7 x8 x9 x10 x11 x12
     obtain ⟨x0,x1,x2,x3,x4,x5,x6,x7,x8,x9,x10,x11,x12⟩:=aC (H21.out.blk 4 QB.out)
     obtain ⟨y0,y1,y2,y3⟩:=ev_cells (H21.out.blk 5 QE.out)
     go_wp2_with fail
     refine (ltick_nil _ _ _ _).mono ?_
     rintro e wv ⟨rfl,rfl⟩
     have H22:=aQ (H21.out.own (aK _ (.cells #[.int .i64 e0.kind,.int .i64 e0.cS,.int .i64 e0.cls,.slice da e0.data.length dc] 49)))
     clear y0 y1 y2 y3 x0 x1 x2 x3 x4 x5 x6 x7 x8 x9 x10 x11 x12
     go_wp2_with fail
     refine (quiet_nil _).mono ?_
     rintro e wv ⟨rfl,rfl⟩
     go_wp2_with fail
     refine (port_nil cS _).mono ?_
     rintro e wv ⟨rfl,rfl⟩
     go_wp2_with fail
     refine (taken_nil cS cls _).mono ?_
     rintro e wv ⟨rfl,rfl⟩
     go_wp2_with fail
     refine (offered_nil cS cls _).mono ?_
     rintro e wv ⟨rfl,rfl⟩
     go_wp2_with fail
     go_ret
     exact ⟨rfl,H22.out.below⟩
    ·skip
     obtain ⟨x0,x1,x2,x3,x4,x5,x6,x7,x8,x9,x10,x11,x12⟩:=aC (H3.out.blk 4 QB.out)
     go_wp2_with fail
     obtain ⟨_,_,hr⟩:=H3.out.get 0 (by have:=QS.out.a;exact this)
     have HVC:=aQ (valid11_c (inc:=s.a.inc) (wi:=s.a.w) (ti:=s.a.t) (de:=s.a.d) (rc:=ak) _ (by omega) (nums_of (show RdS (eInt .i64) _ _ (.slice aa s.a.aZ.length ak) s.a.aZ from hr)))
     clear hr
     refine HVC.out.mono ?_
     rw [show decide (V11 s.a.inc s.a.aZ s.a.w s.a.t s.a.d)=true from decide_eq_true HVa.out]
     rintro e wv ⟨rfl,hb⟩
     clear HVC
     have H20:=aQ (H3.out.own hb)
     clear hb H3
     clear x0 x1 x2 x3 x4 x5 x6 x7 x8 x9 x10 x11 x12
     obtain ⟨x0,x1,x2,x3,x4,x5,x6,x7,x8,x9,x10,x11,x12⟩:=aC (H20.out.blk 4 QB.out)
     go_wp2_with fail
     obtain ⟨_,_,hr⟩:=H20.out.get 1 (by have:=QS.out.b;exact this)
     have HVC:=aQ (valid11_c (inc:=s.b.inc) (wi:=s.b.w) (ti:=s.b.t) (de:=s.b.d) (rc:=bk) _ (by omega) (nums_of (show RdS (eInt .i64) _ _ (.slice ba s.b.aZ.length bk) s.b.aZ from hr)))
     clear hr
     refine HVC.out.mono ?_
     rw [show decide (V11 s.b.inc s.b.aZ s.b.w s.b.t s.b.d)=true from decide_eq_true HVb.out]
     rintro e wv ⟨rfl,hb⟩
     clear HVC
     have H21:=aQ (H20.out.own hb)
     clear hb H20
     clear x0 x1 x2 x3 x4 x5 x6 x7 x8 x9 x10 x11 x12
     obtain ⟨x0,x1,x2,x3,x4,x5,x6,x7,x8,x9,x10,x11,x12⟩:=aC (H21.out.blk 4 QB.out)
     obtain ⟨y0,y1,y2,y3⟩:=ev_cells (H21.out.blk 5 QE.out)
     go_wp2_with fail
     refine (ltick_nil _ _ _ _).mono ?_
     rintro e wv ⟨rfl,rfl⟩
     have H22:=aQ (H21.out.own (aK _ (.cells #[.int .i64 e0.kind,.int .i64 e0.cS,.int .i64 e0.cls,.slice da e0.data.length dc] 49)))
     clear y0 y1 y2 y3 x0 x1 x2 x3 x4 x5 x6 x7 x8 x9 x10 x11 x12
     go_wp2_with fail
     refine (quiet_nil _).mono ?_
     rintro e wv ⟨rfl,rfl⟩
     go_wp2_with fail
     refine (port_nil cS _).mono ?_
     rintro e wv ⟨rfl,rfl⟩
     go_wp2_with fail
     refine (taken_nil cS cls _).mono ?_
     rintro e wv ⟨rfl,rfl⟩
     go_wp2_with fail
     refine (offered_nil cS cls _).mono ?_
     rintro e wv ⟨rfl,rfl⟩
     go_wp2_with fail
     go_ret
     exact ⟨rfl,H22.out.below⟩
   ·have H3:=aQ h3
    obtain ⟨q1,q2⟩:=hd
    clear h3 H1 HN hva hvb
    cases hft:okF (-1) s.there with
    |false=>
     have HFt:=aQ hft
     clear hft hf
     obtain ⟨x0,x1,x2,x3,x4,x5,x6,x7,x8,x9,x10,x11,x12⟩:=aC (H3.out.blk 4 QB.out)
     go_wp2_with fail
     obtain ⟨_,_,hr⟩:=H3.out.get 0 (by have:=QS.out.a;exact this)
     have HVC:=aQ (valid11_c (inc:=s.a.inc) (wi:=s.a.w) (ti:=s.a.t) (de:=s.a.d) (rc:=ak) _ (by omega) (nums_of (show RdS (eInt .i64) _ _ (.slice aa s.a.aZ.length ak) s.a.aZ from hr)))
     clear hr
     refine HVC.out.mono ?_
     rw [show decide (V11 s.a.inc s.a.aZ s.a.w s.a.t s.a.d)=true from decide_eq_true HVa.out]
     rintro e wv ⟨rfl,hb⟩
     clear HVC
     have H20:=aQ (H3.out.own hb)
     clear hb H3
     clear x0 x1 x2 x3 x4 x5 x6 x7 x8 x9 x10 x11 x12
     obtain ⟨x0,x1,x2,x3,x4,x5,x6,x7,x8,x9,x10,x11,x12⟩:=aC (H20.out.blk 4 QB.out)
     go_wp2_with fail
     obtain ⟨_,_,hr⟩:=H20.out.get 1 (by have:=QS.out.b;exact this)
     have HVC:=aQ (valid11_c (inc:=s.b.inc) (wi:=s.b.w) (ti:=s.b.t) (de:=s.b.d) (rc:=bk) _ (by omega) (nums_of (show RdS (eInt .i64) _ _ (.slice ba s.b.aZ.length bk) s.b.aZ from hr)))
     clear hr
     refine HVC.out.mono ?_
     rw [show decide (V11 s.b.inc s.b.aZ s.b.w s.b.t s.b.d)=true from decide_eq_true HVb.out]
     rintro e wv ⟨rfl,hb⟩
     clear HVC
     have H21:=aQ (H20.out.own hb)
     clear hb H20
     clear x0 x1 x2 x3 x4 x5 x6 x7 x8 x9 x10 x11 x12
     obtain ⟨x0,x1,x2,x3,x4,x5,x6,x7,x8,x9,x10,x11,x12⟩:=aC (H21.out.blk 4 QB.out)
     go_wp2_with fail
     obtain ⟨_,_,hr⟩:=H21.out.get 2 (by have:=QS.out.t;exact this)
     refine (c_valid_any _ _ _ s.there (show RdS eFlt _ _ (.slice ta s.there.length tk) s.there from hr) (by omega)).mono ?_
     rw [HFt.out]
     rintro e wv ⟨rfl,hb⟩
     clear hr
     have H22:=aQ (H21.out.own hb)
     clear hb H21
     clear x0 x1 x2 x3 x4 x5 x6 x7 x8 x9 x10 x11 x12
     obtain ⟨x0,x1,x2,x3,x4,x5,x6,x7,x8,x9,x10,x11,x12⟩:=aC (H22.out.blk 4 QB.out)
     obtain ⟨y0,y1,y2,y3⟩:=ev_cells (H22.out.blk 5 QE.out)
     go_wp2_with fail
     refine (ltick_nil _ _ _ _).mono ?_
     rintro e wv ⟨rfl,rfl⟩
     have H23:=aQ (H22.out.own (aK _ (.cells #[.int .i64 e0.kind,.int .i64 e0.cS,.int .i64 e0.cls,.slice da e0.data.length dc] 49)))
     clear y0 y1 y2 y3 x0 x1 x2 x3 x4 x5 x6 x7 x8 x9 x10 x11 x12
     go_wp2_with fail
     refine (quiet_nil _).mono ?_
     rintro e wv ⟨rfl,rfl⟩
     go_wp2_with fail
     refine (port_nil cS _).mono ?_
     rintro e wv ⟨rfl,rfl⟩
     go_wp2_with fail
     refine (taken_nil cS cls _).mono ?_
     rintro e wv ⟨rfl,rfl⟩
     go_wp2_with fail
     refine (offered_nil cS cls _).mono ?_
     rintro e wv ⟨rfl,rfl⟩
     go_wp2_with fail
     go_ret
     exact ⟨rfl,H23.out.below⟩
    |true=>
     have HFt:=aQ hft
     have HFy:=aQ (show okF (-1) s.back=false by
      cases hfy:okF (-1) s.back with
      |false=>rfl
      |true=>exact absurd ⟨hft,hfy⟩ hf)
     clear hft hf
     obtain ⟨x0,x1,x2,x3,x4,x5,x6,x7,x8,x9,x10,x11,x12⟩:=aC (H3.out.blk 4 QB.out)
     go_wp2_with fail
     obtain ⟨_,_,hr⟩:=H3.out.get 0 (by have:=QS.out.a;exact this)
     have HVC:=aQ (valid11_c (inc:=s.a.inc) (wi:=s.a.w) (ti:=s.a.t) (de:=s.a.d) (rc:=ak) _ (by omega) (nums_of (show RdS (eInt .i64) _ _ (.slice aa s.a.aZ.length ak) s.a.aZ from hr)))
     clear hr
     refine HVC.out.mono ?_
     rw [show decide (V11 s.a.inc s.a.aZ s.a.w s.a.t s.a.d)=true from decide_eq_true HVa.out]
     rintro e wv ⟨rfl,hb⟩
     clear HVC
     have H20:=aQ (H3.out.own hb)
     clear hb H3
     clear x0 x1 x2 x3 x4 x5 x6 x7 x8 x9 x10 x11 x12
     obtain ⟨x0,x1,x2,x3,x4,x5,x6,x7,x8,x9,x10,x11,x12⟩:=aC (H20.out.blk 4 QB.out)
     go_wp2_with fail
     obtain ⟨_,_,hr⟩:=H20.out.get 1 (by have:=QS.out.b;exact this)
     have HVC:=aQ (valid11_c (inc:=s.b.inc) (wi:=s.b.w) (ti:=s.b.t) (de:=s.b.d) (rc:=bk) _ (by omega) (nums_of (show RdS (eInt .i64) _ _ (.slice ba s.b.aZ.length bk) s.b.aZ from hr)))
     clear hr
     refine HVC.out.mono ?_
     rw [show decide (V11 s.b.inc s.b.aZ s.b.w s.b.t s.b.d)=true from decide_eq_true HVb.out]
     rintro e wv ⟨rfl,hb⟩
     clear HVC
     have H21:=aQ (H20.out.own hb)
     clear hb H20
     clear x0 x1 x2 x3 x4 x5 x6 x7 x8 x9 x10 x11 x12
     obtain ⟨x0,x1,x2,x3,x4,x5,x6,x7,x8,x9,x10,x11,x12⟩:=aC (H21.out.blk 4 QB.out)
     go_wp2_with fail
     obtain ⟨_,_,hr⟩:=H21.out.get 2 (by have:=QS.out.t;exact this)
     refine (c_valid_any _ _ _ s.there (show RdS eFlt _ _ (.slice ta s.there.length tk) s.there from hr) (by omega)).mono ?_
     rw [HFt.out]
     rintro e wv ⟨rfl,hb⟩
     clear hr
     have H22:=aQ (H21.out.own hb)
     clear hb H21
     clear x0 x1 x2 x3 x4 x5 x6 x7 x8 x9 x10 x11 x12
     obtain ⟨x0,x1,x2,x3,x4,x5,x6,x7,x8,x9,x10,x11,x12⟩:=aC (H22.out.blk 4 QB.out)
     go_wp2_with fail
     obtain ⟨_,_,hr⟩:=H22.out.get 3 (by have:=QS.out.y;exact this)
     refine (c_valid_any _ _ _ s.back (show RdS eFlt _ _ (.slice ya s.back.length yk) s.back from hr) (by omega)).mono ?_
     rw [HFy.out]
     rintro e wv ⟨rfl,hb⟩
     clear hr
     have H23:=aQ (H22.out.own hb)
     clear hb H22
     clear x0 x1 x2 x3 x4 x5 x6 x7 x8 x9 x10 x11 x12
     obtain ⟨x0,x1,x2,x3,x4,x5,x6,x7,x8,x9,x10,x11,x12⟩:=aC (H23.out.blk 4 QB.out)
     obtain ⟨y0,y1,y2,y3⟩:=ev_cells (H23.out.blk 5 QE.out)
     go_wp2_with fail
     refine (ltick_nil _ _ _ _).mono ?_
     rintro e wv ⟨rfl,rfl⟩
     have H24:=aQ (H23.out.own (aK _ (.cells #[.int .i64 e0.kind,.int .i64 e0.cS,.int .i64 e0.cls,.slice da e0.data.length dc] 49)))
     clear y0 y1 y2 y3 x0 x1 x2 x3 x4 x5 x6 x7 x8 x9 x10 x11 x12
     go_wp2_with fail
     refine (quiet_nil _).mono ?_
     rintro e wv ⟨rfl,rfl⟩
     go_wp2_with fail
     refine (port_nil cS _).mono ?_
     rintro e wv ⟨rfl,rfl⟩
     go_wp2_with fail
     refine (taken_nil cS cls _).mono ?_
     rintro e wv ⟨rfl,rfl⟩
     go_wp2_with fail
     refine (offered_nil cS cls _).mono ?_
     rintro e wv ⟨rfl,rfl⟩
     go_wp2_with fail
     go_ret
     exact ⟨rfl,H24.out.below⟩
   ·have H3:=aQ h3
    obtain ⟨q1,q2⟩:=hd
    have HFt:=aQ hf1
    have HFy:=aQ hf2
    have HL:=aQ (newLk_full (RCfg.V.ok hva) (RCfg.V.ok hvb) (cB:=s.cB.toNat) (by omega) (by omega) hf1 hf2 (by omega) (by omega))
    have HLS:=aQ (show (newLk s.a.cfg s.b.cfg s.cB.toNat s.there s.back).Short from ⟨newLnd_short _ _ _ _ _ _ _,newLnd_short _ _ _ _ _ _ _⟩)
    have HLC:=aQ (newLk_cls s.a.cfg s.b.cfg s.cB.toNat s.there s.back cS cls)
    clear h3 H1 HN hva hvb hf1 hf2
    generalize newLk s.a.cfg s.b.cfg s.cB.toNat s.there s.back=L at *
    obtain ⟨x0,x1,x2,x3,x4,x5,x6,x7,x8,x9,x10,x11,x12⟩:=aC (H3.out.blk 5 QB.out)
    go_wp2_with fail
    obtain ⟨_,_,hr⟩:=H3.out.get 1 (by have:=QS.out.a;exact this)
    have HVC:=aQ (valid11_c (inc:=s.a.inc) (wi:=s.a.w) (ti:=s.a.t) (de:=s.a.d) (rc:=ak) _ (by omega) (nums_of (show RdS (eInt .i64) _ _ (.slice aa s.a.aZ.length ak) s.a.aZ from hr)))
    clear hr
    refine HVC.out.mono ?_
    rw [show decide (V11 s.a.inc s.a.aZ s.a.w s.a.t s.a.d)=true from decide_eq_true HVa.out]
    rintro e wv ⟨rfl,hb⟩
    clear HVC
    have H20:=aQ (H3.out.own hb)
    clear hb H3
    clear x0 x1 x2 x3 x4 x5 x6 x7 x8 x9 x10 x11 x12
    obtain ⟨x0,x1,x2,x3,x4,x5,x6,x7,x8,x9,x10,x11,x12⟩:=aC (H20.out.blk 5 QB.out)
    go_wp2_with fail
    obtain ⟨_,_,hr⟩:=H20.out.get 2 (by have:=QS.out.b;exact this)
    have HVC:=aQ (valid11_c (inc:=s.b.inc) (wi:=s.b.w) (ti:=s.b.t) (de:=s.b.d) (rc:=bk) _ (by omega) (nums_of (show RdS (eInt .i64) _ _ (.slice ba s.b.aZ.length bk) s.b.aZ from hr)))
    clear hr
    refine HVC.out.mono ?_
    rw [show decide (V11 s.b.inc s.b.aZ s.b.w s.b.t s.b.d)=true from decide_eq_true HVb.out]
    rintro e wv ⟨rfl,hb⟩
    clear HVC
    have H21:=aQ (H20.out.own hb)
    clear hb H20
    clear x0 x1 x2 x3 x4 x5 x6 x7 x8 x9 x10 x11 x12
    obtain ⟨x0,x1,x2,x3,x4,x5,x6,x7,x8,x9,x10,x11,x12⟩:=aC (H21.out.blk 5 QB.out)
    go_wp2_with fail
    obtain ⟨_,_,hr⟩:=H21.out.get 3 (by have:=QS.out.t;exact this)
    refine (c_valid_any _ _ _ s.there (show RdS eFlt _ _ (.slice ta s.there.length tk) s.there from hr) (by omega)).mono ?_
    rw [HFt.out]
    rintro e wv ⟨rfl,hb⟩
    clear hr
    have H22:=aQ (H21.out.own hb)
    clear hb H21
    clear x0 x1 x2 x3 x4 x5 x6 x7 x8 x9 x10 x11 x12
    obtain ⟨x0,x1,x2,x3,x4,x5,x6,x7,x8,x9,x10,x11,x12⟩:=aC (H22.out.blk 5 QB.out)
    go_wp2_with fail
    obtain ⟨_,_,hr⟩:=H22.out.get 4 (by have:=QS.out.y;exact this)
    refine (c_valid_any _ _ _ s.back (show RdS eFlt _ _ (.slice ya s.back.length yk) s.back from hr) (by omega)).mono ?_
    rw [HFy.out]
    rintro e wv ⟨rfl,hb⟩
    clear hr
    have H23:=aQ (H22.out.own hb)
    clear hb H22
    clear x0 x1 x2 x3 x4 x5 x6 x7 x8 x9 x10 x11 x12
    obtain ⟨x0,x1,x2,x3,x4,x5,x6,x7,x8,x9,x10,x11,x12⟩:=aC (H23.out.blk 5 QB.out)
    obtain ⟨y0,y1,y2,y3⟩:=ev_cells (H23.out.blk 6 QE.out)
    go_wp2_with fail
    refine (ltick_nil _ _ _ _).mono ?_
    rintro e wv ⟨rfl,rfl⟩
    have H24:=aQ (H23.out.own (aK _ (.cells #[.int .i64 e0.kind,.int .i64 e0.cS,.int .i64 e0.cls,.slice da e0.data.length dc] 49)))
    clear y0 y1 y2 y3 x0 x1 x2 x3 x4 x5 x6 x7 x8 x9 x10 x11 x12
    go_wp2_with fail
    refine (quiet_nil _).mono ?_
    rintro e wv ⟨rfl,rfl⟩
    go_wp2_with fail
    refine (port_nil cS _).mono ?_
    rintro e wv ⟨rfl,rfl⟩
    go_wp2_with fail
    refine (taken_nil cS cls _).mono ?_
    rintro e wv ⟨rfl,rfl⟩
    go_wp2_with fail
    refine (offered_nil cS cls _).mono ?_
    rintro e wv ⟨rfl,rfl⟩
    by_cases hsd:cS=0\/cS=1
    ·obtain ⟨cs,v,u,e1,e2,e3,h4,hp⟩:=port_c H24.out cS hsd
     have HP:=aQ hp
     clear hp e1 e2 e3 h4
     rcases hsd with rfl|rfl
     all_goals
      go_wp2_with fail
      refine HP.out.mono ?_
      rintro e w3 ⟨rfl,rfl⟩
      go_wp2_with fail
      refine (taken_c HL.out HLS.out (by decide) _ cls H24.out).mono ?_
      rintro e w4 ⟨a4,c4,rfl,h4⟩
      rw [HLC.out.1] at h4 ⊢
      have H50:=aQ (dY.tail h4)
      clear h4
      go_wp2_with fail
      refine (offered_c HL.out HLS.out (by decide) _ cls H50.out).mono ?_
      rintro e w5 ⟨a5,c5,rfl,h5⟩
      rw [HLC.out.2] at h5 ⊢
      have H51:=aQ h5
      clear h5
      go_wp2_with fail
      go_ret
      exact ⟨rfl,H51.out.below⟩
    ·have hs0:¬cS=0:=fun h=>hsd (.inl h)
     have hs1:¬cS=1:=fun h=>hsd (.inr h)
     go_wp2_with fail
     refine (port_none p cS hsd _).mono ?_
     rintro e w3 ⟨rfl,rfl⟩
     go_wp2_with fail
     refine (taken_c HL.out HLS.out (by decide) _ cls H24.out).mono ?_
     rintro e w4 ⟨a4,c4,rfl,h4⟩
     rw [HLC.out.1] at h4 ⊢
     have H50:=aQ (dY.tail h4)
     clear h4
     go_wp2_with fail
     refine (offered_c HL.out HLS.out (by decide) _ cls H50.out).mono ?_
     rintro e w5 ⟨a5,c5,rfl,h5⟩
     rw [HLC.out.2] at h5 ⊢
     have H51:=aQ h5
     clear h5
     go_wp2_with fail
     go_ret
     exact ⟨(show Ending.returned (.bool (cS != 0 && cS != 1))=.returned (.bool true) by simp [hs0,hs1]),H51.out.below⟩
  ·have HVb:=aQ hvb
   have HN:=aQ (show Calls Tryz.prog 10 #[cfgV s.a.inc aa s.a.aZ.length ak s.a.w s.a.t s.a.d,cfgV s.b.inc ba s.b.aZ.length bk s.b.w s.b.t s.b.d,.int .i64 s.cB,.slice ta s.there.length tk,.slice ya s.back.length yk] w1 (fun e w'=>e=.returned (.tuple #[.pointer none,.int .i64 2])/\dY (fun _=>False) (Old W) W ts w') by
    obtain ⟨a1,a2,a3,a4,a5,a6⟩:=RCfg.V.nums hva
    have k1:=H1.out.weak (T:=tRd dK (.slice aa s.a.aZ.length ak) s.a.cfg.aZ) 0 QS.out.a fun G Y hon=>rd_nat (by rw [a6];exact hon)
    have:=newL_badB (ts:=tRd dK (.slice aa s.a.aZ.length ak) s.a.cfg.aZ::ts) s.a.cfg (RCfg.V.ok hva) s.b hvb (by omega) aa ba ta ya ak bk s.there.length tk s.back.length yk s.cB 0 2 (by rw [a5];rfl) (by have:=QS.out.b;exact this) k1.front
    rw [a1,a2,a3,a4,a5] at this
    exact this.mono fun e w' ⟨h1,h2⟩=>⟨h1,h2.tail⟩)
   refine HN.out.mono ?_
   rintro e w2 ⟨rfl,h3⟩
   have H3:=aQ h3
   clear h3 H1 HN hva hvb
   obtain ⟨x0,x1,x2,x3,x4,x5,x6,x7,x8,x9,x10,x11,x12⟩:=aC (H3.out.blk 4 QB.out)
   go_wp2_with fail
   obtain ⟨_,_,hr⟩:=H3.out.get 0 (by have:=QS.out.a;exact this)
   have HVC:=aQ (valid11_c (inc:=s.a.inc) (wi:=s.a.w) (ti:=s.a.t) (de:=s.a.d) (rc:=ak) _ (by omega) (nums_of (show RdS (eInt .i64) _ _ (.slice aa s.a.aZ.length ak) s.a.aZ from hr)))
   clear hr
   refine HVC.out.mono ?_
   rw [show decide (V11 s.a.inc s.a.aZ s.a.w s.a.t s.a.d)=true from decide_eq_true HVa.out]
   rintro e wv ⟨rfl,hb⟩
   clear HVC
   have H20:=aQ (H3.out.own hb)
   clear hb H3
   clear x0 x1 x2 x3 x4 x5 x6 x7 x8 x9 x10 x11 x12
   obtain ⟨x0,x1,x2,x3,x4,x5,x6,x7,x8,x9,x10,x11,x12⟩:=aC (H20.out.blk 4 QB.out)
   go_wp2_with fail
   obtain ⟨_,_,hr⟩:=H20.out.get 1 (by have:=QS.out.b;exact this)
   have HVC:=aQ (valid11_c (inc:=s.b.inc) (wi:=s.b.w) (ti:=s.b.t) (de:=s.b.d) (rc:=bk) _ (by omega) (nums_of (show RdS (eInt .i64) _ _ (.slice ba s.b.aZ.length bk) s.b.aZ from hr)))
   clear hr
   refine HVC.out.mono ?_
   rw [show decide (V11 s.b.inc s.b.aZ s.b.w s.b.t s.b.d)=false from decide_eq_false HVb.out]
   rintro e wv ⟨rfl,hb⟩
   clear HVC
   have H21:=aQ (H20.out.own hb)
   clear hb H20
   clear x0 x1 x2 x3 x4 x5 x6 x7 x8 x9 x10 x11 x12
   obtain ⟨x0,x1,x2,x3,x4,x5,x6,x7,x8,x9,x10,x11,x12⟩:=aC (H21.out.blk 4 QB.out)
   obtain ⟨y0,y1,y2,y3⟩:=ev_cells (H21.out.blk 5 QE.out)
   go_wp2_with fail
   refine (ltick_nil _ _ _ _).mono ?_
   rintro e wv ⟨rfl,rfl⟩
   have H22:=aQ (H21.out.own (aK _ (.cells #[.int .i64 e0.kind,.int .i64 e0.cS,.int .i64 e0.cls,.slice da e0.data.length dc] 49)))
   clear y0 y1 y2 y3 x0 x1 x2 x3 x4 x5 x6 x7 x8 x9 x10 x11 x12
   go_wp2_with fail
   refine (quiet_nil _).mono ?_
   rintro e wv ⟨rfl,rfl⟩
   go_wp2_with fail
   refine (port_nil cS _).mono ?_
   rintro e wv ⟨rfl,rfl⟩
   go_wp2_with fail
   refine (taken_nil cS cls _).mono ?_
   rintro e wv ⟨rfl,rfl⟩
   go_wp2_with fail
   refine (offered_nil cS cls _).mono ?_
   rintro e wv ⟨rfl,rfl⟩
   go_wp2_with fail
   go_ret
   exact ⟨rfl,H22.out.below⟩
 ·have HVa:=aQ hva
  obtain ⟨_,_,hra⟩:=H1.out.get 0 QS.out.a
  refine (newL_badA s.a s.b hva (by omega) aa ba ta ya ak bk s.there.length tk s.back.length yk s.cB (nums_of (show RdS (eInt .i64) w1 _ (.slice aa s.a.aZ.length ak) s.a.aZ from hra))).mono ?_
  rintro e w2 ⟨rfl,hb⟩
  have H3:=aQ (H1.out.own hb)
  clear hb H1 hva hra
  obtain ⟨x0,x1,x2,x3,x4,x5,x6,x7,x8,x9,x10,x11,x12⟩:=aC (H3.out.blk 4 QB.out)
  go_wp2_with fail
  obtain ⟨_,_,hr⟩:=H3.out.get 0 (by have:=QS.out.a;exact this)
  have HVC:=aQ (valid11_c (inc:=s.a.inc) (wi:=s.a.w) (ti:=s.a.t) (de:=s.a.d) (rc:=ak) _ (by omega) (nums_of (show RdS (eInt .i64) _ _ (.slice aa s.a.aZ.length ak) s.a.aZ from hr)))
  clear hr
  refine HVC.out.mono ?_
  rw [show decide (V11 s.a.inc s.a.aZ s.a.w s.a.t s.a.d)=false from decide_eq_false HVa.out]
  rintro e wv ⟨rfl,hb⟩
  clear HVC
  have H20:=aQ (H3.out.own hb)
  clear hb H3
  clear x0 x1 x2 x3 x4 x5 x6 x7 x8 x9 x10 x11 x12
  obtain ⟨x0,x1,x2,x3,x4,x5,x6,x7,x8,x9,x10,x11,x12⟩:=aC (H20.out.blk 4 QB.out)
  obtain ⟨y0,y1,y2,y3⟩:=ev_cells (H20.out.blk 5 QE.out)
  go_wp2_with fail
  refine (ltick_nil _ _ _ _).mono ?_
  rintro e wv ⟨rfl,rfl⟩
  have H21:=aQ (H20.out.own (aK _ (.cells #[.int .i64 e0.kind,.int .i64 e0.cS,.int .i64 e0.cls,.slice da e0.data.length dc] 49)))
  clear y0 y1 y2 y3 x0 x1 x2 x3 x4 x5 x6 x7 x8 x9 x10 x11 x12
  go_wp2_with fail
  refine (quiet_nil _).mono ?_
  rintro e wv ⟨rfl,rfl⟩
  go_wp2_with fail
  refine (port_nil cS _).mono ?_
  rintro e wv ⟨rfl,rfl⟩
  go_wp2_with fail
  refine (taken_nil cS cls _).mono ?_
  rintro e wv ⟨rfl,rfl⟩
  go_wp2_with fail
  refine (offered_nil cS cls _).mono ?_
  rintro e wv ⟨rfl,rfl⟩
  go_wp2_with fail
  go_ret
  exact ⟨rfl,H21.out.below⟩
end
end Go.Proofs.YtcbnhebiagdbiaaGreatDoor
