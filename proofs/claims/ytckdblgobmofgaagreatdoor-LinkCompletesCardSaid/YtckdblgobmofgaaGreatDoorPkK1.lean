/- Several texts in one: The limits of the statements: long, restarts.; The link of a setup: run.; A run of a link: what its lists of events leave. No program in sight. -/
import Derived.Test.YtckdblgobmofgaaGreatDoorPkI1
import Derived.Test.YtckdblgobmofgaaGreatDoorPkJ1
namespace Go.Proofs.YtckdblgobmofgaaGreatDoor
section
open Go.RowKit
set_option maxRecDepth 100000
theorem any_take {α : Type} {l:List α} {p : α -> Bool} {j:Nat} {o : α} (h:(l.take j).any p=false) (ho:l[j]? = some o) (hp:p o=false):(l.take (j+1)).any p=false:=by
 rw [List.take_add_one,ho,List.any_append,h];simp [hp]
theorem any_at {α : Type} {l:List α} {p : α -> Bool} {j:Nat} {o : α} (ho:l[j]? = some o) (hp:p o=true):l.any p=true:=
 List.any_eq_true.2 ⟨o,List.mem_of_getElem? ho,hp⟩
theorem cell_belowD {w w':World} {b k:Nat} {v:Value} (hb:Below w.heap.size w w') (h:w.cell? ⟨b,k,none⟩=some v):w'.cell? ⟨b,k,none⟩=some v:=cell_later hb h
section
variable {w:World} {Z:BS}
set_option maxHeartbeats 8000000 in
theorem idxE_c (fn:FuncId) (hfn:fn = 51 \/ fn = 56) (p:Evt->Bool) (hp:∀(e:Evt) (da:Option Addr) (dc:Nat) (w':World),Calls Tryz.prog fn #[evV e da dc] w' fun r w''=>r=.returned (.bool (p e))/\Below w'.heap.size w' w'') (v:Value) (es:List Evt) (h:RdS eEvt w Z v es) :
  Calls Tryz.prog 91 #[v,.func (.func fn) #[] #[]] w fun r w'=>∃k:Int,r=.returned (.int .i64 k)/\decide (0<=k)=es.any p/\Below w.heap.size w w':=by
 obtain ⟨a,c,rfl,hc1,hc2⟩:=h.shape
 have H:=Lib.hid h
 have HP:=Lib.hid hp
 clear h hp
 unfold maxLen at hc2
 rcases hfn with rfl|rfl
 all_goals
  go_enter Tryz.func91,Tryz.ntmps91
  go_wp2_with fail
  go_loopw [8] (fun i wr=>∃j:Nat,j<=es.length/\i=.int .i64 (j:Int)/\Hid ((es.take j).any p=false)/\Hid (Below w.heap.size w wr)) (fun i _=>es.length - (intOf i).toNat)
  case atStart=>exact ⟨0,by omega,by go_num,Lib.hid rfl,Lib.hid (Below.refl _ _)⟩
  case round=>
   obtain ⟨j,hj,rfl,HA,HB⟩:=hrel
   by_cases hlt:j < es.length
   ·obtain ⟨e,he⟩:∃e,es[j]? = some e:=⟨es[j],List.getElem?_eq_getElem hlt⟩
    obtain ⟨b,off,da,dc,rfl,_,c0,c1,c2,c3⟩:=evt_at (H.out.below HB.out) he
    have HE:=Lib.hid he
    clear he
    have HC:=Lib.hid (HP.out e da dc wr)
    cases hpe:p e with
    |true=>
     have HX:=Lib.hid (show es.any p=true from any_at HE.out hpe)
     rw [hpe] at HC
     clear hpe
     go_wp2_with fail
     refine HC.out.mono ?_
     rintro r w1 ⟨rfl,hb⟩
     have HB1:=Lib.hid (HB.out.trans (hb.mono HB.out.size))
     clear hb
     go_wp2_with fail
     go_ret
     exact ⟨_,rfl,by rw [HX.out];exact decide_eq_true (by omega),HB1.out⟩
    |false=>
     have HX:=Lib.hid (any_take HA.out HE.out hpe)
     rw [hpe] at HC
     clear hpe
     go_wp2_with fail
     refine HC.out.mono ?_
     rintro r w1 ⟨rfl,hb⟩
     have HB1:=Lib.hid (HB.out.trans (hb.mono HB.out.size))
     clear hb
     go_wp2_with fail
     go_roundw
     case rel=>exact ⟨j+1,by omega,by go_num,HX,HB1⟩
     case measure=>simp [intOf];omega
   ·obtain rfl:es.length=j:=by omega
    have HX:=Lib.hid (show es.any p=false by have:=HA.out;rwa [List.take_length] at this)
    go_wp2_with fail
    go_ret
    exact ⟨_,rfl,by rw [HX.out];rfl,HB.out⟩
set_option maxHeartbeats 8000000 in
theorem hasE_c (fn:FuncId) (hfn:fn = 51 \/ fn = 56) (p:Evt->Bool) (hp:∀(e:Evt) (da:Option Addr) (dc:Nat) (w':World),Calls Tryz.prog fn #[evV e da dc] w' fun r w''=>r=.returned (.bool (p e))/\Below w'.heap.size w' w'') (v:Value) (es:List Evt) (h:RdS eEvt w Z v es) :
  Calls Tryz.prog 50 #[v,.func (.func fn) #[] #[]] w fun r w'=>r=.returned (.bool (es.any p))/\Below w.heap.size w w':=by
 have HC:=Lib.hid (idxE_c fn hfn p hp v es h)
 clear h hp
 go_enter Tryz.func50,Tryz.ntmps50
 go_wp2_with fail
 refine HC.out.mono ?_
 rintro r w1 ⟨k,rfl,hk,hb⟩
 have HK:=Lib.hid hk
 have HB1:=Lib.hid hb
 clear hb hk
 go_wp2_with fail
 go_ret
 exact ⟨by rw [<-HK.out];rfl,HB1.out⟩
set_option maxHeartbeats 8000000 in
theorem idxL_c (fn:FuncId) (hfn:fn = 49 \/ fn = 55) (p:List Evt->Bool) (hp:∀(e:List Evt) (da:Option Addr) (dc:Nat) (w':World),RdS eEvt w' Z (.slice da e.length dc) e->Calls Tryz.prog fn #[.slice da e.length dc] w' fun r w''=>r=.returned (.bool (p e))/\Below w'.heap.size w' w'') (v:Value) (es:List (List Evt)) (h:RdS (eRd eEvt) w Z v es) :
  Calls Tryz.prog 90 #[v,.func (.func fn) #[] #[]] w fun r w'=>∃k:Int,r=.returned (.int .i64 k)/\decide (0<=k)=es.any p/\Below w.heap.size w w':=by
 obtain ⟨a,c,rfl,hc1,hc2⟩:=h.shape
 have H:=Lib.hid h
 have HP:=Lib.hid hp
 clear h hp
 unfold maxLen at hc2
 rcases hfn with rfl|rfl
 all_goals
  go_enter Tryz.func90,Tryz.ntmps90
  go_wp2_with fail
  go_loopw [8] (fun i wr=>∃j:Nat,j<=es.length/\i=.int .i64 (j:Int)/\Hid ((es.take j).any p=false)/\Hid (Below w.heap.size w wr)) (fun i _=>es.length - (intOf i).toNat)
  case atStart=>exact ⟨0,by omega,by go_num,Lib.hid rfl,Lib.hid (Below.refl _ _)⟩
  case round=>
   obtain ⟨j,hj,rfl,HA,HB⟩:=hrel
   by_cases hlt:j < es.length
   ·obtain ⟨e,he⟩:∃e,es[j]? = some e:=⟨es[j],List.getElem?_eq_getElem hlt⟩
    obtain ⟨b,off,da,dc,rfl,c0,hrd⟩:=evts_at (H.out.below HB.out) he
    have HE:=Lib.hid he
    clear he
    have HC:=Lib.hid (HP.out e da dc wr hrd)
    clear hrd
    cases hpe:p e with
    |true=>
     have HX:=Lib.hid (show es.any p=true from any_at HE.out hpe)
     rw [hpe] at HC
     clear hpe
     go_wp2_with fail
     refine HC.out.mono ?_
     rintro r w1 ⟨rfl,hb⟩
     have HB1:=Lib.hid (HB.out.trans (hb.mono HB.out.size))
     clear hb
     go_wp2_with fail
     go_ret
     exact ⟨_,rfl,by rw [HX.out];exact decide_eq_true (by omega),HB1.out⟩
    |false=>
     have HX:=Lib.hid (any_take HA.out HE.out hpe)
     rw [hpe] at HC
     clear hpe
     go_wp2_with fail
     refine HC.out.mono ?_
     rintro r w1 ⟨rfl,hb⟩
     have HB1:=Lib.hid (HB.out.trans (hb.mono HB.out.size))
     clear hb
     go_wp2_with fail
     go_roundw
     case rel=>exact ⟨j+1,by omega,by go_num,HX,HB1⟩
     case measure=>simp [intOf];omega
   ·obtain rfl:es.length=j:=by omega
    have HX:=Lib.hid (show es.any p=false by have:=HA.out;rwa [List.take_length] at this)
    go_wp2_with fail
    go_ret
    exact ⟨_,rfl,by rw [HX.out];rfl,HB.out⟩
set_option maxHeartbeats 8000000 in
theorem hasL_c (fn:FuncId) (hfn:fn = 49 \/ fn = 55) (p:List Evt->Bool) (hp:∀(e:List Evt) (da:Option Addr) (dc:Nat) (w':World),RdS eEvt w' Z (.slice da e.length dc) e->Calls Tryz.prog fn #[.slice da e.length dc] w' fun r w''=>r=.returned (.bool (p e))/\Below w'.heap.size w' w'') (v:Value) (es:List (List Evt)) (h:RdS (eRd eEvt) w Z v es) :
  Calls Tryz.prog 48 #[v,.func (.func fn) #[] #[]] w fun r w'=>r=.returned (.bool (es.any p))/\Below w.heap.size w w':=by
 have HC:=Lib.hid (idxL_c fn hfn p hp v es h)
 clear h hp
 go_enter Tryz.func48,Tryz.ntmps48
 go_wp2_with fail
 refine HC.out.mono ?_
 rintro r w1 ⟨k,rfl,hk,hb⟩
 have HK:=Lib.hid hk
 have HB1:=Lib.hid hb
 clear hb hk
 go_wp2_with fail
 go_ret
 exact ⟨by rw [<-HK.out];rfl,HB1.out⟩
set_option maxHeartbeats 4000000 in
theorem long11_c (e:Evt) (da:Option Addr) (dc:Nat) (w:World):Calls Tryz.prog 51 #[evV e da dc] w fun r w'=>r=.returned (.bool (decide ((100:Int) < (e.data.length:Int))))/\Below w.heap.size w w':=by
 have c3:=blk_cell (i:=3) (heap_alloc_new w (.cells #[.int .i64 e.kind,.int .i64 e.side,.int .i64 e.cls,.slice da e.data.length dc] 36)) rfl
 go_enter Tryz.func51,Tryz.ntmps51
 go_wp2_with fail
 go_ret
 exact ⟨rfl,below_alloc _ _⟩
set_option maxHeartbeats 4000000 in
theorem restarts11_c (e:Evt) (da:Option Addr) (dc:Nat) (w:World):Calls Tryz.prog 56 #[evV e da dc] w fun r w'=>r=.returned (.bool (e.kind == 5))/\Below w.heap.size w w':=by
 have c0:=blk_cell (i:=0) (heap_alloc_new w (.cells #[.int .i64 e.kind,.int .i64 e.side,.int .i64 e.cls,.slice da e.data.length dc] 36)) rfl
 go_enter Tryz.func56,Tryz.ntmps56
 go_wp2_with fail
 go_ret
 exact ⟨rfl,below_alloc _ _⟩
def longL (l:List Evt):Bool:=decide ((6:Int) < (l.length:Int)) || l.any fun e=>decide ((100:Int) < (e.data.length:Int))
def longB (l:List (List Evt)):Bool:=decide ((60:Int) < (l.length:Int)) || l.any longL
def restB (l:List (List Evt)):Bool:=l.any fun l=>l.any fun e=>e.kind == 5
set_option maxHeartbeats 4000000 in
theorem long1_c (es:List Evt) (da:Option Addr) (dc:Nat) (w:World) (h:RdS eEvt w Z (.slice da es.length dc) es):Calls Tryz.prog 49 #[.slice da es.length dc] w fun r w'=>r=.returned (.bool (longL es))/\Below w.heap.size w w':=by
 have HC:=Lib.hid (hasE_c 51 (.inl rfl) _ (fun e da dc w=>long11_c e da dc w) _ es h)
 clear h
 by_cases h6:6 < es.length
 ·have HL:=Lib.hid (show longL es=true by unfold longL;rw [decide_eq_true (by omega)];rfl)
  clear HC
  go_enter Tryz.func49,Tryz.ntmps49
  go_wp2_with fail
  go_ret
  exact ⟨by rw [HL.out];rfl,Below.refl _ _⟩
 ·go_enter Tryz.func49,Tryz.ntmps49
  go_wp2_with fail
  refine HC.out.mono ?_
  rintro r w1 ⟨rfl,hb⟩
  have HB:=Lib.hid hb
  clear hb
  go_wp2_with fail
  go_ret
  exact ⟨rfl,HB.out⟩
set_option maxHeartbeats 4000000 in
theorem restarts1_c (es:List Evt) (da:Option Addr) (dc:Nat) (w:World) (h:RdS eEvt w Z (.slice da es.length dc) es):Calls Tryz.prog 55 #[.slice da es.length dc] w fun r w'=>r=.returned (.bool (es.any fun e=>e.kind == 5))/\Below w.heap.size w w':=by
 have HC:=Lib.hid (hasE_c 56 (.inr rfl) _ (fun e da dc w=>restarts11_c e da dc w) _ es h)
 clear h
 go_enter Tryz.func55,Tryz.ntmps55
 go_wp2_with fail
 refine HC.out.mono ?_
 rintro r w1 ⟨rfl,hb⟩
 have HB:=Lib.hid hb
 clear hb
 go_wp2_with fail
 go_ret
 exact ⟨rfl,HB.out⟩
set_option maxHeartbeats 4000000 in
theorem long_c (l:List (List Evt)) (a:Option Addr) (c:Nat) (h:RdS (eRd eEvt) w Z (.slice a l.length c) l):Calls Tryz.prog 20 #[.slice a l.length c] w fun r w'=>r=.returned (.bool (longB l))/\Below w.heap.size w w':=by
 have HC:=Lib.hid (hasL_c 49 (.inl rfl) longL (fun e da dc w h=>long1_c e da dc w h) _ l h)
 clear h
 by_cases h6:60 < l.length
 ·have HL:=Lib.hid (show longB l=true by unfold longB;rw [decide_eq_true (by omega)];rfl)
  clear HC
  go_enter Tryz.func20,Tryz.ntmps20
  go_wp2_with fail
  go_ret
  exact ⟨by rw [HL.out];rfl,Below.refl _ _⟩
 ·go_enter Tryz.func20,Tryz.ntmps20
  go_wp2_with fail
  refine HC.out.mono ?_
  rintro r w1 ⟨rfl,hb⟩
  have HB:=Lib.hid hb
  clear hb
  go_wp2_with fail
  go_ret
  exact ⟨rfl,HB.out⟩
set_option maxHeartbeats 4000000 in
theorem restarts_c (l:List (List Evt)) (a:Option Addr) (c:Nat) (h:RdS (eRd eEvt) w Z (.slice a l.length c) l):Calls Tryz.prog 27 #[.slice a l.length c] w fun r w'=>r=.returned (.bool (restB l))/\Below w.heap.size w w':=by
 have HC:=Lib.hid (hasL_c 55 (.inr rfl) _ (fun e da dc w h=>restarts1_c e da dc w h) _ l h)
 clear h
 go_enter Tryz.func27,Tryz.ntmps27
 go_wp2_with fail
 refine HC.out.mono ?_
 rintro r w1 ⟨rfl,hb⟩
 have HB:=Lib.hid hb
 clear hb
 go_wp2_with fail
 go_ret
 exact ⟨rfl,HB.out⟩
end
end

section
open Go.RowKit
set_option maxRecDepth 100000
def RCfg.cfg (c:RCfg):Cfg:=⟨c.inc.toNat,c.rooms.map Int.toNat,c.w.toNat,c.t.toNat,c.d.toNat⟩
def RSet.lk (s:RSet):Lk:=newLk s.a.cfg s.b.cfg s.delay.toNat s.there s.back
theorem RCfg.V.ok {c:RCfg} (h:c.V):c.cfg.Ok:=by
 obtain ⟨⟨h1,h2,h3,h4⟩,⟨h5,h6,h7⟩,h8,h9,h10,h11⟩:=h
 refine ⟨by show 1<=(c.rooms.map Int.toNat).length;rw [List.length_map];exact h5,by show (c.rooms.map Int.toNat).length<=4;rw [List.length_map];exact h6,fun x hx=>?_,by show 1<=c.inc.toNat;omega,by show c.inc.toNat<=_;omega,by show 1<=c.w.toNat;omega,by show c.w.toNat<=_;omega,by show 1<=c.t.toNat;omega,by show c.t.toNat<=_;omega,by show 1<=c.d.toNat;omega,by show c.d.toNat<=_;omega⟩
 obtain ⟨y,hy,rfl⟩:=List.mem_map.1 hx
 have:=h7 y hy
 omega
theorem RCfg.V.nums {c:RCfg} (h:c.V):(c.cfg.inc:Int)=c.inc/\(c.cfg.w:Int)=c.w/\(c.cfg.t:Int)=c.t/\(c.cfg.d:Int)=c.d/\c.cfg.rooms.length=c.rooms.length/\(c.cfg.rooms.map fun (x:Nat)=>(x:Int))=c.rooms:=by
 obtain ⟨⟨h1,h2,h3,h4⟩,⟨h5,h6,h7⟩,h8,h9,h10,h11⟩:=h
 refine ⟨by show ((c.inc.toNat:Nat):Int)=_;omega,by show ((c.w.toNat:Nat):Int)=_;omega,by show ((c.t.toNat:Nat):Int)=_;omega,by show ((c.d.toNat:Nat):Int)=_;omega,List.length_map ..,?_⟩
 show ((c.rooms.map Int.toNat).map fun (x:Nat)=>(x:Int))=c.rooms
 rw [List.map_map]
 refine (List.map_congr_left fun x hx=>?_).trans (List.map_id _)
 have:=h7 x hx
 show ((x.toNat:Nat):Int)=x
 omega
theorem els_nat {w:World} {F Z:BS}:∀ {F:BS} {us:List Value} (xs:List Nat),Els (eInt .i64) w F Z us (xs.map fun (x:Nat)=>(x:Int))->Els eNat w F Z us xs
 |_,_,[],h=>h
 |_,_,_::xs,⟨cs,rest,A,B,e,g1,g2,g3,h1,h2⟩=>⟨cs,rest,A,B,e,g1,g2,g3,h1,els_nat (F:=F) xs h2⟩
theorem rd_nat {w:World} {Z:BS} {v:Value} {xs:List Nat} (h:RdS (eInt .i64) w Z v (xs.map fun (x:Nat)=>(x:Int))):RdS eNat w Z v xs:=by
 obtain ⟨us,h1,h2,h3⟩:=h
 rw [List.length_map] at h1
 exact ⟨us,h1,els_nat (F:=Z) xs h2,h3⟩
theorem Small.full {s:RSet} (h:Small s):s.lk.Full 200 True:=by
 obtain ⟨h1,h2,h3,h4,h5,h6,h7,h8,h9,h10,h11,h12⟩:=h
 exact newLk_full h1.ok h2.ok (by omega) (by omega) h9 h10 (by omega) (by omega)
theorem RSet.lk_short (s:RSet):s.lk.Short:=⟨newLnd_short _ _ _ _ _ _ _,newLnd_short _ _ _ _ _ _ _⟩
section
variable {Z:BS} {W w:World} {ts:List Th} {j:Nat} {s:RSet} {aa ba ta ya:Option Addr} {ak bk tk yk:Nat}
structure SetAt (ts:List Th) (j:Nat) (s:RSet) (aa:Option Addr) (ak:Nat) (ba:Option Addr) (bk:Nat) (ta:Option Addr) (tk:Nat) (ya:Option Addr) (yk:Nat):Prop where
 a:ts[j]? = some (tRd (eInt .i64) (.slice aa s.a.rooms.length ak) s.a.rooms)
 b:ts[j+1]? = some (tRd (eInt .i64) (.slice ba s.b.rooms.length bk) s.b.rooms)
 t:ts[j+2]? = some (tRd eFlt (.slice ta s.there.length tk) s.there)
 y:ts[j+3]? = some (tRd eFlt (.slice ya s.back.length yk) s.back)
theorem SetAt.small (q:SetAt ts j s aa ak ba bk ta tk ya yk) (h:Held (fun _=>False) Z W ts w):Calls Tryz.prog 21 #[setV s aa ak ba bk ta tk ya yk] w fun e w'=>e=.returned (.bool (decide (Small s)))/\Below w.heap.size w w':=by
 obtain ⟨_,_,h1⟩:=h.get _ q.a
 obtain ⟨_,_,h2⟩:=h.get _ q.b
 obtain ⟨_,_,h3⟩:=h.get _ q.t
 obtain ⟨_,_,h4⟩:=h.get _ q.y
 exact small_c (Z:=fun _=>True) (RdS.mono (show RdS _ _ _ _ _ from h1) fun _ _=>trivial) (RdS.mono (show RdS _ _ _ _ _ from h2) fun _ _=>trivial) (RdS.mono (show RdS _ _ _ _ _ from h3) fun _ _=>trivial) (RdS.mono (show RdS _ _ _ _ _ from h4) fun _ _=>trivial)
set_option maxHeartbeats 16000000 in
theorem run_no (j:Nat) (q:SetAt ts j s aa ak ba bk ta tk ya yk) (hs:¬Small s) (h:Held (fun _=>False) Z W ts w) :
  Calls Tryz.prog 19 #[setV s aa ak ba bk ta tk ya yk] w fun e w'=>e=.returned (.pointer none)/\Below w.heap.size w w':=by
 have hb0:=below_alloc w (.cells #[.int .i64 s.a.inc,.slice aa s.a.rooms.length ak,.int .i64 s.a.w,.int .i64 s.a.t,.int .i64 s.a.d,.int .i64 s.b.inc,.slice ba s.b.rooms.length bk,.int .i64 s.b.w,.int .i64 s.b.t,.int .i64 s.b.d,.int .i64 s.delay,.slice ta s.there.length tk,.slice ya s.back.length yk] 43)
 have HC:=Lib.hid (q.small (h.own hb0))
 rw [decide_eq_false hs] at HC
 have HB:=Lib.hid hb0
 obtain ⟨x0,x1,x2,x3,x4,x5,x6,x7,x8,x9,x10,x11,x12⟩:=set_cells (heap_alloc_new w (.cells #[.int .i64 s.a.inc,.slice aa s.a.rooms.length ak,.int .i64 s.a.w,.int .i64 s.a.t,.int .i64 s.a.d,.int .i64 s.b.inc,.slice ba s.b.rooms.length bk,.int .i64 s.b.w,.int .i64 s.b.t,.int .i64 s.b.d,.int .i64 s.delay,.slice ta s.there.length tk,.slice ya s.back.length yk] 43))
 clear h q hs hb0
 go_enter Tryz.func19,Tryz.ntmps19
 go_wp2_with fail
 refine HC.out.mono ?_
 rintro e w1 ⟨rfl,hb⟩
 have HB1:=Lib.hid (HB.out.trans (hb.mono HB.out.size))
 clear hb
 go_wp2_with fail
 go_ret
 exact ⟨rfl,HB1.out⟩
set_option maxHeartbeats 16000000 in
theorem run_yes (j:Nat) (q:SetAt ts j s aa ak ba bk ta tk ya yk) (hs:Small s) (h:Held (fun _=>False) Z W ts w) :
  Calls Tryz.prog 19 #[setV s aa ak ba bk ta tk ya yk] w fun e w'=>∃p,e=.returned (.pointer (some ⟨p,0,none⟩))/\Held (fun _=>False) Z W (tLink p s.lk::ts) w':=by
 have hb0:=below_alloc w (.cells #[.int .i64 s.a.inc,.slice aa s.a.rooms.length ak,.int .i64 s.a.w,.int .i64 s.a.t,.int .i64 s.a.d,.int .i64 s.b.inc,.slice ba s.b.rooms.length bk,.int .i64 s.b.w,.int .i64 s.b.t,.int .i64 s.b.d,.int .i64 s.delay,.slice ta s.there.length tk,.slice ya s.back.length yk] 43)
 have hrow:=heap_alloc_new w (.cells #[.int .i64 s.a.inc,.slice aa s.a.rooms.length ak,.int .i64 s.a.w,.int .i64 s.a.t,.int .i64 s.a.d,.int .i64 s.b.inc,.slice ba s.b.rooms.length bk,.int .i64 s.b.w,.int .i64 s.b.t,.int .i64 s.b.d,.int .i64 s.delay,.slice ta s.there.length tk,.slice ya s.back.length yk] 43)
 have HC:=Lib.hid (q.small (h.own hb0))
 rw [decide_eq_true hs] at HC
 have HROW:=Lib.hid hrow
 have H0:=Lib.hid (h.own hb0)
 obtain ⟨x0,x1,x2,x3,x4,x5,x6,x7,x8,x9,x10,x11,x12⟩:=set_cells hrow
 have HN:Hid (∀w',Held (fun _=>False) Z W ts w'->Calls Tryz.prog 12 #[cfgV s.a.inc aa s.a.rooms.length ak s.a.w s.a.t s.a.d,cfgV s.b.inc ba s.b.rooms.length bk s.b.w s.b.t s.b.d,.int .i64 s.delay,.slice ta s.there.length tk,.slice ya s.back.length yk] w' fun e w''=>∃p,e=.returned (.tuple #[.pointer (some ⟨p,0,none⟩),.int .i64 0])/\Held (fun _=>False) Z W (tLink p s.lk::ts) w''):=Lib.hid fun w' h'=>by
  obtain ⟨h1,h2,h3,h4,h5,h6,h7,h8,h9,h10,h11,h12⟩:=hs
  obtain ⟨a1,a2,a3,a4,a5,a6⟩:=h1.nums
  obtain ⟨b1,b2,b3,b4,b5,b6⟩:=h2.nums
  have hd:((s.delay.toNat:Nat):Int)=s.delay:=by omega
  have k1:=h'.weak (T:=tRd eNat (.slice aa s.a.rooms.length ak) s.a.cfg.rooms) j q.a fun G Y hon=>rd_nat (by rw [a6];exact hon)
  have k2:=k1.front.weak (T:=tRd eNat (.slice ba s.b.rooms.length bk) s.b.cfg.rooms) (j+2) (by have:=q.b;exact this) fun G Y hon=>rd_nat (by rw [b6];exact hon)
  have:=newL_c (ts:=tRd eNat (.slice ba s.b.rooms.length bk) s.b.cfg.rooms::tRd eNat (.slice aa s.a.rooms.length ak) s.a.cfg.rooms::ts) s.a.cfg s.b.cfg h1.ok h2.ok s.delay.toNat (by omega) (by omega) s.there s.back h9 h10 (by omega) (by omega) aa ba ak bk (.slice ta s.there.length tk) (.slice ya s.back.length yk) 1 0 (j+4) (j+5) (by rw [a5];rfl) (by rw [b5];rfl) q.t q.y k2.front
  rw [a1,a2,a3,a4,a5,b1,b2,b3,b4,b5,hd] at this
  refine this.mono fun e w'' ⟨p,he,hh⟩=>⟨p,he,?_⟩
  exact Held.pickL (us:=[tLink p s.lk,tRd eNat (.slice ba s.b.rooms.length bk) s.b.cfg.rooms,tRd eNat (.slice aa s.a.rooms.length ak) s.a.cfg.rooms]) (vs:=[tLink p s.lk]) hh [0] (by decide) rfl
 clear h q hs hb0 hrow
 go_enter Tryz.func19,Tryz.ntmps19
 go_wp2_with fail
 refine HC.out.mono ?_
 rintro e w1 ⟨rfl,hb⟩
 have H1:=Lib.hid (H0.out.own hb)
 obtain ⟨y0,y1,y2,y3,y4,y5,y6,y7,y8,y9,y10,y11,y12⟩:=set_cells ((hb.block _ (lt_of_block HROW.out)).trans HROW.out)
 clear hb x0 x1 x2 x3 x4 x5 x6 x7 x8 x9 x10 x11 x12
 go_wp2_with fail
 refine (HN.out _ H1.out).mono ?_
 rintro e w2 ⟨p,rfl,h2⟩
 have H2:=Lib.hid h2
 clear h2
 go_wp2_with fail
 go_ret
 exact ⟨p,rfl,H2.out⟩
end
end

section
def Lk.runs (L:Lk) (el:List (List Evt)):Lk:=el.foldl Lk.step L
theorem Lk.runs_snoc (L:Lk) (el:List (List Evt)) (es:List Evt):L.runs (el++[es])=(L.runs el).step es:=by unfold Lk.runs;rw [List.foldl_append];rfl
theorem Lk.runs_take (L:Lk) {el:List (List Evt)} {k:Nat} {es:List Evt} (h:el[k]? = some es):L.runs (el.take (k+1))=(L.runs (el.take k)).step es:=by
 rw [List.take_add_one,h];exact L.runs_snoc _ _
structure Lims (el:List (List Evt)):Prop where
 n:el.length<=60
 e:∀es ∈ el,es.length<=6
 d:∀es ∈ el,∀e ∈ es,e.data.length<=100
theorem fits_of {el:List (List Evt)} (h:longB el=false):Lims el:=by
 unfold longB at h
 rw [Bool.or_eq_false_iff] at h
 have h1:=of_decide_eq_false h.1
 have h2:∀es ∈ el,longL es=false:=fun es hes=>by
  cases hl:longL es with
  |false=>rfl
  |true=>exact absurd (List.any_eq_true.2 ⟨es,hes,hl⟩) (by rw [h.2];decide)
 refine ⟨by omega,fun es hes=>?_,fun es hes e he=>?_⟩
 ·have:=h2 es hes
  unfold longL at this
  rw [Bool.or_eq_false_iff] at this
  have:=of_decide_eq_false this.1
  omega
 ·have:=h2 es hes
  unfold longL at this
  rw [Bool.or_eq_false_iff] at this
  by_cases hx:e.data.length<=100
  ·exact hx
  ·have hy:(es.any fun e=>decide ((100:Int) < (e.data.length:Int)))=true:=List.any_eq_true.2 ⟨e,he,decide_eq_true (by omega)⟩
   rw [this.2] at hy
   cases hy
theorem runs_full:∀(el:List (List Evt)) {L:Lk} {N:Nat} {Z:Prop},L.Full N Z->200<=N->(∀es ∈ el,es.length<=6)->(L.runs el).Full (N+13400*el.length) False
 |[],_,_,_,h,_,_=>h.mono (by simp) False.elim
 |es::el,L,N,Z,h,hN,hl=>by
  have h1:=hl es List.mem_cons_self
  have:=runs_full el ((h.step hN es).mono (show _<=N+13400 by omega) (Y:=False) False.elim) (by omega) fun x hx=>hl x (List.mem_cons_of_mem _ hx)
  exact this.mono (by rw [List.length_cons];omega) id
theorem runs_short:∀(el:List (List Evt)) {L:Lk} {N:Nat} {Z:Prop},L.Short->L.Full N Z->200<=N->(L.runs el).Short
 |[],_,_,_,s,_,_=>s
 |es::el,_,_,_,s,h,hN=>runs_short el (s.step h hN es) (h.step hN es) (by omega)
theorem runs_true:∀(el:List (List Evt)) {L:Lk} {N:Nat},L.Full N True->200<=N->(∀es ∈ el,es.length<=6)->(∀es ∈ el,∀e ∈ es,e.kind≠5)->(L.runs el).Full (N+13400*el.length) True
 |[],_,_,h,_,_,_=>h.mono (by simp) id
 |es::el,L,N,h,hN,hl,hr=>by
  have h1:=hl es List.mem_cons_self
  have:=runs_true el ((h.step hN es).mono (show _<=N+13400 by omega) (Y:=True) fun _=>⟨trivial,hr es List.mem_cons_self⟩) (by omega) (fun x hx=>hl x (List.mem_cons_of_mem _ hx)) fun x hx=>hr x (List.mem_cons_of_mem _ hx)
  exact this.mono (by rw [List.length_cons];omega) id
theorem offer_rooms (p:Prt) (c:Int) (d:Bytes):(p.offer c d).2.rooms=p.rooms:=by
 unfold Prt.offer
 split
 ·rfl
 ·split <;> rfl
theorem take_rooms (p:Prt) (c:Int):(p.take c).2.rooms=p.rooms:=by
 unfold Prt.take
 split <;> rfl
theorem restart_rooms (p:Prt) (c:Int):(p.restart c).2.rooms=p.rooms:=by
 unfold Prt.restart
 split <;> rfl
theorem act_rooms (x:Lnd) (e:Evt):(x.act e).2.prt.rooms=x.prt.rooms:=by
 unfold Lnd.act
 split
 ·unfold Lnd.offer
  split
  ·exact offer_rooms _ _ _
  ·rfl
 ·split
  ·have:=take_rooms x.prt e.cls
   unfold Lnd.take
   rcases hp:x.prt.take e.cls with ⟨o,q⟩
   rw [hp] at this
   cases o with
   |none=>rfl
   |some d=>exact this
  ·unfold Lnd.restart
   split
   ·exact restart_rooms _ _
   ·rfl
def Lk.Rms (L:Lk) (a b:List Nat):Prop:=L.l.prt.rooms=a/\L.r.prt.rooms=b
theorem Lk.Rms.act {L:Lk} {a b:List Nat} (h:L.Rms a b) (e:Evt):(L.act e).2.Rms a b:=by
 unfold Lk.act
 split
 ·exact h
 ·split
  ·exact h
  ·split
   ·exact h
   ·split
    ·exact ⟨(act_rooms _ _).trans h.1,h.2⟩
    ·split
     ·exact ⟨h.1,(act_rooms _ _).trans h.2⟩
     ·exact h
theorem Lk.Rms.acts:∀(es:List Evt) {L:Lk} {a b:List Nat},L.Rms a b->(L.acts es).2.Rms a b
 |[],_,_,_,h=>h
 |e::es,_,_,_,h=>Lk.Rms.acts es (h.act e)
theorem Lk.Rms.tick {L:Lk} {a b:List Nat} (h:L.Rms a b):L.tick.Rms a b:=by
 have s1:=L.l.tick.2.send_same (ys:=L.r.tick.1)
 have s2:=L.r.tick.2.send_same (ys:=L.l.tick.1)
 refine ⟨?_,?_⟩
 ·show (L.l.tick.2.send L.r.tick.1).prt.rooms=a
  rw [s1.prt];exact (tick_rooms _ _).trans h.1
 ·show (L.r.tick.2.send L.l.tick.1).prt.rooms=b
  rw [s2.prt];exact (tick_rooms _ _).trans h.2
theorem runs_rooms:∀(el:List (List Evt)) {L:Lk} {a b:List Nat},L.Rms a b->(L.runs el).Rms a b
 |[],_,_,_,h=>h
 |es::el,_,_,_,h=>runs_rooms el (h.acts es).tick
theorem RSet.rms (s:RSet):s.lk.Rms s.a.cfg.rooms s.b.cfg.rooms:=⟨rfl,rfl⟩
theorem Lk.Full.holds {L:Lk} {N:Nat} {Z:Prop} (h:L.Full N Z) {c:Nat} (hc:c < L.l.prt.rooms.length):L.l.prt.taken.getD c 0<=L.l.prt.received.getD c 0/\L.l.prt.received.getD c 0<=L.l.prt.taken.getD c 0+L.l.prt.rooms.getD c 0:=by
 have hr:=h.room.2 c hc
 obtain ⟨wl,wr,oa,ga,pa,ob,gb,pb,da,db,i,_⟩:=h
 have:=i.l.cons.got c hc
 omega
end

end Go.Proofs.YtckdblgobmofgaaGreatDoor
