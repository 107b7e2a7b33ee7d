/- Several texts in one: The reference's validity of a list of faults.; The limits of the statements: small. Printed by laws/gen_small.py. -/
import Derived.Test.YtckdblgobmofgaaGreatDoorPkE1
import Derived.Test.YtckdblgobmofgaaGreatDoorPkI1
namespace Go.Proofs.YtckdblgobmofgaaGreatDoor
section
open Go.RowKit
def prevAt (fs:List Flt) (i:Nat):Int:=if i=0 then -1 else match fs[i - 1]? with|some f=>f.at'|none => -1
set_option maxHeartbeats 16000000 in
set_option maxRecDepth 100000 in
theorem c_valid_any (w:World) (Z:BS) (v:Value) (fs:List Flt) (h:RdS eFlt w Z v fs) (hl:fs.length<=9223372036854775807) :
  Calls Tryz.prog 30 #[v] w fun e w'=>e=.returned (.bool (okF (-1) fs))/\Below w.heap.size w w':=by
 obtain ⟨a,c,rfl,hc1,hc2⟩:=h.shape
 have H:=Lib.hid h
 clear h
 go_enter Tryz.func30,Tryz.ntmps30
 go_wp2_with fail
 go_loopw [3] (fun i wr=>∃j:Nat,j<=fs.length/\i=.int .i64 j/\Hid (okF (prevAt fs j) (fs.drop j)=okF (-1) fs /\ -1<=prevAt fs j)/\Hid (Below w.heap.size w wr)) (fun i _=>fs.length - (intOf i).toNat)
 case atStart=>exact ⟨0,by omega,rfl,Lib.hid ⟨rfl,Int.le_refl _⟩,Lib.hid (Below.refl _ _)⟩
 case round=>
  obtain ⟨j,hj,rfl,HP,HB⟩:=hrel
  have hz:=HB.out.size
  by_cases hlt:j < fs.length
  ·obtain ⟨f,hf⟩:∃f,fs[j]? = some f:=⟨fs[j],List.getElem?_eq_getElem hlt⟩
   obtain ⟨b,off,rfl,c0,c1,c2,w0,w1,w2⟩:=flt_at (H.out.below HB.out) hf
   have hd:fs.drop j=f::fs.drop (j+1):=by
    have:=List.getElem?_eq_getElem hlt
    rw [this] at hf
    obtain rfl:=Option.some.inj hf
    exact List.drop_eq_getElem_cons hlt
   have hn:prevAt fs (j+1)=f.at':=by unfold prevAt;rw [if_neg (by omega),Nat.add_sub_cancel,hf]
   have HOK:Hid (okF (-1) fs=(decide (prevAt fs j < f.at') && decide (1<=f.kind) && decide (f.kind<=3) && decide (0<=f.arg) && okF f.at' (fs.drop (j+1)))):=Lib.hid (by rw [<-HP.out.1,hd];rfl)
   have HN:=Lib.hid hn
   have hpv:j=0->prevAt fs j = -1:=fun e=>by unfold prevAt;rw [if_pos e]
   have hge:=HP.out.2
   obtain ⟨g,hg⟩:∃g:Flt,0 < j->fs[j - 1]? = some g/\prevAt fs j=g.at':=by
    by_cases h0:0 < j
    ·exact ⟨fs[j - 1],fun _=>⟨List.getElem?_eq_getElem (by omega),by unfold prevAt;rw [if_neg (by omega),List.getElem?_eq_getElem (by omega)]⟩⟩
    ·exact ⟨f,fun h=>absurd h h0⟩
   clear hn hd HP
   have HG:=Lib.hid hg;have HPV:=Lib.hid hpv
   clear hg hpv hf
   have hcase:f.at' < 0\/(0<=f.at'/\f.kind < 1)\/(0<=f.at'/\1<=f.kind/\3 < f.kind)\/(0<=f.at'/\1<=f.kind/\f.kind<=3/\f.arg < 0)\/(0<=f.at'/\1<=f.kind/\f.kind<=3/\0<=f.arg/\j < 1)\/(0<=f.at'/\1<=f.kind/\f.kind<=3/\0<=f.arg/\0 < j/\f.at'<=g.at')\/(0<=f.at'/\1<=f.kind/\f.kind<=3/\0<=f.arg/\0 < j/\g.at' < f.at'):=by omega
   rcases hcase with q1|⟨q1,q2⟩|⟨q1,q2,q3⟩|⟨q1,q2,q3,q4⟩|⟨q1,q2,q3,q4,q5⟩|⟨q1,q2,q3,q4,q5,q6⟩|⟨q1,q2,q3,q4,q5,q6⟩
   ·skip
    have t0:decide (f.at' < 0)=true:=by simp <;> omega
    have HBAD:Hid (okF (-1) fs=false):=Lib.hid (by
     rw [HOK.out]
     have:¬prevAt fs j < f.at':=by omega
     simp [this])
    go_wp2_with fail
    go_quiet (fail)
    go_wp2_with fail
    go_ret
    exact ⟨by rw [HBAD.out];rfl,HB.out.trans ((below_drew _ _).mono hz)⟩
   ·skip
    have t0:decide (f.at' < 0)=false:=by simp <;> omega
    have t1:decide (f.kind < 1)=true:=by simp <;> omega
    have HBAD:Hid (okF (-1) fs=false):=Lib.hid (by
     rw [HOK.out]
     have:¬ 1<=f.kind:=by omega
     simp [this])
    go_wp2_with fail
    go_quiet (fail)
    go_wp2_with fail
    go_ret
    exact ⟨by rw [HBAD.out];rfl,HB.out.trans ((below_drew _ _).mono hz)⟩
   ·skip
    have t0:decide (f.at' < 0)=false:=by simp <;> omega
    have t1:decide (f.kind < 1)=false:=by simp <;> omega
    have t2:decide (3 < f.kind)=true:=by simp <;> omega
    have HBAD:Hid (okF (-1) fs=false):=Lib.hid (by
     rw [HOK.out]
     have:¬f.kind<=3:=by omega
     simp [this])
    go_wp2_with fail
    go_quiet (fail)
    go_wp2_with fail
    go_ret
    exact ⟨by rw [HBAD.out];rfl,HB.out.trans ((below_drew _ _).mono hz)⟩
   ·skip
    have t0:decide (f.at' < 0)=false:=by simp <;> omega
    have t1:decide (f.kind < 1)=false:=by simp <;> omega
    have t2:decide (3 < f.kind)=false:=by simp <;> omega
    have t3:decide (f.arg < 0)=true:=by simp <;> omega
    have HBAD:Hid (okF (-1) fs=false):=Lib.hid (by
     rw [HOK.out]
     have:¬ 0<=f.arg:=by omega
     simp [this])
    go_wp2_with fail
    go_quiet (fail)
    go_wp2_with fail
    go_ret
    exact ⟨by rw [HBAD.out];rfl,HB.out.trans ((below_drew _ _).mono hz)⟩
   ·have hp0:prevAt fs j < f.at':=by rw [HPV.out (by omega)];omega
    have HP0:=Lib.hid hp0;clear hp0
    have t0:decide (f.at' < 0)=false:=by simp <;> omega
    have t1:decide (f.kind < 1)=false:=by simp <;> omega
    have t2:decide (3 < f.kind)=false:=by simp <;> omega
    have t3:decide (f.arg < 0)=false:=by simp <;> omega
    have t4:decide (0 < (j:Int))=false:=by simp <;> omega
    have t5:decide (0 < j)=false:=by simp <;> omega
    have HGOOD:Hid (okF (prevAt fs (j+1)) (fs.drop (j+1))=okF (-1) fs /\ -1<=prevAt fs (j+1)):=Lib.hid (by
     rw [HN.out,HOK.out]
     refine ⟨?_,by omega⟩
     have:=HP0.out
     simp [this,q2,q3,q4])
    go_wp2_with fail
    go_quiet (fail)
    go_wp2_with fail
    go_roundw
    case rel=>exact ⟨j+1,by omega,by go_num,HGOOD,Lib.hid (HB.out.trans ((below_drew _ _).mono hz))⟩
    case measure=>simp [intOf];omega
   ·obtain ⟨g1,g2⟩:=HG.out q5
    obtain ⟨b',off',e',d0,_⟩:=flt_at (H.out.below HB.out) g1
    obtain ⟨rfl,rfl⟩:b=b'/\off=off':=by simpa using e'
    have G2:=Lib.hid g2
    have hjm:IntKind.i64.wrap ((j:Int) - 1)=((j - 1:Nat):Int):=by rw [IntWalk.i64_in _ (by omega)];omega
    clear g1 g2 e'
    have t0:decide (f.at' < 0)=false:=by simp <;> omega
    have t1:decide (f.kind < 1)=false:=by simp <;> omega
    have t2:decide (3 < f.kind)=false:=by simp <;> omega
    have t3:decide (f.arg < 0)=false:=by simp <;> omega
    have t4:decide (0 < (j:Int))=true:=by simp <;> omega
    have t5:decide (0 < j)=true:=by simp <;> omega
    have t6:decide (f.at'<=g.at')=true:=by simp <;> omega
    have HBAD:Hid (okF (-1) fs=false):=Lib.hid (by
     rw [HOK.out]
     have:¬prevAt fs j < f.at':=by rw [G2.out];omega
     simp [this])
    go_wp2_with fail
    go_quiet (fail)
    go_wp2_with fail
    go_ret
    exact ⟨by rw [HBAD.out];rfl,HB.out.trans ((below_drew _ _).mono hz)⟩
   ·obtain ⟨g1,g2⟩:=HG.out q5
    obtain ⟨b',off',e',d0,_⟩:=flt_at (H.out.below HB.out) g1
    obtain ⟨rfl,rfl⟩:b=b'/\off=off':=by simpa using e'
    have G2:=Lib.hid g2
    have hjm:IntKind.i64.wrap ((j:Int) - 1)=((j - 1:Nat):Int):=by rw [IntWalk.i64_in _ (by omega)];omega
    clear g1 g2 e'
    have t0:decide (f.at' < 0)=false:=by simp <;> omega
    have t1:decide (f.kind < 1)=false:=by simp <;> omega
    have t2:decide (3 < f.kind)=false:=by simp <;> omega
    have t3:decide (f.arg < 0)=false:=by simp <;> omega
    have t4:decide (0 < (j:Int))=true:=by simp <;> omega
    have t5:decide (0 < j)=true:=by simp <;> omega
    have t6:decide (f.at'<=g.at')=false:=by simp <;> omega
    have HGOOD:Hid (okF (prevAt fs (j+1)) (fs.drop (j+1))=okF (-1) fs /\ -1<=prevAt fs (j+1)):=Lib.hid (by
     rw [HN.out,HOK.out]
     refine ⟨?_,by omega⟩
     have:prevAt fs j < f.at':=by rw [G2.out];omega
     simp [this,q2,q3,q4])
    go_wp2_with fail
    go_quiet (fail)
    go_wp2_with fail
    go_roundw
    case rel=>exact ⟨j+1,by omega,by go_num,HGOOD,Lib.hid (HB.out.trans ((below_drew _ _).mono hz))⟩
    case measure=>simp [intOf];omega
  ·have HP2:=Lib.hid (show okF (-1) fs=true by rw [<-HP.out.1,List.drop_of_length_le (by omega)];rfl)
   clear HP
   go_wp2_with fail
   go_ret
   exact ⟨by rw [HP2.out];rfl,HB.out⟩
end

section
open Go.RowKit
set_option maxRecDepth 100000
def RCfg.V (c:RCfg):Prop:=V11 c.inc c.rooms c.w c.t c.d
instance (c:RCfg):Decidable c.V:=by unfold RCfg.V;infer_instance
abbrev VA (s:RSet):Prop:=s.a.V
abbrev VB (s:RSet):Prop:=s.b.V
def Small (s:RSet):Prop:=VA s/\VB s/\1<=s.delay/\s.delay<=6/\3<=s.a.d/\3<=s.b.d/\s.a.t<=40/\s.b.t<=40/\okF (-1) s.there=true/\okF (-1) s.back=true/\s.there.length<=200/\s.back.length<=200
instance (s:RSet):Decidable (Small s):=by unfold Small;infer_instance
theorem nums_of {w:World} {Z:BS} {a:Option Addr} {n c:Nat} {l:List Int} (h:RdS (eInt .i64) w Z (.slice a n c) l):Nums w a l:=fun k x hk=>by
 obtain ⟨b,off,cs,e,_,hr,hc⟩:=h.at (by decide) hk
 have h1:cs=[.int .i64 x]:=hr
 subst h1
 refine ⟨b,off,e,?_⟩
 have:=hc 0 _ rfl
 rwa [show off+k*(eInt .i64).size+0=off+k by show off+k*1+0=_;omega] at this
theorem set_cells {w:World} {p:Nat} {u0 u1 u2 u3 u4 u5 u6 u7 u8 u9 u10 u11 u12:Value} {T:TypeId} (h:w.heap[p]? = some (.cells #[u0,u1,u2,u3,u4,u5,u6,u7,u8,u9,u10,u11,u12] T)) :
  w.cell? ⟨p,0,none⟩=some u0/\w.cell? ⟨p,1,none⟩=some u1/\w.cell? ⟨p,2,none⟩=some u2/\w.cell? ⟨p,3,none⟩=some u3/\w.cell? ⟨p,4,none⟩=some u4/\w.cell? ⟨p,5,none⟩=some u5/\w.cell? ⟨p,6,none⟩=some u6/\w.cell? ⟨p,7,none⟩=some u7/\w.cell? ⟨p,8,none⟩=some u8/\w.cell? ⟨p,9,none⟩=some u9/\w.cell? ⟨p,10,none⟩=some u10/\w.cell? ⟨p,11,none⟩=some u11/\w.cell? ⟨p,12,none⟩=some u12:=
 ⟨blk_cell h rfl,blk_cell h rfl,blk_cell h rfl,blk_cell h rfl,blk_cell h rfl,blk_cell h rfl,blk_cell h rfl,blk_cell h rfl,blk_cell h rfl,blk_cell h rfl,blk_cell h rfl,blk_cell h rfl,blk_cell h rfl⟩
section
variable {w:World} {Z:BS} {s:RSet} {aa ba ta ya:Option Addr} {ak bk tk yk:Nat}
set_option maxHeartbeats 16000000 in
theorem small_c (ha:RdS (eInt .i64) w Z (.slice aa s.a.rooms.length ak) s.a.rooms) (hb:RdS (eInt .i64) w Z (.slice ba s.b.rooms.length bk) s.b.rooms) (ht:RdS eFlt w Z (.slice ta s.there.length tk) s.there) (hy:RdS eFlt w Z (.slice ya s.back.length yk) s.back) :
  Calls Tryz.prog 21 #[setV s aa ak ba bk ta tk ya yk] w fun e w'=>e=.returned (.bool (decide (Small s)))/\Below w.heap.size w w':=by
 have HROW:=Lib.hid (heap_alloc_new w (.cells #[.int .i64 s.a.inc,.slice aa s.a.rooms.length ak,.int .i64 s.a.w,.int .i64 s.a.t,.int .i64 s.a.d,.int .i64 s.b.inc,.slice ba s.b.rooms.length bk,.int .i64 s.b.w,.int .i64 s.b.t,.int .i64 s.b.d,.int .i64 s.delay,.slice ta s.there.length tk,.slice ya s.back.length yk] 43))
 have HB:=Lib.hid (below_alloc w (.cells #[.int .i64 s.a.inc,.slice aa s.a.rooms.length ak,.int .i64 s.a.w,.int .i64 s.a.t,.int .i64 s.a.d,.int .i64 s.b.inc,.slice ba s.b.rooms.length bk,.int .i64 s.b.w,.int .i64 s.b.t,.int .i64 s.b.d,.int .i64 s.delay,.slice ta s.there.length tk,.slice ya s.back.length yk] 43))
 have hlen:∀ {α : Type} {E:El α} {a:Option Addr} {c:Nat} {l:List α},RdS E w Z (.slice a l.length c) l->l.length<=9223372036854775807:=fun h=>by
  obtain ⟨_,c,e,h1,h2⟩:=h.shape
  unfold maxLen at h2
  omega
 have HVA:Hid (∀w',Below w.heap.size w w'->Calls Tryz.prog 29 #[cfgV s.a.inc aa s.a.rooms.length ak s.a.w s.a.t s.a.d] w' fun e w''=>e=.returned (.bool (decide (VA s)))/\Below w'.heap.size w' w''):=Lib.hid fun w' h=>valid11_c w' (hlen ha) ((nums_of ha).below h)
 have HVB:Hid (∀w',Below w.heap.size w w'->Calls Tryz.prog 29 #[cfgV s.b.inc ba s.b.rooms.length bk s.b.w s.b.t s.b.d] w' fun e w''=>e=.returned (.bool (decide (VB s)))/\Below w'.heap.size w' w''):=Lib.hid fun w' h=>valid11_c w' (hlen hb) ((nums_of hb).below h)
 have HVT:Hid (∀w',Below w.heap.size w w'->Calls Tryz.prog 30 #[.slice ta s.there.length tk] w' fun e w''=>e=.returned (.bool (okF (-1) s.there))/\Below w'.heap.size w' w''):=Lib.hid fun w' h=>c_valid_any w' Z _ _ (ht.below h) (hlen ht)
 have HVY:Hid (∀w',Below w.heap.size w w'->Calls Tryz.prog 30 #[.slice ya s.back.length yk] w' fun e w''=>e=.returned (.bool (okF (-1) s.back))/\Below w'.heap.size w' w''):=Lib.hid fun w' h=>c_valid_any w' Z _ _ (hy.below h) (hlen hy)
 have ht0:=hlen ht
 have hy0:=hlen hy
 clear ha hb ht hy hlen
 by_cases g0:VA s
 rotate_left
 focus
  have HD:=Lib.hid (show decide (Small s)=false from decide_eq_false fun h=>g0 (by obtain ⟨q0,q1,q2,q3,q4,q5,q6,q7,q8,q9,q10,q11⟩:=h;exact q0))
  have HZ0:=Lib.hid (decide_eq_false g0)
  clear g0
  obtain ⟨x0,x1,x2,x3,x4,x5,x6,x7,x8,x9,x10,x11,x12⟩:=set_cells HROW.out
  go_enter Tryz.func21,Tryz.ntmps21
  go_wp2_with fail
  refine (HVA.out _ HB.out).mono ?_
  rintro e w1 ⟨rfl,hbb⟩
  rw [HZ0.out]
  have HB1:=Lib.hid (HB.out.trans (hbb.mono HB.out.size))
  have HROW1:=Lib.hid ((hbb.block _ (lt_of_block HROW.out)).trans HROW.out)
  clear hbb x0 x1 x2 x3 x4 x5 x6 x7 x8 x9 x10 x11 x12
  obtain ⟨x0,x1,x2,x3,x4,x5,x6,x7,x8,x9,x10,x11,x12⟩:=set_cells HROW1.out
  go_wp2_with fail
  go_ret
  exact ⟨by rw [HD.out];rfl,HB1.out⟩
 by_cases g1:VB s
 rotate_left
 focus
  have HD:=Lib.hid (show decide (Small s)=false from decide_eq_false fun h=>g1 (by obtain ⟨q0,q1,q2,q3,q4,q5,q6,q7,q8,q9,q10,q11⟩:=h;exact q1))
  have HZ0:=Lib.hid (decide_eq_true g0)
  have HZ1:=Lib.hid (decide_eq_false g1)
  clear g0 g1
  obtain ⟨x0,x1,x2,x3,x4,x5,x6,x7,x8,x9,x10,x11,x12⟩:=set_cells HROW.out
  go_enter Tryz.func21,Tryz.ntmps21
  go_wp2_with fail
  refine (HVA.out _ HB.out).mono ?_
  rintro e w1 ⟨rfl,hbb⟩
  rw [HZ0.out]
  have HB1:=Lib.hid (HB.out.trans (hbb.mono HB.out.size))
  have HROW1:=Lib.hid ((hbb.block _ (lt_of_block HROW.out)).trans HROW.out)
  clear hbb x0 x1 x2 x3 x4 x5 x6 x7 x8 x9 x10 x11 x12
  obtain ⟨x0,x1,x2,x3,x4,x5,x6,x7,x8,x9,x10,x11,x12⟩:=set_cells HROW1.out
  go_wp2_with fail
  refine (HVB.out _ HB1.out).mono ?_
  rintro e w2 ⟨rfl,hbb⟩
  rw [HZ1.out]
  have HB2:=Lib.hid (HB1.out.trans (hbb.mono HB1.out.size))
  have HROW2:=Lib.hid ((hbb.block _ (lt_of_block HROW1.out)).trans HROW1.out)
  clear hbb x0 x1 x2 x3 x4 x5 x6 x7 x8 x9 x10 x11 x12
  obtain ⟨x0,x1,x2,x3,x4,x5,x6,x7,x8,x9,x10,x11,x12⟩:=set_cells HROW2.out
  go_wp2_with fail
  go_ret
  exact ⟨by rw [HD.out];rfl,HB2.out⟩
 by_cases g2:1<=s.delay
 rotate_left
 focus
  have HD:=Lib.hid (show decide (Small s)=false from decide_eq_false fun h=>g2 (by obtain ⟨q0,q1,q2,q3,q4,q5,q6,q7,q8,q9,q10,q11⟩:=h;exact q2))
  have n2:s.delay < 1:=by omega
  have HZ0:=Lib.hid (decide_eq_true g0)
  have HZ1:=Lib.hid (decide_eq_true g1)
  clear g0 g1 g2
  obtain ⟨x0,x1,x2,x3,x4,x5,x6,x7,x8,x9,x10,x11,x12⟩:=set_cells HROW.out
  go_enter Tryz.func21,Tryz.ntmps21
  go_wp2_with fail
  refine (HVA.out _ HB.out).mono ?_
  rintro e w1 ⟨rfl,hbb⟩
  rw [HZ0.out]
  have HB1:=Lib.hid (HB.out.trans (hbb.mono HB.out.size))
  have HROW1:=Lib.hid ((hbb.block _ (lt_of_block HROW.out)).trans HROW.out)
  clear hbb x0 x1 x2 x3 x4 x5 x6 x7 x8 x9 x10 x11 x12
  obtain ⟨x0,x1,x2,x3,x4,x5,x6,x7,x8,x9,x10,x11,x12⟩:=set_cells HROW1.out
  go_wp2_with fail
  refine (HVB.out _ HB1.out).mono ?_
  rintro e w2 ⟨rfl,hbb⟩
  rw [HZ1.out]
  have HB2:=Lib.hid (HB1.out.trans (hbb.mono HB1.out.size))
  have HROW2:=Lib.hid ((hbb.block _ (lt_of_block HROW1.out)).trans HROW1.out)
  clear hbb x0 x1 x2 x3 x4 x5 x6 x7 x8 x9 x10 x11 x12
  obtain ⟨x0,x1,x2,x3,x4,x5,x6,x7,x8,x9,x10,x11,x12⟩:=set_cells HROW2.out
  go_wp2_with fail
  go_ret
  exact ⟨by rw [HD.out];rfl,HB2.out⟩
 by_cases g3:s.delay<=6
 rotate_left
 focus
  have HD:=Lib.hid (show decide (Small s)=false from decide_eq_false fun h=>g3 (by obtain ⟨q0,q1,q2,q3,q4,q5,q6,q7,q8,q9,q10,q11⟩:=h;exact q3))
  have n3:6 < s.delay:=by omega
  have HZ0:=Lib.hid (decide_eq_true g0)
  have HZ1:=Lib.hid (decide_eq_true g1)
  clear g0 g1 g3
  obtain ⟨x0,x1,x2,x3,x4,x5,x6,x7,x8,x9,x10,x11,x12⟩:=set_cells HROW.out
  go_enter Tryz.func21,Tryz.ntmps21
  go_wp2_with fail
  refine (HVA.out _ HB.out).mono ?_
  rintro e w1 ⟨rfl,hbb⟩
  rw [HZ0.out]
  have HB1:=Lib.hid (HB.out.trans (hbb.mono HB.out.size))
  have HROW1:=Lib.hid ((hbb.block _ (lt_of_block HROW.out)).trans HROW.out)
  clear hbb x0 x1 x2 x3 x4 x5 x6 x7 x8 x9 x10 x11 x12
  obtain ⟨x0,x1,x2,x3,x4,x5,x6,x7,x8,x9,x10,x11,x12⟩:=set_cells HROW1.out
  go_wp2_with fail
  refine (HVB.out _ HB1.out).mono ?_
  rintro e w2 ⟨rfl,hbb⟩
  rw [HZ1.out]
  have HB2:=Lib.hid (HB1.out.trans (hbb.mono HB1.out.size))
  have HROW2:=Lib.hid ((hbb.block _ (lt_of_block HROW1.out)).trans HROW1.out)
  clear hbb x0 x1 x2 x3 x4 x5 x6 x7 x8 x9 x10 x11 x12
  obtain ⟨x0,x1,x2,x3,x4,x5,x6,x7,x8,x9,x10,x11,x12⟩:=set_cells HROW2.out
  go_wp2_with fail
  go_ret
  exact ⟨by rw [HD.out];rfl,HB2.out⟩
 by_cases g4:3<=s.a.d
 rotate_left
 focus
  have HD:=Lib.hid (show decide (Small s)=false from decide_eq_false fun h=>g4 (by obtain ⟨q0,q1,q2,q3,q4,q5,q6,q7,q8,q9,q10,q11⟩:=h;exact q4))
  have n4:s.a.d < 3:=by omega
  have HZ0:=Lib.hid (decide_eq_true g0)
  have HZ1:=Lib.hid (decide_eq_true g1)
  clear g0 g1 g4
  obtain ⟨x0,x1,x2,x3,x4,x5,x6,x7,x8,x9,x10,x11,x12⟩:=set_cells HROW.out
  go_enter Tryz.func21,Tryz.ntmps21
  go_wp2_with fail
  refine (HVA.out _ HB.out).mono ?_
  rintro e w1 ⟨rfl,hbb⟩
  rw [HZ0.out]
  have HB1:=Lib.hid (HB.out.trans (hbb.mono HB.out.size))
  have HROW1:=Lib.hid ((hbb.block _ (lt_of_block HROW.out)).trans HROW.out)
  clear hbb x0 x1 x2 x3 x4 x5 x6 x7 x8 x9 x10 x11 x12
  obtain ⟨x0,x1,x2,x3,x4,x5,x6,x7,x8,x9,x10,x11,x12⟩:=set_cells HROW1.out
  go_wp2_with fail
  refine (HVB.out _ HB1.out).mono ?_
  rintro e w2 ⟨rfl,hbb⟩
  rw [HZ1.out]
  have HB2:=Lib.hid (HB1.out.trans (hbb.mono HB1.out.size))
  have HROW2:=Lib.hid ((hbb.block _ (lt_of_block HROW1.out)).trans HROW1.out)
  clear hbb x0 x1 x2 x3 x4 x5 x6 x7 x8 x9 x10 x11 x12
  obtain ⟨x0,x1,x2,x3,x4,x5,x6,x7,x8,x9,x10,x11,x12⟩:=set_cells HROW2.out
  go_wp2_with fail
  go_ret
  exact ⟨by rw [HD.out];rfl,HB2.out⟩
 by_cases g5:3<=s.b.d
 rotate_left
 focus
  have HD:=Lib.hid (show decide (Small s)=false from decide_eq_false fun h=>g5 (by obtain ⟨q0,q1,q2,q3,q4,q5,q6,q7,q8,q9,q10,q11⟩:=h;exact q5))
  have n5:s.b.d < 3:=by omega
  have HZ0:=Lib.hid (decide_eq_true g0)
  have HZ1:=Lib.hid (decide_eq_true g1)
  clear g0 g1 g5
  obtain ⟨x0,x1,x2,x3,x4,x5,x6,x7,x8,x9,x10,x11,x12⟩:=set_cells HROW.out
  go_enter Tryz.func21,Tryz.ntmps21
  go_wp2_with fail
  refine (HVA.out _ HB.out).mono ?_
  rintro e w1 ⟨rfl,hbb⟩
  rw [HZ0.out]
  have HB1:=Lib.hid (HB.out.trans (hbb.mono HB.out.size))
  have HROW1:=Lib.hid ((hbb.block _ (lt_of_block HROW.out)).trans HROW.out)
  clear hbb x0 x1 x2 x3 x4 x5 x6 x7 x8 x9 x10 x11 x12
  obtain ⟨x0,x1,x2,x3,x4,x5,x6,x7,x8,x9,x10,x11,x12⟩:=set_cells HROW1.out
  go_wp2_with fail
  refine (HVB.out _ HB1.out).mono ?_
  rintro e w2 ⟨rfl,hbb⟩
  rw [HZ1.out]
  have HB2:=Lib.hid (HB1.out.trans (hbb.mono HB1.out.size))
  have HROW2:=Lib.hid ((hbb.block _ (lt_of_block HROW1.out)).trans HROW1.out)
  clear hbb x0 x1 x2 x3 x4 x5 x6 x7 x8 x9 x10 x11 x12
  obtain ⟨x0,x1,x2,x3,x4,x5,x6,x7,x8,x9,x10,x11,x12⟩:=set_cells HROW2.out
  go_wp2_with fail
  go_ret
  exact ⟨by rw [HD.out];rfl,HB2.out⟩
 by_cases g6:s.a.t<=40
 rotate_left
 focus
  have HD:=Lib.hid (show decide (Small s)=false from decide_eq_false fun h=>g6 (by obtain ⟨q0,q1,q2,q3,q4,q5,q6,q7,q8,q9,q10,q11⟩:=h;exact q6))
  have n6:40 < s.a.t:=by omega
  have HZ0:=Lib.hid (decide_eq_true g0)
  have HZ1:=Lib.hid (decide_eq_true g1)
  clear g0 g1 g6
  obtain ⟨x0,x1,x2,x3,x4,x5,x6,x7,x8,x9,x10,x11,x12⟩:=set_cells HROW.out
  go_enter Tryz.func21,Tryz.ntmps21
  go_wp2_with fail
  refine (HVA.out _ HB.out).mono ?_
  rintro e w1 ⟨rfl,hbb⟩
  rw [HZ0.out]
  have HB1:=Lib.hid (HB.out.trans (hbb.mono HB.out.size))
  have HROW1:=Lib.hid ((hbb.block _ (lt_of_block HROW.out)).trans HROW.out)
  clear hbb x0 x1 x2 x3 x4 x5 x6 x7 x8 x9 x10 x11 x12
  obtain ⟨x0,x1,x2,x3,x4,x5,x6,x7,x8,x9,x10,x11,x12⟩:=set_cells HROW1.out
  go_wp2_with fail
  refine (HVB.out _ HB1.out).mono ?_
  rintro e w2 ⟨rfl,hbb⟩
  rw [HZ1.out]
  have HB2:=Lib.hid (HB1.out.trans (hbb.mono HB1.out.size))
  have HROW2:=Lib.hid ((hbb.block _ (lt_of_block HROW1.out)).trans HROW1.out)
  clear hbb x0 x1 x2 x3 x4 x5 x6 x7 x8 x9 x10 x11 x12
  obtain ⟨x0,x1,x2,x3,x4,x5,x6,x7,x8,x9,x10,x11,x12⟩:=set_cells HROW2.out
  go_wp2_with fail
  go_ret
  exact ⟨by rw [HD.out];rfl,HB2.out⟩
 by_cases g7:s.b.t<=40
 rotate_left
 focus
  have HD:=Lib.hid (show decide (Small s)=false from decide_eq_false fun h=>g7 (by obtain ⟨q0,q1,q2,q3,q4,q5,q6,q7,q8,q9,q10,q11⟩:=h;exact q7))
  have n7:40 < s.b.t:=by omega
  have HZ0:=Lib.hid (decide_eq_true g0)
  have HZ1:=Lib.hid (decide_eq_true g1)
  clear g0 g1 g7
  obtain ⟨x0,x1,x2,x3,x4,x5,x6,x7,x8,x9,x10,x11,x12⟩:=set_cells HROW.out
  go_enter Tryz.func21,Tryz.ntmps21
  go_wp2_with fail
  refine (HVA.out _ HB.out).mono ?_
  rintro e w1 ⟨rfl,hbb⟩
  rw [HZ0.out]
  have HB1:=Lib.hid (HB.out.trans (hbb.mono HB.out.size))
  have HROW1:=Lib.hid ((hbb.block _ (lt_of_block HROW.out)).trans HROW.out)
  clear hbb x0 x1 x2 x3 x4 x5 x6 x7 x8 x9 x10 x11 x12
  obtain ⟨x0,x1,x2,x3,x4,x5,x6,x7,x8,x9,x10,x11,x12⟩:=set_cells HROW1.out
  go_wp2_with fail
  refine (HVB.out _ HB1.out).mono ?_
  rintro e w2 ⟨rfl,hbb⟩
  rw [HZ1.out]
  have HB2:=Lib.hid (HB1.out.trans (hbb.mono HB1.out.size))
  have HROW2:=Lib.hid ((hbb.block _ (lt_of_block HROW1.out)).trans HROW1.out)
  clear hbb x0 x1 x2 x3 x4 x5 x6 x7 x8 x9 x10 x11 x12
  obtain ⟨x0,x1,x2,x3,x4,x5,x6,x7,x8,x9,x10,x11,x12⟩:=set_cells HROW2.out
  go_wp2_with fail
  go_ret
  exact ⟨by rw [HD.out];rfl,HB2.out⟩
 by_cases g8:okF (-1) s.there=true
 rotate_left
 focus
  have HD:=Lib.hid (show decide (Small s)=false from decide_eq_false fun h=>g8 (by obtain ⟨q0,q1,q2,q3,q4,q5,q6,q7,q8,q9,q10,q11⟩:=h;exact q8))
  have HZ0:=Lib.hid (decide_eq_true g0)
  have HZ1:=Lib.hid (decide_eq_true g1)
  have HZ2:=Lib.hid (Bool.eq_false_iff.2 g8)
  clear g0 g1 g8
  obtain ⟨x0,x1,x2,x3,x4,x5,x6,x7,x8,x9,x10,x11,x12⟩:=set_cells HROW.out
  go_enter Tryz.func21,Tryz.ntmps21
  go_wp2_with fail
  refine (HVA.out _ HB.out).mono ?_
  rintro e w1 ⟨rfl,hbb⟩
  rw [HZ0.out]
  have HB1:=Lib.hid (HB.out.trans (hbb.mono HB.out.size))
  have HROW1:=Lib.hid ((hbb.block _ (lt_of_block HROW.out)).trans HROW.out)
  clear hbb x0 x1 x2 x3 x4 x5 x6 x7 x8 x9 x10 x11 x12
  obtain ⟨x0,x1,x2,x3,x4,x5,x6,x7,x8,x9,x10,x11,x12⟩:=set_cells HROW1.out
  go_wp2_with fail
  refine (HVB.out _ HB1.out).mono ?_
  rintro e w2 ⟨rfl,hbb⟩
  rw [HZ1.out]
  have HB2:=Lib.hid (HB1.out.trans (hbb.mono HB1.out.size))
  have HROW2:=Lib.hid ((hbb.block _ (lt_of_block HROW1.out)).trans HROW1.out)
  clear hbb x0 x1 x2 x3 x4 x5 x6 x7 x8 x9 x10 x11 x12
  obtain ⟨x0,x1,x2,x3,x4,x5,x6,x7,x8,x9,x10,x11,x12⟩:=set_cells HROW2.out
  go_wp2_with fail
  refine (HVT.out _ HB2.out).mono ?_
  rintro e w3 ⟨rfl,hbb⟩
  rw [HZ2.out]
  have HB3:=Lib.hid (HB2.out.trans (hbb.mono HB2.out.size))
  have HROW3:=Lib.hid ((hbb.block _ (lt_of_block HROW2.out)).trans HROW2.out)
  clear hbb x0 x1 x2 x3 x4 x5 x6 x7 x8 x9 x10 x11 x12
  obtain ⟨x0,x1,x2,x3,x4,x5,x6,x7,x8,x9,x10,x11,x12⟩:=set_cells HROW3.out
  go_wp2_with fail
  go_ret
  exact ⟨by rw [HD.out];rfl,HB3.out⟩
 by_cases g9:okF (-1) s.back=true
 rotate_left
 focus
  have HD:=Lib.hid (show decide (Small s)=false from decide_eq_false fun h=>g9 (by obtain ⟨q0,q1,q2,q3,q4,q5,q6,q7,q8,q9,q10,q11⟩:=h;exact q9))
  have HZ0:=Lib.hid (decide_eq_true g0)
  have HZ1:=Lib.hid (decide_eq_true g1)
  have HZ2:=Lib.hid (g8)
  have HZ3:=Lib.hid (Bool.eq_false_iff.2 g9)
  clear g0 g1 g8 g9
  obtain ⟨x0,x1,x2,x3,x4,x5,x6,x7,x8,x9,x10,x11,x12⟩:=set_cells HROW.out
  go_enter Tryz.func21,Tryz.ntmps21
  go_wp2_with fail
  refine (HVA.out _ HB.out).mono ?_
  rintro e w1 ⟨rfl,hbb⟩
  rw [HZ0.out]
  have HB1:=Lib.hid (HB.out.trans (hbb.mono HB.out.size))
  have HROW1:=Lib.hid ((hbb.block _ (lt_of_block HROW.out)).trans HROW.out)
  clear hbb x0 x1 x2 x3 x4 x5 x6 x7 x8 x9 x10 x11 x12
  obtain ⟨x0,x1,x2,x3,x4,x5,x6,x7,x8,x9,x10,x11,x12⟩:=set_cells HROW1.out
  go_wp2_with fail
  refine (HVB.out _ HB1.out).mono ?_
  rintro e w2 ⟨rfl,hbb⟩
  rw [HZ1.out]
  have HB2:=Lib.hid (HB1.out.trans (hbb.mono HB1.out.size))
  have HROW2:=Lib.hid ((hbb.block _ (lt_of_block HROW1.out)).trans HROW1.out)
  clear hbb x0 x1 x2 x3 x4 x5 x6 x7 x8 x9 x10 x11 x12
  obtain ⟨x0,x1,x2,x3,x4,x5,x6,x7,x8,x9,x10,x11,x12⟩:=set_cells HROW2.out
  go_wp2_with fail
  refine (HVT.out _ HB2.out).mono ?_
  rintro e w3 ⟨rfl,hbb⟩
  rw [HZ2.out]
  have HB3:=Lib.hid (HB2.out.trans (hbb.mono HB2.out.size))
  have HROW3:=Lib.hid ((hbb.block _ (lt_of_block HROW2.out)).trans HROW2.out)
  clear hbb x0 x1 x2 x3 x4 x5 x6 x7 x8 x9 x10 x11 x12
  obtain ⟨x0,x1,x2,x3,x4,x5,x6,x7,x8,x9,x10,x11,x12⟩:=set_cells HROW3.out
  go_wp2_with fail
  refine (HVY.out _ HB3.out).mono ?_
  rintro e w4 ⟨rfl,hbb⟩
  rw [HZ3.out]
  have HB4:=Lib.hid (HB3.out.trans (hbb.mono HB3.out.size))
  have HROW4:=Lib.hid ((hbb.block _ (lt_of_block HROW3.out)).trans HROW3.out)
  clear hbb x0 x1 x2 x3 x4 x5 x6 x7 x8 x9 x10 x11 x12
  obtain ⟨x0,x1,x2,x3,x4,x5,x6,x7,x8,x9,x10,x11,x12⟩:=set_cells HROW4.out
  go_wp2_with fail
  go_ret
  exact ⟨by rw [HD.out];rfl,HB4.out⟩
 by_cases g10:s.there.length<=200
 rotate_left
 focus
  have HD:=Lib.hid (show decide (Small s)=false from decide_eq_false fun h=>g10 (by obtain ⟨q0,q1,q2,q3,q4,q5,q6,q7,q8,q9,q10,q11⟩:=h;exact q10))
  have n10:200 < s.there.length:=by omega
  have HZ0:=Lib.hid (decide_eq_true g0)
  have HZ1:=Lib.hid (decide_eq_true g1)
  have HZ2:=Lib.hid (g8)
  have HZ3:=Lib.hid (g9)
  clear g0 g1 g8 g9 g10
  obtain ⟨x0,x1,x2,x3,x4,x5,x6,x7,x8,x9,x10,x11,x12⟩:=set_cells HROW.out
  go_enter Tryz.func21,Tryz.ntmps21
  go_wp2_with fail
  refine (HVA.out _ HB.out).mono ?_
  rintro e w1 ⟨rfl,hbb⟩
  rw [HZ0.out]
  have HB1:=Lib.hid (HB.out.trans (hbb.mono HB.out.size))
  have HROW1:=Lib.hid ((hbb.block _ (lt_of_block HROW.out)).trans HROW.out)
  clear hbb x0 x1 x2 x3 x4 x5 x6 x7 x8 x9 x10 x11 x12
  obtain ⟨x0,x1,x2,x3,x4,x5,x6,x7,x8,x9,x10,x11,x12⟩:=set_cells HROW1.out
  go_wp2_with fail
  refine (HVB.out _ HB1.out).mono ?_
  rintro e w2 ⟨rfl,hbb⟩
  rw [HZ1.out]
  have HB2:=Lib.hid (HB1.out.trans (hbb.mono HB1.out.size))
  have HROW2:=Lib.hid ((hbb.block _ (lt_of_block HROW1.out)).trans HROW1.out)
  clear hbb x0 x1 x2 x3 x4 x5 x6 x7 x8 x9 x10 x11 x12
  obtain ⟨x0,x1,x2,x3,x4,x5,x6,x7,x8,x9,x10,x11,x12⟩:=set_cells HROW2.out
  go_wp2_with fail
  refine (HVT.out _ HB2.out).mono ?_
  rintro e w3 ⟨rfl,hbb⟩
  rw [HZ2.out]
  have HB3:=Lib.hid (HB2.out.trans (hbb.mono HB2.out.size))
  have HROW3:=Lib.hid ((hbb.block _ (lt_of_block HROW2.out)).trans HROW2.out)
  clear hbb x0 x1 x2 x3 x4 x5 x6 x7 x8 x9 x10 x11 x12
  obtain ⟨x0,x1,x2,x3,x4,x5,x6,x7,x8,x9,x10,x11,x12⟩:=set_cells HROW3.out
  go_wp2_with fail
  refine (HVY.out _ HB3.out).mono ?_
  rintro e w4 ⟨rfl,hbb⟩
  rw [HZ3.out]
  have HB4:=Lib.hid (HB3.out.trans (hbb.mono HB3.out.size))
  have HROW4:=Lib.hid ((hbb.block _ (lt_of_block HROW3.out)).trans HROW3.out)
  clear hbb x0 x1 x2 x3 x4 x5 x6 x7 x8 x9 x10 x11 x12
  obtain ⟨x0,x1,x2,x3,x4,x5,x6,x7,x8,x9,x10,x11,x12⟩:=set_cells HROW4.out
  go_wp2_with fail
  go_ret
  exact ⟨by rw [HD.out];rfl,HB4.out⟩
 by_cases g11:s.back.length<=200
 rotate_left
 focus
  have HD:=Lib.hid (show decide (Small s)=false from decide_eq_false fun h=>g11 (by obtain ⟨q0,q1,q2,q3,q4,q5,q6,q7,q8,q9,q10,q11⟩:=h;exact q11))
  have n11:200 < s.back.length:=by omega
  have HZ0:=Lib.hid (decide_eq_true g0)
  have HZ1:=Lib.hid (decide_eq_true g1)
  have HZ2:=Lib.hid (g8)
  have HZ3:=Lib.hid (g9)
  clear g0 g1 g8 g9 g11
  obtain ⟨x0,x1,x2,x3,x4,x5,x6,x7,x8,x9,x10,x11,x12⟩:=set_cells HROW.out
  go_enter Tryz.func21,Tryz.ntmps21
  go_wp2_with fail
  refine (HVA.out _ HB.out).mono ?_
  rintro e w1 ⟨rfl,hbb⟩
  rw [HZ0.out]
  have HB1:=Lib.hid (HB.out.trans (hbb.mono HB.out.size))
  have HROW1:=Lib.hid ((hbb.block _ (lt_of_block HROW.out)).trans HROW.out)
  clear hbb x0 x1 x2 x3 x4 x5 x6 x7 x8 x9 x10 x11 x12
  obtain ⟨x0,x1,x2,x3,x4,x5,x6,x7,x8,x9,x10,x11,x12⟩:=set_cells HROW1.out
  go_wp2_with fail
  refine (HVB.out _ HB1.out).mono ?_
  rintro e w2 ⟨rfl,hbb⟩
  rw [HZ1.out]
  have HB2:=Lib.hid (HB1.out.trans (hbb.mono HB1.out.size))
  have HROW2:=Lib.hid ((hbb.block _ (lt_of_block HROW1.out)).trans HROW1.out)
  clear hbb x0 x1 x2 x3 x4 x5 x6 x7 x8 x9 x10 x11 x12
  obtain ⟨x0,x1,x2,x3,x4,x5,x6,x7,x8,x9,x10,x11,x12⟩:=set_cells HROW2.out
  go_wp2_with fail
  refine (HVT.out _ HB2.out).mono ?_
  rintro e w3 ⟨rfl,hbb⟩
  rw [HZ2.out]
  have HB3:=Lib.hid (HB2.out.trans (hbb.mono HB2.out.size))
  have HROW3:=Lib.hid ((hbb.block _ (lt_of_block HROW2.out)).trans HROW2.out)
  clear hbb x0 x1 x2 x3 x4 x5 x6 x7 x8 x9 x10 x11 x12
  obtain ⟨x0,x1,x2,x3,x4,x5,x6,x7,x8,x9,x10,x11,x12⟩:=set_cells HROW3.out
  go_wp2_with fail
  refine (HVY.out _ HB3.out).mono ?_
  rintro e w4 ⟨rfl,hbb⟩
  rw [HZ3.out]
  have HB4:=Lib.hid (HB3.out.trans (hbb.mono HB3.out.size))
  have HROW4:=Lib.hid ((hbb.block _ (lt_of_block HROW3.out)).trans HROW3.out)
  clear hbb x0 x1 x2 x3 x4 x5 x6 x7 x8 x9 x10 x11 x12
  obtain ⟨x0,x1,x2,x3,x4,x5,x6,x7,x8,x9,x10,x11,x12⟩:=set_cells HROW4.out
  go_wp2_with fail
  go_ret
  have hlast:decide ((s.back.length:Int)<=200)=false:=decide_eq_false (by omega)
  exact ⟨by rw [HD.out,hlast];rfl,HB4.out⟩
 have HD:=Lib.hid (show decide (Small s)=true from decide_eq_true ⟨g0,g1,g2,g3,g4,g5,g6,g7,g8,g9,g10,g11⟩)
 have HZ0:=Lib.hid (decide_eq_true g0)
 have HZ1:=Lib.hid (decide_eq_true g1)
 have HZ2:=Lib.hid (g8)
 have HZ3:=Lib.hid (g9)
 clear g0 g1 g8 g9
 obtain ⟨x0,x1,x2,x3,x4,x5,x6,x7,x8,x9,x10,x11,x12⟩:=set_cells HROW.out
 go_enter Tryz.func21,Tryz.ntmps21
 go_wp2_with fail
 refine (HVA.out _ HB.out).mono ?_
 rintro e w1 ⟨rfl,hbb⟩
 rw [HZ0.out]
 have HB1:=Lib.hid (HB.out.trans (hbb.mono HB.out.size))
 have HROW1:=Lib.hid ((hbb.block _ (lt_of_block HROW.out)).trans HROW.out)
 clear hbb x0 x1 x2 x3 x4 x5 x6 x7 x8 x9 x10 x11 x12
 obtain ⟨x0,x1,x2,x3,x4,x5,x6,x7,x8,x9,x10,x11,x12⟩:=set_cells HROW1.out
 go_wp2_with fail
 refine (HVB.out _ HB1.out).mono ?_
 rintro e w2 ⟨rfl,hbb⟩
 rw [HZ1.out]
 have HB2:=Lib.hid (HB1.out.trans (hbb.mono HB1.out.size))
 have HROW2:=Lib.hid ((hbb.block _ (lt_of_block HROW1.out)).trans HROW1.out)
 clear hbb x0 x1 x2 x3 x4 x5 x6 x7 x8 x9 x10 x11 x12
 obtain ⟨x0,x1,x2,x3,x4,x5,x6,x7,x8,x9,x10,x11,x12⟩:=set_cells HROW2.out
 go_wp2_with fail
 refine (HVT.out _ HB2.out).mono ?_
 rintro e w3 ⟨rfl,hbb⟩
 rw [HZ2.out]
 have HB3:=Lib.hid (HB2.out.trans (hbb.mono HB2.out.size))
 have HROW3:=Lib.hid ((hbb.block _ (lt_of_block HROW2.out)).trans HROW2.out)
 clear hbb x0 x1 x2 x3 x4 x5 x6 x7 x8 x9 x10 x11 x12
 obtain ⟨x0,x1,x2,x3,x4,x5,x6,x7,x8,x9,x10,x11,x12⟩:=set_cells HROW3.out
 go_wp2_with fail
 refine (HVY.out _ HB3.out).mono ?_
 rintro e w4 ⟨rfl,hbb⟩
 rw [HZ3.out]
 have HB4:=Lib.hid (HB3.out.trans (hbb.mono HB3.out.size))
 have HROW4:=Lib.hid ((hbb.block _ (lt_of_block HROW3.out)).trans HROW3.out)
 clear hbb x0 x1 x2 x3 x4 x5 x6 x7 x8 x9 x10 x11 x12
 obtain ⟨x0,x1,x2,x3,x4,x5,x6,x7,x8,x9,x10,x11,x12⟩:=set_cells HROW4.out
 go_wp2_with fail
 go_ret
 have hlast:decide ((s.back.length:Int)<=200)=true:=decide_eq_true (by omega)
 exact ⟨by rw [HD.out,hlast];rfl,HB4.out⟩
end
end

end Go.Proofs.YtckdblgobmofgaaGreatDoor
