/- The contracts of slices.Concat and slices.ContainsFunc on faults; late; bound. -/
import Derived.Test.YtckdblgobmofgaaGreatDoorPkK1
import Derived.Lib.AppendZeros
import Derived.Lib.MinMax
namespace Go.Proofs.YtckdblgobmofgaaGreatDoor
section
open Go.RowKit
set_option maxRecDepth 100000
theorem els_fltF {w w':World} {Z Z':BS}:∀ {F F':BS} {us:List Value} (xs:List Flt),Els eFlt w F Z us xs->Els eFlt w' F' Z' us xs
 |_,_,_,[],h=>h
 |_,_,_,_::xs,⟨cs,rest,_,_,e,_,_,_,h1,h2⟩=>⟨cs,rest,fun _=>False,fun _=>False,e,fun _ f=>f.elim,fun _ f=>f.elim,fun _ f=>f.elim,h1,els_fltF xs h2⟩
set_option maxHeartbeats 4000000 in
theorem grow_flt (n:Nat) (w:World) (hn:n<=1000000) :
  Calls Tryz.prog 110 #[.slice none 0 0,.int .i64 (n:Int)] w fun e w'=>∃(a:Option Addr) (c:Nat),e=.returned (.slice a 0 c)/\Held (fun _=>False) (fun _=>False) w [tSq eFlt 138 (.slice a 0 c) []] w':=by
 have HS0:=Lib.hid (Held.start0 (fun _=>False) (fun _=>False) (fun _ f=>f.elim) w)
 by_cases h0:0 < n
 ·obtain ⟨i0,hi0,hz0,hzs,hzb⟩:=info_parts (show (Tryz.prog.info? 138).map (fun i=>(i.zero,i.size,i.bytes))=some (some (.agg #[.int .i64 0,.int .i64 0,.int .i64 0]),3,24) by kernel_rfl)
  obtain ⟨G,hG⟩:∃G,G=grownCap w n 0 138:=⟨_,rfl⟩
  obtain ⟨ROW,hROW⟩:∃ROW:Array Value,ROW=Builtin.zeroCells (Value.agg #[.int .i64 0,.int .i64 0,.int .i64 0]).cells n++Builtin.zeroCells (Value.agg #[.int .i64 0,.int .i64 0,.int .i64 0]).cells (G - n):=⟨_,rfl⟩
  have hGn:n<=G:=by rw [hG];exact grownCap_ge w _ _ _
  have hG63:G<=maxLen:=by rw [hG];exact grownCap_le_maxLen w n 0 138 (by unfold maxLen;omega)
  have hrz:∀ty,(Builtin.append_ #[41,3] ty #[.slice none 0 0,.int .i64 (n:Int)]).run Tryz.prog w=.ok (.slice (some ⟨w.heap.size,0,none⟩) n G) (w.drew.alloc (.cells ROW 138)):=fun ty=>by
   have h:=Lib.run_append_nil_zeros w 41 3 ty 138 i0 _ .i64 .i64 Tryz.underlying41 Tryz.underlying3 hi0 hz0 n h0 (by omega) (by omega) (by rw [hzb];omega)
   rw [<-hG] at h
   rw [h,hROW]
  have hRl:ROW.size=G*3:=by
   rw [hROW];simp only [Array.size_append,size_zeroCells]
   have hzl:(Value.agg #[.int .i64 0,.int .i64 0,.int .i64 0]).cells.size=3:=rfl
   rw [hzl];omega
  obtain ⟨w1,hw1⟩:∃w1,w1=w.drew.alloc (.cells ROW 138):=⟨_,rfl⟩
  have hb1:Below w.heap.size w w1:=by rw [hw1];exact (Below.refl _ _ |> Bw.drew).alloc (Nat.le_refl _) _
  have hrow:w1.heap[w.heap.size]? = some (.cells ROW 138):=by rw [hw1];exact heap_alloc_new w.drew _
  have HN:=Lib.hid (show Held (fun _=>False) (fun _=>False) w [tSq eFlt 138 (.slice (some ⟨w.heap.size,0,none⟩) 0 G) []] w1 from HS0.out.add hb1 (T:=tSq eFlt 138 (.slice (some ⟨w.heap.size,0,none⟩) 0 G) [])
   ⟨fun k=>k=w.heap.size,fun _=>False,[],fun k hk=>hk.elim (fun e=>Nat.le_of_eq e.symm) False.elim,fun _ _ f=>f,fun k hk=>by subst hk;exact lt_of_block hrow,
    ⟨rfl,.inr ⟨w.heap.size,0,G,ROW,rfl,rfl,hrow,Nat.zero_le _,hG63,by rw [hRl];show 0+G*3<=_;omega,rfl⟩⟩,rfl⟩)
  have HRZ:=Lib.hid hrz;have HW1:=Lib.hid hw1
  clear hrz hw1 hRl hROW hG hzs hzb hz0 hi0 hb1 hrow
  unfold maxLen at hG63
  have hg0:¬G=0:=by omega
  go_enter Tryz.func110,Tryz.ntmps110
  go_wp2_with (at_builtin;refine Lib.wpList_append_run _ rfl _ _ _ _ rfl _ _ rfl rfl _ _ (HRZ.out _) ?_;rw [<-HW1.out])
  go_ret
  exact ⟨_,_,rfl,HN.out⟩
 ·obtain rfl:n=0:=by omega
  go_enter Tryz.func110,Tryz.ntmps110
  go_wp2_with fail
  go_ret
  exact ⟨_,_,rfl,HS0.out.add (Below.refl _ _) (T:=tSq eFlt 138 (.slice none 0 0) []) (Sq.nil _ _ _ _ _)⟩
theorem wpList_app_flts {w w1 w2:World} {ops:Array Oper} {rest:List Oper} {o:Oper} {ac:Act} {Q:Exit->Act->World->Prop} {a xa:Option Addr} {c xc:Nat} {xs ys:List Flt} {Z:BS}
  (hg:o.guard=none) (s x:Operand) (hop:o.op=Op.call { callee:=Callee.builtin Builtin.append,args := #[s,x],argTypes := #[41,41] })
  (h:Held (fun _=>False) (fun _=>False) w [tSq eFlt 138 (.slice a xs.length c) xs] w1) (hb:Below w1.heap.size w1 w2) (hl:xs.length<=1000000) (hl2:ys.length<=1000000) (hs:ac.eval s=.slice a xs.length c) (hx:ac.eval x=.slice xa ys.length xc) (hy:RdS eFlt w2 Z (.slice xa ys.length xc) ys)
  (hK:∀a' c' w3,Held (fun _=>False) (fun _=>False) w [tSq eFlt 138 (.slice a' (xs++ys).length c') (xs++ys)] w3->wpList Tryz.prog ops Q rest (ac.put o.dst (.slice a' (xs++ys).length c')) w3):wpList Tryz.prog ops Q (o::rest) ac w2:=by
 obtain ⟨K,us,hsl,hKn,hback⟩:=h.app 0 rfl
 obtain ⟨vs,hrd,hels,_⟩:=hy
 refine wpList_apps slFlt hg s x hop K (.slice a xs.length c) xs.length us hs (Sl.keep hsl fun k _ hl=>hb.block k hl) _ ys.length vs hx hrd hels.one (by unfold maxLen;omega) (by omega) ?_
 intro v' w' hs2 hf2
 have:=hback w2 w' vs ys v' hb hs2 hf2 fun Y _=>⟨fun _=>False,fun _=>False,fun _ f=>f.elim,fun _ f=>f.elim,fun _ f=>f.elim,els_fltF ys hels⟩
 obtain ⟨_,_,hsq⟩:=this.get 0 rfl
 obtain ⟨a',c',rfl,_⟩:=Sq.le (show Sq eFlt 138 w' _ _ v' (xs++ys) from hsq)
 exact hK _ _ _ this
def uptoF (xs ys:List Flt) (k:Nat):List Flt:=if k=0 then [] else if k=1 then xs else xs++ys
set_option maxHeartbeats 8000000 in
theorem concatF {Z:BS} (v1 v2:Value) (xs ys:List Flt) (b:Nat) (w:World) (hr:w.heap[b]? = some (.cells #[v1,v2] 41)) (h1:RdS eFlt w Z v1 xs) (h2:RdS eFlt w Z v2 ys) (hx:xs.length<=400000) (hy:ys.length<=400000) :
  Calls Tryz.prog 70 #[.slice (some ⟨b,0,none⟩) 2 2] w fun e w'=>∃(a:Option Addr) (c:Nat),e=.returned (.slice a (xs++ys).length c)/\Held (fun _=>False) (fun _=>False) w [tSq eFlt 138 (.slice a (xs++ys).length c) (xs++ys)] w':=by
 obtain ⟨a1,c1,rfl,_⟩:=h1.shape
 obtain ⟨a2,c2,rfl,_⟩:=h2.shape
 have HR:=Lib.hid hr;have H1:=Lib.hid h1;have H2:=Lib.hid h2
 have d1:=blk_cell (i:=0) hr rfl;have d2:=blk_cell (i:=1) hr rfl
 have hbl:=lt_of_block hr
 clear hr h1 h2
 go_enter Tryz.func70,Tryz.ntmps70
 go_wp2_with fail
 go_loop [3,11] (fun s i=>∃(k:Nat),k<=2/\i=.int .i64 (k:Int)/\s=.int .i64 ((uptoF xs ys k).length:Int)) (fun _ i=>2 - (intOf i).toNat)
 case atStart=>exact ⟨0,by omega,by go_num,by go_num⟩
 case round=>
  obtain ⟨k,hk,rfl,rfl⟩:=hrel
  have h3:k=0\/k=1\/k=2:=by omega
  rcases h3 with rfl|rfl|rfl
  ·have e0:((uptoF xs ys 0).length:Int)=0:=by simp [uptoF]
   rw [e0]
   clear e0
   go_wp2_with fail
   go_round
   case rel=>exact ⟨1,by omega,by go_num,by simp [uptoF]⟩
   case measure=>simp [intOf]
  ·have e0:((uptoF xs ys 1).length:Int)=(xs.length:Int):=by simp [uptoF]
   rw [e0]
   clear e0
   go_wp2_with fail
   go_round
   case rel=>exact ⟨2,by omega,by go_num,by simp [uptoF]⟩
   case measure=>simp [intOf]
  ·have e0:((uptoF xs ys 2).length:Int)=((xs.length+ys.length:Nat):Int):=by simp [uptoF]
   rw [e0]
   clear e0
   generalize hn:xs.length+ys.length=n
   have hn1:n<=800000:=by omega
   clear hn
   clear d1 d2
   go_wp2_with fail
   refine (grow_flt n w (by omega)).mono ?_
   rintro e w1 ⟨ga,gc,rfl,hg1⟩
   have HO1:=Lib.hid hg1
   clear hg1
   go_wp2_with fail
   go_loopw [6,27] (fun v i wr=>∃(k:Nat),k<=2/\i=.int .i64 (k:Int)/\∃(a:Option Addr) (c:Nat),v=.slice a (uptoF xs ys k).length c/\Hid (Held (fun _=>False) (fun _=>False) w [tSq eFlt 138 (.slice a (uptoF xs ys k).length c) (uptoF xs ys k)] wr)) (fun _ i _=>2 - (intOf i).toNat)
   case atStart=>exact ⟨0,by omega,by go_num,ga,gc,rfl,HO1⟩
   case round=>
    clear HO1
    obtain ⟨k,hk,rfl,oa,oc,rfl,HO⟩:=hrel
    have HB:=Lib.hid HO.out.below
    have hrw:=(HB.out.block _ hbl).trans HR.out
    have d1:=blk_cell (i:=0) hrw rfl;have d2:=blk_cell (i:=1) hrw rfl
    clear hrw
    have h3:k=0\/k=1\/k=2:=by omega
    rcases h3 with rfl|rfl|rfl
    ·rw [show uptoF xs ys 0=[] from rfl] at HO
     rw [show uptoF xs ys 0=[] from rfl,List.length_nil]
     go_wp2_with (at_builtin;refine wpList_app_flts rfl _ _ rfl HO.out (Below.refl _ _) (by simp) (by omega) rfl rfl (H1.out.below HB.out) ?_;intro a' c' w2 hn2;have HN2:=Lib.hid (show Held (fun _=>False) (fun _=>False) w [tSq eFlt 138 (.slice a' xs.length c') xs] w2 from hn2);clear hn2;rw [List.nil_append])
     go_roundw
     case rel=>exact ⟨1,by omega,by go_num,a',c',rfl,HN2⟩
     case measure=>simp [intOf]
    ·rw [show uptoF xs ys 1=xs from rfl] at HO
     rw [show uptoF xs ys 1=xs from rfl]
     go_wp2_with (at_builtin;refine wpList_app_flts rfl _ _ rfl HO.out (Below.refl _ _) (by omega) (by omega) rfl rfl (H2.out.below HB.out) ?_;intro a' c' w2 hn2;have HN2:=Lib.hid hn2;clear hn2)
     go_roundw
     case rel=>exact ⟨2,by omega,by go_num,a',c',by rw [show uptoF xs ys 2=xs++ys from rfl,List.length_append],HN2⟩
     case measure=>simp [intOf]
    ·rw [show uptoF xs ys 2=xs++ys from rfl] at HO ⊢
     clear d1 d2
     go_wp2_with fail
     go_ret
     exact ⟨_,_,rfl,by have:=HO.out;rwa [List.length_append] at this⟩
section
variable {w:World} {Z:BS}
def lateF (f:Flt):Bool:=decide (200<=f.at')
theorem late1_c (f:Flt) (w:World):Calls Tryz.prog 71 #[.agg #[.int .i64 f.at',.int .i64 f.kind,.int .i64 f.arg]] w fun r w'=>r=.returned (.bool (lateF f))/\Below w.heap.size w w':=by
 have hrow:=heap_alloc_new w (.cells #[.int .i64 f.at',.int .i64 f.kind,.int .i64 f.arg] 138)
 have x0:=blk_cell (i:=0) hrow rfl
 have hx:decide ((f.at':Int)>=200)=lateF f:=rfl
 clear hrow
 go_enter Tryz.func71,Tryz.ntmps71
 go_wp2_with fail
 go_ret
 exact ⟨rfl,below_alloc w _⟩
set_option maxHeartbeats 8000000 in
theorem idxF_c (v:Value) (fs:List Flt) (h:RdS eFlt w Z v fs) :
  Calls Tryz.prog 109 #[v,.func (.func 71) #[] #[]] w fun r w'=>∃k:Int,r=.returned (.int .i64 k)/\decide (0<=k)=fs.any lateF/\Below w.heap.size w w':=by
 obtain ⟨a,c,rfl,hc1,hc2⟩:=h.shape
 have H:=Lib.hid h
 clear h
 unfold maxLen at hc2
 go_enter Tryz.func109,Tryz.ntmps109
 go_wp2_with fail
 go_loopw [8] (fun i wr=>∃j:Nat,j<=fs.length/\i=.int .i64 (j:Int)/\Hid ((fs.take j).any lateF=false)/\Hid (Below w.heap.size w wr)) (fun i _=>fs.length - (intOf i).toNat)
 case atStart=>exact ⟨0,by omega,by go_num,Lib.hid rfl,Lib.hid (Below.refl _ _)⟩
 case round=>
  obtain ⟨j,hj,rfl,HA,HB⟩:=hrel
  by_cases hlt:j < fs.length
  ·obtain ⟨e,he⟩:∃e,fs[j]? = some e:=⟨fs[j],List.getElem?_eq_getElem hlt⟩
   obtain ⟨b,off,rfl,c0,c1,c2,_⟩:=flt_at (H.out.below HB.out) he
   have HE:=Lib.hid he
   clear he
   have HC:=Lib.hid (late1_c e wr)
   cases hpe:lateF e with
   |true=>
    have HX:=Lib.hid (show fs.any lateF=true from any_at HE.out hpe)
    rw [hpe] at HC
    clear hpe
    go_wp2_with fail
    refine HC.out.mono ?_
    rintro r w1 ⟨rfl,hb⟩
    have HB1:=Lib.hid (HB.out.trans (hb.mono HB.out.size))
    clear hb
    go_wp2_with fail
    go_ret
    exact ⟨_,rfl,by rw [HX.out];exact decide_eq_true (by omega),HB1.out⟩
   |false=>
    have HX:=Lib.hid (any_take HA.out HE.out hpe)
    rw [hpe] at HC
    clear hpe
    go_wp2_with fail
    refine HC.out.mono ?_
    rintro r w1 ⟨rfl,hb⟩
    have HB1:=Lib.hid (HB.out.trans (hb.mono HB.out.size))
    clear hb
    go_wp2_with fail
    go_roundw
    case rel=>exact ⟨j+1,by omega,by go_num,HX,HB1⟩
    case measure=>simp [intOf];omega
  ·obtain rfl:fs.length=j:=by omega
   have HX:=Lib.hid (show fs.any lateF=false by have:=HA.out;rwa [List.take_length] at this)
   go_wp2_with fail
   go_ret
   exact ⟨_,rfl,by rw [HX.out];rfl,HB.out⟩
set_option maxHeartbeats 8000000 in
theorem hasF_c (v:Value) (fs:List Flt) (h:RdS eFlt w Z v fs) :
  Calls Tryz.prog 69 #[v,.func (.func 71) #[] #[]] w fun r w'=>r=.returned (.bool (fs.any lateF))/\Below w.heap.size w w':=by
 have HC:=Lib.hid (idxF_c v fs h)
 clear h
 go_enter Tryz.func69,Tryz.ntmps69
 go_wp2_with fail
 refine HC.out.mono ?_
 rintro r w1 ⟨k,rfl,hk,hb⟩
 have HK:=Lib.hid hk
 have HB1:=Lib.hid hb
 clear hb hk
 go_wp2_with fail
 go_ret
 exact ⟨by rw [<-HK.out];rfl,HB1.out⟩
end
section
variable {Z:BS} {W w:World} {ts:List Th} {j:Nat} {s:RSet} {aa ba ta ya:Option Addr} {ak bk tk yk:Nat}
abbrev setCells (s:RSet) (aa:Option Addr) (ak:Nat) (ba:Option Addr) (bk:Nat) (ta:Option Addr) (tk:Nat) (ya:Option Addr) (yk:Nat):Obj:=
 .cells #[.int .i64 s.a.inc,.slice aa s.a.rooms.length ak,.int .i64 s.a.w,.int .i64 s.a.t,.int .i64 s.a.d,.int .i64 s.b.inc,.slice ba s.b.rooms.length bk,.int .i64 s.b.w,.int .i64 s.b.t,.int .i64 s.b.d,.int .i64 s.delay,.slice ta s.there.length tk,.slice ya s.back.length yk] 43
set_option maxHeartbeats 8000000 in
theorem late_c (q:SetAt ts j s aa ak ba bk ta tk ya yk) (h:Held (fun _=>False) Z W ts w) (l1:s.there.length<=1000) (l2:s.back.length<=1000) :
  Calls Tryz.prog 36 #[setV s aa ak ba bk ta tk ya yk] w fun e w'=>e=.returned (.bool ((s.there++s.back).any lateF))/\Below w.heap.size w w':=by
 obtain ⟨_,_,r3⟩:=h.get _ q.t
 obtain ⟨_,_,r4⟩:=h.get _ q.y
 have hb0:=below_alloc w (setCells s aa ak ba bk ta tk ya yk)
 obtain ⟨x0,x1,x2,x3,x4,x5,x6,x7,x8,x9,x10,x11,x12⟩:=set_cells (heap_alloc_new w (setCells s aa ak ba bk ta tk ya yk))
 have hb1:=below_alloc (w.alloc (setCells s aa ak ba bk ta tk ya yk)) (.cells #[.slice ta s.there.length tk,.slice ya s.back.length yk] 41)
 have hb2:=hb0.trans (hb1.mono hb0.size)
 have hr2:=heap_alloc_new (w.alloc (setCells s aa ak ba bk ta tk ya yk)) (.cells #[.slice ta s.there.length tk,.slice ya s.back.length yk] 41)
 rw [World.size_alloc] at hr2
 have HC:=Lib.hid (concatF (Z:=fun _=>True) (.slice ta s.there.length tk) (.slice ya s.back.length yk) s.there s.back (w.heap.size+1) _ hr2 ((RdS.mono (show RdS eFlt w _ (.slice ta s.there.length tk) s.there from r3) fun _ _=>trivial).below hb2) ((RdS.mono (show RdS eFlt w _ (.slice ya s.back.length yk) s.back from r4) fun _ _=>trivial).below hb2) (by omega) (by omega))
 have HB2:=Lib.hid hb2
 clear q h r3 r4 hb0 hb1 hb2 hr2
 unfold setCells at HC x0 x1 x2 x3 x4 x5 x6 x7 x8 x9 x10 x11 x12
 go_enter Tryz.func36,Tryz.ntmps36
 go_wp2_with fail
 refine HC.out.mono ?_
 rintro e w1 ⟨a,c,rfl,h1⟩
 obtain ⟨_,_,r1⟩:=h1.get 0 rfl
 have HF:=Lib.hid (hasF_c (.slice a (s.there++s.back).length c) (s.there++s.back) (Sq.rd (show Sq eFlt 138 w1 _ _ (.slice a (s.there++s.back).length c) (s.there++s.back) from r1) fun h=>h))
 have HB3:=Lib.hid (HB2.out.trans (h1.below.mono HB2.out.size))
 clear h1 r1 x0 x1 x2 x3 x4 x5 x6 x7 x8 x9 x10 x11 x12
 generalize hgl:s.there++s.back=l at *
 have HGL:=Lib.hid hgl
 clear hgl
 go_wp2_with fail
 refine HF.out.mono ?_
 rintro r w2 ⟨rfl,hb⟩
 have HB4:=Lib.hid (HB3.out.trans (hb.mono HB3.out.size))
 clear hb
 go_wp2_with fail
 go_ret
 exact ⟨by rw [HGL.out];rfl,HB4.out⟩
set_option maxHeartbeats 8000000 in
theorem bound_c (n tA tB D:Nat) (hA:s.a.t=(tA:Int)) (hB:s.b.t=(tB:Int)) (hD:s.delay=(D:Int)) (h1:n<=1000000) (h2:tA<=1000) (h3:tB<=1000) (h4:D<=100) (w:World) :
  Calls Tryz.prog 38 #[setV s aa ak ba bk ta tk ya yk,.int .i64 (n:Int)] w fun e w'=>e=.returned (.int .i64 (((n+4)*(max tA tB+4*D+12)+800:Nat):Int))/\Below w.heap.size w w':=by
 obtain ⟨x0,x1,x2,x3,x4,x5,x6,x7,x8,x9,x10,x11,x12⟩:=set_cells (heap_alloc_new w (setCells s aa ak ba bk ta tk ya yk))
 have hrow:=heap_alloc_new w (setCells s aa ak ba bk ta tk ya yk)
 obtain ⟨y0,y1,y2,y3,y4,y5,y6,y7,y8,y9,y10,y11,y12⟩:=set_cells hrow
 rw [hA] at y3
 rw [hB] at y8
 rw [hD] at y10
 clear x0 x1 x2 x3 x4 x5 x6 x7 x8 x9 x10 x11 x12 hrow
 obtain ⟨T,hT⟩:∃T,T=max tA tB:=⟨_,rfl⟩
 have hT1:T<=1000:=by rw [hT];exact Nat.max_le.2 ⟨h2,h3⟩
 have hmax:max (tA:Int) (tB:Int)=(T:Int):=by rw [hT];omega
 obtain ⟨P,hP⟩:∃P,P=(n+4)*(T+4*D+12):=⟨_,rfl⟩
 have hP1:P<=1000004*2000:=by rw [hP];exact Nat.mul_le_mul (by omega) (by omega)
 have hw1:IntKind.i64.wrap ((n:Int)+4)=(n:Int)+4:=IntWalk.i64_in _ (by omega)
 have hw2:IntKind.i64.wrap (4*(D:Int))=4*(D:Int):=IntWalk.i64_in _ (by omega)
 have hw3:IntKind.i64.wrap ((T:Int)+4*(D:Int))=(T:Int)+4*(D:Int):=IntWalk.i64_in _ (by omega)
 have hw4:IntKind.i64.wrap ((T:Int)+4*(D:Int)+12)=(T:Int)+4*(D:Int)+12:=IntWalk.i64_in _ (by omega)
 have hpe:((n:Int)+4)*((T:Int)+4*(D:Int)+12)=(P:Int):=by rw [hP];push_cast;rfl
 have hw5:IntKind.i64.wrap (((n:Int)+4)*((T:Int)+4*(D:Int)+12))=(P:Int):=by rw [hpe];exact IntWalk.i64_in _ (by omega)
 have hw6:IntKind.i64.wrap ((P:Int)+800)=((P+800:Nat):Int):=(IntWalk.i64_in _ (by omega)).trans (by omega)
 rw [<-hT,<-hP]
 clear hA hB hD hT hP hpe
 go_enter Tryz.func38,Tryz.ntmps38
 go_wp2_with fail
 go_ret
 exact ⟨rfl,below_alloc w _⟩
end
end
end Go.Proofs.YtckdblgobmofgaaGreatDoor
