/- Lemmas of this proof (texts PotE RpT RpA RpB Rgl RpC RpD RpF RpG RpE RpH RpI RpJ). -/
import Derived.Test.YtbgjpfbcelkllaaPkG3
import Derived.Test.YtbgjpfbcelkllaaPkA1
import Derived.Test.YtbgjpfbcelkllaaPkG1
import Derived.Lib.MinMax
import Derived.Test.YtbgjpfbcelkllaaPkG2
import Derived.Test.YtbgjpfbcelkllaaPkF1
import Derived.StillTailTactics
namespace Go.Proofs.Ytbgjpfbcelkllaa
set_option maxHeartbeats 64000000
section
open Go.RowKit Go.ChangeShapes Go.WideShapes Go.ChangeAt
def rPt:R Pt:=rMap (rPair (rInt .u8) (rPair (rInt .i64) (rPair (rInt .i64) (rPair (rInt .i64) rBytes)))) fun a=>⟨BitVec.ofInt 8 a.1,a.2.1,a.2.2.1,a.2.2.2.1,a.2.2.2.2⟩
theorem opensPts {H:Type} {enc:TypeId × Value->H} {W:World}:Opens enc Try.prog W 28 (rSlice rPt):=
 opens_slice Try.underlying28 (by kernel_rfl) (opens_map (opens_struct Try.underlying32 (by kernel_rfl)
  (.cons (cN Try.underlying5 (by kernel_rfl)) rfl (.cons (cN Try.underlying3 (by kernel_rfl)) rfl (.cons (cN Try.underlying3 (by kernel_rfl)) rfl (.cons (cN Try.underlying3 (by kernel_rfl)) rfl
   (.one (opens_bytes Try.underlying27 (by kernel_rfl) Try.underlying5 (by kernel_rfl)) rfl)))))) _) (by decide)
end

section
open Go.RowKit Go.ChangeShapes Go.WideShapes Go.ChangeAt
set_option maxRecDepth 100000
structure Pcf where
 inc:Int
 aZ:List Int
 w:Int
 t:Int
 d:Int
def rPcf:R Pcf:=rMap (rPair (rInt .i64) (rPair (rSlice (rInt .i64)) (rPair (rInt .i64) (rPair (rInt .i64) (rInt .i64))))) fun x=>⟨x.1,x.2.1,x.2.2.1,x.2.2.2.1,x.2.2.2.2⟩
theorem opensPcf {H:Type} {enc:TypeId × Value->H} {W:World}:Opens enc Try.prog W 24 rPcf:=
 opens_map (opens_struct Try.underlying24 (by kernel_rfl)
  (.cons (cN Try.underlying3 (by kernel_rfl)) rfl (.cons (opens_slice Try.underlying22 (by kernel_rfl) (cN Try.underlying3 (by kernel_rfl)) (by decide)) rfl (.cons (cN Try.underlying3 (by kernel_rfl)) rfl (.cons (cN Try.underlying3 (by kernel_rfl)) rfl (.one (cN Try.underlying3 (by kernel_rfl)) rfl)))))) _
def IsPcf (W:World) (v:Value):Prop:=∃(s:Pcf) (ra:Option Addr) (rc:Nat),v=cfgV s.inc ra s.aZ.length rc s.w s.t s.d/\RdS (eInt .i64) W (Old W) (.slice ra s.aZ.length rc) s.aZ
theorem isPcf_of {W:World} {cs:Array Value} (h:IsR rPcf W (.agg cs)):IsPcf W (.agg cs):=by
 obtain ⟨s,⟨⟨i1,r1,w1,t1,d1⟩,⟨_,_,h0,⟨rfl,_⟩,e2,_,rfl,hr1,_,_,rfl,⟨rfl,_⟩,_,_,rfl,⟨rfl,_⟩,rfl,_⟩,rfl⟩⟩:=h
 obtain ⟨ra,rc,rfl,_⟩:=id hr1
 refine ⟨⟨i1,r1,w1,t1,d1⟩,ra,rc,?_,rdS_of (r:=rInt .i64) (E:=eInt .i64) rfl (by decide) (fun cs a h=>show cs=[.int .i64 a] from h.1) hr1⟩
 congr 1
 apply Array.ext'
 exact h0
theorem open_isPcf {H:Type} {enc:TypeId × Value->H} {W:World} {v:Value} {d:DataW H} {ps:List MemPlace} {q:Reach} {base:Nat} (hval:Value.okWide Try.prog W q base 24 v) (hd:DataW.Trod enc Try.prog W 0 (fun _=>true) true 24 v d ps):IsPcf W v:=by
 obtain ⟨cs,rfl,_⟩:=okWide_struct Try.underlying24 hval
 exact isPcf_of (open_isR opensPcf hd)
structure Pc where
 kind:Int
 cls:Int
 num:Int
 data:dV
 arr:List Pt
def ePc:El Pc where
 size:=5
 rd w _ Z cs a:=∃v u,cs=[.int .i64 a.kind,.int .i64 a.cls,.int .i64 a.num,v,u]/\ByZ w Z v a.data/\RdS ePt w Z u a.arr
 len h:=by obtain ⟨v,u,h,_⟩:=h;rw [h];rfl
 keep h hs hk:=by
  obtain ⟨v,u,e,h1,h2⟩:=h
  exact ⟨v,u,e,h1.stay fun k hz=>hk k (.inr hz),h2.stay hs fun k hz=>hk k (.inr hz)⟩
 mono h _ hZ:=by obtain ⟨v,u,e,h1,h2⟩:=h;exact ⟨v,u,e,h1.mono hZ,h2.mono hZ⟩
 one h x hx:=by
  obtain ⟨v,u,rfl,h1,h2⟩:=h
  obtain ⟨_,_,rfl⟩:=h1.slice
  obtain ⟨_,_,rfl,_⟩:=h2.shape
  simp at hx
  rcases hx with rfl|rfl|rfl|rfl|rfl <;> rfl
def rPc:R Pc:=rMap (rPair (rInt .i64) (rPair (rInt .i64) (rPair (rInt .i64) (rPair rBytes (rSlice rPt))))) fun a=>⟨a.1,a.2.1,a.2.2.1,a.2.2.2.1,a.2.2.2.2⟩
theorem ePt_of {W:World} {cs:List Value} {p:Pt} (hp:rPt.rd W cs p):ePt.rd W (fun _=>False) (Old W) cs p:=by
 obtain ⟨⟨k,c,n,v,pay⟩,⟨c1,_,h1,⟨rfl,hk⟩,c2,_,rfl,⟨rfl,_⟩,c3,_,rfl,⟨rfl,_⟩,c4,_,rfl,⟨rfl,_⟩,x,rfl,hb⟩,rfl⟩:=hp
 have hk':=bounds_u8 hk
 refine ⟨x,?_,byZ_of hb⟩
 have hu:U (BitVec.ofInt 8 k)=k:=ofInt_U k (by omega) (by omega)
 show cs=[.int .u8 (U (BitVec.ofInt 8 k)),_,_,_,_]
 rw [hu,h1];rfl
theorem ePc_of {W:World} {cs:List Value} {a:Pc} (h:rPc.rd W cs a):ePc.rd W (fun _=>False) (Old W) cs a:=by
 obtain ⟨⟨k,c,n,d,l⟩,⟨_,_,rfl,⟨rfl,_⟩,_,_,rfl,⟨rfl,_⟩,_,_,rfl,⟨rfl,_⟩,_,_,rfl,⟨v,rfl,hb⟩,hl⟩,rfl⟩:=h
 obtain ⟨ua,uc,rfl,_⟩:=id hl
 exact ⟨v,_,rfl,byZ_of hb,rdS_of (r:=rPt) (E:=ePt) rfl (by decide) (fun _ _ h=>ePt_of h) hl⟩
theorem opensPcs {H:Type} {enc:TypeId × Value->H} {W:World}:Opens enc Try.prog W 25 (rSlice rPc):=
 opens_slice Try.underlying25 (by kernel_rfl) (opens_map (opens_struct Try.underlying30 (by kernel_rfl)
  (.cons (cN Try.underlying3 (by kernel_rfl)) rfl (.cons (cN Try.underlying3 (by kernel_rfl)) rfl (.cons (cN Try.underlying3 (by kernel_rfl)) rfl (.cons (opens_bytes Try.underlying27 (by kernel_rfl) Try.underlying5 (by kernel_rfl)) rfl
   (.one opensPts rfl)))))) _) (by decide)
theorem pcs_of {W:World} {v:Value} (h:IsSl rPc W v):∃l,RdS ePc W (Old W) v l:=by
 obtain ⟨l,hl⟩:=h
 exact ⟨l,rdS_of rfl (by decide) (fun _ _ h=>ePc_of h) hl⟩
theorem pc_at {w:World} {Z:BS} {a:Option Addr} {n c:Nat} {l:List Pc} (h:RdS ePc w Z (.slice a n c) l) {i:Nat} {x:Pc} (hi:l[i]? = some x) :
  ∃b off da dc ua uc,a=some ⟨b,off,none⟩/\ByZ w Z (.slice da x.data.length dc) x.data/\RdS ePt w Z (.slice ua x.arr.length uc) x.arr/\w.cell? ⟨b,off+i*5,none⟩=some (.int .i64 x.kind)/\w.cell? ⟨b,off+i*5+1,none⟩=some (.int .i64 x.cls)/\w.cell? ⟨b,off+i*5+2,none⟩=some (.int .i64 x.num)/\w.cell? ⟨b,off+i*5+3,none⟩=some (.slice da x.data.length dc)/\w.cell? ⟨b,off+i*5+4,none⟩=some (.slice ua x.arr.length uc):=by
 obtain ⟨b,off,cs,e,_,⟨v,u,rfl,hv,hu⟩,hc⟩:=h.at (by decide) hi
 obtain ⟨da,dc,rfl⟩:=hv.slice
 obtain ⟨ua,uc,rfl,_⟩:=hu.shape
 exact ⟨b,off,da,dc,ua,uc,e,hv,hu,hc 0 _ rfl,hc 1 _ rfl,hc 2 _ rfl,hc 3 _ rfl,hc 4 _ rfl⟩
theorem nums_of {w:World} {Z:BS} {ra:Option Addr} {n rc:Nat} {l:List Int} (h:RdS (eInt .i64) w Z (.slice ra n rc) l):Nums w ra l:=fun k x hk=>by
 obtain ⟨b,off,cs,e,_,h2,h3⟩:=h.at (by decide) hk
 obtain rfl:cs=[.int .i64 x]:=h2
 exact ⟨b,off,e,by simpa [eInt] using h3 0 _ rfl⟩
theorem els_nat {w:World} {Z:BS}:∀ {F:BS} {us:List Value} {aZ:List Nat},Els (eInt .i64) w F Z us (aZ.map fun (x:Nat)=>(x:Int))->Els dK w F Z us aZ
 |_,_,[],h=>h
 |_,_,_::_,⟨cs,rest,A,B,e,h1,h2,h3,h4,h5⟩=>⟨cs,rest,A,B,e,h1,h2,h3,h4,els_nat h5⟩
theorem rd_nats {w:World} {Z:BS} {v:Value} {aZ:List Nat} (h:RdS (eInt .i64) w Z v (aZ.map fun (x:Nat)=>(x:Int))):RdS dK w Z v aZ:=by
 obtain ⟨us,h1,h2,h3⟩:=h
 rw [List.length_map] at h1
 exact ⟨us,h1,els_nat h2,h3⟩
theorem nats_of:∀ {l:List Int},(∀x ∈ l,1<=x)->∃aZ:List Nat,l=aZ.map fun (x:Nat)=>(x:Int)
 |[],_=>⟨[],rfl⟩
 |x::l,h=>by
  obtain ⟨aZ,e⟩:=nats_of fun y hy=>h y (List.mem_cons_of_mem _ hy)
  have:=h x List.mem_cons_self
  exact ⟨x.toNat::aZ,by rw [List.map_cons,<-e];congr 1;omega⟩
section
variable {F Z:BS} {W w:World} {ts:List Th} {p N:Nat} {a:Prt}
theorem restart_high (h:dY F Z W ts w) (i:Nat) (hi:ts[i]? = some (bP p a)) (hok:a.Ok N) (c:Int) (h1:1099511627775 < c) :
  Calls Try.prog 17 #[.pointer (some ⟨p,0,none⟩),.int .i64 c] w fun e w'=>e=.returned (.int .i64 2)/\dY F Z W ts w':=by
 obtain ⟨G,Y,x,hst⟩:=h.get i hi
 obtain ⟨rv,sp,ap,wv,bv,snp,rcp,tkp,gvp,bsv,kv,acv,rev,tav⟩:=x
 obtain ⟨c0,c1,c2,c3,c4,_⟩:=aB (hst.get (i:=0) rfl).1
 have hr:=hst.get (i:=1) rfl
 dsimp only at *
 obtain ⟨rb,ro,rc,rfl,m1,m1'⟩:=bR (show Sq dK 3 w _ _ rv a.aZ from hr) hok.n1
 have HN:=aQ (rooms_nums (show Sq dK 3 w _ _ (.slice (some ⟨rb,ro,none⟩) a.aZ.length rc) a.aZ from hr))
 have hinc:(a.inc:Int) < c:=by have:=hok.i2;omega
 have hdc:decide (c<=(a.inc:Int))=false:=by simp;omega
 have HNO:=aQ (fun (w':World) (hb:Below w.heap.size w w')=>pnew_no (inc:=c) (wi:=a.cA) (ti:=a.aN) (de:=a.dead) (aZ:=a.aZ.map fun (x:Nat)=>(x:Int)) (ra:=some ⟨rb,ro,none⟩) (rc:=rc) w' (by rw [List.length_map];have:=hok.n4;omega) (fun hc=>by have:=hc.i2;omega) fun k y hk=>by
  rw [List.getElem?_map] at hk
  cases hx:a.aZ[k]? with
  |none=>rw [hx] at hk;cases hk
  |some z=>
   rw [hx] at hk
   obtain rfl:=Option.some.inj hk
   exact ⟨rb,ro,rfl,(World.cell?_of_block (hb.block rb (World.block_lt_of_cell? w _ (HN.out k z hx)))).trans (HN.out k z hx)⟩)
 rw [List.length_map] at HNO
 have HH:=aQ h
 clear hst hr hi hok h h1
 go_enter Try.func17,Try.ntmps17
 go_wp2_with fail
 refine (HNO.out _ (by (repeat (first|(with_reducible exact Below.refl _ _)|(with_reducible refine Bw.alloc ?_ _)|(with_reducible refine Bw.drewN ?_ _)|(with_reducible refine Bw.drew ?_)|(with_reducible refine Below.setCell ?_ (by simp <;> omega) _))))).mono ?_
 rintro e w' ⟨rfl,hb⟩
 have HB:=aQ (show Below w.heap.size w w' from Below.trans (by (repeat (first|(with_reducible exact Below.refl _ _)|(with_reducible refine Bw.alloc ?_ _)|(with_reducible refine Bw.drewN ?_ _)|(with_reducible refine Bw.drew ?_)|(with_reducible refine Below.setCell ?_ (by simp <;> omega) _)))) (hb.mono (by simp)))
 clear hb HNO
 go_wp2_with fail
 go_ret
 exact ⟨rfl,HH.out.own HB.out⟩
end
end

section
open Go.RowKit
set_option maxRecDepth 100000
abbrev sdV (m d p se st si ch:Int):Value:=.agg #[.int .i64 m,.int .i64 d,.int .i64 p,.int .i64 se,.int .i64 st,.int .i64 si,.int .i64 ch]
abbrev sideV (s:Side) (ch:Int):Value:=sdV s.mine s.dead s.cM s.seen s.state s.silent ch
theorem cells7 {w:World} {b:Nat} {u0 u1 u2 u3 u4 u5 u6:Value} {T:TypeId} (h:w.heap[b]? = some (.cells #[u0,u1,u2,u3,u4,u5,u6] T)) :
  w.cell? ⟨b,0,none⟩=some u0/\w.cell? ⟨b,1,none⟩=some u1/\w.cell? ⟨b,2,none⟩=some u2/\w.cell? ⟨b,3,none⟩=some u3/\w.cell? ⟨b,4,none⟩=some u4/\w.cell? ⟨b,5,none⟩=some u5/\w.cell? ⟨b,6,none⟩=some u6:=
 ⟨aJ h rfl,aJ h rfl,aJ h rfl,aJ h rfl,aJ h rfl,aJ h rfl,aJ h rfl⟩
theorem below_sts7 {B b:Nat} {w w':World} (h:Below B w w') (hb:B<=b) (v0 v1 v2 v3 v4 v5 v6:Value) :
  Below B w (((((((w'.setCell ⟨b,0,none⟩ v0).setCell ⟨b,1,none⟩ v1).setCell ⟨b,2,none⟩ v2).setCell ⟨b,3,none⟩ v3).setCell ⟨b,4,none⟩ v4).setCell ⟨b,5,none⟩ v5).setCell ⟨b,6,none⟩ v6):=
 Below.setCell (Below.setCell (Below.setCell (Below.setCell (Below.setCell (Below.setCell (Below.setCell h hb _) hb _) hb _) hb _) hb _) hb _) hb _
theorem rset_any (m d p se st si ch st' p':Int) (w:World):Calls Try.prog 76 #[sdV m d p se st si ch,.int .i64 st',.int .i64 p'] w fun e w'=>∃ch',e=.returned (sdV m d p' se st' 0 ch')/\Below w.heap.size w w':=by
 obtain ⟨ch',hch⟩:∃ch',IntKind.i64.wrap (ch+1)=ch':=⟨_,rfl⟩
 by_cases h1:st=st'
 ·by_cases h2:p=p'
  ·subst h1 h2
   clear hch
   go_enter Try.func76,Try.ntmps76
   go_wp2_with fail
   exact bodyPost_ret (v:=sdV m d p se st 0 ch) (by simp [results,Try.results76,go_sem]) rfl ⟨ch,rfl,by (with_reducible (repeat (first|exact Below.refl _ _|refine Bw.alloc ?_ _|refine Bw.drewN ?_ _|refine Bw.drew ?_)))⟩
  ·subst h1
   have e2:(p != p')=true:=by simpa using h2
   clear h2
   go_enter Try.func76,Try.ntmps76
   go_wp2_with fail
   exact bodyPost_ret (v:=sdV m d p' se st 0 ch') (by simp [results,Try.results76,go_sem]) rfl ⟨ch',rfl,by (with_reducible (repeat (first|exact Below.refl _ _|refine Bw.alloc ?_ _|refine Bw.drewN ?_ _|refine Bw.drew ?_)))⟩
 ·have e1:(st != st')=true:=by simpa using h1
  clear h1
  go_enter Try.func76,Try.ntmps76
  go_wp2_with fail
  exact bodyPost_ret (v:=sdV m d p' se st' 0 ch') (by simp [results,Try.results76,go_sem]) rfl ⟨ch',rfl,by (with_reducible (repeat (first|exact Below.refl _ _|refine Bw.alloc ?_ _|refine Bw.drewN ?_ _|refine Bw.drew ?_)))⟩
theorem rsideTick_any (s:Side) (ho:s.Ok) (ch:Int) (w:World):Calls Try.prog 42 #[sideV s ch] w fun e w'=>∃ch',e=.returned (sideV s.cR ch')/\Below w.heap.size w w':=by
 obtain ⟨m,d,p,se,st,si⟩:=s
 obtain ⟨a1,a2,a3,a4,a5,a6,a7,a8,a9⟩:=ho
 dsimp only at *
 unfold Side.cR
 dsimp only
 by_cases h0:p=0
 ·subst h0
  rw [if_pos rfl]
  go_enter Try.func42,Try.ntmps42
  go_wp2_with fail
  exact bodyPost_ret (v:=sdV m d 0 se st si ch) (by simp [results,Try.results42,go_sem]) rfl ⟨⟨ch,rfl⟩,by (with_reducible (repeat (first|exact Below.refl _ _|refine Bw.alloc ?_ _|refine Bw.drewN ?_ _|refine Bw.drew ?_)))⟩
 ·rw [if_neg h0]
  have e0:((p:Int) == 0)=false:=by simp;omega
  by_cases h1:d<=si+1
  ·rw [if_pos h1]
   go_enter Try.func42,Try.ntmps42
   go_wp2_with fail
   refine (rset_any m d p se st (si+1) ch 0 0 _).mono ?_
   rintro e w1 ⟨ch',rfl,hb⟩
   have hr:w1.heap[w.heap.size+1]? = some (.cells #[.int .i64 0,.int .i64 0,.int .i64 0,.int .i64 0,.int .i64 0,.int .i64 0,.int .i64 0] 52):=by
    have h:=heap_alloc_new (w.alloc (.cells #[.int .i64 (m:Int),.int .i64 (d:Int),.int .i64 (p:Int),.int .i64 (se:Int),.int .i64 (st:Int),.int .i64 ((si:Int)+1),.int .i64 ch] 52)) (.cells #[.int .i64 0,.int .i64 0,.int .i64 0,.int .i64 0,.int .i64 0,.int .i64 0,.int .i64 0] 52)
    rw [World.size_alloc] at h
    exact (hb.block _ (by simp)).trans h
   have HB:=aQ (show Below w.heap.size w w1 from Below.trans (by (with_reducible (repeat (first|exact Below.refl _ _|refine Bw.alloc ?_ _|refine Bw.drewN ?_ _|refine Bw.drew ?_)))) (hb.mono (by simp <;> omega)))
   obtain ⟨g0,g1,g2,g3,g4,g5,g6⟩:=cells7 hr;have gf:=fun i=>aD hr i;have hgl:=lt_of_block hr;clear hr;go_wp2_with fail;exact bodyPost_ret (v:=sdV m d 0 se 0 0 ch') (by simp [results,Try.results42,go_sem,g0,g1,g2,g3,g4,g5,g6]) rfl ⟨ch',rfl,below_sts7 HB.out (Nat.le_succ _) _ _ _ _ _ _ _⟩
  ·rw [if_neg h1]
   go_enter Try.func42,Try.ntmps42
   go_wp2_with fail
   exact bodyPost_ret (v:=sdV m d p se st (si+1) ch) (by simp [results,Try.results42,go_sem]) rfl ⟨ch,by simp [sideV,sdV],by (with_reducible (repeat (first|exact Below.refl _ _|refine Bw.alloc ?_ _|refine Bw.drewN ?_ _|refine Bw.drew ?_)))⟩
abbrev sdO (m d p se st si ch:Int):Obj:=.cells #[.int .i64 m,.int .i64 d,.int .i64 p,.int .i64 se,.int .i64 st,.int .i64 si,.int .i64 ch] 52
abbrev sdZ:Obj:=.cells #[.int .i64 0,.int .i64 0,.int .i64 0,.int .i64 0,.int .i64 0,.int .i64 0,.int .i64 0] 52
theorem rsideRec_any (s:Side) (ch:Int) (x y:Int) (w:World):Calls Try.prog 71 #[sideV s ch,.int .i64 x,.int .i64 y] w fun e w'=>∃ch',e=.returned (sideV (s.cO x y) ch')/\Below w.heap.size w w':=by
 obtain ⟨m,d,p,se,st,si⟩:=s
 unfold Side.cO
 dsimp only
 by_cases h0:x < 1\/1099511627775 < x\/x < (se:Int)
 ·rw [if_pos h0]
  have h1:x < 1\/(1<=x/\1099511627776<=x)\/(1<=x/\x < 1099511627776/\x < (se:Int)):=by omega
  clear h0
  rcases h1 with h1|⟨h1,h2⟩|⟨h1,h2,h3⟩
  all_goals
   go_enter Try.func71,Try.ntmps71
   go_wp2_with fail
   exact bodyPost_ret (v:=sdV m d p se st si ch) (by simp [results,Try.results71,go_sem]) rfl ⟨ch,rfl,by (with_reducible (repeat (first|exact Below.refl _ _|refine Bw.alloc ?_ _|refine Bw.drewN ?_ _|refine Bw.drew ?_)))⟩
 ·rw [if_neg h0]
  have h1:1<=x:=by omega
  have h2:x < 1099511627776:=by omega
  have h3:(se:Int)<=x:=by omega
  have hn:((x.toNat:Nat):Int)=x:=by omega
  clear h0
  have hr:∀w1,Below ((w.alloc (sdO m d p x st si ch)).alloc sdZ).heap.size ((w.alloc (sdO m d p x st si ch)).alloc sdZ) w1->w1.heap[w.heap.size+1]? = some sdZ:=fun w1 hb=>by
   have h:=heap_alloc_new (w.alloc (sdO m d p x st si ch)) sdZ
   rw [World.size_alloc] at h
   exact (hb.block _ (by simp)).trans h
  have HR:=aQ hr
  clear hr
  have HN:=aQ hn
  clear hn
  by_cases hy:y=(m:Int)
  ·rw [if_pos hy]
   subst hy
   go_enter Try.func71,Try.ntmps71
   go_wp2_with fail
   refine (rset_any m d p x st si ch 2 x _).mono ?_
   rintro e w1 ⟨ch',rfl,hb⟩
   have hq:=HR.out _ hb
   have HB:=aQ (show Below w.heap.size w w1 from Below.trans (by (with_reducible (repeat (first|exact Below.refl _ _|refine Bw.alloc ?_ _|refine Bw.drewN ?_ _|refine Bw.drew ?_)))) (hb.mono (by simp <;> omega)))
   clear hb
   obtain ⟨g0,g1,g2,g3,g4,g5,g6⟩:=cells7 hq;have gf:=fun i=>aD hq i;have hgl:=lt_of_block hq;clear hq;go_wp2_with fail;exact bodyPost_ret (v:=sdV m d x x 2 0 ch') (by simp [results,Try.results71,go_sem,g0,g1,g2,g3,g4,g5,g6]) rfl ⟨ch',by rw [<-HN.out];simp [sideV],below_sts7 HB.out (Nat.le_succ _) _ _ _ _ _ _ _⟩
  ·rw [if_neg hy]
   have hy2:(y == (m:Int))=false:=by simpa using hy
   go_enter Try.func71,Try.ntmps71
   go_wp2_with fail
   refine (rset_any m d p x st si ch 1 x _).mono ?_
   rintro e w1 ⟨ch',rfl,hb⟩
   have hq:=HR.out _ hb
   have HB:=aQ (show Below w.heap.size w w1 from Below.trans (by (with_reducible (repeat (first|exact Below.refl _ _|refine Bw.alloc ?_ _|refine Bw.drewN ?_ _|refine Bw.drew ?_)))) (hb.mono (by simp <;> omega)))
   clear hb
   obtain ⟨g0,g1,g2,g3,g4,g5,g6⟩:=cells7 hq;have gf:=fun i=>aD hq i;have hgl:=lt_of_block hq;clear hq;go_wp2_with fail;exact bodyPost_ret (v:=sdV m d x x 1 0 ch') (by simp [results,Try.results71,go_sem,g0,g1,g2,g3,g4,g5,g6]) rfl ⟨ch',by rw [<-HN.out];simp [sideV],below_sts7 HB.out (Nat.le_succ _) _ _ _ _ _ _ _⟩
abbrev givV (g:Giv):Value:=.agg #[.int .i64 (g.room:Int),.int .i64 (g.aW:Int),.int .i64 (g.cI:Int)]
abbrev takV (t:Tak):Value:=.agg #[.int .i64 (t.cP:Int),.int .i64 (t.cE:Int)]
theorem rlimit_any (g:Giv) (h:g.room+g.cI<=2000000000) (w:World):Calls Try.prog 43 #[givV g] w fun e w'=>e=.returned (.int .i64 (g.cE:Int))/\Below w.heap.size w w':=by
 obtain ⟨r,c,f⟩:=g
 dsimp only at *
 go_enter Try.func43,Try.ntmps43
 go_wp2_with fail
 go_ret
 exact ⟨by simp [Giv.cE],by (with_reducible (repeat (first|exact Below.refl _ _|refine Bw.alloc ?_ _|refine Bw.drewN ?_ _|refine Bw.drew ?_)))⟩
theorem rgivRec_any (g:Giv) (h1:g.cI<=g.aW) (h2:g.aW<=g.room+g.cI) (h3:g.aW<=2000000000) (w:World):Calls Try.prog 73 #[givV g] w fun e w'=>e=.returned (.tuple #[givV g.cO.2,.int .i64 (if g.cO.1 then 0 else 5)])/\Below w.heap.size w w':=by
 obtain ⟨r,c,f⟩:=g
 unfold Giv.cO Giv.cE
 dsimp only at *
 by_cases h0:r+f<=c
 ·rw [if_pos h0]
  have hq:((c:Int) - (f:Int) == (r:Int))=true:=by simp;omega
  go_enter Try.func73,Try.ntmps73
  go_wp2_with fail
  exact bodyPost_ret (v:=.tuple #[.agg #[.int .i64 (r:Int),.int .i64 (c:Int),.int .i64 (f:Int)],.int .i64 5]) (by simp [results,Try.results73,go_sem]) rfl ⟨rfl,by (with_reducible (repeat (first|exact Below.refl _ _|refine Bw.alloc ?_ _|refine Bw.drewN ?_ _|refine Bw.drew ?_)))⟩
 ·rw [if_neg h0]
  have hq:((c:Int) - (f:Int) == (r:Int))=false:=by simp;omega
  go_enter Try.func73,Try.ntmps73
  go_wp2_with fail
  exact bodyPost_ret (v:=.tuple #[.agg #[.int .i64 (r:Int),.int .i64 ((c:Int)+1),.int .i64 (f:Int)],.int .i64 0]) (by simp [results,Try.results73,go_sem]) rfl ⟨by simp,by (with_reducible (repeat (first|exact Below.refl _ _|refine Bw.alloc ?_ _|refine Bw.drewN ?_ _|refine Bw.drew ?_)))⟩
theorem rfree_any (g:Giv) (h1:g.cI<=g.aW) (h3:g.aW<=2000000000) (w:World):Calls Try.prog 49 #[givV g] w fun e w'=>(∃r,e=.returned (.tuple #[givV g.free,.int .i64 r]))/\Below w.heap.size w w':=by
 obtain ⟨r,c,f⟩:=g
 unfold Giv.free
 dsimp only at *
 by_cases h0:c<=f
 ·rw [if_pos h0]
  obtain rfl:c=f:=by omega
  go_enter Try.func49,Try.ntmps49
  go_wp2_with fail
  exact bodyPost_ret (v:=.tuple #[.agg #[.int .i64 (r:Int),.int .i64 (c:Int),.int .i64 (c:Int)],.int .i64 7]) (by simp [results,Try.results49,go_sem]) rfl ⟨⟨7,rfl⟩,by (with_reducible (repeat (first|exact Below.refl _ _|refine Bw.alloc ?_ _|refine Bw.drewN ?_ _|refine Bw.drew ?_)))⟩
 ·rw [if_neg h0]
  have hq:((c:Int) == (f:Int))=false:=by simp;omega
  go_enter Try.func49,Try.ntmps49
  go_wp2_with fail
  exact bodyPost_ret (v:=.tuple #[.agg #[.int .i64 (r:Int),.int .i64 (c:Int),.int .i64 ((f:Int)+1)],.int .i64 0]) (by simp [results,Try.results49,go_sem]) rfl ⟨⟨0,by simp⟩,by (with_reducible (repeat (first|exact Below.refl _ _|refine Bw.alloc ?_ _|refine Bw.drewN ?_ _|refine Bw.drew ?_)))⟩
theorem rtake_any (t:Tak) (h:t.cE<=1099511627776) (w:World):Calls Try.prog 45 #[takV t] w fun e w'=>(∃r,e=.returned (.tuple #[takV t.take,.int .i64 r]))/\Below w.heap.size w w':=by
 obtain ⟨s,l⟩:=t
 unfold Tak.take
 dsimp only at *
 by_cases h0:l<=s
 ·rw [if_pos h0]
  go_enter Try.func45,Try.ntmps45
  go_wp2_with fail
  exact bodyPost_ret (v:=.tuple #[.agg #[.int .i64 (s:Int),.int .i64 (l:Int)],.int .i64 5]) (by simp [results,Try.results45,go_sem]) rfl ⟨⟨5,rfl⟩,by (with_reducible (repeat (first|exact Below.refl _ _|refine Bw.alloc ?_ _|refine Bw.drewN ?_ _|refine Bw.drew ?_)))⟩
 ·rw [if_neg h0]
  go_enter Try.func45,Try.ntmps45
  go_wp2_with fail
  exact bodyPost_ret (v:=.tuple #[.agg #[.int .i64 ((s:Int)+1),.int .i64 (l:Int)],.int .i64 0]) (by simp [results,Try.results45,go_sem]) rfl ⟨⟨0,by simp⟩,by (with_reducible (repeat (first|exact Below.refl _ _|refine Bw.alloc ?_ _|refine Bw.drewN ?_ _|refine Bw.drew ?_)))⟩
theorem rraise_any (t:Tak) (x:Int) (w:World):Calls Try.prog 75 #[takV t,.int .i64 x] w fun e w'=>(∃r,e=.returned (.tuple #[takV (t.raise x),.int .i64 r]))/\Below w.heap.size w w':=by
 obtain ⟨s,l⟩:=t
 unfold Tak.raise
 dsimp only
 by_cases h0:x < 0\/1099511627776 < x
 ·rw [if_pos h0]
  have h1:x < 0\/(0<=x/\1099511627776 < x):=by omega
  clear h0
  rcases h1 with h1|⟨h1,h2⟩
  all_goals
   go_enter Try.func75,Try.ntmps75
   go_wp2_with fail
   exact bodyPost_ret (v:=.tuple #[.agg #[.int .i64 (s:Int),.int .i64 (l:Int)],.int .i64 2]) (by simp [results,Try.results75,go_sem]) rfl ⟨⟨2,rfl⟩,by (with_reducible (repeat (first|exact Below.refl _ _|refine Bw.alloc ?_ _|refine Bw.drewN ?_ _|refine Bw.drew ?_)))⟩
 ·rw [if_neg h0]
  obtain ⟨n,rfl⟩:∃n:Nat,x=(n:Int):=⟨x.toNat,by omega⟩
  have h1:(0:Int)<=(n:Int):=by omega
  have h2:(n:Int)<=1099511627776:=by omega
  rw [Int.toNat_natCast]
  obtain ⟨k,hk⟩:∃k,k=max l n:=⟨_,rfl⟩
  have hmx:max (l:Int) (n:Int)=(k:Int):=by omega
  rw [<-hk]
  clear h0 hk
  go_enter Try.func75,Try.ntmps75
  go_wp2_with fail
  exact bodyPost_ret (v:=.tuple #[.agg #[.int .i64 (s:Int),.int .i64 (k:Int)],.int .i64 0]) (by simp [results,Try.results75,go_sem]) rfl ⟨⟨0,rfl⟩,by (with_reducible (repeat (first|exact Below.refl _ _|refine Bw.alloc ?_ _|refine Bw.drewN ?_ _|refine Bw.drew ?_)))⟩
end

section
open Go.RowKit
set_option maxRecDepth 100000
def eTk:El Tak where
 size:=2
 rd _ _ _ cs t:=cs=[.int .i64 (t.cP:Int),.int .i64 (t.cE:Int)]
 len h:=by rw [h];rfl
 keep h _ _:=h
 mono h _ _:=h
 one h u hu:=by
  rw [h] at hu
  simp at hu
  rcases hu with rfl|rfl <;> rfl
def eGv:El Giv where
 size:=3
 rd _ _ _ cs g:=cs=[.int .i64 (g.room:Int),.int .i64 (g.aW:Int),.int .i64 (g.cI:Int)]
 len h:=by rw [h];rfl
 keep h _ _:=h
 mono h _ _:=h
 one h u hu:=by
  rw [h] at hu
  simp at hu
  rcases hu with rfl|rfl|rfl <;> rfl
structure RpV where
 rv:Value
 wv:Value
 bv:Value
 kv:Value
 cv:Value
 tv:Value
 gv:Value
 ev:Value
 av:Value
 sv:Value
 nv:Value
 hv:Value
 ch:Int
abbrev rpRow (a:Prt) (x:RpV):Obj:=.cells #[.int .i64 (a.inc:Int),x.rv,.int .i64 (a.cA:Int),.int .i64 (a.aN:Int),.int .i64 (a.dead:Int),
 .int .i64 (a.cS.mine:Int),.int .i64 (a.cS.dead:Int),.int .i64 (a.cS.cM:Int),.int .i64 (a.cS.seen:Int),.int .i64 (a.cS.state:Int),.int .i64 (a.cS.silent:Int),.int .i64 x.ch,
 x.wv,x.bv,.int .i64 (a.cM:Int),
 .int .i64 (a.snd.cA:Int),.int .i64 (a.snd.aN:Int),x.kv,.int .i64 ((a.snd.aG+a.snd.cT.length:Nat):Int),.int .i64 (a.snd.aG:Int),.int .i64 (a.snd.pos:Int),.int .i64 (a.snd.cP:Int),.int .i64 (a.snd.timer:Int),
 x.cv,.int .i64 (a.rcv:Int),x.tv,x.gv,x.ev,.int .i64 (a.arb.ptr:Int),x.av,x.sv,x.nv,x.hv,.int .i64 (a.bL:Int)] 64
abbrev rpThs (p:Nat) (a:Prt) (x:RpV):List Th:=
 [dJ p (rpRow a x),tRd dK x.rv a.aZ,tSq (eSq eBy 27) 54 x.wv a.aX,tSq (eSq eBy 27) 54 x.bv a.aY,tSq eBy 27 x.kv a.snd.cT,tSq dK 3 x.cv (a.cT.map (·.1)),
  tSq eTk 102 x.tv a.tak,tSq eGv 100 x.gv a.giv,tSq dK 3 x.ev a.base,tSq dK 3 x.av a.arb.ages,tSq dK 3 x.sv a.aG,tSq dK 3 x.nv a.aW,tSq dK 3 x.hv a.cF]
def tRp (p:Nat) (a:Prt):Th:=tEx (rpThs p a)
section
variable {F Z:BS} {W w:World} {ts:List Th} {p:Nat} {a:Prt}
theorem dY.rp (h:dY F Z W (tRp p a::ts) w):∃x,dY F Z W (rpThs p a x++ts) w:=dY.opens h
theorem dY.rp_shut {x:RpV} (h:dY F Z W (rpThs p a x++ts) w):dY F Z W (tRp p a::ts) w:=dY.shut (f:=rpThs p a) h
theorem rhas_yes {n:Nat} (c:Nat) (ra:Option Addr) (rc:Nat) (hc:c < n) (h1:w.cell? ⟨p,1,none⟩=some (.slice ra n rc)) :
  Calls Try.prog 22 #[.pointer (some ⟨p,0,none⟩),.int .i64 (c:Int)] w fun e w'=>e=.returned (.bool true)/\w=w':=by
 go_enter Try.func22,Try.ntmps22
 go_wp2_with fail
 go_ret
 exact ⟨by simp,rfl⟩
theorem rhas_no {n:Nat} (c:Int) (ra:Option Addr) (rc:Nat) (hc:c < 0\/(n:Int)<=c) (h1:w.cell? ⟨p,1,none⟩=some (.slice ra n rc)) :
  Calls Try.prog 22 #[.pointer (some ⟨p,0,none⟩),.int .i64 c] w fun e w'=>e=.returned (.bool false)/\w=w':=by
 have hq:c < 0\/(0<=c/\(n:Int)<=c):=by omega
 clear hc
 rcases hq with h0|⟨h0,h2⟩
 ·go_enter Try.func22,Try.ntmps22
  go_wp2_with fail
  go_ret
  exact ⟨by first|rfl|simp;try omega,rfl⟩
 ·go_enter Try.func22,Try.ntmps22
  go_wp2_with fail
  go_ret
  exact ⟨by first|rfl|simp;try omega,rfl⟩
end
end

section
open Go.RowKit
section
variable {P:Program} {ops:Array Oper} {Q:Exit->Act->World->Prop} {md:Region.Mode} {S:World->Prop} {last:Nat}
def wpAnyL (P:Program) (md:Region.Mode) (ops:Array Oper) (Q:Exit->Act->World->Prop) (S:World->Prop) (last:Nat):Nat->Array Bool->Act->World->Prop
 |0,listed,a,w=>Region.ready md ops listed=[]/\Q .normal a w
 |fuel+1,listed,a,w=>
  (Region.ready md ops listed=[]->Q .normal a w) /\
  ∀i ∈ Region.ready md ops listed,wpOp P ops Q i (fun a' w'=>((listed.setIfInBounds i true).getD last true=false->S w')/\wpAnyL P md ops Q S last fuel (listed.setIfInBounds i true) a' w') a w
theorem wpAnyL_any:∀(fuel:Nat) (listed:Array Bool) (a:Act) (w:World),wpAnyL P md ops Q S last fuel listed a w->wpAnyH P md ops Q (fun _=>True) fuel listed a w
 |0,_,_,_,h=>h
 |fuel+1,_,_,_,h=>⟨h.1,fun i hi=>wpOp_mono (fun a' w' h2=>⟨trivial,wpAnyL_any fuel _ a' w' h2.2⟩) (h.2 i hi)⟩
theorem wp_region_lag (last:Nat) {id:Nat} {a:Act} {w:World} (hm:P.follows .mixedOrders=true) (hS:S w.drew)
  (h:S w.drew->wpAnyL P .any ops Q S last ops.size (Array.replicate ops.size false) a w.drew):(Code.region id ops true).wp P Q a w:=
 wp_region_held_drew (S:=fun _=>True) hm trivial fun _=>wpAnyL_any _ _ _ _ (h hS)
theorem ne_last {listed:Array Bool} {i:Nat} (h:(listed.setIfInBounds i true).getD last true=false):i≠last/\listed.getD last true=false:=by
 by_cases e:i=last
 ·subst e
  rcases Nat.lt_or_ge i listed.size with h'|h'
  ·simp [h'] at h
  ·simp [h'] at h
 ·rw [getD_set_ne true e] at h
  exact ⟨e,h⟩
theorem wpAnyL_firstG {S':World->Prop} {i:Nat} {oi:Oper} {v:Value} (hi:ops[i]? = some oi) (hsel:∀(j:Nat) (o:Oper) cs b,ops[j]? = some o->o.op≠.select cs b)
  (hQ:∀c a w,Q (.panic c) (a.put oi.dst v) w->Q (.panic c) a w) (hil:i≠last) (hla:(∀w,S' w)\/(∀w,S w->S' w)/\∀o,ops[last]? = some o->∃e ∈ o.after,Region.binds md e=true/\e.on=i) :
  ∀(fuel:Nat) (listed:Array Bool) (a:Act) (w:World),
   (∀j oj,ops[j]? = some oj->j≠i->listed.getD j true=false->(∀e ∈ oj.after,Region.binds md e=true->e.on≠i)->oi.apart ops oj=true) ->
   i ∈ Region.ready md ops listed->YieldsS P ops S' oi v a->(listed.getD last true=false->S w)->((∀w,S' w)\/listed.getD last true=false) ->
   wpAnyL P md ops Q S last fuel (listed.setIfInBounds i true) (a.put oi.dst v) w->wpAnyL P md ops Q S last (fuel+1) listed a w:=by
 have hone:∀(w:World) (listed:Array Bool),(listed.getD last true=false->S w)->((∀w,S' w)\/listed.getD last true=false)->S' w:=fun w listed hS h=>h.elim (fun h=>h w) fun h=>hla.elim (fun h=>h w) fun h2=>h2.1 w (hS h)
 intro fuel
 induction fuel with
 |zero=>
  intro listed a w _ hr hy hS hls H
  refine ⟨fun h=>(by rw [h] at hr;cases hr),fun j hj=>?_⟩
  by_cases hji:j=i
  ·subst hji;exact hy.wpOp hi (hone w _ hS hls) ⟨fun h=>hS (ne_last h).2,H⟩
  ·have:=ready_mono hj hji
   rw [H.1] at this
   cases this
 |succ fuel ih=>
  intro listed a w hfree hr hy hS hls H
  refine ⟨fun h=>(by rw [h] at hr;cases hr),fun j hj=>?_⟩
  by_cases hji:j=i
  ·subst hji;exact hy.wpOp hi (hone w _ hS hls) ⟨fun h=>hS (ne_last h).2,H⟩
  ·have h1:=H.2 j (ready_mono hj hji)
   obtain ⟨hjun,oj,hoj,hall⟩:=mem_ready.1 hj
   have hnot:∀e ∈ oj.after,Region.binds md e=true->e.on≠i:=fun e he hb heq=>by
    have h1:=hall e he hb
    have h0:=(mem_ready.1 hr).1
    rw [heq] at h1
    rcases Nat.lt_or_ge i listed.size with h'|h'
    ·simp [h'] at h0 h1;rw [h0] at h1;cases h1
    ·simp [Array.getElem?_eq_none h'] at h1
   have hls':(∀w,S' w)\/(listed.setIfInBounds j true).getD last true=false:=by
    rcases hla with h|⟨_,hla⟩
    ·exact .inl h
    ·rcases hls with h|h
     ·exact .inl h
     ·refine .inr ?_
      have hjl:j≠last:=fun e=>by
       subst e
       obtain ⟨e,he,hb,ho⟩:=hla oj hoj
       exact hnot e he hb ho
      rw [getD_set_ne true hjl];exact h
   have h2:=wpOp_putS hoj (hfree j oj hoj hji hjun hnot) (fun cs b=>hsel i oi cs b hi) (fun cs b=>hsel j oj cs b hoj) hQ hy h1
   have hfree':∀k ok,ops[k]? = some ok->k≠i->(listed.setIfInBounds j true).getD k true=false ->
     (∀e ∈ ok.after,Region.binds md e=true->e.on≠i)->oi.apart ops ok=true:=fun k ok hk hki hun hno=>by
    refine hfree k ok hk hki ?_ hno
    by_cases hjk:j=k
    ·subst hjk;exact hjun
    ·rw [getD_set_ne true hjk] at hun;exact hun
   refine wpOp_mono (fun a' w' h3=>?_) h2
   have hSj:(listed.setIfInBounds j true).getD last true=false->S w':=fun h=>h3.2.1 (by
    rw [Array.setIfInBounds_comm _ _ (Ne.symm hji),getD_set_ne true hil];exact h)
   refine ⟨hSj,ih (listed.setIfInBounds j true) a' w' hfree' (ready_mono hr (Ne.symm hji)) h3.1 hSj hls' ?_⟩
   rw [Array.setIfInBounds_comm _ _ hji]
   exact h3.2.2
theorem wpAnyL_firstS {i:Nat} {oi:Oper} {v:Value} (hi:ops[i]? = some oi) (hsel:∀(j:Nat) (o:Oper) cs b,ops[j]? = some o->o.op≠.select cs b)
  (hQ:∀c a w,Q (.panic c) (a.put oi.dst v) w->Q (.panic c) a w) (hil:i≠last) (hla:∀o,ops[last]? = some o->∃e ∈ o.after,Region.binds md e=true/\e.on=i) :
  ∀(fuel:Nat) (listed:Array Bool) (a:Act) (w:World),
   (∀j oj,ops[j]? = some oj->j≠i->listed.getD j true=false->(∀e ∈ oj.after,Region.binds md e=true->e.on≠i)->oi.apart ops oj=true) ->
   i ∈ Region.ready md ops listed->YieldsS P ops S oi v a->S w->listed.getD last true=false ->
   wpAnyL P md ops Q S last fuel (listed.setIfInBounds i true) (a.put oi.dst v) w->wpAnyL P md ops Q S last (fuel+1) listed a w:=
 fun fuel listed a w h1 h2 h3 h4 h5 h6=>wpAnyL_firstG hi hsel hQ hil (.inr ⟨fun _ h=>h,hla⟩) fuel listed a w h1 h2 h3 (fun _=>h4) (.inr h5) h6
theorem wpAnyL_pure {l:List Oper} (i:Nat) {fuel:Nat} {listed:Array Bool} {a:Act} {w:World} {o:Oper} {rest:List Oper} (hs:(Region.noSelect l.toArray && firstsOK md l.toArray i 1 listed && decide (i≠last))=true) (ho:l.drop i=o::rest) (hS:listed.getD last true=false->S w) (hQ:∀c a w t v,Q (.panic c) (a.put (some t) v) w->Q (.panic c) a w)
  (h:wpFirst P l.toArray (fun _=>True) (fun a'=>wpAnyL P md l.toArray Q S last fuel (listed.setIfInBounds i true) a' w) [o] a):wpAnyL P md l.toArray Q S last (fuel+1) listed a w:=by
 simp only [Bool.and_eq_true,decide_eq_true_eq] at hs
 obtain ⟨⟨h1,h2⟩,h3⟩:=hs
 simp only [firstsOK,Bool.and_eq_true] at h2
 obtain ⟨⟨hf,hr⟩,_⟩:=h2
 have h0:l.toArray[i]? = some o:=by
  have:(l.drop i)[0]? = some o:=by rw [ho];rfl
  rw [List.getElem?_drop] at this
  simpa using this
 obtain ⟨v,hy,h⟩:=h
 exact wpAnyL_firstG h0 (Region.noSelect_spec h1) (fun c a w=>by cases o.dst with|none=>exact id|some t=>exact hQ c a w t _) h3 (.inl fun _=>trivial) fuel listed a w (Region.free_spec h0 hf) (by simpa using hr) hy hS (.inl fun _=>trivial) h
def aheadOK (md:Region.Mode) (ops:Array Oper) (last lo n:Nat):Bool:=
 decide (lo+n<=last) && match ops[last]? with|some o=>(List.range n).all fun j=>o.after.any fun e=>Region.binds md e && e.on == lo+j|none=>true
theorem wpAnyL_firsts (hs:Region.noSelect ops=true) {w:World} (hS:S w) (hQ:∀c a w t v,Q (.panic c) (a.put (some t) v) w->Q (.panic c) a w) :
  ∀(n lo fuel:Nat) (listed:Array Bool) (a:Act) (l:List Oper),(∀j,j < n->ops[lo+j]? = l[j]?)->l.length=n->firstsOK md ops lo n listed=true->listed.getD last true=false->(∀j,j < n->lo+j≠last/\∀o,ops[last]? = some o->∃e ∈ o.after,Region.binds md e=true/\e.on=lo+j) ->
   wpFirst P ops S (fun a'=>wpAnyL P md ops Q S last fuel (marks lo n listed) a' w) l a->wpAnyL P md ops Q S last (fuel+n) listed a w
 |0,lo,fuel,listed,a,l,_,hl,_,_,_,h=>by
  obtain rfl:=List.length_eq_zero_iff.1 hl
  exact h
 |n+1,lo,fuel,listed,a,[],_,hl,_,_,_,_=>by simp at hl
 |n+1,lo,fuel,listed,a,o::l,hj,hl,hok,hun,hla,⟨v,hy,h⟩=>by
  simp only [firstsOK,Bool.and_eq_true] at hok
  obtain ⟨⟨hf,hr⟩,hok⟩:=hok
  have h0:ops[lo]? = some o:=by have:=hj 0 (by omega);simpa using this
  refine wpAnyL_firstS h0 (Region.noSelect_spec hs) (fun c a w=>by cases o.dst with|none=>exact id|some t=>exact hQ c a w t _) (by have:=(hla 0 (by omega)).1;simpa using this) (by have:=(hla 0 (by omega)).2;simpa using this) (fuel+n) listed a w (Region.free_spec h0 hf) (by simpa using hr) hy hS hun ?_
  exact wpAnyL_firsts hs hS hQ n (lo+1) fuel _ _ l (fun j hjn=>by have:=hj (j+1) (by omega);rw [show lo+1+j=lo+(j+1) by omega,this];rfl) (by simpa using hl) hok (by rw [getD_set_ne true (by have:=(hla 0 (by omega)).1;simpa using this)];exact hun) (fun j hjn=>by have:=hla (j+1) (by omega);rwa [show lo+(j+1)=lo+1+j by omega] at this) h
theorem wpAnyL_take_n {l:List Oper} (lo n:Nat) {fuel:Nat} {listed:Array Bool} {a:Act} {w:World} (hs:(Region.noSelect l.toArray && firstsOK md l.toArray lo n listed && decide (lo+n<=l.length) && aheadOK md l.toArray last lo n && !listed.getD last true)=true) (hS:S w) (hQ:∀c a w t v,Q (.panic c) (a.put (some t) v) w->Q (.panic c) a w)
  (h:wpFirst P l.toArray S (fun a'=>wpAnyL P md l.toArray Q S last fuel (marks lo n listed) a' w) ((l.drop lo).take n) a):wpAnyL P md l.toArray Q S last (fuel+n) listed a w:=by
 simp only [Bool.and_eq_true,decide_eq_true_eq,aheadOK] at hs
 obtain ⟨⟨⟨⟨h1,h2⟩,h3⟩,h4,h5⟩,h6⟩:=hs
 refine wpAnyL_firsts h1 hS hQ n lo fuel listed a _ (fun j hj=>?_) ?_ h2 (by simpa using h6) (fun j hj=>⟨by omega,fun o ho=>?_⟩) h
 ·rw [List.getElem?_take,if_pos hj,List.getElem?_drop];simp
 ·simp;omega
 ·rw [ho] at h5
  obtain ⟨k,hk,he⟩:=Array.any_eq_true.1 (List.all_eq_true.1 h5 j (List.mem_range.2 hj))
  rw [Bool.and_eq_true,beq_iff_eq] at he
  exact ⟨_,Array.getElem_mem hk,he.1,he.2⟩
theorem wpAnyL_one {l:List Oper} (i:Nat) {o:Oper} {rest:List Oper} {fuel:Nat} {listed:Array Bool} {a:Act} {w:World} (hr:Region.ready md l.toArray listed=[i]) (ho:l.drop i=o::rest)
  (h:∀K:Act->World->Prop,Shut (∀a w,(i≠last->S w)->wpAnyL P md l.toArray Q S last fuel (listed.setIfInBounds i true) a w->K a w)->if Region.wanted o (yielded l.toArray a.tmps)=true then Oper.wp P o a w K Q else K (a.put o.dst undef) w) :
  wpAnyL P md l.toArray Q S last (fuel+1) listed a w:=by
 have ho':l.toArray[i]? = some o:=by
  have:(l.drop i)[0]? = some o:=by rw [ho];rfl
  rw [List.getElem?_drop] at this
  simpa using this
 refine ⟨fun h=>(by rw [hr] at h;cases h),fun k hk=>?_⟩
 rw [hr] at hk
 obtain rfl:k=i:=by simpa using hk
 exact wpOp_step ho' fun K hK=>h K fun a w hS hW=>hK a w ⟨fun h=>hS (ne_last h).1,hW⟩
theorem wpAnyL_late {l:List Oper} (i:Nat) {o:Oper} {rest:List Oper} {fuel:Nat} {listed:Array Bool} {a:Act} {w:World} (hr:Region.ready md l.toArray listed=[i]) (ho:l.drop i=o::rest) (hl:listed.getD last true=true)
  (h:∀K:Act->World->Prop,Shut (∀a w,wpAnyL P md l.toArray Q S last fuel (listed.setIfInBounds i true) a w->K a w)->if Region.wanted o (yielded l.toArray a.tmps)=true then Oper.wp P o a w K Q else K (a.put o.dst undef) w) :
  wpAnyL P md l.toArray Q S last (fuel+1) listed a w:=by
 have ho':l.toArray[i]? = some o:=by
  have:(l.drop i)[0]? = some o:=by rw [ho];rfl
  rw [List.getElem?_drop] at this
  simpa using this
 refine ⟨fun h=>(by rw [hr] at h;cases h),fun k hk=>?_⟩
 rw [hr] at hk
 obtain rfl:k=i:=by simpa using hk
 exact wpOp_step ho' fun K hK=>h K fun a w hW=>hK a w ⟨fun h=>absurd (hl.symm.trans (ne_last h).2) (by decide),hW⟩
theorem wpAnyL_done {listed:Array Bool} {a:Act} {w:World} (hr:Region.ready md ops listed=[]) (h:Q .normal a w) (fuel:Nat):wpAnyL P md ops Q S last fuel listed a w:=by
 cases fuel with
 |zero=>exact ⟨hr,h⟩
 |succ n=>exact ⟨fun _=>h,fun i hi=>by rw [hr] at hi;cases hi⟩
end
end

section
open Go.RowKit
set_option maxRecDepth 100000
theorem sl_made (w:World) (g:Nat) (e:TypeId) (fr:Nat × Nat) (hfr:fr=(0,0)) (hg:g=w.heap.size):Sl (w.alloc (.cells #[] e fr)) (fun k=>w.heap.size<=k) e 1 (.slice (some ⟨g,0,none⟩) 0 0) 0 []:=by
 subst hg;subst hfr
 exact ⟨rfl,.inr ⟨w.heap.size,0,0,#[],rfl,Nat.le_refl _,heap_alloc_new w _,Nat.le_refl _,Nat.zero_le _,by simp,by simp⟩⟩
theorem Sl.byZ {w w1:World} {e:TypeId} {v:Value} {d:dV} {B:Nat} (h:Sl w1 (fun k=>B<=k) e 1 v d.length (cu d)) (hB:w.heap.size<=B):ByZ w1 (fun k=>w.heap.size<=k) v d:=by
 refine ⟨h.rd,fun _ b hb=>?_⟩
 obtain ⟨_,⟨rfl,_⟩|⟨g,off,cap,cur,rfl,h1,h2,_⟩⟩:=h
 ·cases hb
 ·obtain rfl:g=b:=by simpa [Value.ownBlock] using hb
  exact Nat.le_trans hB h1
section
variable {w:World} {F Z:BS} {W:World} {ts:List Th} {p:Nat} {a:Prt}
theorem dY.rpOf {G Y:BS} (h:(tRp p a).on w G Y) (hd:Dj G Y):∃x,dY G Y w (rpThs p a x) w:=by
 obtain ⟨x,h⟩:=dY.opens (dY.start1 h hd)
 exact ⟨x,by simpa using h⟩
theorem dY.rp_did {G Y:BS} {w0:World} {x:RpV} (h:dY G Y w0 (rpThs p a x) w):Did w0 G Y [tRp p a] w:=(dY.shut (f:=rpThs p a) (ts:=[]) (by simpa using h)).did
theorem roffer_range {n:Nat} (c:Int) (da:Option Addr) (dn dc:Nat) (ra:Option Addr) (rc:Nat) (_:n<=4) (hdn:dn<=9223372036854775807) (hc:c < 0\/(n:Int)<=c\/64 < dn) (h1:w.cell? ⟨p,1,none⟩=some (.slice ra n rc)) :
  Calls Try.prog 9 #[.pointer (some ⟨p,0,none⟩),.int .i64 c,.slice da dn dc] w fun e w'=>e=.returned (.int .i64 2)/\w=w':=by
 by_cases h0:c < 0\/(n:Int)<=c
 ·have HQ:=aQ (rhas_no (p:=p) (w:=w) c ra rc h0 h1)
  clear h1 hc h0
  go_enter Try.func9,Try.ntmps9
  go_wp2_with (go_at_call 22;refine HQ.out.mono ?_;rintro e w' ⟨rfl,rfl⟩)
  go_ret
  exact ⟨rfl,rfl⟩
 ·obtain ⟨m,rfl⟩:∃m:Nat,c=(m:Int):=⟨c.toNat,by omega⟩
  have hd:64 < dn:=by omega
  have HQ:=aQ (rhas_yes (p:=p) (w:=w) m ra rc (by omega) h1)
  clear h1 hc h0
  go_enter Try.func9,Try.ntmps9
  go_wp2_with (go_at_call 22;refine HQ.out.mono ?_;rintro e w' ⟨rfl,rfl⟩)
  go_ret
  exact ⟨rfl,rfl⟩
theorem roffer_full (m n dn dc q k2:Nat) (da ra va:Option Addr) (hm:m < n) (_:n<=4) (hd:dn<=64) (b1 o1 k1 rc:Nat) (c1:w.cell? ⟨p,1,none⟩=some (.slice ra n rc)) (c12:w.cell? ⟨p,12,none⟩=some (.slice (some ⟨b1,o1,none⟩) n k1)) (hq:64<=q) (hq2:q<=1000000) (hc:w.cell? ⟨b1,o1+m,none⟩=some (.slice va q k2)) :
  Calls Try.prog 9 #[.pointer (some ⟨p,0,none⟩),.int .i64 (m:Int),.slice da dn dc] w fun e w'=>e=.returned (.int .i64 5)/\w=w':=by
 have HQ:=aQ (rhas_yes (p:=p) (w:=w) m ra rc hm c1)
 clear c1
 go_enter Try.func9,Try.ntmps9
 go_wp2_with (go_at_call 22;refine HQ.out.mono ?_;rintro e w' ⟨rfl,rfl⟩)
 go_ret
 exact ⟨rfl,rfl⟩
theorem roffer_yes {N:Nat} (h:dY F Z W (tRp p a::ts) w) (j:Nat) (hok:a.Ok N) (m:Nat) (hm:m < a.aZ.length) (dv:Value) (d:dV) {T:Th} (hT:Reads T dv d) (hj:ts[j]? = some T) (hd:d.length<=64) (hf:(a.aX.getD m []).length < 64) :
  Calls Try.prog 9 #[.pointer (some ⟨p,0,none⟩),.int .i64 (m:Int),dv] w fun e w'=>e=.returned (.int .i64 0)/\dY F Z W (tRp p { a with aX:=a.aX.set m (a.aX.getD m []++[d]) }::ts) w':=by
 obtain ⟨G,Y,hon,hdGY,_,hoth,hback⟩:=h.use 0 rfl
 obtain ⟨H,_,_,hbT⟩:=hoth (j+1) _ (by omega) (by simpa using hj)
 have hby:=hT _ _ _ hbT
 clear hbT hT
 suffices hs:Calls Try.prog 9 #[.pointer (some ⟨p,0,none⟩),.int .i64 (m:Int),dv] w fun e w'=>e=.returned (.int .i64 0)/\Did w G Y [tRp p { a with aX:=a.aX.set m (a.aX.getD m []++[d]) }] w' from
  hs.mono fun e w' ⟨he,hh⟩=>⟨he,by have:=hback w' _ [] hh;rwa [List.append_nil] at this⟩
 clear hback hoth h hj
 obtain ⟨x,hst⟩:=dY.rpOf hon hdGY
 clear hon
 obtain ⟨rv,wv,bv,kv,cv,tv,gv,ev,av,sv,nv,hv,ch⟩:=x
 have hrow:=hst.blk 0 rfl
 have c1:w.cell? ⟨p,1,none⟩=some rv:=aJ hrow rfl
 have c12:w.cell? ⟨p,12,none⟩=some wv:=aJ hrow rfl
 obtain ⟨_,_,hr⟩:=hst.get 1 rfl
 obtain ⟨_,_,hb⟩:=hst.get 2 rfl
 have n1:=hok.n1;have n4:=hok.n4;have wl:=hok.wl
 obtain ⟨ra,rc,e1,_⟩:=RdS.shape (show RdS dK w _ rv a.aZ from hr)
 obtain ⟨b1,o1,k1,e2,m1,m1'⟩:=bR (show Sq (eSq eBy 27) 54 w _ _ wv a.aX from hb) (by omega)
 subst e1 e2
 have hbf:=(Sq.free (show Sq (eSq eBy 27) 54 w _ _ (.slice (some ⟨b1,o1,none⟩) a.aX.length k1) a.aX from hb)).2.2.2
 have hx:=bT (d:=[]) (show m < a.aX.length by omega)
 have hpb:p≠b1:=hst.apart 0 2 (by decide) rfl rfl (fun _ _ h=>h.2) fun _ _ h=>(Sq.free (show Sq _ _ _ _ _ _ _ from h)).2.1
 obtain ⟨vc,hvc,hout⟩:=hst.out 2 rfl hx
 obtain ⟨_,_,hsq⟩:=hout.get 13 rfl
 obtain ⟨va,k2,e3⟩:=Sq.shape (show Sq eBy 27 w _ _ vc (a.aX.getD m []) from hsq)
 subst e3
 obtain ⟨da,dc,e4⟩:=hby.slice
 subst e4
 obtain ⟨xs,hxs⟩:∃xs,xs=a.aX.getD m []:=⟨_,rfl⟩
 have HXS:=aQ hxs
 rw [<-hxs] at hf hvc hout
 have HQ:=aQ (rhas_yes (p:=p) (w:=w) m ra rc hm c1)
 have HBY:=aQ hby
 have HOUT:=aQ hout
 rw [wl] at c12 m1
 clear hst hrow hr hb hby hout hsq hx hxs c1 m1'
 have hf1:decide (64<=xs.length)=false:=by simp;omega
 have hd1:decide (64 < d.length)=false:=by simp;omega
 go_enter Try.func9,Try.ntmps9
 go_wp2_with (go_at_call 22;refine HQ.out.mono ?_;rintro e w' ⟨rfl,rfl⟩)
 refine wp_region_lag 18 (S:=fun w'=>w'.cell? ⟨p,12,none⟩=some (.slice (some ⟨b1,o1,none⟩) a.aZ.length k1)/\w'.cell? ⟨b1,o1+m,none⟩=some (.slice va xs.length k2)) (by kernel_rfl) ⟨c12,hvc⟩ (fun hS0=>?_)
 change wpAnyL _ _ _ _ _ _ (7+12) _ _ _
 refine wpAnyL_take_n 0 12 (by kernel_rfl) hS0 (fun _ _ _ _ _ h=>h) ?_
 simp only [List.drop_zero,List.take_succ_cons,List.take_zero]
 iterate 12 (refine aR (v:=?_) (by rfl) ?_ ?_;rotate_left 1;(focus ((intro w' hS';obtain ⟨q1,q2⟩:=hS';go_simp);try with_reducible rfl));simp only [Act.put,List.setIfInBounds_toArray,List.set_cons_zero,List.set_cons_succ])
 refine aT ?_
 change wpAnyL _ _ _ _ _ _ (6+1) _ _ _
 refine wpAnyL_take_n 13 1 (by kernel_rfl) hS0 (fun _ _ _ _ _ h=>h) ?_
 simp only [List.drop_succ_cons,List.drop_zero,List.take_succ_cons,List.take_zero]
 (refine aR (v:=?_) (by rfl) ?_ ?_;rotate_left 1;(focus ((intro w' hS';go_simp);try with_reducible rfl));simp only [Act.put,List.setIfInBounds_toArray,List.set_cons_zero,List.set_cons_succ])
 refine aT ?_
 refine wpAnyL_one 12 (by kernel_rfl) rfl (fun K hK=>?_)
 go_simp
 refine hK.out _ _ (fun _=>⟨aI _ _ c12,aI _ _ hvc⟩) ?_
 clear hK K
 refine wpAnyL_one 14 (by kernel_rfl) rfl (fun K hK=>?_)
 refine step_app_sl slB rfl _ _ rfl (fun k=>w.heap.size<=k) _ 0 [] rfl (by exact sl_made _ _ _ _ rfl rfl) _ d.length (cu d) rfl (by exact (HBY.out.drewN 1).alloc _) cu_one (by unfold maxLen;omega) (by omega) ?_
 intro v1 w1 hsl1 hfr1
 rw [Nat.zero_add,List.nil_append] at hsl1
 obtain ⟨v1a,v1c,rfl⟩:=hsl1.shape
 have hbw:Below w.heap.size w ((w.drew).alloc (.cells #[] 5)):=by (with_reducible (repeat (first|exact Below.refl _ _|refine Bw.alloc ?_ _|refine Bw.drewN ?_ _|refine Bw.drew ?_)))
 have hb1':Below w.heap.size w w1:=hbw.trans ((hfr1.below (B:=w.heap.size) (by simp) fun k hk=>hk))
 have hbz:ByZ w1 (fun k=>w.heap.size<=k) (.slice v1a d.length v1c) d:=Sl.byZ (hsl1.mono (G:=fun k=>w.heap.size<=k) (by rintro k (h|h);exact h;simp at h;omega)) (Nat.le_refl _)
 have hp1:p < w.heap.size:=World.block_lt_of_cell? w _ c12
 have hl1:b1 < w.heap.size:=World.block_lt_of_cell? w _ hvc
 have hS1:w1.cell? ⟨p,12,none⟩=some (.slice (some ⟨b1,o1,none⟩) a.aZ.length k1)/\w1.cell? ⟨b1,o1+m,none⟩=some (.slice va xs.length k2):=⟨(World.cell?_of_block (hb1'.block p hp1)).trans c12,(World.cell?_of_block (hb1'.block b1 hl1)).trans hvc⟩
 refine hK.out _ _ (fun _=>hS1) ?_
 clear hK K
 simp only [Act.put,List.setIfInBounds_toArray,List.set_cons_zero,List.set_cons_succ]
 have HA:=HOUT.out.addZ hb1' (T:=tBy (.slice v1a d.length v1c) d) hbz
 obtain ⟨Kx,us,hsl,hKn,hback⟩:=HA.app 13 rfl
 have hKp:¬Kx p:=hKn p 0 _ (by decide) rfl fun H Y h=>.inl h.2
 have hKb:¬Kx b1:=hKn b1 2 _ (by decide) rfl fun H Y h=>.inl (Sq.free (show Sq _ _ _ H Y _ _ from h)).2.1
 have HBACK:=aQ hback
 have HSL:=aQ hsl
 clear hsl1 hfr1 hbw hb1' hbz HA hKn hback hsl
 have hba:=aK w1 (.cells #[.slice v1a d.length v1c] 27)
 have hS2:(w1.alloc (.cells #[.slice v1a d.length v1c] 27)).cell? ⟨p,12,none⟩=some (.slice (some ⟨b1,o1,none⟩) a.aZ.length k1)/\(w1.alloc (.cells #[.slice v1a d.length v1c] 27)).cell? ⟨b1,o1+m,none⟩=some (.slice va xs.length k2):=⟨aI _ _ hS1.1,aI _ _ hS1.2⟩
 have HARM:=aQ (fun (v2:Value) (w2:World) (hsl2:Sl w2 (fun k=>Kx k\/(w1.alloc (.cells #[.slice v1a d.length v1c] 27)).heap.size<=k) 27 1 v2 (xs.length+1) (us++[.slice v1a d.length v1c])) (hfr2:Fr Kx (w1.alloc (.cells #[.slice v1a d.length v1c] 27)) w2)=>
  show ∃g2 off2 cap2,v2=.slice (some ⟨g2,off2,none⟩) (xs.length+1) cap2/\w2.cell? ⟨b1,o1+m,none⟩=some (.slice va xs.length k2)/\(∀j,w2.frozen? ⟨b1,j,none⟩=false)/\w2.cell? ⟨p,12,none⟩=some (.slice (some ⟨b1,o1,none⟩) a.aZ.length k1)/\Hid (dY G Y w (rpThs p { a with aX:=a.aX.set m (xs++[d]) } ⟨.slice ra a.aZ.length rc,.slice (some ⟨b1,o1,none⟩) a.aX.length k1,bv,kv,cv,tv,gv,ev,av,sv,nv,hv,ch⟩) (w2.setCell ⟨b1,o1+m,none⟩ (.slice (some ⟨g2,off2,none⟩) (xs.length+1) cap2))) from by
  obtain ⟨g2,off2,cap2,rfl,_⟩:=Sl.head hsl2 (by omega)
  have hpA:p < (w1.alloc (.cells #[.slice v1a d.length v1c] 27)).heap.size:=World.block_lt_of_cell? _ _ hS2.1
  have hbA:b1 < (w1.alloc (.cells #[.slice v1a d.length v1c] 27)).heap.size:=World.block_lt_of_cell? _ _ hS2.2
  have hS3:w2.cell? ⟨p,12,none⟩=some (.slice (some ⟨b1,o1,none⟩) a.aZ.length k1)/\w2.cell? ⟨b1,o1+m,none⟩=some (.slice va xs.length k2):=⟨(World.cell?_of_block (hfr2.block p hpA hKp)).trans hS2.1,(World.cell?_of_block (hfr2.block b1 hbA hKb)).trans hS2.2⟩
  have hs4:=HBACK.out _ w2 [.slice v1a d.length v1c] [d] _ hba hsl2 hfr2 fun Y hO=>by
   obtain ⟨H,_,hh⟩:=hO 14 _ (by decide) rfl
   exact ⟨fun _=>False,Y,fun _ f=>f.elim,fun _ y=>.inl y,fun _ f=>f.elim,Els.single (E:=eBy) ⟨_,rfl,ByZ.below hh hba⟩⟩
  have hs5:dY G Y w ((rpThs p a ⟨.slice ra a.aZ.length rc,.slice (some ⟨b1,o1,none⟩) a.aX.length k1,bv,kv,cv,tv,gv,ev,av,sv,nv,hv,ch⟩).set 2 (tSq (eOpt (eSq eBy 27)) 54 (.slice (some ⟨b1,o1,none⟩) a.aX.length k1) ((a.aX.map some).set m none))++[tSq eBy 27 (.slice (some ⟨g2,off2,none⟩) (xs.length+1) cap2) (xs++[d])]) w2:=
   hs4.pick [0,1,2,3,4,5,6,7,8,9,10,11,12,13] _ (by decide) rfl
  have HS5:=aQ (dY.back (c:=m) (yss:=a.aX.set m (xs++[d])) hs5 2 rfl (by rw [List.length_set,List.length_map];omega) set_gap)
  have hbf2:∀j,w2.frozen? ⟨b1,j,none⟩=false:=by
   obtain ⟨_,_,hh⟩:=hs5.get 2 rfl
   exact (Sq.free (show Sq (eOpt (eSq eBy 27)) 54 w2 _ _ (.slice (some ⟨b1,o1,none⟩) a.aX.length k1) ((a.aX.map some).set m none) from hh)).2.2.2
  exact ⟨g2,off2,cap2,rfl,hS3.2,hbf2,hS3.1,HS5⟩)
 clear hba HBACK hKp hKb
 refine wpAnyL_one 15 (by kernel_rfl) rfl (fun K hK=>?_)
 go_simp
 refine hK.out _ _ (fun _=>hS2) ?_
 clear hK K
 refine wpAnyL_one 16 (by kernel_rfl) rfl (fun K hK=>?_)
 refine step_app_sl slBB rfl _ _ rfl Kx (.slice va xs.length k2) xs.length us rfl (HSL.out.alloc _) _ 1 [.slice v1a d.length v1c] rfl (rd_one _ _ _ _ rfl) (by intro u hu;simp at hu;subst hu;rfl) (by unfold maxLen;omega) (by omega) ?_
 intro v2 w2 hsl2 hfr2
 obtain ⟨g2,off2,cap2,rfl,k0,kf,kp,HS5⟩:=HARM.out v2 w2 hsl2 hfr2
 clear hsl2 hfr2
 refine hK.out _ _ (fun _=>⟨kp,k0⟩) ?_
 clear hK K
 simp only [Act.put,List.setIfInBounds_toArray,List.set_cons_zero,List.set_cons_succ]
 refine wpAnyL_one 17 (by kernel_rfl) rfl (fun K hK=>?_)
 go_simp
 refine hK.out _ _ (fun _=>⟨kp,k0⟩) ?_
 clear hK K
 refine wpAnyL_one 18 (by kernel_rfl) rfl (fun K hK=>?_)
 go_simp
 refine hK.out _ _ (fun e=>absurd rfl e) ?_
 clear hK K
 refine wpAnyL_done (by kernel_rfl) ?_ _
 go_wp2_with fail
 go_ret
 exact ⟨rfl,by rw [<-HXS.out];exact dY.rp_did HS5.out⟩
end
end

section
open Go.RowKit
set_option maxRecDepth 100000
def Snd.numR (s:Snd) (n:Int):Int:=match s.count n with|none => -1|some k=>k
section
variable {F Z:BS} {W w:World} {ts:List Th} {p:Nat} {a:Prt}
theorem rcount_p (p:Nat) (s:Snd) (hok:s.Ok) (_:s.aG < 1000000000000) (n:Int) (w:World) (c4:w.cell? ⟨p,19,none⟩=some (.int .i64 (s.aG:Int))) (c6:w.cell? ⟨p,21,none⟩=some (.int .i64 (s.cP:Int))) :
  Calls Try.prog 88 #[.pointer (some ⟨p,15,none⟩),.int .i64 n] w fun e w'=>e=.returned (.int .i64 (s.numR n))/\w=w':=by
 have hsent:=hok.cP
 have hkl:=hok.cT
 have hw2:=hok.w2
 have hn':((n < 0\/256<=n)/\s.numR n = -1)\/(0<=n/\n < 256/\∃k:Nat,(n - (s.aG:Int)) % 256=k/\(n - (s.aG:Int) % 256+256) % 256=k/\((s.cP < k/\s.numR n = -1)\/(k<=s.cP/\s.numR n=k))):=by
  unfold Snd.numR Snd.count
  by_cases h1:n < 0\/256<=n
  ·rw [if_pos h1];exact .inl ⟨h1,rfl⟩
  ·rw [if_neg h1]
   refine .inr ⟨by omega,by omega,(n.toNat+256 - s.aG % 256) % 256,by omega,by omega,?_⟩
   by_cases h2:s.cP < (n.toNat+256 - s.aG % 256) % 256
   ·rw [if_pos h2];exact .inl ⟨h2,rfl⟩
   ·rw [if_neg h2];exact .inr ⟨by omega,rfl⟩
 clear hok
 generalize s.numR n=z at *
 rcases hn' with ⟨h1|h1,hz⟩|⟨h1,h2,k,h3,h3',⟨h4,hz⟩|⟨h4,hz⟩⟩
 all_goals subst hz
 all_goals go_enter Try.func88,Try.ntmps88
 all_goals go_wp2_with fail
 all_goals go_ret
 all_goals exact ⟨by first|rfl|(simp [h3']),rfl⟩
theorem rack_p (n:Int) (hok:a.snd.Ok) (ht:a.snd.aG+a.snd.cT.length < 1000000000000) (h:dY F Z W (tRp p a::ts) w) :
  Calls Try.prog 74 #[.pointer (some ⟨p,15,none⟩),.int .i64 n] w fun e w'=>e=.returned (.int .i64 ((a.snd.ack n).1:Int))/\dY F Z W (tRp p { a with snd:=(a.snd.ack n).2 }::ts) w':=by
 obtain ⟨x,hst⟩:=h.rp
 obtain ⟨rv,wv,bv,kv,cv,tv,gv,ev,av,sv,nv,hv,ch⟩:=x
 obtain ⟨_,_,hkp⟩:=hst.get 4 rfl
 have hkp':=show Sq eBy 27 w _ _ kv a.snd.cT from hkp
 obtain ⟨ka,kc,e5,q1,q2,q3⟩:=hkp'.le
 subst e5
 have hrow:=hst.blk 0 rfl
 have c17:w.cell? ⟨p,17,none⟩=some (.slice ka a.snd.cT.length kc):=aJ hrow rfl
 have c19:w.cell? ⟨p,19,none⟩=some (.int .i64 (a.snd.aG:Int)):=aJ hrow rfl
 have c20:w.cell? ⟨p,20,none⟩=some (.int .i64 (a.snd.pos:Int)):=aJ hrow rfl
 have c21:w.cell? ⟨p,21,none⟩=some (.int .i64 (a.snd.cP:Int)):=aJ hrow rfl
 have c22:w.cell? ⟨p,22,none⟩=some (.int .i64 (a.snd.timer:Int)):=aJ hrow rfl
 have cf:=fun i=>aD hrow i
 have hsent:=hok.cP
 have hpos:=hok.pos
 have hkl:=hok.cT
 have hw2:=hok.w2
 have HC:=aQ (rcount_p p a.snd hok (by omega) n w c19 c21)
 have HST:=aQ hst
 unfold maxLen at q2
 unfold Snd.ack Snd.accept
 unfold Snd.numR at HC
 cases hcn:a.snd.count n with
 |none=>
  rw [hcn] at HC
  clear hcn cf c17 c19 c20 c21 c22 hst hkp hkp' hrow h hok
  go_enter Try.func74,Try.ntmps74
  go_wp2_with fail
  refine HC.out.mono ?_
  rintro e w1 ⟨rfl,rfl⟩
  go_wp2_with fail
  go_ret
  exact ⟨rfl,HST.out.rp_shut⟩
 |some k=>
  rw [hcn] at HC
  have hks:=count_le hcn
  clear hcn
  dsimp only
  by_cases hz:k=0
  ·subst hz
   clear cf c17 c19 c20 c21 c22 hst hkp hkp' hrow h hok
   go_enter Try.func74,Try.ntmps74
   go_wp2_with fail
   refine HC.out.mono ?_
   rintro e w1 ⟨rfl,rfl⟩
   go_wp2_with fail
   go_ret
   exact ⟨rfl,HST.out.rp_shut⟩
  ·obtain ⟨g,off,rfl,_,hc,_⟩:=hkp'.drop (k:=k) (by omega) (by omega)
   have hd:=HST.out.upd 4 rfl (T':=tSq eBy 27 (.slice (if kc=k then some ⟨g,off,none⟩ else some ⟨g,off+k,none⟩) (a.snd.cT.length - k) (kc - k)) (a.snd.cT.drop k)) (w':=w) fun G Y hon _=>⟨by
    have:=sq_cut (show Sq eBy 27 w G Y (.slice (some ⟨g,off,none⟩) a.snd.cT.length kc) a.snd.cT from hon) (show k<=a.snd.cT.length by omega)
    rw [show k*(eBy).size=k from Nat.mul_one k] at this
    exact this,Fr.refl _ _⟩
   obtain ⟨na,hna⟩:∃na,(if kc=k then some (⟨g,off,none⟩:Addr) else some ⟨g,off+k,none⟩)=na:=⟨_,rfl⟩
   rw [hna] at hd
   have hmx:max (0:Int) ((a.snd.pos:Int) - (k:Int))=((a.snd.pos - k:Nat):Int):=by omega
   have hki:(k:Int)<=(a.snd.cT.length:Int):=by omega
   have hkc:(a.snd.cT.length:Int)<=(kc:Int):=by omega
   have HD:=aQ hd
   have HROW:=aQ hrow
   have HK:=aQ (show 0 < k from by omega)
   have hk0:(0:Int) < (k:Int):=by omega
   clear hst hkp hkp' hrow h hok hd hz
   go_enter Try.func74,Try.ntmps74
   go_wp2_with fail
   refine HC.out.mono ?_
   rintro e w1 ⟨rfl,rfl⟩
   go_wp2_with fail
   go_ret
   refine ⟨rfl,?_⟩
   have hdr:a.snd.drop k={ a.snd with cT:=a.snd.cT.drop k,aG:=a.snd.aG+k,cP:=a.snd.cP - k,pos:=a.snd.pos - k,timer:=0 }:=by unfold Snd.drop;rw [if_neg (by have:=HK.out;omega)]
   rw [hdr]
   refine (HD.out.set 0 rfl (rpRow { a with snd:={ a.snd with cT:=a.snd.cT.drop k,aG:=a.snd.aG+k,cP:=a.snd.cP - k,pos:=a.snd.pos - k,timer:=0 } } ⟨rv,wv,bv,.slice na (a.snd.cT.length - k) (kc - k),cv,tv,gv,ev,av,sv,nv,hv,ch⟩) (by (repeat (first|(with_reducible (first|exact Fr.refl _ _|refine Fr.setCell ?_ ?_ _|refine Fr.drewN ?_ _|refine Fr.drew ?_))|exact Or.inl rfl))) ?_).rp_shut
   have hr:=HROW.out
   (apply aS;focus (with_reducible (repeat (first|exact hr|apply aU|apply aP|apply aF))))
   simp [List.length_drop]
   omega
end
end

section
open Go.RowKit
set_option maxRecDepth 100000
section
variable {F Z:BS} {W w:World} {ts:List Th} {p:Nat} {a:Prt}
theorem rsend_p (hsm:∀d ∈ a.snd.cT,d.length<=64) (hkl:a.snd.cT.length<=128) (_:a.snd.cP<=a.snd.cT.length) (ht:a.snd.aG+a.snd.cT.length < 1000000000000) (h:dY F Z W (tRp p a::ts) w) (h0:a.snd.pos < a.snd.cT.length) :
  Calls Try.prog 77 #[.pointer (some ⟨p,15,none⟩)] w fun e w'=>∃v,e=.returned (.tuple #[.int .i64 (a.snd.send.1.1:Int),v,.bool true])/\dY F Z W (tRp p { a with snd:=a.snd.send.2 }::(ts++[tBy v a.snd.send.1.2])) w':=by
 obtain ⟨x,hst0⟩:=h.rp
 obtain ⟨rv,wv,bv,kv,cv,tv,gv,ev,av,sv,nv,hv,ch⟩:=x
 have hx:=bT (d:=[]) h0
 have hsend:a.snd.send=(((a.snd.aG+a.snd.pos) % 256,a.snd.cT.getD a.snd.pos []),{ a.snd with pos:=a.snd.pos+1,cP:=max a.snd.cP (a.snd.pos+1),timer:=0 }):=rfl
 have usm:=hsm _ (List.mem_of_getElem? hx)
 obtain ⟨d,hd⟩:∃d,d=a.snd.cT.getD a.snd.pos []:=⟨_,rfl⟩
 rw [<-hd] at hx hsend usm
 rw [hsend]
 dsimp only
 clear hsend hd
 obtain ⟨_,_,hb⟩:=hst0.get 4 rfl
 obtain ⟨b1,o1,k1,e1,m1,m1'⟩:=bR (show Sq eBy 27 w _ _ kv a.snd.cT from hb) (by omega)
 subst e1
 obtain ⟨v0,hv0,hby0⟩:=sqby_at hb hx
 obtain ⟨va,vk,rfl⟩:=hby0.slice
 have HBY:=aQ hby0.1
 have hrow:=hst0.blk 0 rfl
 have c17:w.cell? ⟨p,17,none⟩=some (.slice (some ⟨b1,o1,none⟩) a.snd.cT.length k1):=aJ hrow rfl
 have c19:w.cell? ⟨p,19,none⟩=some (.int .i64 (a.snd.aG:Int)):=aJ hrow rfl
 have c20:w.cell? ⟨p,20,none⟩=some (.int .i64 (a.snd.pos:Int)):=aJ hrow rfl
 have HST:=aQ hst0
 clear hrow hb hby0 hst0 h hsm hx
 go_enter Try.func77,Try.ntmps77
 go_wp2_with fail
 go_quiet (fail)
 go_wp2_with fail
 generalize hwq:World.drewN w _=wq
 have hbq:Below w.heap.size w wq:=by rw [<-hwq];exact bS w _
 have d17:wq.cell? ⟨p,17,none⟩=some (.slice (some ⟨b1,o1,none⟩) a.snd.cT.length k1):=by rw [<-hwq];exact c17
 have d20:wq.cell? ⟨p,20,none⟩=some (.int .i64 (a.snd.pos:Int)):=by rw [<-hwq];exact c20
 have dv0:wq.cell? ⟨b1,o1+a.snd.pos,none⟩=some (.slice va d.length vk):=by rw [<-hwq];exact hv0
 have HSQ:=aQ (HST.out.own hbq)
 have HBQ:=aQ (HBY.out.below hbq)
 clear hwq hbq c17 c20 c19 hv0 HST HBY
 refine wp_region_held_drew (S:=fun w'=>w'.cell? ⟨p,17,none⟩=some (.slice (some ⟨b1,o1,none⟩) a.snd.cT.length k1)/\w'.cell? ⟨p,20,none⟩=some (.int .i64 (a.snd.pos:Int))/\w'.cell? ⟨b1,o1+a.snd.pos,none⟩=some (.slice va d.length vk)) (by kernel_rfl) ⟨d17,d20,dv0⟩ (fun hS0=>?_)
 change wpAnyH _ _ _ _ _ (3+10) _ _ _
 refine aH 1 10 (by kernel_rfl) hS0 (fun _ _ _ _ _ h=>h) ?_
 simp only [List.drop_succ_cons,List.drop_zero,List.take_succ_cons,List.take_zero]
 iterate 10 (refine aR (v:=?_) (by rfl) ?_ ?_;rotate_left 1;(focus ((intro w' hS';obtain ⟨l0,l1,l2⟩:=hS';go_simp);try with_reducible rfl));simp only [Act.put,List.setIfInBounds_toArray,List.set_cons_zero,List.set_cons_succ])
 refine aT ?_
 refine aM 0 (by kernel_rfl) rfl (fun K hK=>?_)
 go_simp
 refine hK.out _ _ ⟨aI _ _ d17,aI _ _ d20,aI _ _ dv0⟩ ?_
 clear hK K
 refine aM 11 (by kernel_rfl) rfl (fun K hK=>?_)
 refine step_app_sl slB rfl _ _ rfl (fun k=>wq.heap.size<=k) _ 0 [] rfl (by exact sl_made _ _ _ _ rfl rfl) _ d.length (cu d) rfl (by exact (HBQ.out.drewN 1).alloc _) cu_one (by unfold maxLen;omega) (by omega) ?_
 intro v1 w1 hsl1 hfr1
 rw [Nat.zero_add,List.nil_append] at hsl1
 obtain ⟨v1a,v1c,rfl⟩:=hsl1.shape
 have hbw:Below wq.heap.size wq ((wq.drew).alloc (.cells #[] 5)):=by (with_reducible (repeat (first|exact Below.refl _ _|refine Bw.alloc ?_ _|refine Bw.drewN ?_ _|refine Bw.drew ?_)))
 have hb1':Below wq.heap.size wq w1:=hbw.trans ((hfr1.below (B:=wq.heap.size) (by simp) fun k hk=>hk))
 have hbz:ByZ w1 (fun k=>wq.heap.size<=k) (.slice v1a d.length v1c) d:=Sl.byZ (hsl1.mono (G:=fun k=>wq.heap.size<=k) (by rintro k (h|h);exact h;simp at h;omega)) (Nat.le_refl _)
 have hA:=HSQ.out.addZ hb1' (T:=tBy (.slice v1a d.length v1c) d) hbz
 rw [List.append_assoc] at hA
 have hrow:=hA.blk 0 rfl
 have c17:w1.cell? ⟨p,17,none⟩=some (.slice (some ⟨b1,o1,none⟩) a.snd.cT.length k1):=aJ hrow rfl
 have c20:w1.cell? ⟨p,20,none⟩=some (.int .i64 (a.snd.pos:Int)):=aJ hrow rfl
 have c21:w1.cell? ⟨p,21,none⟩=some (.int .i64 (a.snd.cP:Int)):=aJ hrow rfl
 have c22:w1.cell? ⟨p,22,none⟩=some (.int .i64 (a.snd.timer:Int)):=aJ hrow rfl
 have cf:=fun i=>aD hrow i
 have e0:w1.cell? ⟨b1,o1+a.snd.pos,none⟩=some (.slice va d.length vk):=(World.cell?_of_block (hb1'.block b1 (World.block_lt_of_cell? _ _ dv0))).trans dv0
 refine hK.out _ _ ⟨c17,c20,e0⟩ ?_
 clear hK K
 simp only [Act.put,List.setIfInBounds_toArray,List.set_cons_zero,List.set_cons_succ]
 refine aM 12 (by kernel_rfl) rfl (fun K hK=>?_)
 go_simp
 refine hK.out _ _ ⟨c17,c20,e0⟩ ?_
 clear hK K
 refine wpAnyH_done (by kernel_rfl) ?_ _
 have HA:=aQ hA
 have HROW:=aQ hrow
 have hmx:max (a.snd.cP:Int) ((a.snd.pos:Int)+1)=((max a.snd.cP (a.snd.pos+1):Nat):Int):=by omega
 clear d17 d20 dv0 hS0 HSQ HBQ hsl1 hfr1 hbw hb1' hbz hA hrow c17 e0
 go_wp2_with fail
 go_region
 go_wp2_with fail
 go_ret3
 refine ⟨.slice v1a d.length v1c,by simp,?_⟩
 refine dY.rp_shut (p:=p) (ts:=ts++[tBy (.slice v1a d.length v1c) d]) (HA.out.set 0 rfl (rpRow { a with snd:={ a.snd with pos:=a.snd.pos+1,cP:=max a.snd.cP (a.snd.pos+1),timer:=0 } } ⟨rv,wv,bv,.slice (some ⟨b1,o1,none⟩) a.snd.cT.length k1,cv,tv,gv,ev,av,sv,nv,hv,ch⟩) (by (repeat (first|(with_reducible (first|exact Fr.refl _ _|refine Fr.setCell ?_ ?_ _|refine Fr.drewN ?_ _|refine Fr.drew ?_))|exact Or.inl rfl))) ?_)
 have hr:=HROW.out
 (apply aS;focus (with_reducible (repeat (first|exact hr|apply aU|apply aP|apply aF))))
 first|rfl|(simp;done)|(simp;omega)
theorem by_nil (w:World) (Y:BS):ByZ w Y (.slice none 0 0) []:=⟨By.of_nil _,fun h=>absurd h (by simp)⟩
theorem dY.nil_by (h:dY F Z W ts w):dY F Z W (ts++[tBy (.slice none 0 0) []]) w:=h.addZ (Below.refl _ _) (by_nil _ _)
theorem rtick_p (hok:a.snd.Ok) (ht:a.snd.aG+a.snd.cT.length < 1000000000000) (h:dY F Z W (tRp p a::ts) w) :
  Calls Try.prog 47 #[.pointer (some ⟨p,15,none⟩)] w fun e w'=>∃v,e=.returned (.tuple #[.int .i64 ((a.snd.cR.1.elim 0 (·.1):Nat):Int),v,.bool a.snd.cR.1.isSome])/\dY F Z W (tRp p { a with snd:=a.snd.cR.2 }::(ts++[tBy v (a.snd.cR.1.elim [] (·.2))])) w':=by
 obtain ⟨x,hst0⟩:=h.rp
 obtain ⟨rv,wv,bv,kv,cv,tv,gv,ev,av,sv,nv,hv,ch⟩:=x
 obtain ⟨_,_,hb⟩:=hst0.get 4 rfl
 obtain ⟨ka,kc,e1,m1,m1',_⟩:=(show Sq eBy 27 w _ _ kv a.snd.cT from hb).le
 subst e1
 have hrow:=hst0.blk 0 rfl
 have c16:w.cell? ⟨p,16,none⟩=some (.int .i64 (a.snd.aN:Int)):=aJ hrow rfl
 have c17:w.cell? ⟨p,17,none⟩=some (.slice ka a.snd.cT.length kc):=aJ hrow rfl
 have c20:w.cell? ⟨p,20,none⟩=some (.int .i64 (a.snd.pos:Int)):=aJ hrow rfl
 have c22:w.cell? ⟨p,22,none⟩=some (.int .i64 (a.snd.timer:Int)):=aJ hrow rfl
 have cf:=fun i=>aD hrow i
 have hpos:=hok.pos
 have hsent:=hok.cP
 have hkl:=hok.cT
 have hw2:=hok.w2
 have ht2:=hok.t2
 have htm:=hok.timer
 have HSM:=aQ hok.small
 have HST:=aQ hst0
 have HROW:=aQ hrow
 have HT:=aQ ht
 unfold maxLen at m1'
 clear hst0 hb hrow hok h ht
 unfold Snd.cR
 by_cases h0:a.snd.cT.length=0
 ·have hp0:a.snd.pos=0:=by omega
  rw [if_pos h0]
  have HN:=aQ (fun n=>((HST.out.own (bS w n)).nil_by))
  clear c16 c22 cf
  go_enter Try.func47,Try.ntmps47
  go_wp2_with fail
  go_quiet (fail)
  go_wp2_with fail
  go_ret3
  refine ⟨.slice none 0 0,rfl,?_⟩
  refine dY.rp_shut (x:=⟨rv,wv,bv,.slice ka a.snd.cT.length kc,cv,tv,gv,ev,av,sv,nv,hv,ch⟩) (ts:=ts++[tBy (.slice none 0 0) []]) ?_
  rw [<-List.append_assoc]
  exact HN.out _
 ·rw [if_neg h0]
  by_cases h1:a.snd.cT.length<=a.snd.pos
  ·rw [if_pos h1]
   by_cases h2:a.snd.timer+1 < a.snd.aN
   ·rw [if_pos h2]
    go_enter Try.func47,Try.ntmps47
    go_wp2_with fail
    go_quiet (fail)
    go_wp2_with fail
    go_quiet (fail)
    go_wp2_with fail
    go_ret3
    refine ⟨.slice none 0 0,rfl,?_⟩
    refine dY.rp_shut (x:=⟨rv,wv,bv,.slice ka a.snd.cT.length kc,cv,tv,gv,ev,av,sv,nv,hv,ch⟩) (ts:=ts++[tBy (.slice none 0 0) []]) ?_
    rw [<-List.append_assoc]
    refine dY.nil_by ?_
    refine HST.out.set 0 rfl (rpRow { a with snd:={ a.snd with timer:=a.snd.timer+1 } } ⟨rv,wv,bv,.slice ka a.snd.cT.length kc,cv,tv,gv,ev,av,sv,nv,hv,ch⟩) (by (repeat (first|(with_reducible (first|exact Fr.refl _ _|refine Fr.setCell ?_ ?_ _|refine Fr.drewN ?_ _|refine Fr.drew ?_))|exact Or.inl rfl))) ?_
    have hr:=HROW.out
    (apply aS;focus (with_reducible (repeat (first|exact hr|apply aU|apply aP|apply aF))))
    first|rfl|(simp;done)|(simp;omega)
   ·rw [if_neg h2]
    go_enter Try.func47,Try.ntmps47
    go_wp2_with fail
    go_quiet (fail)
    go_wp2_with fail
    go_quiet (fail)
    go_wp2_with fail
    refine (rsend_p (p:=p) (a:={ a with snd:={ a.snd with pos:=0,timer:=a.snd.timer+1 } }) (ts:=ts) (F:=F) (Z:=Z) (W:=W) HSM.out (by show a.snd.cT.length<=128;omega) hsent HT.out (by
     refine dY.rp_shut (x:=⟨rv,wv,bv,.slice ka a.snd.cT.length kc,cv,tv,gv,ev,av,sv,nv,hv,ch⟩) ?_
     refine HST.out.set 0 rfl (rpRow { a with snd:={ a.snd with pos:=0,timer:=a.snd.timer+1 } } ⟨rv,wv,bv,.slice ka a.snd.cT.length kc,cv,tv,gv,ev,av,sv,nv,hv,ch⟩) (by (repeat (first|(with_reducible (first|exact Fr.refl _ _|refine Fr.setCell ?_ ?_ _|refine Fr.drewN ?_ _|refine Fr.drew ?_))|exact Or.inl rfl))) ?_
     have hr:=HROW.out
     (apply aS;focus (with_reducible (repeat (first|exact hr|apply aU|apply aP|apply aF))))
     first|rfl|(simp;done)|(simp;omega)) (by show 0 < a.snd.cT.length;omega)).mono ?_
    rintro e w1 ⟨v,rfl,hh⟩
    have HH:=aQ hh
    clear hh
    go_wp2_with fail
    go_ret3
    exact ⟨v,rfl,HH.out⟩
  ·rw [if_neg h1]
   have HSEND:=aQ (fun n=>rsend_p (p:=p) (a:=a) HSM.out (by omega) hsent HT.out (dY.rp_shut (HST.out.own (bS w n))) (by omega))
   go_enter Try.func47,Try.ntmps47
   go_wp2_with fail
   go_quiet (fail)
   go_wp2_with fail
   refine (HSEND.out _).mono ?_
   rintro e w1 ⟨v,rfl,hh⟩
   have HH:=aQ hh
   clear hh HSEND
   go_wp2_with fail
   go_ret3
   exact ⟨v,rfl,HH.out⟩
end
end

section
open Go.RowKit
set_option maxRecDepth 100000
section
variable {F Z:BS} {W w:World} {ts:List Th} {p:Nat} {a:Prt}
theorem rsoffer_p (v:Value) (d:dV) (hbv:By w v d) (hd:d.length<=64) (hroom:a.snd.cT.length < a.snd.cA) (hw2:a.snd.cA<=128) (ht:a.snd.aG+a.snd.cT.length < 1000000000000) (h:dY F Z W (tRp p a::ts) w) :
  Calls Try.prog 46 #[.pointer (some ⟨p,15,none⟩),v] w fun e w'=>e=.returned (.int .i64 0)/\dY F Z W (tRp p { a with snd:={ a.snd with cT:=a.snd.cT++[d] } }::ts) w':=by
 obtain ⟨x,hst0⟩:=h.rp
 obtain ⟨rv,wv,bv,kv,cv,tv,gv,ev,av,sv,nv,hv,ch⟩:=x
 obtain ⟨_,_,hb⟩:=hst0.get 4 rfl
 obtain ⟨ka,kc,e1,m1,m1',_⟩:=(show Sq eBy 27 w _ _ kv a.snd.cT from hb).le
 subst e1
 obtain ⟨da,dc,e4⟩:=hbv.slice
 subst e4
 have hrow:=hst0.blk 0 rfl
 have c15:w.cell? ⟨p,15,none⟩=some (.int .i64 (a.snd.cA:Int)):=aJ hrow rfl
 have c17:w.cell? ⟨p,17,none⟩=some (.slice ka a.snd.cT.length kc):=aJ hrow rfl
 have HBY:=aQ hbv
 have HST:=aQ hst0
 unfold maxLen at m1'
 have hq:((a.snd.cT.length:Int) == (a.snd.cA:Int))=false:=by simp;omega
 clear hst0 hb hrow h hbv
 go_enter Try.func46,Try.ntmps46
 go_wp2_with fail
 go_quiet (fail)
 go_wp2_with fail
 generalize hwq:World.drewN w _=wq
 have hbq:Below w.heap.size w wq:=by rw [<-hwq];exact bS w _
 have d17:wq.cell? ⟨p,17,none⟩=some (.slice ka a.snd.cT.length kc):=by rw [<-hwq];exact c17
 have HSQ:=aQ (HST.out.own hbq)
 have HBQ:=aQ (HBY.out.below hbq)
 clear hwq hbq c17 c15 HST HBY hq
 refine wp_region_lag 12 (S:=fun w'=>w'.cell? ⟨p,17,none⟩=some (.slice ka a.snd.cT.length kc)) (by kernel_rfl) d17 (fun hS0=>?_)
 change wpAnyL _ _ _ _ _ _ (8+5) _ _ _
 refine wpAnyL_take_n 0 5 (by kernel_rfl) hS0 (fun _ _ _ _ _ h=>h) ?_
 simp only [List.drop_zero,List.take_succ_cons,List.take_zero]
 iterate 5 (refine aR (v:=?_) (by rfl) ?_ ?_;rotate_left 1;(focus ((intro w' hS';go_simp);try with_reducible rfl));simp only [Act.put,List.setIfInBounds_toArray,List.set_cons_zero,List.set_cons_succ])
 refine aT ?_
 change wpAnyL _ _ _ _ _ _ (7+1) _ _ _
 refine wpAnyL_take_n 6 1 (by kernel_rfl) hS0 (fun _ _ _ _ _ h=>h) ?_
 simp only [List.drop_succ_cons,List.drop_zero,List.take_succ_cons,List.take_zero]
 (refine aR (v:=?_) (by rfl) ?_ ?_;rotate_left 1;(focus ((intro w' hS';go_simp);try with_reducible rfl));simp only [Act.put,List.setIfInBounds_toArray,List.set_cons_zero,List.set_cons_succ])
 refine aT ?_
 refine wpAnyL_one 5 (by kernel_rfl) rfl (fun K hK=>?_)
 go_simp
 refine hK.out _ _ (fun _=>aI _ _ d17) ?_
 clear hK K
 refine wpAnyL_one 7 (by kernel_rfl) rfl (fun K hK=>?_)
 refine step_app_sl slB rfl _ _ rfl (fun k=>wq.heap.size<=k) _ 0 [] rfl (by exact sl_made _ _ _ _ rfl rfl) _ d.length (cu d) rfl (by exact (HBQ.out.drewN 1).alloc _) cu_one (by unfold maxLen;omega) (by omega) ?_
 intro v1 w1 hsl1 hfr1
 rw [Nat.zero_add,List.nil_append] at hsl1
 obtain ⟨v1a,v1c,rfl⟩:=hsl1.shape
 have hbw:Below wq.heap.size wq ((wq.drew).alloc (.cells #[] 5)):=by (with_reducible (repeat (first|exact Below.refl _ _|refine Bw.alloc ?_ _|refine Bw.drewN ?_ _|refine Bw.drew ?_)))
 have hb1':Below wq.heap.size wq w1:=hbw.trans ((hfr1.below (B:=wq.heap.size) (by simp) fun k hk=>hk))
 have hbz:ByZ w1 (fun k=>wq.heap.size<=k) (.slice v1a d.length v1c) d:=Sl.byZ (hsl1.mono (G:=fun k=>wq.heap.size<=k) (by rintro k (h|h);exact h;simp at h;omega)) (Nat.le_refl _)
 have hA:dY F Z W ((tBy (.slice v1a d.length v1c) d::rpThs p a ⟨rv,wv,bv,.slice ka a.snd.cT.length kc,cv,tv,gv,ev,av,sv,nv,hv,ch⟩)++ts) w1:=(HSQ.out.addZ hb1' (T:=tBy (.slice v1a d.length v1c) d) hbz).front
 have c17:w1.cell? ⟨p,17,none⟩=some (.slice ka a.snd.cT.length kc):=aJ (hA.blk 1 rfl) rfl
 refine hK.out _ _ (fun _=>c17) ?_
 clear hK K
 simp only [Act.put,List.setIfInBounds_toArray,List.set_cons_zero,List.set_cons_succ]
 obtain ⟨Kx,us,hsl,hKn,hback⟩:=hA.app 5 rfl
 have hKp:¬Kx p:=hKn p 1 _ (by decide) rfl fun H Y h=>.inl h.2
 have HBACK:=aQ hback
 have HSL:=aQ hsl
 clear hsl1 hfr1 hbw hb1' hbz hA hKn hback hsl d17 HSQ HBQ hS0
 have hba:=aK w1 (.cells #[.slice v1a d.length v1c] 27)
 have d17:=aI w1 (.cells #[.slice v1a d.length v1c] 27) c17
 have HARM:=aQ (fun (v2:Value) (w2:World) (hsl2:Sl w2 (fun k=>Kx k\/(w1.alloc (.cells #[.slice v1a d.length v1c] 27)).heap.size<=k) 27 1 v2 (a.snd.cT.length+1) (us++[.slice v1a d.length v1c])) (hfr2:Fr Kx (w1.alloc (.cells #[.slice v1a d.length v1c] 27)) w2)=>
  show ∃g2 off2 cap2,v2=.slice (some ⟨g2,off2,none⟩) (a.snd.cT.length+1) cap2/\Hid (dY F Z W ((rpThs p a ⟨rv,wv,bv,.slice ka a.snd.cT.length kc,cv,tv,gv,ev,av,sv,nv,hv,ch⟩).set 4 (tSq eBy 27 (.slice (some ⟨g2,off2,none⟩) (a.snd.cT.length+1) cap2) (a.snd.cT++[d]))++ts) w2) from by
  obtain ⟨g2,off2,cap2,rfl,_⟩:=Sl.head hsl2 (by omega)
  have hs4:=HBACK.out _ w2 [.slice v1a d.length v1c] [d] _ hba hsl2 hfr2 fun Y hO=>by
   obtain ⟨H,_,hh⟩:=hO 0 _ (by decide) rfl
   exact ⟨fun _=>False,Y,fun _ f=>f.elim,fun _ y=>.inl y,fun _ f=>f.elim,Els.single (E:=eBy) ⟨_,rfl,ByZ.below hh hba⟩⟩
  exact ⟨g2,off2,cap2,rfl,aQ hs4.tail⟩)
 clear hba HBACK hKp
 refine wpAnyL_one 8 (by kernel_rfl) rfl (fun K hK=>?_)
 go_simp
 refine hK.out _ _ (fun _=>d17) ?_
 clear hK K
 refine wpAnyL_one 9 (by kernel_rfl) rfl (fun K hK=>?_)
 refine step_app_sl slBB rfl _ _ rfl Kx (.slice ka a.snd.cT.length kc) a.snd.cT.length us rfl (HSL.out.alloc _) _ 1 [.slice v1a d.length v1c] rfl (rd_one _ _ _ _ rfl) (by intro u hu;simp at hu;subst hu;rfl) (by unfold maxLen;omega) (by omega) ?_
 intro v2 w2 hsl2 hfr2
 obtain ⟨g2,off2,cap2,rfl,HS5⟩:=HARM.out v2 w2 hsl2 hfr2
 have hrow:=HS5.out.blk 0 rfl
 have q17:w2.cell? ⟨p,17,none⟩=some (.slice ka a.snd.cT.length kc):=aJ hrow rfl
 have q18:w2.cell? ⟨p,18,none⟩=some (.int .i64 ((a.snd.aG+a.snd.cT.length:Nat):Int)):=aJ hrow rfl
 have cf:=fun i=>aD hrow i
 have HROW:=aQ hrow
 clear hsl2 hfr2 HARM hrow
 refine hK.out _ _ (fun _=>q17) ?_
 clear hK K
 simp only [Act.put,List.setIfInBounds_toArray,List.set_cons_zero,List.set_cons_succ]
 refine wpAnyL_one 10 (by kernel_rfl) rfl (fun K hK=>?_)
 go_simp
 refine hK.out _ _ (fun _=>q17) ?_
 clear hK K
 refine wpAnyL_one 11 (by kernel_rfl) rfl (fun K hK=>?_)
 go_simp
 refine hK.out _ _ (fun _=>q17) ?_
 clear hK K
 refine wpAnyL_one 12 (by kernel_rfl) rfl (fun K hK=>?_)
 go_simp
 refine hK.out _ _ (fun e=>absurd rfl e) ?_
 clear hK K
 refine wpAnyL_done (by kernel_rfl) ?_ _
 have hnn:((a.snd.aG+a.snd.cT.length:Nat):Int)+1<=1000000000000:=by omega
 have hn0:(0:Int)<=((a.snd.aG+a.snd.cT.length:Nat):Int):=by omega
 generalize hnum:a.snd.aG+a.snd.cT.length=num at *
 go_wp2_with fail
 go_ret
 refine ⟨rfl,?_⟩
 refine dY.rp_shut (x:=⟨rv,wv,bv,.slice (some ⟨g2,off2,none⟩) (a.snd.cT.length+1) cap2,cv,tv,gv,ev,av,sv,nv,hv,ch⟩) ?_
 have hset:=HS5.out.set 0 rfl (rpRow { a with snd:={ a.snd with cT:=a.snd.cT++[d] } } ⟨rv,wv,bv,.slice (some ⟨g2,off2,none⟩) (a.snd.cT.length+1) cap2,cv,tv,gv,ev,av,sv,nv,hv,ch⟩) (w':=(w2.setCell ⟨p,17,none⟩ (.slice (some ⟨g2,off2,none⟩) (a.snd.cT.length+1) cap2)).setCell ⟨p,18,none⟩ (.int .i64 ((num:Int)+1))) (by (repeat (first|(with_reducible (first|exact Fr.refl _ _|refine Fr.setCell ?_ ?_ _|refine Fr.drewN ?_ _|refine Fr.drew ?_))|exact Or.inl rfl))) (by
  have hr:=HROW.out
  (apply aS;focus (with_reducible (repeat (first|exact hr|apply aU|apply aP|apply aF))))
  subst hnum
  first|rfl|(simp;done)|(simp;omega))
 exact hset
theorem rrcv_yes (n:Int) (hn:n=((a.rcv % 256:Nat):Int)) (hr:a.rcv < 1000000000000) (h:dY F Z W (tRp p a::ts) w) :
  Calls Try.prog 72 #[.pointer (some ⟨p,24,none⟩),.int .i64 n] w fun e w'=>e=.returned (.bool true)/\dY F Z W (tRp p { a with rcv:=a.rcv+1 }::ts) w':=by
 obtain ⟨x,hst0⟩:=h.rp
 have hrow:=hst0.blk 0 rfl
 have c24:w.cell? ⟨p,24,none⟩=some (.int .i64 (a.rcv:Int)):=aJ hrow rfl
 have cf:=fun i=>aD hrow i
 have HST:=aQ hst0
 have HROW:=aQ hrow
 have hn':n=(a.rcv:Int) % 256:=by omega
 subst hn'
 clear hst0 h hrow hn
 go_enter Try.func72,Try.ntmps72
 go_wp2_with fail
 go_ret
 refine ⟨rfl,?_⟩
 refine dY.rp_shut (x:=x) ?_
 refine HST.out.set 0 rfl (rpRow { a with rcv:=a.rcv+1 } x) (by (repeat (first|(with_reducible (first|exact Fr.refl _ _|refine Fr.setCell ?_ ?_ _|refine Fr.drewN ?_ _|refine Fr.drew ?_))|exact Or.inl rfl))) ?_
 have hr:=HROW.out
 (apply aS;focus (with_reducible (repeat (first|exact hr|apply aU|apply aP|apply aF))))
 first|rfl|(simp;done)|(simp;omega)
theorem rrcv_no (n:Int) (r:Nat) (hn:n≠((r % 256:Nat):Int)) (c24:w.cell? ⟨p,24,none⟩=some (.int .i64 (r:Int))) :
  Calls Try.prog 72 #[.pointer (some ⟨p,24,none⟩),.int .i64 n] w fun e w'=>e=.returned (.bool false)/\w=w':=by
 have hq:(n != (r:Int) % 256)=true:=by simp;omega
 clear hn
 go_enter Try.func72,Try.ntmps72
 go_wp2_with fail
 go_ret
 exact ⟨rfl,rfl⟩
end
end

section
open Go.RowKit
set_option maxRecDepth 100000
theorem pure_gv:Pure eGv givC:=fun _ _ _ _ _=>Iff.rfl
theorem pure_tk:Pure eTk takC:=fun _ _ _ _ _=>Iff.rfl
section
variable {F Z:BS} {W w:World} {ts:List Th} {T:TypeId} {b off n cap:Nat}
theorem gv_cells {gs:List Giv} (h:Sq eGv T w F Z (.slice (some ⟨b,off,none⟩) n cap) gs) {c:Nat} {g:Giv} (hc:gs[c]? = some g) :
  w.cell? ⟨b,off+c*3,none⟩=some (.int .i64 (g.room:Int))/\w.cell? ⟨b,off+c*3+1,none⟩=some (.int .i64 (g.aW:Int))/\w.cell? ⟨b,off+c*3+2,none⟩=some (.int .i64 (g.cI:Int)):=
 ⟨pure_cell pure_gv h hc (j:=0) rfl,pure_cell pure_gv h hc (j:=1) rfl,pure_cell pure_gv h hc (j:=2) rfl⟩
theorem tk_cells {gs:List Tak} (h:Sq eTk T w F Z (.slice (some ⟨b,off,none⟩) n cap) gs) {c:Nat} {g:Tak} (hc:gs[c]? = some g) :
  w.cell? ⟨b,off+c*2,none⟩=some (.int .i64 (g.cP:Int))/\w.cell? ⟨b,off+c*2+1,none⟩=some (.int .i64 (g.cE:Int)):=
 ⟨pure_cell pure_tk h hc (j:=0) rfl,pure_cell pure_tk h hc (j:=1) rfl⟩
theorem dY.putG {gs:List Giv} (h:dY F Z W ts w) (i:Nat) (hi:ts[i]? = some (tSq eGv T (.slice (some ⟨b,off,none⟩) n cap) gs)) {c:Nat} {g:Giv} (hc:gs[c]? = some g) (g':Giv) :
  dY F Z W (ts.set i (tSq eGv T (.slice (some ⟨b,off,none⟩) n cap) (gs.set c g'))) (((w.setCell ⟨b,off+c*3,none⟩ (.int .i64 (g'.room:Int))).setCell ⟨b,off+c*3+1,none⟩ (.int .i64 (g'.aW:Int))).setCell ⟨b,off+c*3+2,none⟩ (.int .i64 (g'.cI:Int))):=by
 have hil:=aA hi
 have hcl:=aA hc
 have h1:=h.put pure_gv i hi (c:=c) (j:=0) (a:=g) (a':=⟨g'.room,g.aW,g.cI⟩) (u:=.int .i64 (g'.room:Int)) hc (by decide) rfl
 have h2:=h1.put pure_gv i (List.getElem?_set_self hil) (c:=c) (j:=1) (a:=⟨g'.room,g.aW,g.cI⟩) (a':=⟨g'.room,g'.aW,g.cI⟩) (u:=.int .i64 (g'.aW:Int)) (List.getElem?_set_self hcl) (by decide) rfl
 have h3:=h2.put pure_gv i (List.getElem?_set_self (by rw [List.length_set];exact hil)) (c:=c) (j:=2) (a:=⟨g'.room,g'.aW,g.cI⟩) (a':=g') (u:=.int .i64 (g'.cI:Int)) (List.getElem?_set_self (by rw [List.length_set];exact hcl)) (by decide) rfl
 rw [List.set_set,List.set_set,List.set_set,List.set_set] at h3
 exact h3
theorem dY.putK {gs:List Tak} (h:dY F Z W ts w) (i:Nat) (hi:ts[i]? = some (tSq eTk T (.slice (some ⟨b,off,none⟩) n cap) gs)) {c:Nat} {g:Tak} (hc:gs[c]? = some g) (g':Tak) :
  dY F Z W (ts.set i (tSq eTk T (.slice (some ⟨b,off,none⟩) n cap) (gs.set c g'))) ((w.setCell ⟨b,off+c*2,none⟩ (.int .i64 (g'.cP:Int))).setCell ⟨b,off+c*2+1,none⟩ (.int .i64 (g'.cE:Int))):=by
 have hil:=aA hi
 have hcl:=aA hc
 have h1:=h.put pure_tk i hi (c:=c) (j:=0) (a:=g) (a':=⟨g'.cP,g.cE⟩) (u:=.int .i64 (g'.cP:Int)) hc (by decide) rfl
 have h2:=h1.put pure_tk i (List.getElem?_set_self hil) (c:=c) (j:=1) (a:=⟨g'.cP,g.cE⟩) (a':=g') (u:=.int .i64 (g'.cE:Int)) (List.getElem?_set_self hcl) (by decide) rfl
 rw [List.set_set,List.set_set] at h2
 exact h2
end
section
variable {w:World} {F Z:BS} {W:World} {ts:List Th} {p:Nat} {a:Prt}
theorem rtake_no {n:Nat} (c:Int) (ra:Option Addr) (rc:Nat) (hc:c < 0\/(n:Int)<=c) (h1:w.cell? ⟨p,1,none⟩=some (.slice ra n rc)) :
  Calls Try.prog 15 #[.pointer (some ⟨p,0,none⟩),.int .i64 c] w fun e w'=>e=.returned (.tuple #[.slice none 0 0,.bool false])/\w=w':=by
 have HQ:=aQ (rhas_no (p:=p) (w:=w) c ra rc hc h1)
 clear h1 hc
 go_enter Try.func15,Try.ntmps15
 go_wp2_with (go_at_call 22;refine HQ.out.mono ?_;rintro e w' ⟨rfl,rfl⟩)
 go_ret2
 exact ⟨rfl,rfl⟩
theorem rtake_none (m n k2:Nat) (ra va:Option Addr) (hm:m < n) (_:n<=4) (b1 o1 k1 rc:Nat) (c1:w.cell? ⟨p,1,none⟩=some (.slice ra n rc)) (c13:w.cell? ⟨p,13,none⟩=some (.slice (some ⟨b1,o1,none⟩) n k1)) (hc:w.cell? ⟨b1,o1+m,none⟩=some (.slice va 0 k2)) :
  Calls Try.prog 15 #[.pointer (some ⟨p,0,none⟩),.int .i64 (m:Int)] w fun e w'=>e=.returned (.tuple #[.slice none 0 0,.bool false])/\w=w':=by
 have HQ:=aQ (rhas_yes (p:=p) (w:=w) m ra rc hm c1)
 clear c1
 go_enter Try.func15,Try.ntmps15
 go_wp2_with (go_at_call 22;refine HQ.out.mono ?_;rintro e w' ⟨rfl,rfl⟩)
 go_ret2
 exact ⟨rfl,rfl⟩
theorem rtake_yes {N:Nat} (h:dY F Z W (tRp p a::ts) w) (hok:a.Ok N) (hN:N<=1000000000) (m:Nat) (hm:m < a.aZ.length) (d:dV) (l:List dV) (hl:a.aY.getD m []=d::l) :
  Calls Try.prog 15 #[.pointer (some ⟨p,0,none⟩),.int .i64 (m:Int)] w fun e w'=>∃v,e=.returned (.tuple #[v,.bool true])/\dY F Z W (tRp p (a.take m).2::(ts++[tBy v d])) w':=by
 obtain ⟨x,hst0⟩:=h.rp
 obtain ⟨rv,wv,bv,kv,cv,tv,gv,ev,av,sv,nv,hv,ch⟩:=x
 have n1:=hok.n1;have bl:=hok.bl;have n4:=hok.n4;have kl:=hok.kl;have gl:=hok.gl
 have hx:=bT (d:=[]) (show m < a.aY.length by omega)
 have HTK:=aQ (show (a.take m).2={ a with aY:=a.aY.set m l,giv:=a.giv.set m (a.giv.getD m ⟨0,0,0⟩).free,cF:=a.cF.set m (a.cF.getD m 0+1) } by
  unfold Prt.take Prt.peek
  rw [if_pos (show a.has (m:Int) from ⟨by omega,by omega⟩)]
  simp only [Int.toNat_natCast,hl];rfl)
 rw [hl] at hx
 obtain ⟨_,_,hb⟩:=hst0.get 3 rfl
 obtain ⟨b1,o1,k1,e1,m1,m1'⟩:=bR (show Sq (eSq eBy 27) 54 w _ _ bv a.aY from hb) (by omega)
 subst e1
 have hbf:=(Sq.free (show Sq (eSq eBy 27) 54 w _ _ (.slice (some ⟨b1,o1,none⟩) a.aY.length k1) a.aY from hb)).2.2.2
 obtain ⟨b2,o2,k2,v,hv0,m2,m2',hv2,hst1⟩:=hst0.byAt 3 rfl hx (k:=0) rfl
 have hst:dY F Z W ((tBy v d::rpThs p a ⟨rv,wv,.slice (some ⟨b1,o1,none⟩) a.aY.length k1,kv,cv,tv,gv,ev,av,sv,nv,hv,ch⟩)++ts) w:=hst1.front
 have hrow:=hst.blk 1 rfl
 have c1:w.cell? ⟨p,1,none⟩=some rv:=aJ hrow rfl
 have c13:w.cell? ⟨p,13,none⟩=some (.slice (some ⟨b1,o1,none⟩) a.aY.length k1):=aJ hrow rfl
 obtain ⟨_,_,hr⟩:=hst.get 2 rfl
 obtain ⟨ra,rc,e1,_⟩:=RdS.shape (show RdS dK w _ rv a.aZ from hr)
 subst e1
 obtain ⟨vc,hvc,_,hinner⟩:=hst.inner 4 rfl hx
 rw [hv0] at hvc
 obtain rfl:=Option.some.inj hvc
 have HQ:=aQ (rhas_yes (p:=p) (w:=w) m ra rc hm c1)
 have HS2:=aQ (hinner (.slice (if k2=1 then some ⟨b2,o2,none⟩ else some ⟨b2,o2+1,none⟩) l.length (k2 - 1)) l fun G Y h=>by
   obtain ⟨g,off,e,_,_,h'⟩:=h.drop (k:=1) (by decide) (by simp)
   obtain ⟨rfl,rfl⟩:b2=g/\o2=off:=by simpa using e
   simpa [eBy] using h')
 have HOK:=aQ hok
 clear hst0 hst1 hst h hok hl hx hb hr hinner c1 hrow hvc
 rw [show (d::l).length=l.length+1 from rfl] at hv0 m2
 rw [bl] at c13 m1
 rw [Nat.add_zero] at hv2
 have h1l:(1:Int)<=(l.length:Int)+1:=by omega
 have h1q:((l.length:Int)+1 == 0)=false:=by simp;omega
 obtain ⟨na,hna⟩:∃na,(if k2=1 then some (⟨b2,o2,none⟩:Addr) else some ⟨b2,o2+1,none⟩)=na:=⟨_,rfl⟩
 have hsl1:l.length+1 - 1=l.length:=rfl
 have hm2:((l.length:Int)+1)<=(k2:Int):=by omega
 rw [hna] at HS2
 clear m2 hsl1
 go_enter Try.func15,Try.ntmps15
 go_wp2_with (go_at_call 22;refine HQ.out.mono ?_;rintro e w' ⟨rfl,rfl⟩)
 refine wp_region_still_tail 14 (by kernel_rfl) (by kernel_rfl) ?_
 simp only [List.take_succ_cons,List.take_zero,List.drop_succ_cons,List.drop_zero]
 change wpStill _ _ (World.drew _) (fun a'=>wpList _ _ _ _ a' (World.drew _)) _ _
 repeat still_step
 refine wpStill_nil ?_
 clear hna
 go_wp2_with fail
 generalize hw2:World.setCell _ _ _=w2
 have hs3:dY F Z W ((tBy v d::rpThs p { a with aY:=a.aY.set m l } ⟨.slice ra a.aZ.length rc,wv,.slice (some ⟨b1,o1,none⟩) a.aY.length k1,kv,cv,tv,gv,ev,av,sv,nv,hv,ch⟩)++ts) w2:=by rw [<-hw2];exact HS2.out
 clear hw2 HS2 c13 hbf hv0 h1l hm2 m2'
 have hrow:=hs3.blk 1 rfl
 have c26:w2.cell? ⟨p,26,none⟩=some gv:=aJ hrow rfl
 have hg:=bT (d:=(⟨0,0,0⟩:Giv)) (show m < a.giv.length by omega)
 have hgb:=HOK.out.giv _ (List.mem_of_getElem? hg)
 obtain ⟨_,_,hb⟩:=hs3.get 8 rfl
 obtain ⟨b3,o3,k3,e3,m3,m3'⟩:=bR (show Sq eGv 100 w2 _ _ gv a.giv from hb) (by omega)
 subst e3
 have hg3:=gv_cells (show Sq eGv 100 w2 _ _ (.slice (some ⟨b3,o3,none⟩) a.giv.length k3) a.giv from hb) hg
 have hgf:=(Sq.free (show Sq eGv 100 w2 _ _ (.slice (some ⟨b3,o3,none⟩) a.giv.length k3) a.giv from hb)).2.2.2
 obtain ⟨g,hgg⟩:∃g,g=a.giv.getD m ⟨0,0,0⟩:=⟨_,rfl⟩
 have HG:=aQ hgg
 rw [<-hgg] at hg3 hgb
 have HGET:=aQ hg
 have HS3:=aQ hs3
 rw [gl] at c26 m3
 clear hs3 hrow hg hb hgg
 refine wp_region_lag 17 (S:=fun w'=>w'.cell? ⟨p,26,none⟩=some (.slice (some ⟨b3,o3,none⟩) a.aZ.length k3)/\w'.cell? ⟨b3,o3+m*3,none⟩=some (.int .i64 (g.room:Int))/\w'.cell? ⟨b3,o3+m*3+1,none⟩=some (.int .i64 (g.aW:Int))/\w'.cell? ⟨b3,o3+m*3+2,none⟩=some (.int .i64 (g.cI:Int))) (by kernel_rfl) ⟨c26,hg3.1,hg3.2.1,hg3.2.2⟩ (fun hS0=>?_)
 change wpAnyL _ _ _ _ _ _ (6+12) _ _ _
 refine wpAnyL_take_n 0 12 (by kernel_rfl) hS0 (fun _ _ _ _ _ h=>h) ?_
 simp only [List.drop_zero,List.take_succ_cons,List.take_zero]
 iterate 12 (refine aR (v:=?_) (by rfl) ?_ ?_;rotate_left 1;(focus ((intro w' hS';obtain ⟨q1,q2,q3,q4⟩:=hS';go_simp);try with_reducible rfl));simp only [Act.put,List.setIfInBounds_toArray,List.set_cons_zero,List.set_cons_succ])
 refine aT ?_
 refine wpAnyL_one 12 (by kernel_rfl) rfl (fun K hK=>?_)
 (refine step_call (f:=?_) (args:=?_) (by rfl) ?_ ?_;rotate_left 2;(focus (go_simp;first|(with_reducible rfl)|(refine ⟨?_,?_⟩ <;> with_reducible rfl)));(refine (rfree_any g hgb.2.1 (by omega) _).mono ?_);rintro e w3 ⟨⟨r3,rfl⟩,hb3⟩)
 refine ⟨_,rfl,?_⟩
 simp only [Act.put,List.setIfInBounds_toArray,List.set_cons_zero,List.set_cons_succ]
 have hb4:Below w2.heap.size w2 w3:=Below.trans (by (with_reducible (repeat (first|exact Below.refl _ _|refine Bw.alloc ?_ _|refine Bw.drewN ?_ _|refine Bw.drew ?_)))) hb3
 have hp2:=World.block_lt_of_cell? w2 _ c26
 have hq2:=World.block_lt_of_cell? w2 _ hg3.1
 have hS1:w3.cell? ⟨p,26,none⟩=some (.slice (some ⟨b3,o3,none⟩) a.aZ.length k3)/\w3.cell? ⟨b3,o3+m*3,none⟩=some (.int .i64 (g.room:Int))/\w3.cell? ⟨b3,o3+m*3+1,none⟩=some (.int .i64 (g.aW:Int))/\w3.cell? ⟨b3,o3+m*3+2,none⟩=some (.int .i64 (g.cI:Int)):=
  ⟨(World.cell?_of_block (hb4.block p hp2)).trans c26,(World.cell?_of_block (hb4.block b3 hq2)).trans hg3.1,(World.cell?_of_block (hb4.block b3 hq2)).trans hg3.2.1,(World.cell?_of_block (hb4.block b3 hq2)).trans hg3.2.2⟩
 have hgf3:∀j,w3.frozen? ⟨b3,j,none⟩=false:=by
  obtain ⟨_,_,hb⟩:=(HS3.out.own hb4).get 8 rfl
  exact (Sq.free (show Sq eGv 100 w3 _ _ (.slice (some ⟨b3,o3,none⟩) a.giv.length k3) a.giv from hb)).2.2.2
 have HS4:=aQ ((HS3.out.own hb4).putG 8 rfl HGET.out g.free)
 refine hK.out _ _ (fun _=>hS1) ?_
 clear hK K hb3 hb4 hgf c26 hg3 hS0 HS3
 obtain ⟨e1,e2,e3,e4⟩:=hS1
 have hS1:w3.cell? ⟨p,26,none⟩=some (.slice (some ⟨b3,o3,none⟩) a.aZ.length k3)/\w3.cell? ⟨b3,o3+m*3,none⟩=some (.int .i64 (g.room:Int))/\w3.cell? ⟨b3,o3+m*3+1,none⟩=some (.int .i64 (g.aW:Int))/\w3.cell? ⟨b3,o3+m*3+2,none⟩=some (.int .i64 (g.cI:Int)):=⟨e1,e2,e3,e4⟩
 refine wpAnyL_pure 13 (by kernel_rfl) rfl (fun _=>hS1) (fun _ _ _ _ _ h=>h) ?_
 (refine aR (v:=?_) (by rfl) ?_ ?_;rotate_left 1;(focus ((intro w' hS';go_simp);try with_reducible rfl));simp only [Act.put,List.setIfInBounds_toArray,List.set_cons_zero,List.set_cons_succ])
 refine aT ?_
 refine wpAnyL_pure 14 (by kernel_rfl) rfl (fun _=>hS1) (fun _ _ _ _ _ h=>h) ?_
 (refine aR (v:=?_) (by rfl) ?_ ?_;rotate_left 1;(focus ((intro w' hS';go_simp);try with_reducible rfl));simp only [Act.put,List.setIfInBounds_toArray,List.set_cons_zero,List.set_cons_succ])
 refine aT ?_
 refine wpAnyL_pure 15 (by kernel_rfl) rfl (fun _=>hS1) (fun _ _ _ _ _ h=>h) ?_
 (refine aR (v:=?_) (by rfl) ?_ ?_;rotate_left 1;(focus ((intro w' hS';go_simp);try with_reducible rfl));simp only [Act.put,List.setIfInBounds_toArray,List.set_cons_zero,List.set_cons_succ])
 refine aT ?_
 refine wpAnyL_one 16 (by kernel_rfl) rfl (fun K hK=>?_)
 go_simp
 refine hK.out _ _ (fun _=>hS1) ?_
 clear hK K
 refine wpAnyL_one 17 (by kernel_rfl) rfl (fun K hK=>?_)
 go_simp
 refine hK.out _ _ (fun e=>absurd rfl e) ?_
 clear hK K
 refine wpAnyL_done (by kernel_rfl) ?_ _
 generalize hw5:World.setCell (World.setCell (World.setCell w3 _ _) _ _) _ _=w5
 have hs5:dY F Z W ((tBy v d::rpThs p { a with aY:=a.aY.set m l,giv:=a.giv.set m g.free } ⟨.slice ra a.aZ.length rc,wv,.slice (some ⟨b1,o1,none⟩) a.aY.length k1,kv,cv,tv,.slice (some ⟨b3,o3,none⟩) a.giv.length k3,ev,av,sv,nv,hv,ch⟩)++ts) w5:=by rw [<-hw5];exact HS4.out
 clear hw5 HS4 e1 e2 e3 e4 hS1 hgf3
 have hrow:=hs5.blk 1 rfl
 have c32:w5.cell? ⟨p,32,none⟩=some hv:=aJ hrow rfl
 obtain ⟨_,_,hb⟩:=hs5.get 13 rfl
 obtain ⟨b4,o4,k4,e4,m4,m4'⟩:=bR (show Sq dK 3 w5 _ _ hv a.cF from hb) (by omega)
 subst e4
 have hx4:=bT (d:=0) (show m < a.cF.length by omega)
 have ht4:=HOK.out.tan _ (List.mem_of_getElem? hx4)
 have hc4:=nat_cell hb hx4
 have hf4:=(Sq.free hb).2.2.2
 have HS6:=aQ (hs5.putN (xs:=a.cF) 13 rfl (c:=m) (y:=a.cF.getD m 0+1) (u:=(a.cF.getD m 0:Int)+1) (by omega) (by omega))
 obtain ⟨z,hz⟩:∃z,z=a.cF.getD m 0:=⟨_,rfl⟩
 have HZ:=aQ hz
 rw [<-hz] at ht4 hc4
 rw [kl] at c32 m4
 clear hrow hb hx4 hz hs5
 go_wp2_with fail
 go_ret2
 refine ⟨v,rfl,?_⟩
 rw [HTK.out,<-HG.out]
 have hz:=HZ.out
 subst hz
 have h7:dY F Z W (tBy v d::(rpThs p { a with aY:=a.aY.set m l,giv:=a.giv.set m g.free,cF:=a.cF.set m (a.cF.getD m 0+1) } ⟨.slice ra a.aZ.length rc,wv,.slice (some ⟨b1,o1,none⟩) a.aY.length k1,kv,cv,tv,.slice (some ⟨b3,o3,none⟩) a.giv.length k3,ev,av,sv,nv,.slice (some ⟨b4,o4,none⟩) a.cF.length k4,ch⟩++ts)) _:=HS6.out
 have h8:=h7.rear
 rw [List.append_assoc] at h8
 exact h8.rp_shut
end
end

section
open Go.RowKit
set_option maxRecDepth 100000
theorem slTk:SlT Try.prog 59 102 (.agg #[.int .i64 0,.int .i64 0]) 2 16:=⟨Try.underlying59,info_parts (by kernel_rfl),rfl,by decide⟩
theorem slGv:SlT Try.prog 60 100 (.agg #[.int .i64 0,.int .i64 0,.int .i64 0]) 3 24:=⟨Try.underlying60,info_parts (by kernel_rfl),rfl,by decide⟩
def waitFrom (a:Prt) (j:Nat):List (List dV):=(List.range a.aX.length).map fun c=>again (a.cT.drop j) c++a.aX.getD c []
theorem waitFrom_length (a:Prt) (j:Nat):(waitFrom a j).length=a.aX.length:=by simp [waitFrom]
theorem waitFrom_last (a:Prt):waitFrom a a.cT.length=a.aX:=by
 unfold waitFrom
 rw [List.drop_length]
 exact map_getD a.aX []
theorem waitFrom_get {a:Prt} {j c:Nat} (hc:c < a.aX.length):(waitFrom a j)[c]? = some (again (a.cT.drop j) c++a.aX.getD c []):=by
 unfold waitFrom
 rw [List.getElem?_map,List.getElem?_range hc];rfl
theorem waitFrom_set {a:Prt} {j c:Nat} {d:dV} (hj:a.cT[j]? = some (c,d)):(waitFrom a (j+1)).set c (d::(again (a.cT.drop (j+1)) c++a.aX.getD c []))=waitFrom a j:=by
 have hdr:a.cT.drop j=(c,d)::a.cT.drop (j+1):=by
  have hl:=aA hj
  rw [List.drop_eq_getElem_cons hl]
  rw [List.getElem?_eq_getElem hl] at hj
  rw [Option.some.inj hj]
 apply List.ext_getElem?
 intro i
 rw [List.getElem?_set]
 unfold waitFrom
 by_cases hci:c=i
 ·subst hci
  rw [if_pos rfl]
  by_cases hl:c < a.aX.length
  ·rw [if_pos (by simpa using hl),List.getElem?_map,List.getElem?_range hl,Option.map_some,hdr]
   simp [again]
  ·rw [if_neg (by simpa using hl),List.getElem?_map,List.getElem?_eq_none (by simp;omega)];rfl
 ·rw [if_neg hci,List.getElem?_map,List.getElem?_map,hdr]
  by_cases hl:i < a.aX.length
  ·rw [List.getElem?_range hl,Option.map_some,Option.map_some]
   have hne:(c == i)=false:=by simpa using hci
   simp [again,hne]
  ·rw [List.getElem?_eq_none (by simp;omega)];rfl
section
variable {F Z:BS} {W w wr:World} {ts:List Th} {p:Nat} {a:Prt}
theorem dY.lit1 {T:TypeId} {v:Value} {d:dV} (h:dY F Z W ts w) (i:Nat) (hi:ts[i]? = some (tBy v d)):dY F Z W (tSq eBy T (.slice (some ⟨w.heap.size,0,none⟩) 1 1) [d]::ts) (w.alloc (.cells #[v] T)):=by
 have h0:=dY.adds0 (E:=eBy) (T:=T) h
 obtain ⟨K,us,Y,hsl,_,hoth,hback⟩:=h0.appY 0 rfl
 obtain ⟨H,_,hby⟩:=hoth (i+1) _ (by omega) (by simpa using hi)
 obtain rfl:us=[]:=List.eq_nil_of_length_eq_zero (by have:=hsl.1;simpa using this)
 refine hback w (w.alloc (.cells #[v] T)) [v] [d] _ (Below.refl _ _) ⟨rfl,.inr ⟨w.heap.size,0,1,#[v],rfl,.inr (Nat.le_refl _),heap_alloc_new w _,Nat.le_refl _,by unfold maxLen;omega,by simp [eBy],rfl⟩⟩ (Fr.of_below (Fr.refl _ _) (aK w _)) ⟨fun _=>False,Y,fun _ f=>f.elim,fun _ y=>.inl y,fun _ f=>f.elim,Els.single (E:=eBy) ⟨_,rfl,hby⟩⟩
theorem dY.appP {α : Type} {E:El α} {f : α -> List Value} {T:TypeId} {av:Value} {xs:List α} (hp:Pure E f) (h:dY F Z W ts wr) (i:Nat) (hi:ts[i]? = some (tSq E T av xs)) :
  ∃K us,Sl wr K T E.size av xs.length us/\(∀(b:Nat) (j:Nat) (T':Th),j≠i->ts[j]? = some T'->(∀H Y,T'.on wr H Y->H b\/Y b)->¬K b) /\
   ∀(w1 w2:World) (y : α) (u2:Value),Below wr.heap.size wr w1->Sl w2 (fun k=>K k\/w1.heap.size<=k) T E.size u2 (xs.length+1) (us++f y)->Fr K w1 w2->dY F Z W (ts.set i (tSq E T u2 (xs++[y]))) w2:=by
 obtain ⟨K,us,h1,h2,h3⟩:=h.app i hi
 refine ⟨K,us,h1,h2,fun w1 w2 y u2 hb hsl hf=>h3 w1 w2 (f y) [y] u2 hb hsl hf fun Y _=>⟨fun _=>False,fun _=>False,fun _ f=>f.elim,fun _ f=>f.elim,fun _ f=>f.elim,?_⟩⟩
 have:=hp.of (w:=w1) (Z:=fun _=>False) (fun _=>False) [y]
 simpa using this
end
end

section
open Go.RowKit
set_option maxRecDepth 100000
structure Prt.RBeg (N:Nat) (p:Prt):Prop where
 n1:1<=p.aZ.length
 n4:p.aZ.length<=4
 wl:p.aX.length=p.aZ.length
 bl:p.aY.length=p.aZ.length
 kl:p.cT.length<=128
 wln:∀l ∈ p.aX,l.length<=N
 bln:∀l ∈ p.aY,l.length<=N
theorem rd_three (w : World) (g : Nat) (u v z : Value) (T : TypeId) (hg : g = w.heap.size) : Rd (w.alloc (.cells #[u, v, z] T)) 3 (.slice (some ⟨g, 0, none⟩) 1 1) 1 [u, v, z] := by
  subst hg
  refine ⟨rfl, _, 1, rfl, Nat.le_refl _, by decide, (fun e => by cases e), fun b hb j x hj => ?_⟩
  obtain rfl := Option.some.inj hb
  have hr := heap_alloc_new w (.cells #[u, v, z] T)
  match j, hj with
  | 0, hj => exact ⟨rfl, by obtain rfl : u = x := by simpa using hj
                            exact aJ (i := 0) hr rfl⟩
  | 1, hj => exact ⟨rfl, by obtain rfl : v = x := by simpa using hj
                            exact aJ (i := 1) hr rfl⟩
  | 2, hj => exact ⟨rfl, by obtain rfl : z = x := by simpa using hj
                            exact aJ (i := 2) hr rfl⟩
  | j + 3, hj => simp at hj
abbrev begR (a:Prt) (j:Nat):Prt:={ a with aX:=waitFrom a 0,snd:=newSnd a.cA a.aN,cT:=[],rcv:=0,tak:=List.replicate j ⟨0,0⟩,giv:=(a.begin a.cM).giv.take j,base:=(a.begin a.cM).base.take j }
theorem giv_next {a:Prt} {j:Nat} (q:Nat) (hbuf:(a.aY.getD j []).length<=a.aZ.getD j 0) (hj:j < a.aZ.length):(a.begin q).giv.take (j+1)=(a.begin q).giv.take j++[⟨a.aZ.getD j 0,(a.aY.getD j []).length,0⟩]:=by
 have h:(a.begin q).giv[j]? = some ⟨a.aZ.getD j 0,(a.aY.getD j []).length,0⟩:=by
  show ((List.range a.aZ.length).map fun c=>Giv.held ⟨a.aZ.getD c 0,0,0⟩ (a.aY.getD c []).length)[j]? = _
  rw [List.getElem?_map,List.getElem?_range hj,Option.map_some,held_eq,Nat.min_eq_left hbuf]
 rw [List.take_add_one,h];rfl
theorem base_next {a:Prt} {j:Nat} (q:Nat) (hj:j < a.aY.length):(a.begin q).base.take (j+1)=(a.begin q).base.take j++[(a.aY.getD j []).length]:=by
 have h:(a.begin q).base[j]? = some (a.aY.getD j []).length:=by
  show (a.aY.map List.length)[j]? = _
  rw [List.getElem?_map,bT (d:=[]) hj];rfl
 rw [List.take_add_one,h];rfl
theorem begR_giv (a:Prt) {j:Nat} (hj:j<=a.aZ.length):(begR a j).giv.length=j:=by
 show ((a.begin a.cM).giv.take j).length=j
 rw [List.length_take,show (a.begin a.cM).giv.length=a.aZ.length by simp [Prt.begin]]
 omega
theorem begR_base {a:Prt} {j:Nat} (bl:a.aY.length=a.aZ.length) (hj:j<=a.aZ.length):(begR a j).base.length=j:=by
 show ((a.begin a.cM).base.take j).length=j
 rw [List.length_take,show (a.begin a.cM).base.length=a.aZ.length by simp [Prt.begin,bl]]
 omega
theorem begR_all {a:Prt} (bl:a.aY.length=a.aZ.length):begR a a.aZ.length=a.begin a.cM:=by
 have h1:(a.begin a.cM).giv.take a.aZ.length=(a.begin a.cM).giv:=List.take_of_length_le (by simp [Prt.begin])
 have h2:(a.begin a.cM).base.take a.aZ.length=(a.begin a.cM).base:=List.take_of_length_le (by simp [Prt.begin,bl])
 unfold begR
 rw [h1,h2];rfl
section
variable {F Z:BS} {W w:World} {ts:List Th} {p:Nat} {a:Prt}
theorem rbegin_c {N:Nat} (hok:a.RBeg N) (hN:N<=1000000000) (hkk:a.snd.cT=a.cT.map (·.2)) (hcl:∀f ∈ a.cT,f.1 < a.aZ.length) (hbuf:∀c,(a.aY.getD c []).length<=a.aZ.getD c 0) (h:dY F Z W (tRp p a::ts) w) :
  Calls Try.prog 30 #[.pointer (some ⟨p,0,none⟩)] w fun e w'=>e=.returned (.tuple #[])/\dY F Z W (tRp p (a.begin a.cM)::ts) w':=by
 obtain ⟨x,hst0⟩:=h.rp
 obtain ⟨rv,wv,bv,kv,cv,tv,gv,ev,av,sv,nv,hv,ch⟩:=x
 have n1:=hok.n1;have n4:=hok.n4;have wl:=hok.wl;have bl:=hok.bl;have hkl:=hok.kl
 have hkn:a.snd.cT.length=a.cT.length:=by rw [hkk,List.length_map]
 have hcn:(a.cT.map (·.1)).length=a.cT.length:=List.length_map ..
 obtain ⟨_,_,hr⟩:=hst0.get 1 rfl
 obtain ⟨ra,rc,e1,_⟩:=RdS.shape (show RdS dK w _ rv a.aZ from hr)
 obtain ⟨_,_,hb⟩:=hst0.get 2 rfl
 obtain ⟨b1,o1,k1,e2,m1,m1'⟩:=bR (show Sq (eSq eBy 27) 54 w _ _ wv a.aX from hb) (by omega)
 obtain ⟨_,_,hb4⟩:=hst0.get 4 rfl
 obtain ⟨ka,kc,e4,q1,q1',_⟩:=(show Sq eBy 27 w _ _ kv a.snd.cT from hb4).le
 obtain ⟨_,_,hb5⟩:=hst0.get 5 rfl
 obtain ⟨ca,cc,e5,q2,q2',_⟩:=(show Sq dK 3 w _ _ cv (a.cT.map (·.1)) from hb5).le
 subst e1 e2 e4 e5
 rw [hkn] at q1
 rw [hcn] at q2
 unfold maxLen at q1' q2'
 have hrow:=hst0.blk 0 rfl
 have c17:w.cell? ⟨p,17,none⟩=some (.slice ka a.snd.cT.length kc):=aJ hrow rfl
 rw [hkn] at c17
 have HKK:=aQ hkk;have HCL:=aQ hcl;have HBUF:=aQ hbuf;have HOK:=aQ hok
 have HST:=aQ hst0
 have HKN:=aQ hkn;have HCN:=aQ hcn
 clear hr hb hb4 hb5 hrow hst0 h hkk hcl hbuf hok hkn hcn
 go_enter Try.func30,Try.ntmps30
 go_wp2_with fail
 go_loopw [2,3] (fun i _ wr=>∃j:Nat,j<=a.cT.length/\i=.int .i64 ((j:Int) - 1)/\Hid (dY F Z W (rpThs p { a with aX:=waitFrom a j } ⟨.slice ra a.aZ.length rc,.slice (some ⟨b1,o1,none⟩) a.aX.length k1,bv,.slice ka a.snd.cT.length kc,.slice ca (a.cT.map (·.1)).length cc,tv,gv,ev,av,sv,nv,hv,ch⟩++ts) wr)) (fun i _ _=>(intOf i+1).toNat)
 case atStart=>exact ⟨a.cT.length,Nat.le_refl _,rfl,aQ (by rw [waitFrom_last];exact HST.out)⟩
 case round=>
  clear HST c17
  obtain ⟨j,hj,rfl,HJ⟩:=hrel
  by_cases hlt:0 < j
  ·obtain ⟨i,rfl⟩:∃i,j=i+1:=⟨j - 1,by omega⟩
   obtain ⟨⟨c,d⟩,hx⟩:∃f,a.cT[i]? = some f:=⟨_,List.getElem?_eq_getElem (by omega)⟩
   have hcl:=HCL.out _ (List.mem_of_getElem? hx)
   dsimp only at hcl
   have hxd:a.snd.cT[i]? = some d:=by rw [HKK.out,List.getElem?_map,hx];rfl
   have hxc:(a.cT.map (·.1))[i]? = some c:=by rw [List.getElem?_map,hx];rfl
   have hij:((i+1:Nat):Int) - 1=(i:Int):=by omega
   rw [hij]
   obtain ⟨_,_,hb4⟩:=HJ.out.get 4 rfl
   obtain ⟨bk,ok,kc',e4,_,_⟩:=bR (show Sq eBy 27 wr _ _ (.slice ka a.snd.cT.length kc) a.snd.cT from hb4) (by rw [HKN.out];omega)
   obtain ⟨rfl,rfl⟩:ka=some ⟨bk,ok,none⟩/\kc=kc':=by simpa using e4
   obtain ⟨_,_,hb5⟩:=HJ.out.get 5 rfl
   obtain ⟨bc,oc,cc',e5,_,_⟩:=bR (show Sq dK 3 wr _ _ (.slice ca (a.cT.map (·.1)).length cc) (a.cT.map (·.1)) from hb5) (by rw [HCN.out];omega)
   obtain ⟨rfl,rfl⟩:ca=some ⟨bc,oc,none⟩/\cc=cc':=by simpa using e5
   obtain ⟨v0,hv0,hby0⟩:=sqby_at hb4 hxd
   have hcc:=nat_cell hb5 hxc
   obtain ⟨va,vk,rfl⟩:=hby0.slice
   have hB:=(HJ.out.weak 4 rfl (T:=tBy (.slice va d.length vk) d) (fun G' Y' hon'=>by
    obtain ⟨v',hv',hby'⟩:=sqby_at (show Sq eBy 27 wr G' Y' (.slice (some ⟨bk,ok,none⟩) a.snd.cT.length kc) a.snd.cT from hon') hxd
    rw [hv0] at hv'
    obtain rfl:=Option.some.inj hv'
    exact hby')).front
   obtain ⟨vcw,hvc,hout0⟩:=hB.out 3 rfl (waitFrom_get (a:=a) (j:=i+1) (c:=c) (by rw [wl];exact hcl))
   have hout:=hout0.front
   obtain ⟨xs,hxs⟩:∃xs,xs=again (a.cT.drop (i+1)) c++a.aX.getD c []:=⟨_,rfl⟩
   have HXS:=aQ hxs
   have hxl:xs.length<=1000001000:=by
    have h1:=again_le (a.cT.drop (i+1)) c
    have h2:=HOK.out.wln _ (List.mem_of_getElem? (bT (d:=[]) (show c < a.aX.length by rw [wl];exact hcl)))
    rw [hxs,List.length_append]
    rw [List.length_drop] at h1
    omega
   rw [<-hxs] at hout
   obtain ⟨_,_,hsq⟩:=hout.get 0 rfl
   obtain ⟨xa,xc,e9,hx1,hx2,_⟩:=Sq.le (show Sq eBy 27 wr _ _ vcw xs from hsq)
   subst e9
   have hpb:p≠b1:=hout.apart 2 4 (by decide) rfl rfl (fun _ _ h=>h.2) fun _ _ h=>(Sq.free (show Sq _ _ _ _ _ (.slice (some ⟨b1,o1,none⟩) a.aX.length k1) _ from h)).2.1
   have hfz:∀k,wr.frozen? ⟨b1,k,none⟩=false:=by
    obtain ⟨_,_,hh⟩:=hout.get 4 rfl
    exact (Sq.free (show Sq _ _ _ _ _ (.slice (some ⟨b1,o1,none⟩) a.aX.length k1) _ from hh)).2.2.2
   have hrow:=hout.blk 2 rfl
   have c12:wr.cell? ⟨p,12,none⟩=some (.slice (some ⟨b1,o1,none⟩) a.aX.length k1):=aJ hrow rfl
   have c17:wr.cell? ⟨p,17,none⟩=some (.slice (some ⟨bk,ok,none⟩) a.snd.cT.length kc):=aJ hrow rfl
   have c23:wr.cell? ⟨p,23,none⟩=some (.slice (some ⟨bc,oc,none⟩) (a.cT.map (·.1)).length cc):=aJ hrow rfl
   have hL:=dY.lit1 (T := 27) hout.drew 1 rfl
   obtain ⟨Kx,us,Yx,hsl,hKn,hoth,hback⟩:=hL.appY 0 rfl
   have hKp:¬Kx p:=hKn p 3 _ (by decide) rfl fun H Y h=>.inl h.2
   have hKb:¬Kx b1:=hKn b1 5 _ (by decide) rfl fun H Y h=>.inl (Sq.free (show Sq _ _ _ H Y (.slice (some ⟨b1,o1,none⟩) a.aX.length k1) _ from h)).2.1
   have hKk:¬Kx bk:=hKn bk 7 _ (by decide) rfl fun H Y h=>.inl (Sq.free (show Sq _ _ _ H Y (.slice (some ⟨bk,ok,none⟩) a.snd.cT.length kc) _ from h)).2.1
   obtain ⟨Hx,_,K',D',us',_,_,_,hsl',hel'⟩:=hoth 1 _ (by decide) rfl
   have hp1:p < (wr.drew.alloc (.cells #[.slice va d.length vk] 27)).heap.size:=World.block_lt_of_cell? _ _ (aI _ _ c12)
   have hl1:b1 < (wr.drew.alloc (.cells #[.slice va d.length vk] 27)).heap.size:=World.block_lt_of_cell? _ _ (aI _ _ hvc)
   have hl2:bk < (wr.drew.alloc (.cells #[.slice va d.length vk] 27)).heap.size:=World.block_lt_of_cell? _ _ (aI _ _ hv0)
   have hq12:=aI wr.drew (.cells #[.slice va d.length vk] 27) c12
   have hqvc:=aI wr.drew (.cells #[.slice va d.length vk] 27) hvc
   have hq17:=aI wr.drew (.cells #[.slice va d.length vk] 27) c17
   have hqv0:=aI wr.drew (.cells #[.slice va d.length vk] 27) hv0
   have HARM:=aQ (fun (v2:Value) (w2:World) (hsl2:Sl w2 (fun k=>Kx k\/(wr.drew.alloc (.cells #[.slice va d.length vk] 27)).heap.size<=k) 27 1 v2 (1+xs.length) (us++us')) (hfr2:Fr Kx (wr.drew.alloc (.cells #[.slice va d.length vk] 27)) w2)=>
    show ∃a2 c2,v2=.slice a2 (1+xs.length) c2/\w2.cell? ⟨p,12,none⟩=some (.slice (some ⟨b1,o1,none⟩) a.aX.length k1)/\w2.cell? ⟨b1,o1+c,none⟩=some (.slice xa xs.length xc)/\w2.cell? ⟨p,17,none⟩=some (.slice (some ⟨bk,ok,none⟩) a.snd.cT.length kc)/\w2.cell? ⟨bk,ok+i,none⟩=some (.slice va d.length vk)/\(∀k,w2.frozen? ⟨b1,k,none⟩=false)/\Hid (dY F Z W (rpThs p { a with aX:=waitFrom a i } ⟨.slice ra a.aZ.length rc,.slice (some ⟨b1,o1,none⟩) a.aX.length k1,bv,.slice (some ⟨bk,ok,none⟩) a.snd.cT.length kc,.slice (some ⟨bc,oc,none⟩) (a.cT.map (·.1)).length cc,tv,gv,ev,av,sv,nv,hv,ch⟩++ts) (w2.setCell ⟨b1,o1+c,none⟩ (.slice a2 (1+xs.length) c2))) from by
     obtain ⟨a2,c2,rfl⟩:=hsl2.shape
     have h1:=hback _ w2 us' xs _ (Below.refl _ _) hsl2 hfr2 ⟨fun _=>False,Yx,fun _ f=>f.elim,fun _ y=>.inl y,fun _ f=>f.elim,els_by hel'⟩
     have h2:=dY.back (c:=c) (yss:=waitFrom a i) (dY.tail (dY.tail (dY.rear h1))) 2 rfl (by rw [List.length_set,List.length_map,waitFrom_length,wl];exact hcl) (by rw [set_gap];congr 1;rw [List.singleton_append,HXS.out];exact waitFrom_set hx)
     exact ⟨a2,c2,rfl,(World.cell?_of_block (hfr2.block p hp1 hKp)).trans hq12,(World.cell?_of_block (hfr2.block b1 hl1 hKb)).trans hqvc,(World.cell?_of_block (hfr2.block p hp1 hKp)).trans hq17,(World.cell?_of_block (hfr2.block bk hl2 hKk)).trans hqv0,fun k=>(World.frozen?_of_block (hfr2.block b1 hl1 hKb)).trans ((World.frozen?_of_block ((aK wr.drew _).block b1 (World.block_lt_of_cell? wr _ hvc))).trans (hfz k)),aQ h2⟩)
   have HSL:=aQ hsl
   have HRD:=aQ hsl'.rd
   have HONE:=aQ hel'.one
   have hm3:a.aX.length<=4:=by omega
   have hci:(c:Int) < (a.aX.length:Int):=by omega
   rw [HCN.out] at c23
   rw [HKN.out] at c17 hq17
   rw [HKN.out] at HARM
   have hii:i < a.cT.length:=by omega
   clear hsl hKn hoth hback hsl' hel' hsq hout hout0 hB hL hKp hKb hKk hxs hp1 hl1 hl2 HJ hb4 hb5 e4 e5 hby0 hrow hxd hxc hx
   go_wp2_with fail
   refine wp_region_lag 23 (S:=fun w'=>w'.cell? ⟨p,12,none⟩=some (.slice (some ⟨b1,o1,none⟩) a.aX.length k1)/\w'.cell? ⟨p,17,none⟩=some (.slice (some ⟨bk,ok,none⟩) a.cT.length kc)/\w'.cell? ⟨bk,ok+i,none⟩=some (.slice va d.length vk)/\w'.cell? ⟨b1,o1+c,none⟩=some (.slice xa xs.length xc)) (by kernel_rfl) ⟨c12,c17,hv0,hvc⟩ (fun hS0=>?_)
   change wpAnyL _ _ _ _ _ _ (11+13) _ _ _
   refine wpAnyL_take_n 0 13 (by kernel_rfl) hS0 (fun _ _ _ _ _ h=>h) ?_
   simp only [List.drop_zero,List.take_succ_cons,List.take_zero]
   iterate 13 (refine aR (v:=?_) (by rfl) ?_ ?_;rotate_left 1;(focus ((intro w' hS';obtain ⟨l1,l2,l3,l4⟩:=hS';go_simp);try with_reducible rfl));simp only [Act.put,List.setIfInBounds_toArray,List.set_cons_zero,List.set_cons_succ])
   refine aT ?_
   change wpAnyL _ _ _ _ _ _ (4+7) _ _ _
   refine wpAnyL_take_n 14 7 (by kernel_rfl) hS0 (fun _ _ _ _ _ h=>h) ?_
   simp only [List.drop_succ_cons,List.drop_zero,List.take_succ_cons,List.take_zero]
   iterate 7 (refine aR (v:=?_) (by rfl) ?_ ?_;rotate_left 1;(focus ((intro w' hS';obtain ⟨l1,l2,l3,l4⟩:=hS';go_simp);try with_reducible rfl));simp only [Act.put,List.setIfInBounds_toArray,List.set_cons_zero,List.set_cons_succ])
   refine aT ?_
   refine wpAnyL_one 13 (by kernel_rfl) rfl (fun K hK=>?_)
   go_simp
   refine hK.out _ _ (fun _=>⟨hq12,hq17,hqv0,hqvc⟩) ?_
   clear hK K
   refine wpAnyL_one 21 (by kernel_rfl) rfl (fun K hK=>?_)
   refine step_app_sl slBB rfl _ _ rfl Kx (.slice (some ⟨wr.drew.heap.size,0,none⟩) 1 1) 1 us rfl HSL.out (.slice xa xs.length xc) xs.length us' rfl (HRD.out.keep fun _ _ _=>rfl) HONE.out (by unfold maxLen;omega) (by omega) ?_
   intro v2 w2 hsl2 hfr2
   obtain ⟨a2,c2,rfl,e12,evc,e17,ev0,ef,HS2⟩:=HARM.out v2 w2 hsl2 hfr2
   clear hsl2 hfr2
   refine hK.out _ _ (fun _=>⟨e12,e17,ev0,evc⟩) ?_
   clear hK K
   simp only [Act.put,List.setIfInBounds_toArray,List.set_cons_zero,List.set_cons_succ]
   refine wpAnyL_one 22 (by kernel_rfl) rfl (fun K hK=>?_)
   go_simp
   refine hK.out _ _ (fun _=>⟨e12,e17,ev0,evc⟩) ?_
   clear hK K
   refine wpAnyL_one 23 (by kernel_rfl) rfl (fun K hK=>?_)
   go_simp
   refine hK.out _ _ (fun e=>absurd rfl e) ?_
   clear hK K
   refine wpAnyL_done (by kernel_rfl) ?_ _
   go_wp2_with fail
   go_roundw
   case rel=>exact ⟨i,by omega,by go_num,aQ (by rw [HKN.out];exact HS2.out)⟩
   case measure=>first|(simp [intOf];done)|(simp [intOf];omega)
  ·obtain rfl:j=0:=by omega
   have hrow:=HJ.out.blk 0 rfl
   have c2:wr.cell? ⟨p,2,none⟩=some (.int .i64 (a.cA:Int)):=aJ hrow rfl
   have c3:wr.cell? ⟨p,3,none⟩=some (.int .i64 (a.aN:Int)):=aJ hrow rfl
   have c15:wr.cell? ⟨p,15,none⟩=some (.int .i64 (a.snd.cA:Int)):=aJ hrow rfl
   have c16:wr.cell? ⟨p,16,none⟩=some (.int .i64 (a.snd.aN:Int)):=aJ hrow rfl
   have c17:wr.cell? ⟨p,17,none⟩=some (.slice ka a.snd.cT.length kc):=aJ hrow rfl
   have c18:wr.cell? ⟨p,18,none⟩=some (.int .i64 ((a.snd.aG+a.snd.cT.length:Nat):Int)):=aJ hrow rfl
   have c19:wr.cell? ⟨p,19,none⟩=some (.int .i64 (a.snd.aG:Int)):=aJ hrow rfl
   have c20:wr.cell? ⟨p,20,none⟩=some (.int .i64 (a.snd.pos:Int)):=aJ hrow rfl
   have c21:wr.cell? ⟨p,21,none⟩=some (.int .i64 (a.snd.cP:Int)):=aJ hrow rfl
   have c22:wr.cell? ⟨p,22,none⟩=some (.int .i64 (a.snd.timer:Int)):=aJ hrow rfl
   have c23:wr.cell? ⟨p,23,none⟩=some (.slice ca (a.cT.map (·.1)).length cc):=aJ hrow rfl
   have c24:wr.cell? ⟨p,24,none⟩=some (.int .i64 (a.rcv:Int)):=aJ hrow rfl
   have c25:wr.cell? ⟨p,25,none⟩=some tv:=aJ hrow rfl
   have c26:wr.cell? ⟨p,26,none⟩=some gv:=aJ hrow rfl
   have c27:wr.cell? ⟨p,27,none⟩=some ev:=aJ hrow rfl
   have cf:=fun i=>aD hrow i
   have hpl:=lt_of_block hrow
   have hz:((0:Nat):Int) - 1 = -1:=rfl
   rw [hz]
   have HROW:=aQ hrow
   clear hrow hz
   go_wp2_with fail
   refine wp_region_still_tail 14 (by kernel_rfl) (by kernel_rfl) ?_
   simp only [List.take_succ_cons,List.take_zero,List.drop_succ_cons,List.drop_zero]
   change wpStill _ _ (World.drew _) (fun a'=>wpList _ _ _ _ a' (World.drew _)) _ _
   repeat still_step
   refine wpStill_nil ?_
   go_upto_region 8 with fail
   have h1:=HJ.out.set 0 rfl (rpRow (begR a 0) ⟨.slice ra a.aZ.length rc,.slice (some ⟨b1,o1,none⟩) a.aX.length k1,bv,.slice none 0 0,.slice none 0 0,.slice none 0 0,.slice none 0 0,.slice none 0 0,av,sv,nv,hv,ch⟩) (w':=(((((((((((((wr.setCell ⟨p,15,none⟩ (.int .i64 a.cA)).setCell ⟨p,16,none⟩ (.int .i64 a.aN)).setCell ⟨p,17,none⟩ (.slice none 0 0)).setCell ⟨p,18,none⟩ (.int .i64 0)).setCell ⟨p,19,none⟩ (.int .i64 0)).setCell ⟨p,20,none⟩ (.int .i64 0)).setCell ⟨p,21,none⟩ (.int .i64 0)).setCell ⟨p,22,none⟩ (.int .i64 0)).setCell ⟨p,23,none⟩ (.slice none 0 0)).setCell ⟨p,24,none⟩ (.int .i64 0)).setCell ⟨p,25,none⟩ (.slice none 0 0)).setCell ⟨p,26,none⟩ (.slice none 0 0)).setCell ⟨p,27,none⟩ (.slice none 0 0))) (by (repeat (first|(with_reducible (first|exact Fr.refl _ _|refine Fr.setCell ?_ ?_ _|refine Fr.drewN ?_ _|refine Fr.drew ?_))|exact Or.inl rfl))) (by have hr:=HROW.out;(apply aS;focus (with_reducible (repeat (first|exact hr|apply aU|apply aP|apply aF))));simp [newSnd])
   have h2:=((((h1.upd 4 rfl (T':=tSq eBy 27 (.slice none 0 0) []) fun G Y _ _=>⟨Sq.nil _ _ _ _ _,Fr.refl _ _⟩).upd 5 rfl (T':=tSq dK 3 (.slice none 0 0) []) fun G Y _ _=>⟨Sq.nil _ _ _ _ _,Fr.refl _ _⟩).upd 6 rfl (T':=tSq eTk 102 (.slice none 0 0) []) fun G Y _ _=>⟨Sq.nil _ _ _ _ _,Fr.refl _ _⟩).upd 7 rfl (T':=tSq eGv 100 (.slice none 0 0) []) fun G Y _ _=>⟨Sq.nil _ _ _ _ _,Fr.refl _ _⟩).upd 8 rfl (T':=tSq dK 3 (.slice none 0 0) []) fun G Y _ _=>⟨Sq.nil _ _ _ _ _,Fr.refl _ _⟩
   have H0:=aQ (show dY F Z W (rpThs p (begR a 0) ⟨.slice ra a.aZ.length rc,.slice (some ⟨b1,o1,none⟩) a.aX.length k1,bv,.slice none 0 0,.slice none 0 0,.slice none 0 0,.slice none 0 0,.slice none 0 0,av,sv,nv,hv,ch⟩++ts) _ from h2.drew)
   clear h1 h2 c2 c3 c15 c16 c17 c18 c19 c20 c21 c22 c23 c24 c25 c26 c27 cf hpl HROW HJ
   generalize World.drew (World.setCell _ _ _)=w1 at H0 ⊢
   have hrow:=H0.out.blk 0 rfl
   have c1:w1.cell? ⟨p,1,none⟩=some (.slice ra a.aZ.length rc):=aJ hrow rfl
   clear hrow
   go_wp2_with fail
   go_loopw [4,5] (fun i _ wq=>∃(j:Nat) (tj gj ej:Value),j<=a.aZ.length/\i=.int .i64 (j:Int)/\Hid (dY F Z W (rpThs p (begR a j) ⟨.slice ra a.aZ.length rc,.slice (some ⟨b1,o1,none⟩) a.aX.length k1,bv,.slice none 0 0,.slice none 0 0,tj,gj,ej,av,sv,nv,hv,ch⟩++ts) wq)) (fun i _ _=>a.aZ.length - (intOf i).toNat)
   case atStart=>exact ⟨0,_,_,_,Nat.zero_le _,rfl,H0⟩
   case round=>
    clear H0 c1
    obtain ⟨j,tj,gj,ej,hj,rfl,HJ⟩:=hrel
    by_cases hlt:j < a.aZ.length
    ·have hrow:=HJ.out.blk 0 rfl
     have c1:wr.cell? ⟨p,1,none⟩=some (.slice ra a.aZ.length rc):=aJ hrow rfl
     have c13:wr.cell? ⟨p,13,none⟩=some bv:=aJ hrow rfl
     have c25:wr.cell? ⟨p,25,none⟩=some tj:=aJ hrow rfl
     obtain ⟨_,_,hb3⟩:=HJ.out.get 3 rfl
     obtain ⟨b2,o2,k2,e2,_,_⟩:=bR (show Sq (eSq eBy 27) 54 wr _ _ bv a.aY from hb3) (by omega)
     subst e2
     have hxb:=bT (d:=[]) (show j < a.aY.length by omega)
     obtain ⟨vb,_,hvb,hsb,_⟩:=sqsq_at (show Sq (eSq eBy 27) 54 wr _ _ (.slice (some ⟨b2,o2,none⟩) a.aY.length k2) a.aY from hb3) hxb
     obtain ⟨vba,vbk,e3⟩:=hsb.shape
     subst e3
     have hbl:=HOK.out.bln _ (List.mem_of_getElem? hxb)
     obtain ⟨_,_,hb6⟩:=HJ.out.get 6 rfl
     obtain ⟨ta,tc,e6,_,_,_⟩:=(show Sq eTk 102 wr _ _ tj (begR a j).tak from hb6).le
     subst e6
     obtain ⟨held,hheld⟩:∃held,held=(a.aY.getD j []).length:=⟨_,rfl⟩
     have HHELD:=aQ hheld
     rw [<-hheld] at hvb hbl
     obtain ⟨Kx,us,hsl,_,hback⟩:=dY.appP pure_tk HJ.out 6 rfl
     have hrl:(begR a j).tak.length=j:=List.length_replicate ..
     rw [hrl] at hsl hback c25
     have HSL:=aQ hsl
     have HARM:=aQ (fun (v2:Value) (w2:World) (hsl2:Sl w2 (fun k=>Kx k\/(wr.alloc (.cells #[.int .i64 0,.int .i64 0] 102)).heap.size<=k) 102 2 v2 (j+1) (us++[.int .i64 0,.int .i64 0])) (hfr2:Fr Kx (wr.alloc (.cells #[.int .i64 0,.int .i64 0] 102)) w2)=>
      show Hid (dY F Z W ((rpThs p (begR a j) ⟨.slice ra a.aZ.length rc,.slice (some ⟨b1,o1,none⟩) a.aX.length k1,.slice (some ⟨b2,o2,none⟩) a.aY.length k2,.slice none 0 0,.slice none 0 0,.slice ta j tc,gj,ej,av,sv,nv,hv,ch⟩).set 6 (tSq eTk 102 v2 (List.replicate (j+1) ⟨0,0⟩))++ts) w2) from by
      have h1:=hback _ w2 ⟨0,0⟩ v2 (aK wr _) hsl2 hfr2
      rw [show (begR a j).tak++[⟨0,0⟩]=List.replicate (j+1) ⟨0,0⟩ from (List.replicate_succ' ..).symm] at h1
      exact aQ h1)
     have hbi:(held:Int)<=1000000000:=by omega
     clear hrow hb3 hxb hsb hb6 hsl hback hheld
     go_wp2_with (at_builtin;refine cQ slTk rfl _ _ rfl Kx (.slice ta j tc) j us rfl (HSL.out.alloc _) _ 1 [.int .i64 0,.int .i64 0] rfl (rd_two _ _ _ _ _ rfl) (by intro u hu;simp at hu;subst hu;rfl) (by unfold maxLen;omega) (by omega) ?_;intro v2 w2 hsl2 hfr2;have HS2:=HARM.out v2 w2 hsl2 hfr2;obtain ⟨t2a,t2c,rfl⟩:=hsl2.shape;clear hsl2 hfr2 HARM HSL;have hrow:=HS2.out.blk 0 rfl;have d25:w2.cell? ⟨p,25,none⟩=some (.slice ta j tc):=aJ hrow rfl;have cf:=fun i=>aD hrow i;have HROW:=aQ hrow;clear hrow)
     have HS3:=aQ (HS2.out.set 0 rfl (rpRow { begR a j with tak:=List.replicate (j+1) ⟨0,0⟩ } ⟨.slice ra a.aZ.length rc,.slice (some ⟨b1,o1,none⟩) a.aX.length k1,.slice (some ⟨b2,o2,none⟩) a.aY.length k2,.slice none 0 0,.slice none 0 0,.slice t2a (j+1) t2c,gj,ej,av,sv,nv,hv,ch⟩) (w':=w2.setCell ⟨p,25,none⟩ (.slice t2a (j+1) t2c)) (by (repeat (first|(with_reducible (first|exact Fr.refl _ _|refine Fr.setCell ?_ ?_ _|refine Fr.drewN ?_ _|refine Fr.drew ?_))|exact Or.inl rfl))) (by have hr:=HROW.out;(apply aS;focus (with_reducible (repeat (first|exact hr|apply aU|apply aP|apply aF))));rfl))
     clear HS2 HROW d25 cf c25 c13 hvb c1
     generalize World.setCell w2 _ _=w3 at HS3 ⊢
     have hs3:dY F Z W (rpThs p { begR a j with tak:=List.replicate (j+1) ⟨0,0⟩ } ⟨.slice ra a.aZ.length rc,.slice (some ⟨b1,o1,none⟩) a.aX.length k1,.slice (some ⟨b2,o2,none⟩) a.aY.length k2,.slice none 0 0,.slice none 0 0,.slice t2a (j+1) t2c,gj,ej,av,sv,nv,hv,ch⟩++ts) w3:=HS3.out
     clear HS3
     have hrow:=hs3.blk 0 rfl
     have c1:w3.cell? ⟨p,1,none⟩=some (.slice ra a.aZ.length rc):=aJ hrow rfl
     have c26:w3.cell? ⟨p,26,none⟩=some gj:=aJ hrow rfl
     obtain ⟨_,_,hr⟩:=hs3.get 1 rfl
     obtain ⟨rb,ro,cs,e7,_,h7,h8⟩:=(show RdS dK w3 _ (.slice ra a.aZ.length rc) a.aZ from hr).at (by decide) (bT (d:=0) hlt)
     obtain rfl:cs=[.int .i64 (a.aZ.getD j 0:Int)]:=h7
     have hrm:=h8 0 _ rfl
     have hrm:w3.cell? ⟨rb,ro+j,none⟩=some (.int .i64 (a.aZ.getD j 0:Int)):=by simpa [dK] using hrm
     subst e7
     obtain ⟨_,_,hb7⟩:=hs3.get 7 rfl
     obtain ⟨ga,gc,e8,_,_,_⟩:=(show Sq eGv 100 w3 _ _ gj (begR a j).giv from hb7).le
     have hgl:=begR_giv a hj
     rw [hgl] at e8
     subst e8
     obtain ⟨Kx,us,hsl,hKn,hback⟩:=dY.appP pure_gv hs3.drew 7 rfl
     have hKp:¬Kx p:=hKn p 0 _ (by decide) rfl fun H Y h=>.inl h.2
     have hKr:¬Kx rb:=hKn rb 1 _ (by decide) rfl fun H Y h=>by
      obtain ⟨b',o',cs',e',hz,_⟩:=(show RdS dK w3.drew Y (.slice (some ⟨rb,ro,none⟩) a.aZ.length rc) a.aZ from h).at (by decide) (bT (d:=0) hlt)
      obtain ⟨rfl,rfl⟩:rb=b'/\ro=o':=by simpa using e'
      exact .inr hz
     have hsl':Sl w3.drew Kx 100 3 (.slice ga j gc) (begR a j).giv.length us:=hsl
     rw [hgl] at hsl'
     obtain ⟨room,hroom⟩:∃room,room=a.aZ.getD j 0:=⟨_,rfl⟩
     have HROOM:=aQ hroom
     rw [<-hroom] at hrm
     have hq26:=aI w3.drew (.cells #[.int .i64 (room:Int),.int .i64 (held:Int),.int .i64 0] 100) c26
     have hq1:=aI w3.drew (.cells #[.int .i64 (room:Int),.int .i64 (held:Int),.int .i64 0] 100) c1
     have hqr:=aI w3.drew (.cells #[.int .i64 (room:Int),.int .i64 (held:Int),.int .i64 0] 100) hrm
     have HARM:=aQ (fun (v2:Value) (w2:World) (hsl2:Sl w2 (fun k=>Kx k\/(w3.drew.alloc (.cells #[.int .i64 (room:Int),.int .i64 (held:Int),.int .i64 0] 100)).heap.size<=k) 100 3 v2 (j+1) (us++[.int .i64 (room:Int),.int .i64 (held:Int),.int .i64 0])) (hfr2:Fr Kx (w3.drew.alloc (.cells #[.int .i64 (room:Int),.int .i64 (held:Int),.int .i64 0] 100)) w2)=>
      show ∃ga2 gc2,v2=.slice ga2 (j+1) gc2/\w2.cell? ⟨p,26,none⟩=some (.slice ga j gc)/\w2.cell? ⟨p,1,none⟩=some (.slice (some ⟨rb,ro,none⟩) a.aZ.length rc)/\w2.cell? ⟨rb,ro+j,none⟩=some (.int .i64 (room:Int))/\Hid (dY F Z W ((rpThs p { begR a j with tak:=List.replicate (j+1) ⟨0,0⟩ } ⟨.slice (some ⟨rb,ro,none⟩) a.aZ.length rc,.slice (some ⟨b1,o1,none⟩) a.aX.length k1,.slice (some ⟨b2,o2,none⟩) a.aY.length k2,.slice none 0 0,.slice none 0 0,.slice t2a (j+1) t2c,.slice ga j gc,ej,av,sv,nv,hv,ch⟩).set 7 (tSq eGv 100 v2 (begR a (j+1)).giv)++ts) w2) from by
      obtain ⟨ga2,gc2,rfl⟩:=hsl2.shape
      have hl:∀b,¬Kx b->b < (w3.drew.alloc (.cells #[.int .i64 (room:Int),.int .i64 (held:Int),.int .i64 0] 100)).heap.size->w2.heap[b]? = (w3.drew.alloc (.cells #[.int .i64 (room:Int),.int .i64 (held:Int),.int .i64 0] 100)).heap[b]?:=fun b hn hl=>hfr2.block b hl hn
      have h1:=hback _ w2 ⟨room,held,0⟩ (.slice ga2 (j+1) gc2) (aK w3.drew _) (by
       show Sl w2 _ 100 3 _ ((begR a j).giv.length+1) _
       rw [hgl];exact hsl2) hfr2
      have e:(begR a j).giv++[⟨room,held,0⟩]=(begR a (j+1)).giv:=by rw [HROOM.out,HHELD.out];exact (giv_next a.cM (HBUF.out j) hlt).symm
      refine ⟨ga2,gc2,rfl,(World.cell?_of_block (hl p hKp (World.block_lt_of_cell? _ _ hq26))).trans hq26,(World.cell?_of_block (hl p hKp (World.block_lt_of_cell? _ _ hq26))).trans hq1,(World.cell?_of_block (hl rb hKr (World.block_lt_of_cell? _ _ hqr))).trans hqr,aQ ?_⟩
      rw [<-e];exact h1)
     have HSL:=aQ hsl'
     clear hrow hr h8 hb7 hsl hKn hback hsl' hs3 hroom
     go_wp2_with fail
     refine wp_region_lag 19 (S:=fun w'=>w'.cell? ⟨p,26,none⟩=some (.slice ga j gc)/\w'.cell? ⟨p,1,none⟩=some (.slice (some ⟨rb,ro,none⟩) a.aZ.length rc)/\w'.cell? ⟨rb,ro+j,none⟩=some (.int .i64 (room:Int))) (by kernel_rfl) ⟨c26,c1,hrm⟩ (fun hS0=>?_)
     change wpAnyL _ _ _ _ _ _ (5+15) _ _ _
     refine wpAnyL_take_n 0 15 (by kernel_rfl) hS0 (fun _ _ _ _ _ h=>h) ?_
     simp only [List.drop_zero,List.take_succ_cons,List.take_zero]
     iterate 15 (refine aR (v:=?_) (by rfl) ?_ ?_;rotate_left 1;(focus ((intro w' hS';obtain ⟨l1,l2,l3⟩:=hS';go_simp);try with_reducible rfl));simp only [Act.put,List.setIfInBounds_toArray,List.set_cons_zero,List.set_cons_succ])
     refine aT ?_
     refine wpAnyL_one 15 (by kernel_rfl) rfl (fun K hK=>?_)
     go_simp
     refine hK.out _ _ (fun _=>⟨hq26,hq1,hqr⟩) ?_
     clear hK K
     refine wpAnyL_one 16 (by kernel_rfl) rfl (fun K hK=>?_)
     refine step_app_sl slGv rfl _ _ rfl Kx (.slice ga j gc) j us rfl (HSL.out.alloc _) _ 1 [.int .i64 (room:Int),.int .i64 (held:Int),.int .i64 0] rfl (rd_three _ _ _ _ _ _ rfl) (by intro u hu;simp at hu;rcases hu with rfl|rfl|rfl <;> rfl) (by unfold maxLen;omega) (by omega) ?_
     intro v2 w2 hsl2 hfr2
     obtain ⟨ga2,gc2,rfl,e26,e1,er,HS2⟩:=HARM.out v2 w2 hsl2 hfr2
     clear hsl2 hfr2 HARM HSL
     have hrow:=HS2.out.blk 0 rfl
     have cf:=fun i=>aD hrow i
     have HROW:=aQ hrow
     clear hrow
     refine hK.out _ _ (fun _=>⟨e26,e1,er⟩) ?_
     clear hK K
     simp only [Act.put,List.setIfInBounds_toArray,List.set_cons_zero,List.set_cons_succ]
     refine wpAnyL_one 17 (by kernel_rfl) rfl (fun K hK=>?_)
     go_simp
     refine hK.out _ _ (fun _=>⟨e26,e1,er⟩) ?_
     clear hK K
     refine wpAnyL_one 18 (by kernel_rfl) rfl (fun K hK=>?_)
     go_simp
     refine hK.out _ _ (fun _=>⟨e26,e1,er⟩) ?_
     clear hK K
     refine wpAnyL_one 19 (by kernel_rfl) rfl (fun K hK=>?_)
     go_simp
     refine hK.out _ _ (fun e=>absurd rfl e) ?_
     clear hK K
     refine wpAnyL_done (by kernel_rfl) ?_ _
     have HS3:=aQ (HS2.out.set 0 rfl (rpRow { begR a j with tak:=List.replicate (j+1) ⟨0,0⟩,giv:=(begR a (j+1)).giv } ⟨.slice (some ⟨rb,ro,none⟩) a.aZ.length rc,.slice (some ⟨b1,o1,none⟩) a.aX.length k1,.slice (some ⟨b2,o2,none⟩) a.aY.length k2,.slice none 0 0,.slice none 0 0,.slice t2a (j+1) t2c,.slice ga2 (j+1) gc2,ej,av,sv,nv,hv,ch⟩) (w':=w2.setCell ⟨p,26,none⟩ (.slice ga2 (j+1) gc2)) (by (repeat (first|(with_reducible (first|exact Fr.refl _ _|refine Fr.setCell ?_ ?_ _|refine Fr.drewN ?_ _|refine Fr.drew ?_))|exact Or.inl rfl))) (by have hr:=HROW.out;(apply aS;focus (with_reducible (repeat (first|exact hr|apply aU|apply aP|apply aF))));rfl))
     clear HS2 HROW cf hq26 hq1 hqr hS0 c26 c1 hrm e26 e1 er
     generalize World.setCell w2 _ _=w4 at HS3 ⊢
     have hs4:dY F Z W (rpThs p { begR a j with tak:=List.replicate (j+1) ⟨0,0⟩,giv:=(begR a (j+1)).giv } ⟨.slice (some ⟨rb,ro,none⟩) a.aZ.length rc,.slice (some ⟨b1,o1,none⟩) a.aX.length k1,.slice (some ⟨b2,o2,none⟩) a.aY.length k2,.slice none 0 0,.slice none 0 0,.slice t2a (j+1) t2c,.slice ga2 (j+1) gc2,ej,av,sv,nv,hv,ch⟩++ts) w4:=HS3.out
     clear HS3
     have hrow:=hs4.blk 0 rfl
     have c1:w4.cell? ⟨p,1,none⟩=some (.slice (some ⟨rb,ro,none⟩) a.aZ.length rc):=aJ hrow rfl
     have c27:w4.cell? ⟨p,27,none⟩=some ej:=aJ hrow rfl
     obtain ⟨_,_,hb8⟩:=hs4.get 8 rfl
     obtain ⟨ea,ec,e8,_,_,_⟩:=(show Sq dK 3 w4 _ _ ej (begR a j).base from hb8).le
     have hgl:=begR_base bl hj
     rw [hgl] at e8
     subst e8
     obtain ⟨Kx,us,hsl,_,hback⟩:=dY.appP pure_nat hs4 8 rfl
     have hsl':Sl w4 Kx 3 1 (.slice ea j ec) (begR a j).base.length us:=hsl
     rw [hgl] at hsl'
     have HSL:=aQ hsl'
     have HARM:=aQ (fun (v2:Value) (w2:World) (hsl2:Sl w2 (fun k=>Kx k\/(w4.alloc (.cells #[.int .i64 (held:Int)] 3)).heap.size<=k) 3 1 v2 (j+1) (us++[.int .i64 (held:Int)])) (hfr2:Fr Kx (w4.alloc (.cells #[.int .i64 (held:Int)] 3)) w2)=>
      show Hid (dY F Z W ((rpThs p { begR a j with tak:=List.replicate (j+1) ⟨0,0⟩,giv:=(begR a (j+1)).giv } ⟨.slice (some ⟨rb,ro,none⟩) a.aZ.length rc,.slice (some ⟨b1,o1,none⟩) a.aX.length k1,.slice (some ⟨b2,o2,none⟩) a.aY.length k2,.slice none 0 0,.slice none 0 0,.slice t2a (j+1) t2c,.slice ga2 (j+1) gc2,.slice ea j ec,av,sv,nv,hv,ch⟩).set 8 (tSq dK 3 v2 (begR a (j+1)).base)++ts) w2) from by
      have h1:=hback _ w2 held v2 (aK w4 _) (by
       show Sl w2 _ 3 1 _ ((begR a j).base.length+1) _
       rw [hgl];exact hsl2) hfr2
      have e:(begR a j).base++[held]=(begR a (j+1)).base:=by rw [HHELD.out];exact (base_next a.cM (by omega)).symm
      rw [e] at h1
      exact aQ h1)
     clear hrow hb8 hsl hsl' hback hs4 hgl
     go_wp2_with (at_builtin;refine cQ slInt rfl _ _ rfl Kx (.slice ea j ec) j us rfl (HSL.out.alloc _) _ 1 [.int .i64 (held:Int)] rfl (rd_one _ _ _ _ rfl) (by intro u hu;simp at hu;subst hu;rfl) (by unfold maxLen;omega) (by omega) ?_;intro v2 w2 hsl2 hfr2;have HS2:=HARM.out v2 w2 hsl2 hfr2;obtain ⟨e2a,e2c,rfl⟩:=hsl2.shape;clear hsl2 hfr2 HARM HSL;have hrow:=HS2.out.blk 0 rfl;have d27:w2.cell? ⟨p,27,none⟩=some (.slice ea j ec):=aJ hrow rfl;have cf:=fun i=>aD hrow i;have HROW:=aQ hrow;clear hrow)
     have HS5:=aQ (HS2.out.set 0 rfl (rpRow (begR a (j+1)) ⟨.slice (some ⟨rb,ro,none⟩) a.aZ.length rc,.slice (some ⟨b1,o1,none⟩) a.aX.length k1,.slice (some ⟨b2,o2,none⟩) a.aY.length k2,.slice none 0 0,.slice none 0 0,.slice t2a (j+1) t2c,.slice ga2 (j+1) gc2,.slice e2a (j+1) e2c,av,sv,nv,hv,ch⟩) (w':=w2.setCell ⟨p,27,none⟩ (.slice e2a (j+1) e2c)) (by (repeat (first|(with_reducible (first|exact Fr.refl _ _|refine Fr.setCell ?_ ?_ _|refine Fr.drewN ?_ _|refine Fr.drew ?_))|exact Or.inl rfl))) (by have hr:=HROW.out;(apply aS;focus (with_reducible (repeat (first|exact hr|apply aU|apply aP|apply aF))));rfl))
     go_roundw
     case rel=>exact ⟨j+1,_,_,_,by omega,by go_num,HS5⟩
     case measure=>first|(simp [intOf];done)|(simp [intOf];omega)
    ·obtain rfl:a.aZ.length=j:=by omega
     have hrow:=HJ.out.blk 0 rfl
     have c1:wr.cell? ⟨p,1,none⟩=some (.slice ra a.aZ.length rc):=aJ hrow rfl
     clear hrow
     go_wp2_with fail
     go_end0
     exact ⟨rfl,by rw [<-begR_all bl];exact HJ.out.rp_shut⟩
end
end

section
open Go.RowKit
set_option maxRecDepth 100000
section
variable {F Z:BS} {W w:World} {ts:List Th} {p N:Nat} {a:Prt}
theorem rgreet_c (x:Pt) (pa:Option Addr) (pn pc:Nat) (hk:x.kind=1#8) (hok:a.Ok N) (hN:N<=1000000000) (hbuf:∀c,(a.aY.getD c []).length<=a.aZ.getD c 0) (h:dY F Z W (tRp p a::ts) w) :
  Calls Try.prog 41 #[.pointer (some ⟨p,0,none⟩),dH x (.slice pa pn pc)] w fun e w'=>e=.returned (.tuple #[])/\dY F Z W (tRp p (a.greet x)::ts) w':=by
 obtain ⟨y,hst⟩:=h.rp
 have h1:=(hst.new (bW x (.slice pa pn pc)))
 obtain ⟨rv,wv,bv,kv,cv,tv,gv,ev,av,sv,nv,hv,ch⟩:=y
 have H1:=aQ (show dY F Z W (rpThs p a ⟨rv,wv,bv,kv,cv,tv,gv,ev,av,sv,nv,hv,ch⟩++(ts++[dJ w.heap.size (bW x (.slice pa pn pc))])) (w.alloc (bW x (.slice pa pn pc))) by rw [<-List.append_assoc];exact h1)
 have hrow:=h1.blk 0 rfl
 have c5:(w.alloc (bW x (.slice pa pn pc))).cell? ⟨p,5,none⟩=some (.int .i64 (a.cS.mine:Int)):=aJ hrow rfl
 have c6:(w.alloc (bW x (.slice pa pn pc))).cell? ⟨p,6,none⟩=some (.int .i64 (a.cS.dead:Int)):=aJ hrow rfl
 have c7:(w.alloc (bW x (.slice pa pn pc))).cell? ⟨p,7,none⟩=some (.int .i64 (a.cS.cM:Int)):=aJ hrow rfl
 have c8:(w.alloc (bW x (.slice pa pn pc))).cell? ⟨p,8,none⟩=some (.int .i64 (a.cS.seen:Int)):=aJ hrow rfl
 have c9:(w.alloc (bW x (.slice pa pn pc))).cell? ⟨p,9,none⟩=some (.int .i64 (a.cS.state:Int)):=aJ hrow rfl
 have c10:(w.alloc (bW x (.slice pa pn pc))).cell? ⟨p,10,none⟩=some (.int .i64 (a.cS.silent:Int)):=aJ hrow rfl
 have c11:(w.alloc (bW x (.slice pa pn pc))).cell? ⟨p,11,none⟩=some (.int .i64 ch):=aJ hrow rfl
 obtain ⟨k0,k1,k2,k3,_⟩:=pt_cells (heap_alloc_new w (bW x (.slice pa pn pc)))
 have b2:((U x.kind:Int) == 1)=true:=by rw [hk];rfl
 have HOK:=aQ hok
 have HBUF:=aQ hbuf
 clear hst h1 hrow h hok hk hbuf k1
 go_enter Try.func41,Try.ntmps41
 go_wp2_with fail
 generalize w.alloc (bW x (.slice pa pn pc))=w1 at *
 refine wp_region_lag 12 (S:=fun w'=>(w'.cell? ⟨p,5,none⟩=some (.int .i64 (a.cS.mine:Int))/\w'.cell? ⟨p,6,none⟩=some (.int .i64 (a.cS.dead:Int))/\w'.cell? ⟨p,7,none⟩=some (.int .i64 (a.cS.cM:Int))/\w'.cell? ⟨p,8,none⟩=some (.int .i64 (a.cS.seen:Int))/\w'.cell? ⟨p,9,none⟩=some (.int .i64 (a.cS.state:Int))/\w'.cell? ⟨p,10,none⟩=some (.int .i64 (a.cS.silent:Int))/\w'.cell? ⟨p,11,none⟩=some (.int .i64 ch))/\w'.cell? ⟨w.heap.size,2,none⟩=some (.int .i64 x.number)/\w'.cell? ⟨w.heap.size,3,none⟩=some (.int .i64 x.value)) (by kernel_rfl) ⟨⟨c5,c6,c7,c8,c9,c10,c11⟩,k2,k3⟩ (fun hS0=>?_)
 change wpAnyL _ _ _ _ _ _ (4+9) _ _ _
 refine wpAnyL_take_n 0 9 (by kernel_rfl) hS0 (fun _ _ _ _ _ h=>h) ?_
 simp only [List.drop_zero,List.take_succ_cons,List.take_zero]
 iterate 9 (refine aR (v:=?_) (by rfl) ?_ ?_;rotate_left 1;(focus ((intro w' hS';obtain ⟨⟨l1,l2,l3,l4,l5,l6,l7⟩,l8,l9⟩:=hS';go_simp);try with_reducible rfl));simp only [Act.put,List.setIfInBounds_toArray,List.set_cons_zero,List.set_cons_succ])
 refine aT ?_
 refine wpAnyL_one 9 (by kernel_rfl) rfl (fun K hK=>?_)
 (refine step_call (f:=?_) (args:=?_) (by rfl) ?_ ?_;rotate_left 2;(focus (go_simp;first|(with_reducible rfl)|(refine ⟨?_,?_⟩ <;> with_reducible rfl)));(refine (rsideRec_any a.cS ch x.number x.value _).mono ?_);rintro e w3 ⟨ch2,rfl,hb3⟩)
 refine ⟨_,rfl,?_⟩
 simp only [Act.put,List.setIfInBounds_toArray,List.set_cons_zero,List.set_cons_succ]
 have hb4:Below w1.heap.size w1 w3:=Below.trans (by (with_reducible (repeat (first|exact Below.refl _ _|refine Bw.alloc ?_ _|refine Bw.drewN ?_ _|refine Bw.drew ?_)))) hb3
 have hs3:=H1.out.own hb4
 have hrow:=hs3.blk 0 rfl
 have d5:w3.cell? ⟨p,5,none⟩=some (.int .i64 (a.cS.mine:Int)):=aJ hrow rfl
 have d6:w3.cell? ⟨p,6,none⟩=some (.int .i64 (a.cS.dead:Int)):=aJ hrow rfl
 have d7:w3.cell? ⟨p,7,none⟩=some (.int .i64 (a.cS.cM:Int)):=aJ hrow rfl
 have d8:w3.cell? ⟨p,8,none⟩=some (.int .i64 (a.cS.seen:Int)):=aJ hrow rfl
 have d9:w3.cell? ⟨p,9,none⟩=some (.int .i64 (a.cS.state:Int)):=aJ hrow rfl
 have d10:w3.cell? ⟨p,10,none⟩=some (.int .i64 (a.cS.silent:Int)):=aJ hrow rfl
 have d11:w3.cell? ⟨p,11,none⟩=some (.int .i64 ch):=aJ hrow rfl
 have cf:=fun i=>aD hrow i
 have hbx:=hs3.lastBlk (us:=rpThs p a ⟨rv,wv,bv,kv,cv,tv,gv,ev,av,sv,nv,hv,ch⟩)
 obtain ⟨_,_,k2',k3',_⟩:=pt_cells hbx
 refine hK.out _ _ (fun _=>⟨⟨d5,d6,d7,d8,d9,d10,d11⟩,k2',k3'⟩) ?_
 clear hK K
 refine wpAnyL_one 10 (by kernel_rfl) rfl (fun K hK=>?_)
 go_simp
 refine hK.out _ _ (fun _=>⟨⟨d5,d6,d7,d8,d9,d10,d11⟩,k2',k3'⟩) ?_
 clear hK K
 refine wpAnyL_one 11 (by kernel_rfl) rfl (fun K hK=>?_)
 go_simp
 refine hK.out _ _ (fun _=>⟨⟨d5,d6,d7,d8,d9,d10,d11⟩,k2',k3'⟩) ?_
 clear hK K
 refine wpAnyL_one 12 (by kernel_rfl) rfl (fun K hK=>?_)
 go_simp
 refine hK.out _ _ (fun e=>absurd rfl e) ?_
 clear hK K
 refine wpAnyL_done (by kernel_rfl) ?_ _
 obtain ⟨s2,hs2⟩:∃s2,s2=a.cS.cO x.number x.value:=⟨_,rfl⟩
 have HS2:=aQ hs2
 rw [<-hs2]
 have HS4:=aQ (hs3.set 0 rfl (rpRow { a with cS:=s2 } ⟨rv,wv,bv,kv,cv,tv,gv,ev,av,sv,nv,hv,ch2⟩) (w':=((((((w3.setCell ⟨p,5,none⟩ (.int .i64 s2.mine)).setCell ⟨p,6,none⟩ (.int .i64 s2.dead)).setCell ⟨p,7,none⟩ (.int .i64 s2.cM)).setCell ⟨p,8,none⟩ (.int .i64 s2.seen)).setCell ⟨p,9,none⟩ (.int .i64 s2.state)).setCell ⟨p,10,none⟩ (.int .i64 s2.silent)).setCell ⟨p,11,none⟩ (.int .i64 ch2)) (by (repeat (first|(with_reducible (first|exact Fr.refl _ _|refine Fr.setCell ?_ ?_ _|refine Fr.drewN ?_ _|refine Fr.drew ?_))|exact Or.inl rfl))) (by (apply aS;focus (with_reducible (repeat (first|exact hrow|apply aU|apply aP|apply aF))));rfl))
 clear hs3 hrow d5 d6 d7 d8 d9 d10 d11 cf hbx k2' k3' hS0 hb3 hb4 hs2 c5 c6 c7 c8 c9 c10 c11 k0 k2 k3 H1
 generalize World.setCell (World.setCell (World.setCell (World.setCell (World.setCell (World.setCell (World.setCell w3 _ _) _ _) _ _) _ _) _ _) _ _) _ _=w4 at HS4 ⊢
 have hs4:dY F Z W (rpThs p { a with cS:=s2 } ⟨rv,wv,bv,kv,cv,tv,gv,ev,av,sv,nv,hv,ch2⟩++(ts++[dJ w.heap.size (bW x (.slice pa pn pc))])) w4:=HS4.out
 have hrow:=hs4.blk 0 rfl
 have c7:w4.cell? ⟨p,7,none⟩=some (.int .i64 (s2.cM:Int)):=aJ hrow rfl
 have c14:w4.cell? ⟨p,14,none⟩=some (.int .i64 (a.cM:Int)):=aJ hrow rfl
 have cf:=fun i=>aD hrow i
 have HROW:=aQ hrow
 clear hs4 hrow
 by_cases h0:s2.cM=0
 ·have b0:((s2.cM:Int) != 0)=false:=by simp [h0]
  have HG:=aQ (show a.greet x={ a with cS:=s2 } by
   unfold Prt.greet;dsimp only;rw [<-HS2.out,if_neg (fun h=>h.1 h0)])
  clear h0
  go_wp2_with fail
  go_quiet (fail)
  go_wp2_with fail
  refine bodyPost_ret (v:=.tuple #[]) (by simp [results,Try.results41,go_sem]) rfl ?_
  refine ⟨rfl,?_⟩
  rw [HG.out]
  exact (HS4.out.own (bS _ _)).dropLast.rp_shut
 ·have b0:((s2.cM:Int) != 0)=true:=by simp;omega
  by_cases h1:s2.cM=a.cM
  ·have b1:((s2.cM:Int) != (a.cM:Int))=false:=by simp [h1]
   have HG:=aQ (show a.greet x={ a with cS:=s2 } by
    unfold Prt.greet;dsimp only;rw [<-HS2.out,if_neg (fun h=>h.2 h1)])
   clear h0 h1
   go_wp2_with fail
   go_quiet (fail)
   go_wp2_with fail
   refine bodyPost_ret (v:=.tuple #[]) (by simp [results,Try.results41,go_sem]) rfl ?_
   refine ⟨rfl,?_⟩
   rw [HG.out]
   exact (HS4.out.own (bS _ _)).dropLast.rp_shut
  ·have b1:((s2.cM:Int) != (a.cM:Int))=true:=by simp;omega
   have HG:=aQ (show a.greet x=({ a with cS:=s2,cM:=s2.cM }:Prt).begin s2.cM by
    unfold Prt.greet;dsimp only;rw [<-HS2.out,if_pos ⟨h0,h1⟩];rfl)
   clear h0 h1
   go_wp2_with fail
   go_quiet (fail)
   go_wp2_with fail
   refine (rbegin_c (p:=p) (a:={ a with cS:=s2,cM:=s2.cM }) (N:=N) (ts:=ts++[dJ w.heap.size (bW x (.slice pa pn pc))]) (F:=F) (Z:=Z) (W:=W) ⟨HOK.out.n1,HOK.out.n4,HOK.out.wl,HOK.out.bl,HOK.out.beg.kl,HOK.out.wln,HOK.out.bln⟩ hN HOK.out.cT.symm HOK.out.kcl HBUF.out (by
    refine dY.rp_shut (x:=⟨rv,wv,bv,kv,cv,tv,gv,ev,av,sv,nv,hv,ch2⟩) ?_
    refine dY.set (HS4.out.own (bS _ _)) 0 rfl (rpRow { a with cS:=s2,cM:=s2.cM } ⟨rv,wv,bv,kv,cv,tv,gv,ev,av,sv,nv,hv,ch2⟩) (by (repeat (first|(with_reducible (first|exact Fr.refl _ _|refine Fr.setCell ?_ ?_ _|refine Fr.drewN ?_ _|refine Fr.drew ?_))|exact Or.inl rfl))) ?_
    have hr:=HROW.out
    (apply aS;focus (with_reducible (repeat (first|exact hr|apply aU|apply aP|apply aF))))
    rfl)).mono ?_
   rintro e w5 ⟨rfl,hh⟩
   have HH:=aQ hh
   clear hh
   go_wp2_with fail
   refine bodyPost_ret (v:=.tuple #[]) (by simp [results,Try.results41,go_sem]) rfl ?_
   refine ⟨rfl,?_⟩
   rw [HG.out]
   exact dY.dropLast (us:=[tRp p _]) HH.out
end
end

end Go.Proofs.Ytbgjpfbcelkllaa
