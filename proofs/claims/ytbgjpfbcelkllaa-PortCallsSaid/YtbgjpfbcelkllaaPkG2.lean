/- Lemmas of this proof (texts PorS PorT PorW PorX PorY PotA PotB PotC PotP). -/
import Derived.Test.YtbgjpfbcelkllaaPkG1
import Derived.Deep.CutBlock
import Derived.StillTailTactics
namespace Go.Proofs.Ytbgjpfbcelkllaa
set_option maxHeartbeats 64000000
section
open Go.RowKit
abbrev portRowG (a:Prt) (x:PV) (v10 v11 v12 v13:Value):Obj:=
 .cells #[.int .i64 (a.inc:Int),x.rv,.int .i64 (a.cA:Int),.int .i64 (a.aN:Int),.int .i64 (a.dead:Int),.pointer (some ⟨x.sp,0,none⟩),.pointer (some ⟨x.ap,0,none⟩),x.wv,x.bv,.int .i64 (a.cM:Int),
  v10,v11,v12,v13,x.bsv,x.kv,x.acv,x.rev,x.tav,.int .i64 (a.bL:Int)] 80
def again (cT:List (Nat × dV)) (c:Nat):List dV:=(cT.filter fun f=>f.1 == c).map (·.2)
theorem again_snoc {cT:List (Nat × dV)} {k c:Nat} {f:Nat × dV} (hk:cT[k]? = some f):again (cT.take (k+1)) c=again (cT.take k) c++(if f.1 == c then [f.2] else []):=by
 unfold again
 rw [List.take_succ_eq_append_getElem (aA hk),List.filter_append,List.map_append]
 have:cT[k]'(aA hk)=f:=by rw [List.getElem?_eq_getElem (aA hk)] at hk;exact Option.some.inj hk
 rw [this]
 congr 1
 by_cases h:(f.1 == c)=true
 ·rw [if_pos h];simp only [List.filter,h];rfl
 ·have h':(f.1 == c)=false:=by simpa using h
  rw [if_neg h];simp only [List.filter,h'];rfl
theorem again_le (cT:List (Nat × dV)) (c:Nat):(again cT c).length<=cT.length:=by
 unfold again;rw [List.length_map];exact List.length_filter_le _ _
def cZ (p:Prt) (j:Nat):List (List dV):=(List.range p.aX.length).map fun c=>if c < j then again p.cT c++p.aX.getD c [] else p.aX.getD c []
theorem waitTo_length (p:Prt) (j:Nat):(cZ p j).length=p.aX.length:=by simp [cZ]
theorem waitTo_zero (p:Prt):cZ p 0=p.aX:=by
 apply List.ext_getElem
 ·simp [cZ]
 ·intro i h1 h2;simp [cZ,List.getD,h2]
theorem waitTo_get {p:Prt} {j:Nat} (hj:j < p.aX.length):(cZ p j)[j]? = some (p.aX.getD j []):=by
 unfold cZ
 rw [List.getElem?_map,List.getElem?_range hj,Option.map_some,if_neg (by omega)]
theorem waitTo_set {p:Prt} {j:Nat}:(cZ p j).set j (again p.cT j++p.aX.getD j [])=cZ p (j+1):=by
 apply List.ext_getElem?
 intro i
 rw [List.getElem?_set]
 unfold cZ
 by_cases hij:j=i
 ·subst hij
  rw [if_pos rfl]
  by_cases hl:j < p.aX.length
  ·rw [if_pos (by simpa using hl),List.getElem?_map,List.getElem?_range hl,Option.map_some,if_pos (by omega)]
  ·rw [if_neg (by simpa using hl),List.getElem?_map,List.getElem?_eq_none (by simp;omega)];rfl
 ·rw [if_neg hij,List.getElem?_map,List.getElem?_map]
  by_cases hl:i < p.aX.length
  ·rw [List.getElem?_range hl,Option.map_some,Option.map_some]
   by_cases h:i < j
   ·simp only [if_pos h,if_pos (show i < j+1 by omega)]
   ·simp only [if_neg h,if_neg (show ¬i < j+1 by omega)]
  ·rw [List.getElem?_eq_none (by simp;omega)];rfl
theorem waitTo_all (p:Prt):cZ p p.aX.length=(List.range p.aX.length).map fun c=>((p.cT.filter fun f=>f.1 == c).map (·.2))++p.aX.getD c []:=by
 unfold cZ
 refine List.map_congr_left fun c hc=>?_
 rw [if_pos (by simpa using hc)];rfl
theorem kept_at {T:TypeId} {w:World} {F Z:BS} {b off n cap:Nat} {ks:List (Nat × List (BitVec 8))} {i c:Nat} {d:List (BitVec 8)} (h:Sq eKept T w F Z (.slice (some ⟨b,off,none⟩) n cap) ks) (hi:ks[i]? = some (c,d)) :
  ∃v,w.cell? ⟨b,off+i*2,none⟩=some (.int .i64 (c:Int))/\w.cell? ⟨b,off+i*2+1,none⟩=some v/\ByZ w Z v d:=by
 obtain ⟨b',off',cs,A,e,_,h2,_,h4⟩:=h.at (by decide:0 < 2) hi
 obtain ⟨rfl,rfl⟩:b=b'/\off=off':=by simpa using e
 obtain ⟨c1,d1,G,H,rfl,_,_,_,h5,v,rfl,h6⟩:=h2
 obtain rfl:c1=[.int .i64 (c:Int)]:=h5
 exact ⟨v,h4 0 _ rfl,h4 1 _ rfl,h6⟩
def upTo {α : Type} (n:Nat) (f g:Nat -> α) (j:Nat):List α:=(List.range n).map fun i=>if i < j then f i else g i
theorem upTo_length {α : Type} (n:Nat) (f g:Nat -> α) (j:Nat):(upTo n f g j).length=n:=by simp [upTo]
theorem upTo_zero {α : Type} (n:Nat) (f g:Nat -> α):upTo n f g 0=(List.range n).map g:=by
 unfold upTo
 exact List.map_congr_left fun i _=>if_neg (by omega)
theorem upTo_all {α : Type} (n:Nat) (f g:Nat -> α):upTo n f g n=(List.range n).map f:=by
 unfold upTo
 exact List.map_congr_left fun i hi=>if_pos (by simpa using hi)
theorem upTo_get {α : Type} {n:Nat} {f g:Nat -> α} {j:Nat} (hj:j < n):(upTo n f g j)[j]? = some (g j):=by
 unfold upTo
 rw [List.getElem?_map,List.getElem?_range hj,Option.map_some,if_neg (by omega)]
theorem upTo_set {α : Type} {n:Nat} {f g:Nat -> α} {j:Nat}:(upTo n f g j).set j (f j)=upTo n f g (j+1):=by
 apply List.ext_getElem?
 intro i
 rw [List.getElem?_set]
 unfold upTo
 by_cases hij:j=i
 ·subst hij
  rw [if_pos rfl]
  by_cases hl:j < n
  ·rw [if_pos (by simpa using hl),List.getElem?_map,List.getElem?_range hl,Option.map_some,if_pos (by omega)]
  ·rw [if_neg (by simpa using hl),List.getElem?_map,List.getElem?_eq_none (by simp;omega)];rfl
 ·rw [if_neg hij,List.getElem?_map,List.getElem?_map]
  by_cases hl:i < n
  ·rw [List.getElem?_range hl,Option.map_some,Option.map_some]
   by_cases h:i < j
   ·simp only [if_pos h,if_pos (show i < j+1 by omega)]
   ·simp only [if_neg h,if_neg (show ¬i < j+1 by omega)]
  ·rw [List.getElem?_eq_none (by simp;omega)];rfl
theorem map_getD {α : Type} (l:List α) (d : α):(List.range l.length).map (fun i=>l.getD i d)=l:=by
 apply List.ext_getElem
 ·simp
 ·intro i h1 h2;simp [List.getD,h2]
theorem held_eq (r:Nat):∀k,Giv.held ⟨r,0,0⟩ k=⟨r,min k r,0⟩
 |0=>by simp [Giv.held]
 |k+1=>by
  unfold Giv.held
  rw [held_eq r k]
  unfold Giv.cO Giv.cE
  split
  ·rename_i h;simp only [Giv.mk.injEq,true_and,and_true];dsimp only at h;omega
  ·rename_i h;simp only [Giv.mk.injEq,true_and,and_true];dsimp only at h;omega
abbrev givB (a:Prt) (j:Nat):List Giv:=upTo a.aZ.length (fun i=>⟨a.aZ.getD i 0,min (a.aY.getD i []).length (a.aZ.getD i 0),0⟩) (fun i=>⟨a.aZ.getD i 0,0,0⟩) j
abbrev baseB (a:Prt) (j:Nat):List Nat:=upTo a.aZ.length (fun i=>(a.aY.getD i []).length) (fun i=>a.base.getD i 0) j
theorem givB_zero (a:Prt):givB a 0=a.aZ.map fun r=>⟨r,0,0⟩:=by
 rw [givB,upTo_zero]
 conv=>rhs;rw [<-map_getD a.aZ 0]
 rw [List.map_map];rfl
theorem givB_all (a:Prt) (cM:Nat):givB a a.aZ.length=(a.begin cM).giv:=by
 rw [givB,upTo_all]
 unfold Prt.begin
 refine List.map_congr_left fun i _=>?_
 rw [held_eq]
theorem baseB_zero {a:Prt} (h:a.base.length=a.aZ.length):baseB a 0=a.base:=by
 rw [baseB,upTo_zero,<-h,map_getD]
theorem baseB_all {a:Prt} (h:a.aY.length=a.aZ.length) (cM:Nat):baseB a a.aZ.length=(a.begin cM).base:=by
 rw [baseB,upTo_all]
 unfold Prt.begin
 dsimp only
 conv=>rhs;rw [<-map_getD a.aY []]
 rw [List.map_map,h];rfl
structure Prt.Beg (N:Nat) (p:Prt):Prop where
 n1:1<=p.aZ.length
 n4:p.aZ.length<=4
 rm:∀x ∈ p.aZ,1<=x/\x<=64
 w1:1<=p.cA
 w2:p.cA<=128
 t1:1<=p.aN
 t2:p.aN<=1000
 wl:p.aX.length=p.aZ.length
 bl:p.aY.length=p.aZ.length
 sl:p.base.length=p.aZ.length
 kl:p.cT.length<=128
 wln:∀l ∈ p.aX,l.length<=N
 bln:∀l ∈ p.aY,l.length<=N
abbrev begThs (p:Nat) (a:Prt) (x:PV) (v10 v11 v12 v13:Value):List Th:=
 [dJ p (portRowG a x v10 v11 v12 v13),tSq dK 3 x.rv a.aZ,tSq (eSq eBy 27) 54 x.wv a.aX,tSq (eSq eBy 27) 54 x.bv a.aY,tSq dK 3 x.bsv a.base,tSq eKept 114 x.kv a.cT]
def BegPost (F Z:BS) (W:World) (ts:List Th) (p:Nat) (a:Prt) (x:PV) (cM:Nat) (e:Ending) (w':World):Prop:=
 e=.returned (.tuple #[])/\∃(snp rcp tkp gvp:Nat),dY F Z W ([dJ p (portRow (a.begin cM) { x with snp:=snp,rcp:=rcp,tkp:=tkp,gvp:=gvp,kv:=.slice none 0 0 }),tSq dK 3 x.rv a.aZ,tSq (eSq eBy 27) 54 x.wv (a.begin cM).aX,tSq (eSq eBy 27) 54 x.bv a.aY,
  tSq dK 3 x.bsv (a.begin cM).base,tSq eKept 114 (.slice none 0 0) [],tSnd snp (a.begin cM).snd,tRcv rcp 0,tTak tkp (a.begin cM).tak,tGiv gvp (a.begin cM).giv]++ts) w'
theorem bB {w:World} {p:Nat} {a:Prt} {x:PV} {v10 v11 v12 v13:Value} (h:w.heap[p]? = some (portRowG a x v10 v11 v12 v13)) :
  w.cell? ⟨p,1,none⟩=some x.rv/\w.cell? ⟨p,2,none⟩=some (.int .i64 (a.cA:Int))/\w.cell? ⟨p,3,none⟩=some (.int .i64 (a.aN:Int))/\w.cell? ⟨p,7,none⟩=some x.wv/\w.cell? ⟨p,8,none⟩=some x.bv/\w.cell? ⟨p,9,none⟩=some (.int .i64 (a.cM:Int)) /\
  w.cell? ⟨p,10,none⟩=some v10/\w.cell? ⟨p,11,none⟩=some v11/\w.cell? ⟨p,12,none⟩=some v12/\w.cell? ⟨p,13,none⟩=some v13/\w.cell? ⟨p,14,none⟩=some x.bsv/\w.cell? ⟨p,15,none⟩=some x.kv:=
 ⟨aJ h rfl,aJ h rfl,aJ h rfl,aJ h rfl,aJ h rfl,aJ h rfl,aJ h rfl,aJ h rfl,aJ h rfl,aJ h rfl,aJ h rfl,aJ h rfl⟩
end

section
open Go.RowKit
theorem dY.adds0 {F Z:BS} {W w:World} {ts:List Th} {α : Type} {E:El α} {T:TypeId} (h:dY F Z W ts w):dY F Z W (tSq E T (.slice none 0 0) []::ts) w:=
 (h.add (Below.refl _ _) (T:=tSq E T (.slice none 0 0) []) (Sq.nil _ _ _ _ _)).front
set_option maxRecDepth 100000 in
theorem begin_h {F Z:BS} {W w:World} {ts:List Th} {p N:Nat} {a:Prt} {x:PV} {v10 v11 v12 v13:Value} (hok:a.Beg N) (hN:N<=1000000000) (cM:Nat) (h:dY F Z W (begThs p a x v10 v11 v12 v13++ts) w) :
  Calls Try.prog 27 #[.pointer (some ⟨p,0,none⟩),.int .i64 (cM:Int)] w (BegPost F Z W ts p a x cM):=by
 obtain ⟨rv,sp,ap,wv,bv,snp,rcp,tkp,gvp,bsv,kv,acv,rev,tav⟩:=x
 have n1:=hok.n1;have n4:=hok.n4;have wl:=hok.wl;have bl:=hok.bl;have sl:=hok.sl;have hkl:=hok.kl
 obtain ⟨_,_,hr⟩:=h.get 1 rfl
 obtain ⟨rb,ro,rc,e1,_,_⟩:=bR (show Sq dK 3 w _ _ rv a.aZ from hr) n1
 obtain ⟨_,_,hwt⟩:=h.get 2 rfl
 obtain ⟨wb,wo,wk,e2,w1',_⟩:=bR (show Sq (eSq eBy 27) 54 w _ _ wv a.aX from hwt) (by omega)
 obtain ⟨_,_,hbf⟩:=h.get 3 rfl
 obtain ⟨bb,bo,bc,e3,b1',_⟩:=bR (show Sq (eSq eBy 27) 54 w _ _ bv a.aY from hbf) (by omega)
 obtain ⟨_,_,hbs⟩:=h.get 4 rfl
 obtain ⟨sb,so,sc,e4,s1',_⟩:=bR (show Sq dK 3 w _ _ bsv a.base from hbs) (by omega)
 obtain ⟨_,_,hkp⟩:=h.get 5 rfl
 obtain ⟨ka,kc,e5,hk1,hk2,hk3⟩:=Sq.le (show Sq eKept 114 w _ _ kv a.cT from hkp)
 subst e1 e2 e3 e4 e5
 clear hr hwt hbf hbs hkp
 have HOK:=aQ hok
 have HWL:=aQ wl;have HBL:=aQ bl;have HSL:=aQ sl;have HKL:=aQ hkl
 have HH:=aQ h
 have hrow:=h.blk 0 rfl
 have c7:=(bB hrow).2.2.2.1
 dsimp only at c7
 rw [wl] at c7
 unfold maxLen at hk2
 clear hrow h hok
 go_enter Try.func27,Try.ntmps27
 go_upto_block 0 with fail
 go_cut [] from 4 (fun wx=>Hid (dY F Z W (begThs p { a with aX:=cZ a a.aX.length } ⟨.slice (some ⟨rb,ro,none⟩) a.aZ.length rc,sp,ap,.slice (some ⟨wb,wo,none⟩) a.aX.length wk,.slice (some ⟨bb,bo,none⟩) a.aY.length bc,snp,rcp,tkp,gvp,.slice (some ⟨sb,so,none⟩) a.base.length sc,.slice ka a.cT.length kc,acv,rev,tav⟩ v10 v11 v12 v13++ts) wx))
 case first=>
  go_wp2_with fail
  go_loopw [15] (fun i wr=>∃j:Nat,j<=a.aZ.length/\i=.int .i64 (j:Int)/\Hid (dY F Z W (begThs p { a with aX:=cZ a j } ⟨.slice (some ⟨rb,ro,none⟩) a.aZ.length rc,sp,ap,.slice (some ⟨wb,wo,none⟩) a.aX.length wk,.slice (some ⟨bb,bo,none⟩) a.aY.length bc,snp,rcp,tkp,gvp,.slice (some ⟨sb,so,none⟩) a.base.length sc,.slice ka a.cT.length kc,acv,rev,tav⟩ v10 v11 v12 v13++ts) wr)) (fun i _=>a.aZ.length - (intOf i).toNat)
  case atStart=>exact ⟨0,Nat.zero_le _,rfl,aQ (by rw [waitTo_zero];exact HH.out)⟩
  case round=>
   clear HH c7
   obtain ⟨j,hj,rfl,HJ⟩:=hrel
   by_cases hlt:j < a.aZ.length
   ·have hrow:=HJ.out.blk 0 rfl
    have c15:=(bB hrow).2.2.2.2.2.2.2.2.2.2.2
    dsimp only at c15
    clear hrow
    go_upto_block 2 with fail
    have HN:=aQ (show dY F Z W (tSq eBy 27 (.slice none 0 0) []::(begThs p { a with aX:=cZ a j } ⟨.slice (some ⟨rb,ro,none⟩) a.aZ.length rc,sp,ap,.slice (some ⟨wb,wo,none⟩) a.aX.length wk,.slice (some ⟨bb,bo,none⟩) a.aY.length bc,snp,rcp,tkp,gvp,.slice (some ⟨sb,so,none⟩) a.base.length sc,.slice ka a.cT.length kc,acv,rev,tav⟩ v10 v11 v12 v13++ts)) wr from HJ.out.adds0)
    go_cut [5,7,15] from 15 to 52 (fun u5 u7 u15 wy=>u15=.int .i64 (j:Int)/\∃(a5:Option Addr) (c5:Nat),u5=.slice a5 (again a.cT j).length c5/\Hid (dY F Z W (tSq eBy 27 (.slice a5 (again a.cT j).length c5) (again a.cT j)::(begThs p { a with aX:=cZ a j } ⟨.slice (some ⟨rb,ro,none⟩) a.aZ.length rc,sp,ap,.slice (some ⟨wb,wo,none⟩) a.aX.length wk,.slice (some ⟨bb,bo,none⟩) a.aY.length bc,snp,rcp,tkp,gvp,.slice (some ⟨sb,so,none⟩) a.base.length sc,.slice ka a.cT.length kc,acv,rev,tav⟩ v10 v11 v12 v13++ts)) wy))
    case first=>
     go_wp2_with fail
     go_loopw [23,5,7] (fun i u5 _ wy=>∃(k:Nat) (a5:Option Addr) (c5:Nat),k<=a.cT.length/\i=.int .i64 (k:Int)/\u5=.slice a5 (again (a.cT.take k) j).length c5/\Hid (dY F Z W (tSq eBy 27 (.slice a5 (again (a.cT.take k) j).length c5) (again (a.cT.take k) j)::(begThs p { a with aX:=cZ a j } ⟨.slice (some ⟨rb,ro,none⟩) a.aZ.length rc,sp,ap,.slice (some ⟨wb,wo,none⟩) a.aX.length wk,.slice (some ⟨bb,bo,none⟩) a.aY.length bc,snp,rcp,tkp,gvp,.slice (some ⟨sb,so,none⟩) a.base.length sc,.slice ka a.cT.length kc,acv,rev,tav⟩ v10 v11 v12 v13++ts)) wy)) (fun i _ _ _=>a.cT.length - (intOf i).toNat)
     case atStart=>exact ⟨0,none,0,Nat.zero_le _,rfl,rfl,HN⟩
     case round=>
      clear HN c15
      obtain ⟨k,a5,c5,hk,rfl,rfl,HK⟩:=hrel
      by_cases hlk:k < a.cT.length
      ·obtain ⟨⟨fc,fd⟩,hx⟩:∃f,a.cT[k]? = some f:=⟨_,List.getElem?_eq_getElem hlk⟩
       have hsn:=again_snoc (c:=j) hx
       have hal:=again_le (a.cT.take k) j
       rw [List.length_take,Nat.min_eq_left hk] at hal
       obtain ⟨_,_,hkp⟩:=HK.out.get 6 rfl
       obtain ⟨kb,ko,kcc,e5,_,_⟩:=bR (show Sq eKept 114 wr _ _ (.slice ka a.cT.length kc) a.cT from hkp) (by omega)
       obtain ⟨rfl,rfl⟩:ka=some ⟨kb,ko,none⟩/\kc=kcc:=by simpa using e5
       obtain ⟨v,k0,k1,hby⟩:=kept_at hkp hx
       obtain ⟨va,vc,rfl⟩:=hby.slice
       obtain ⟨ys,hys⟩:∃ys,ys=again (a.cT.take k) j:=⟨_,rfl⟩
       rw [<-hys] at HK hal hsn
       have HYS:=aQ hys
       have HX:=aQ hx
       have HSN:=aQ hsn
       rw [<-hys]
       clear hkp hby e5 hys hx hsn
       by_cases hfj:fc=j
       ·subst hfj
        have hbox:=aK wr (.cells #[.int .i64 (fc:Int),.slice va fd.length vc] 114)
        obtain ⟨Kx,us,Yx,hsl,_,hoth,hback⟩:=HK.out.appY 0 rfl
        have hby2:ByZ wr Yx (.slice va fd.length vc) fd:=by
         obtain ⟨H,_,hh⟩:=hoth 6 _ (by decide) rfl
         obtain ⟨v',_,e,hb⟩:=kept_at (show Sq eKept 114 wr H Yx (.slice (some ⟨kb,ko,none⟩) a.cT.length kc) a.cT from hh) HX.out
         rw [k1] at e
         cases e
         exact hb
        have HARM:=aQ (fun (v2:Value) (w2:World) (w1:World) (hb:Below wr.heap.size wr w1) (hsl2:Sl w2 (fun k=>Kx k\/w1.heap.size<=k) 27 1 v2 (ys.length+1) (us++[.slice va fd.length vc])) (hfr2:Fr Kx w1 w2)=>
         show ∃a2 c2,v2=.slice a2 (ys.length+1) c2/\Hid (dY F Z W (tSq eBy 27 (.slice a2 (ys.length+1) c2) (ys++[fd])::(begThs p { a with aX:=cZ a fc } ⟨.slice (some ⟨rb,ro,none⟩) a.aZ.length rc,sp,ap,.slice (some ⟨wb,wo,none⟩) a.aX.length wk,.slice (some ⟨bb,bo,none⟩) a.aY.length bc,snp,rcp,tkp,gvp,.slice (some ⟨sb,so,none⟩) a.base.length sc,.slice (some ⟨kb,ko,none⟩) a.cT.length kc,acv,rev,tav⟩ v10 v11 v12 v13++ts)) w2) from by
          obtain ⟨a2,c2,rfl⟩:=hsl2.shape
          exact ⟨a2,c2,rfl,aQ (hback _ _ [.slice va fd.length vc] [fd] _ hb hsl2 hfr2 ⟨fun _=>False,Yx,fun _ f=>f.elim,fun _ y=>.inl y,fun _ f=>f.elim,Els.single (E:=eBy) ⟨_,rfl,hby2.below hb⟩⟩)⟩)
        have HSL:=aQ hsl
        clear hsl hoth hback hby2 hbox
        go_wp2_with (at_builtin;refine cQ slBB rfl _ _ rfl Kx (.slice a5 ys.length c5) ys.length us rfl ((HSL.out.alloc _).alloc _) _ 1 [.slice va fd.length vc] rfl (rd_one _ _ _ _ (by simp)) (by intro u hu;simp at hu;subst hu;rfl) (by unfold maxLen;omega) (by omega) ?_;intro v2 w2 hsl2 hfr2;obtain ⟨a2,c2,rfl,HS2⟩:=HARM.out v2 w2 _ ((aK wr _).trans ((aK _ _).mono (by simp))) hsl2 hfr2;clear hsl2 hfr2)
        go_roundw
        case rel=>
         have e:again (a.cT.take (k+1)) fc=ys++[fd]:=by rw [HSN.out,if_pos (by simp)]
         exact ⟨k+1,a2,c2,by omega,by go_num,by rw [e,List.length_append];rfl,by rw [e,List.length_append];exact HS2⟩
        case measure=>simp [intOf];omega
       ·have hne:((fc:Int) == (j:Int))=false:=by rw [beq_eq_false_iff_ne];omega
        have HNE:=aQ hfj
        clear hfj
        go_wp2_with fail
        go_roundw
        case rel=>
         have e:again (a.cT.take (k+1)) j=ys:=by rw [HSN.out,if_neg (by simpa using HNE.out),List.append_nil]
         exact ⟨k+1,a5,c5,by omega,by go_num,by rw [e],by rw [e];exact aQ (HK.out.alloc _)⟩
        case measure=>simp [intOf];omega
      ·obtain rfl:a.cT.length=k:=by omega
       rw [List.take_length] at HK ⊢
       go_wp2_with fail
       go_meet
       exact ⟨rfl,a5,c5,rfl,HK⟩
    case rest=>
     obtain ⟨rfl,a5,c5,rfl,HA⟩:=hcut
     have hag:=again_le a.cT j
     obtain ⟨ys,hys⟩:∃ys,ys=again a.cT j:=⟨_,rfl⟩
     have HYS:=aQ hys
     rw [<-hys] at HA hag ⊢
     clear hys c15 HN
     have hrow:=HA.out.blk 1 rfl
     have c7:=(bB hrow).2.2.2.1
     dsimp only at c7
     rw [HWL.out] at c7
     go_upto_region 10 with fail
     obtain ⟨vcw,hvc,hout⟩:=HA.out.out 3 rfl (waitTo_get (p:=a) (j:=j) (by rw [HWL.out];exact hlt))
     obtain ⟨_,_,hsq⟩:=hout.front.get 0 rfl
     obtain ⟨xa,xc,e9,hx1,hx2,_⟩:=Sq.le hsq
     subst e9
     have hxl:=HOK.out.wln _ (List.mem_of_getElem? (bT (d:=[]) (show j < a.aX.length by rw [HWL.out];exact hlt)))
     obtain ⟨xs,hxs⟩:∃xs,xs=a.aX.getD j []:=⟨_,rfl⟩
     have HXS:=aQ hxs
     rw [<-hxs] at hvc hxl hx1 hout
     have hpb:p≠wb:=hout.front.apart 2 4 (by decide) rfl rfl (fun _ _ h=>h.2) fun _ _ h=>(Sq.free (show Sq _ _ _ _ _ _ _ from h)).2.1
     have hfz:∀k,wc.frozen? ⟨wb,k,none⟩=false:=by
      obtain ⟨_,_,hh⟩:=hout.front.get 4 rfl
      exact (Sq.free (show Sq _ _ _ _ _ (.slice (some ⟨wb,wo,none⟩) a.aX.length wk) _ from hh)).2.2.2
     obtain ⟨Kx,us,Yx,hsl,hKn,hoth,hback⟩:=hout.front.appY 1 rfl
     have hKp:¬Kx p:=hKn p 2 _ (by decide) rfl fun H Y h=>.inl h.2
     have hKb:¬Kx wb:=hKn wb 4 _ (by decide) rfl fun H Y h=>.inl (Sq.free (show Sq _ _ _ H Y _ _ from h)).2.1
     obtain ⟨Hx,_,K',D',us',_,_,_,hsl',hel'⟩:=hoth 0 _ (by decide) rfl
     have hp1:p < wc.heap.size:=World.block_lt_of_cell? wc _ c7
     have hl1:wb < wc.heap.size:=World.block_lt_of_cell? wc _ hvc
     have HARM:=aQ (fun (v2:Value) (w2:World) (hsl2:Sl w2 (fun k=>Kx k\/wc.drew.heap.size<=k) 27 1 v2 (ys.length+xs.length) (us++us')) (hfr2:Fr Kx wc.drew w2)=>
      show ∃a2 c2,v2=.slice a2 (ys.length+xs.length) c2/\w2.cell? ⟨p,7,none⟩=some (.slice (some ⟨wb,wo,none⟩) a.aZ.length wk)/\w2.cell? ⟨wb,wo+j,none⟩=some (.slice xa xs.length xc)/\(∀k,w2.frozen? ⟨wb,k,none⟩=false)/\Hid (dY F Z W (begThs p { a with aX:=cZ a (j+1) } ⟨.slice (some ⟨rb,ro,none⟩) a.aZ.length rc,sp,ap,.slice (some ⟨wb,wo,none⟩) a.aX.length wk,.slice (some ⟨bb,bo,none⟩) a.aY.length bc,snp,rcp,tkp,gvp,.slice (some ⟨sb,so,none⟩) a.base.length sc,.slice ka a.cT.length kc,acv,rev,tav⟩ v10 v11 v12 v13++ts) (w2.setCell ⟨wb,wo+j,none⟩ (.slice a2 (ys.length+xs.length) c2))) from by
       obtain ⟨a2,c2,rfl⟩:=hsl2.shape
       have hb:=bS wc 1
       have h1:=hback wc.drew w2 us' xs _ hb hsl2 hfr2 ⟨fun _=>False,Yx,fun _ f=>f.elim,fun _ y=>.inl y,fun _ f=>f.elim,els_by (hel'.later hb)⟩
       have h2:=dY.back (c:=j) (yss:=cZ a (j+1)) (dY.rear (dY.tail h1)) 2 rfl (by rw [List.length_set,List.length_map,waitTo_length,HWL.out];exact hlt) (by rw [set_gap,HYS.out,HXS.out,waitTo_set])
       exact ⟨a2,c2,rfl,(World.cell?_of_block (hfr2.block p hp1 hKp)).trans c7,(World.cell?_of_block (hfr2.block wb hl1 hKb)).trans hvc,fun k=>(World.frozen?_of_block (hfr2.block wb hl1 hKb)).trans (hfz k),aQ h2⟩)
     have HSL:=aQ hsl
     have HRD:=aQ hsl'.rd
     have HONE:=aQ hel'.one
     clear hsl hKn hoth hback hsl' hel' hsq hout hKp hKb hx1 hxs hp1 hl1 HA
     refine wp_region_held_drew (S:=fun w'=>w'.cell? ⟨p,7,none⟩=some (.slice (some ⟨wb,wo,none⟩) a.aZ.length wk)) (by kernel_rfl) c7 (fun hS0=>?_)
     change wpAnyH _ _ _ _ _ (4+12) _ _ _
     refine aH 0 12 (by kernel_rfl) hS0 (fun _ _ _ _ _ h=>h) ?_
     simp only [List.drop_zero,List.take_succ_cons,List.take_zero]
     iterate 12 (refine aR (v:=?_) (by rfl) ?_ ?_;rotate_left 1;(focus ((intro w' hS';go_simp);try with_reducible rfl));simp only [Act.put,List.setIfInBounds_toArray,List.set_cons_zero,List.set_cons_succ])
     refine aT ?_
     refine aM 12 (by kernel_rfl) rfl (fun K hK=>?_)
     go_simp
     refine hK.out _ _ c7 ?_
     clear hK K
     refine aM 13 (by kernel_rfl) rfl (fun K hK=>?_)
     refine step_app_sl slBB rfl _ _ rfl Kx (.slice a5 ys.length c5) ys.length us rfl HSL.out.drew (.slice xa xs.length xc) xs.length us' rfl (HRD.out.keep fun _ _ _=>rfl) HONE.out (by unfold maxLen;omega) (by omega) ?_
     intro v2 w2 hsl2 hfr2
     obtain ⟨a2,c2,rfl,kp,k0,kf,HS2⟩:=HARM.out v2 w2 hsl2 hfr2
     clear hsl2 hfr2
     refine hK.out _ _ kp ?_
     clear hK K
     simp only [Act.put,List.setIfInBounds_toArray,List.set_cons_zero,List.set_cons_succ]
     refine aM 14 (by kernel_rfl) rfl (fun K hK=>?_)
     go_simp
     refine hK.out _ _ kp ?_
     clear hK K
     refine aM 15 (by kernel_rfl) rfl (fun K hK=>?_)
     go_simp
     refine hK.out _ _ (cell_ne hpb kp) ?_
     clear hK K
     refine wpAnyH_done (by kernel_rfl) ?_ _
     go_wp2_with fail
     go_roundw
     case rel=>exact ⟨j+1,by omega,by go_num,HS2⟩
     case measure=>simp [intOf];omega
   ·obtain rfl:a.aZ.length=j:=by omega
    go_wp2_with fail
    go_meet
    rw [show cZ a a.aX.length=cZ a a.aZ.length by rw [HWL.out]]
    exact HJ
 case rest=>
  clear HH c7
  have hrow:=hcut.out.blk 0 rfl
  have hp1:=lt_of_block hrow
  have c15:=(bB hrow).2.2.2.2.2.2.2.2.2.2.2
  have c9:=(bB hrow).2.2.2.2.2.1
  have cf:=fun i=>aD hrow i
  have h1:=hcut.out.set 0 rfl (portRowG { a with aX:=cZ a a.aX.length,cM:=cM,cT:=[] } ⟨.slice (some ⟨rb,ro,none⟩) a.aZ.length rc,sp,ap,.slice (some ⟨wb,wo,none⟩) a.aX.length wk,.slice (some ⟨bb,bo,none⟩) a.aY.length bc,snp,rcp,tkp,gvp,.slice (some ⟨sb,so,none⟩) a.base.length sc,.slice none 0 0,acv,rev,tav⟩ v10 v11 v12 v13) (w':=(wc.setCell ⟨p,15,none⟩ (.slice none 0 0)).setCell ⟨p,9,none⟩ (.int .i64 (cM:Int))) (by (repeat (first|(with_reducible (first|exact Fr.refl _ _|refine Fr.setCell ?_ ?_ _|refine Fr.drewN ?_ _|refine Fr.drew ?_))|exact Or.inl rfl))) (by (apply aS;focus (with_reducible (repeat (first|exact hrow|apply aU|apply aP|apply aF))));rfl)
  have H1:=aQ (show dY F Z W (begThs p { a with aX:=cZ a a.aX.length,cM:=cM,cT:=[] } ⟨.slice (some ⟨rb,ro,none⟩) a.aZ.length rc,sp,ap,.slice (some ⟨wb,wo,none⟩) a.aX.length wk,.slice (some ⟨bb,bo,none⟩) a.aY.length bc,snp,rcp,tkp,gvp,.slice (some ⟨sb,so,none⟩) a.base.length sc,.slice none 0 0,acv,rev,tav⟩ v10 v11 v12 v13++ts) ((wc.setCell ⟨p,15,none⟩ (.slice none 0 0)).setCell ⟨p,9,none⟩ (.int .i64 (cM:Int))) from
   h1.upd 5 rfl (T':=tSq eKept 114 (.slice none 0 0) []) fun G Y _ _=>⟨Sq.nil _ _ _ _ _,Fr.refl _ _⟩)
  clear h1 hrow
  go_upto_region 14 with fail
  generalize hw1:(wc.setCell ⟨p,15,none⟩ (.slice none 0 0)).setCell ⟨p,9,none⟩ (.int .i64 (cM:Int))=w1 at H1 ⊢
  clear hw1 c15 c9 cf hp1 hcut
  have hrow:=H1.out.blk 0 rfl
  obtain ⟨c1,c2,c3,_,_,_,c10,_⟩:=bB hrow
  have hp1:=lt_of_block hrow
  have cf:=fun i=>aD hrow i
  clear hrow
  refine wp_region_held_drew (S:=fun w'=>w'.cell? ⟨p,2,none⟩=some (.int .i64 (a.cA:Int))/\w'.cell? ⟨p,3,none⟩=some (.int .i64 (a.aN:Int))) (by kernel_rfl) ⟨c2,c3⟩ (fun hS0=>?_)
  change wpAnyH _ _ _ _ _ (7+11) _ _ _
  refine aH 0 11 (by kernel_rfl) hS0 (fun _ _ _ _ _ h=>h) ?_
  simp only [List.drop_zero,List.take_succ_cons,List.take_zero]
  iterate 11 (refine aR (v:=?_) (by rfl) ?_ ?_;rotate_left 1;(focus ((intro w' hS';obtain ⟨l0,l1⟩:=hS';go_simp);try with_reducible rfl));simp only [Act.put,List.setIfInBounds_toArray,List.set_cons_zero,List.set_cons_succ])
  refine aT ?_
  refine aM 11 (by kernel_rfl) rfl (fun K hK=>?_)
  (refine step_call (f:=?_) (args:=?_) (by rfl) ?_ ?_;rotate_left 2;(focus (go_simp;first|(with_reducible rfl)|(refine ⟨?_,?_⟩ <;> with_reducible rfl)));(refine (new_o a.cA a.aN w1.drew HOK.out.w1 HOK.out.w2 HOK.out.t1 HOK.out.t2).mono ?_);rintro e' w2 ⟨rfl,hsn,hb⟩)
  refine ⟨_,rfl,?_⟩
  simp only [Act.put,List.setIfInBounds_toArray,List.set_cons_zero,List.set_cons_succ]
  have H2:=aQ (H1.out.drew.add hb (T:=tSnd w1.drew.heap.size (newSnd a.cA a.aN)) ((SnO.thing _ _).mono hsn fun k hk=>by have hk':k=w1.drew.heap.size:=hk;omega)).front
  refine hK.out _ _ ⟨(World.cell?_of_block (hb.block p hp1)).trans c2,(World.cell?_of_block (hb.block p hp1)).trans c3⟩ ?_
  clear hK K
  have k2:=(World.cell?_of_block (hb.block p hp1)).trans c2
  have k3:=(World.cell?_of_block (hb.block p hp1)).trans c3
  clear c1 c2 c3 c10 cf hS0 hsn
  change wpAnyH _ _ _ _ _ (1+5) _ _ _
  refine aH 12 5 (by kernel_rfl) ⟨k2,k3⟩ (fun _ _ _ _ _ h=>h) ?_
  simp only [List.drop_succ_cons,List.drop_zero,List.take_succ_cons,List.take_zero]
  iterate 5 (refine aR (v:=?_) (by rfl) ?_ ?_;rotate_left 1;(focus ((intro w' hS';go_simp);try with_reducible rfl));simp only [Act.put,List.setIfInBounds_toArray,List.set_cons_zero,List.set_cons_succ])
  refine aT ?_
  have hr2:=H2.out.blk 1 rfl
  have k10:=(bB hr2).2.2.2.2.2.2.1
  have kf:=fun i=>aD hr2 i
  obtain ⟨sq,hsq⟩:∃sq,sq=w1.drew.heap.size:=⟨_,rfl⟩
  have H3:=aQ (H2.out.set 1 rfl (portRowG { a with aX:=cZ a a.aX.length,cM:=cM,cT:=[] } ⟨.slice (some ⟨rb,ro,none⟩) a.aZ.length rc,sp,ap,.slice (some ⟨wb,wo,none⟩) a.aX.length wk,.slice (some ⟨bb,bo,none⟩) a.aY.length bc,snp,rcp,tkp,gvp,.slice (some ⟨sb,so,none⟩) a.base.length sc,.slice none 0 0,acv,rev,tav⟩ (.pointer (some ⟨w1.drew.heap.size,0,none⟩)) v11 v12 v13) (w':=w2.setCell ⟨p,10,none⟩ (.pointer (some ⟨w1.drew.heap.size,0,none⟩))) (by (repeat (first|(with_reducible (first|exact Fr.refl _ _|refine Fr.setCell ?_ ?_ _|refine Fr.drewN ?_ _|refine Fr.drew ?_))|exact Or.inl rfl))) (by (apply aS;focus (with_reducible (repeat (first|exact hr2|apply aU|apply aP|apply aF))));rfl))
  obtain ⟨_,m2,m3,_⟩:=bB (H3.out.blk 1 rfl)
  clear H1 H2 hb hr2
  refine aM 17 (by kernel_rfl) rfl (fun K hK=>?_)
  go_simp
  refine hK.out _ _ ⟨m2,m3⟩ ?_
  clear hK K k2 k3 k10 kf m2 m3
  refine wpAnyH_done (by kernel_rfl) ?_ _
  have h3:=H3.out
  clear H3
  rw [<-hsq] at h3
  change Exit.then _ _ _ _ (w2.setCell ⟨p,10,none⟩ (.pointer (some ⟨w1.drew.heap.size,0,none⟩)))
  rw [<-hsq]
  generalize w2.setCell ⟨p,10,none⟩ (.pointer (some ⟨sq,0,none⟩))=w3 at h3 ⊢
  clear hsq
  have H3:=aQ (show dY F Z W (tSnd sq (newSnd a.cA a.aN)::begThs p { a with aX:=cZ a a.aX.length,cM:=cM,cT:=[] } ⟨.slice (some ⟨rb,ro,none⟩) a.aZ.length rc,sp,ap,.slice (some ⟨wb,wo,none⟩) a.aX.length wk,.slice (some ⟨bb,bo,none⟩) a.aY.length bc,snp,rcp,tkp,gvp,.slice (some ⟨sb,so,none⟩) a.base.length sc,.slice none 0 0,acv,rev,tav⟩ (.pointer (some ⟨sq,0,none⟩)) v11 v12 v13++ts) w3 from h3)
  clear h3
  go_upto_region 15 with fail
  go_wp2_with fail
  refine (newReceiver_ok w3).mono ?_
  rintro e' w4 ⟨rfl,hrc,hb⟩
  have H4:=aQ (H3.out.add hb (T:=tRcv w3.heap.size 0) ⟨hrc,Nat.le_refl _⟩).front
  have hrow:=H4.out.blk 2 rfl
  have c11:=(bB hrow).2.2.2.2.2.2.2.1
  have cf:=fun i=>aD hrow i
  have hp1:=lt_of_block hrow
  obtain ⟨rq,hrq⟩:∃rq,rq=w3.heap.size:=⟨_,rfl⟩
  rw [<-hrq] at H4 ⊢
  have h5:=H4.out.set 2 rfl (portRowG { a with aX:=cZ a a.aX.length,cM:=cM,cT:=[] } ⟨.slice (some ⟨rb,ro,none⟩) a.aZ.length rc,sp,ap,.slice (some ⟨wb,wo,none⟩) a.aX.length wk,.slice (some ⟨bb,bo,none⟩) a.aY.length bc,snp,rcp,tkp,gvp,.slice (some ⟨sb,so,none⟩) a.base.length sc,.slice none 0 0,acv,rev,tav⟩ (.pointer (some ⟨sq,0,none⟩)) (.pointer (some ⟨rq,0,none⟩)) v12 v13) (w':=w4.setCell ⟨p,11,none⟩ (.pointer (some ⟨rq,0,none⟩))) (by (repeat (first|(with_reducible (first|exact Fr.refl _ _|refine Fr.setCell ?_ ?_ _|refine Fr.drewN ?_ _|refine Fr.drew ?_))|exact Or.inl rfl))) (by (apply aS;focus (with_reducible (repeat (first|exact hrow|apply aU|apply aP|apply aF))));rfl)
  clear hrow hrc hb H3 hrq
  go_upto_region 16 with fail
  generalize w4.setCell ⟨p,11,none⟩ (.pointer (some ⟨rq,0,none⟩))=w5 at h5 ⊢
  have H5:=aQ (show dY F Z W (tRcv rq 0::tSnd sq (newSnd a.cA a.aN)::begThs p { a with aX:=cZ a a.aX.length,cM:=cM,cT:=[] } ⟨.slice (some ⟨rb,ro,none⟩) a.aZ.length rc,sp,ap,.slice (some ⟨wb,wo,none⟩) a.aX.length wk,.slice (some ⟨bb,bo,none⟩) a.aY.length bc,snp,rcp,tkp,gvp,.slice (some ⟨sb,so,none⟩) a.base.length sc,.slice none 0 0,acv,rev,tav⟩ (.pointer (some ⟨sq,0,none⟩)) (.pointer (some ⟨rq,0,none⟩)) v12 v13++ts) w5 from h5)
  clear h5 H4 c11 cf hp1
  have hrow:=H5.out.blk 2 rfl
  have c1:=(bB hrow).1
  dsimp only at c1
  clear hrow
  go_wp2_with fail
  refine (newTak_any a.aZ.length w5 n1 n4).mono ?_
  rintro e' w6 ⟨tq,rfl,hm⟩
  have H6:=aQ (H5.out.made hm).front
  have hrow:=H6.out.blk 3 rfl
  have c12:=(bB hrow).2.2.2.2.2.2.2.2.1
  have cf:=fun i=>aD hrow i
  have hp1:=lt_of_block hrow
  have h7:=H6.out.set 3 rfl (portRowG { a with aX:=cZ a a.aX.length,cM:=cM,cT:=[] } ⟨.slice (some ⟨rb,ro,none⟩) a.aZ.length rc,sp,ap,.slice (some ⟨wb,wo,none⟩) a.aX.length wk,.slice (some ⟨bb,bo,none⟩) a.aY.length bc,snp,rcp,tkp,gvp,.slice (some ⟨sb,so,none⟩) a.base.length sc,.slice none 0 0,acv,rev,tav⟩ (.pointer (some ⟨sq,0,none⟩)) (.pointer (some ⟨rq,0,none⟩)) (.pointer (some ⟨tq,0,none⟩)) v13) (w':=w6.setCell ⟨p,12,none⟩ (.pointer (some ⟨tq,0,none⟩))) (by (repeat (first|(with_reducible (first|exact Fr.refl _ _|refine Fr.setCell ?_ ?_ _|refine Fr.drewN ?_ _|refine Fr.drew ?_))|exact Or.inl rfl))) (by (apply aS;focus (with_reducible (repeat (first|exact hrow|apply aU|apply aP|apply aF))));rfl)
  clear hrow hm H5
  go_upto_region 17 with fail
  generalize w6.setCell ⟨p,12,none⟩ (.pointer (some ⟨tq,0,none⟩))=w7 at h7 ⊢
  have H7:=aQ (show dY F Z W (tTak tq (List.replicate a.aZ.length ⟨0,0⟩)::tRcv rq 0::tSnd sq (newSnd a.cA a.aN)::begThs p { a with aX:=cZ a a.aX.length,cM:=cM,cT:=[] } ⟨.slice (some ⟨rb,ro,none⟩) a.aZ.length rc,sp,ap,.slice (some ⟨wb,wo,none⟩) a.aX.length wk,.slice (some ⟨bb,bo,none⟩) a.aY.length bc,snp,rcp,tkp,gvp,.slice (some ⟨sb,so,none⟩) a.base.length sc,.slice none 0 0,acv,rev,tav⟩ (.pointer (some ⟨sq,0,none⟩)) (.pointer (some ⟨rq,0,none⟩)) (.pointer (some ⟨tq,0,none⟩)) v13++ts) w7 from h7)
  clear h7 H6 c12 cf hp1 c1
  have hrow:=H7.out.blk 3 rfl
  have c1:=(bB hrow).1
  dsimp only at c1
  clear hrow
  go_wp2_with fail
  have hrooms:∀(k y:Nat),a.aZ[k]? = some y->w7.cell? ⟨rb,ro+k,none⟩=some (.int .i64 (y:Int)):=fun k y hk=>by
   obtain ⟨_,_,hr⟩:=H7.out.get 4 rfl
   exact nat_cell (show Sq dK 3 w7 _ _ (.slice (some ⟨rb,ro,none⟩) a.aZ.length rc) a.aZ from hr) hk
  refine (newGiv_any w7 n1 n4 HOK.out.rm hrooms).mono ?_
  rintro e' w8 ⟨gq,rfl,hm⟩
  have H8:=aQ (H7.out.made hm).front
  have hrow:=H8.out.blk 4 rfl
  have c13:=(bB hrow).2.2.2.2.2.2.2.2.2.1
  have cf:=fun i=>aD hrow i
  have hp1:=lt_of_block hrow
  have h9:=H8.out.set 4 rfl (portRowG { a with aX:=cZ a a.aX.length,cM:=cM,cT:=[] } ⟨.slice (some ⟨rb,ro,none⟩) a.aZ.length rc,sp,ap,.slice (some ⟨wb,wo,none⟩) a.aX.length wk,.slice (some ⟨bb,bo,none⟩) a.aY.length bc,snp,rcp,tkp,gvp,.slice (some ⟨sb,so,none⟩) a.base.length sc,.slice none 0 0,acv,rev,tav⟩ (.pointer (some ⟨sq,0,none⟩)) (.pointer (some ⟨rq,0,none⟩)) (.pointer (some ⟨tq,0,none⟩)) (.pointer (some ⟨gq,0,none⟩))) (w':=w8.setCell ⟨p,13,none⟩ (.pointer (some ⟨gq,0,none⟩))) (by (repeat (first|(with_reducible (first|exact Fr.refl _ _|refine Fr.setCell ?_ ?_ _|refine Fr.drewN ?_ _|refine Fr.drew ?_))|exact Or.inl rfl))) (by (apply aS;focus (with_reducible (repeat (first|exact hrow|apply aU|apply aP|apply aF))));rfl)
  clear hrow hm H7 hrooms c1
  go_upto_region 18 with fail
  generalize w8.setCell ⟨p,13,none⟩ (.pointer (some ⟨gq,0,none⟩))=w9 at h9 ⊢
  have H9:=aQ (show dY F Z W (tGiv gq (a.aZ.map fun r=>⟨r,0,0⟩)::tTak tq (List.replicate a.aZ.length ⟨0,0⟩)::tRcv rq 0::tSnd sq (newSnd a.cA a.aN)::begThs p { a with aX:=cZ a a.aX.length,cM:=cM,cT:=[] } ⟨.slice (some ⟨rb,ro,none⟩) a.aZ.length rc,sp,ap,.slice (some ⟨wb,wo,none⟩) a.aX.length wk,.slice (some ⟨bb,bo,none⟩) a.aY.length bc,snp,rcp,tkp,gvp,.slice (some ⟨sb,so,none⟩) a.base.length sc,.slice none 0 0,acv,rev,tav⟩ (.pointer (some ⟨sq,0,none⟩)) (.pointer (some ⟨rq,0,none⟩)) (.pointer (some ⟨tq,0,none⟩)) (.pointer (some ⟨gq,0,none⟩))++ts) w9 from h9)
  clear h9 H8 c13 cf hp1
  have hrow:=H9.out.blk 4 rfl
  have c8:=(bB hrow).2.2.2.2.1
  dsimp only at c8
  rw [HBL.out] at c8
  clear hrow
  go_wp2_with fail
  go_loopw [111] (fun i wr=>∃j:Nat,j<=a.aZ.length/\i=.int .i64 (j:Int)/\Hid (dY F Z W (tGiv gq (givB a j)::tTak tq (List.replicate a.aZ.length ⟨0,0⟩)::tRcv rq 0::tSnd sq (newSnd a.cA a.aN)::begThs p { a with aX:=cZ a a.aX.length,cM:=cM,cT:=[],base:=baseB a j } ⟨.slice (some ⟨rb,ro,none⟩) a.aZ.length rc,sp,ap,.slice (some ⟨wb,wo,none⟩) a.aX.length wk,.slice (some ⟨bb,bo,none⟩) a.aY.length bc,snp,rcp,tkp,gvp,.slice (some ⟨sb,so,none⟩) a.base.length sc,.slice none 0 0,acv,rev,tav⟩ (.pointer (some ⟨sq,0,none⟩)) (.pointer (some ⟨rq,0,none⟩)) (.pointer (some ⟨tq,0,none⟩)) (.pointer (some ⟨gq,0,none⟩))++ts) wr)) (fun i _=>a.aZ.length - (intOf i).toNat)
  case atStart=>exact ⟨0,Nat.zero_le _,rfl,aQ (by rw [givB_zero,baseB_zero HSL.out];exact H9.out)⟩
  case round=>
   clear H9 c8
   obtain ⟨j,hj,rfl,HJ⟩:=hrel
   by_cases hlt:j < a.aZ.length
   ·have hrow:=HJ.out.blk 4 rfl
    have c14:=(bB hrow).2.2.2.2.2.2.2.2.2.2.1
    have c13:=(bB hrow).2.2.2.2.2.2.2.2.2.1
    dsimp only at c14
    rw [HSL.out] at c14
    obtain ⟨_,_,hbf⟩:=HJ.out.get 7 rfl
    have hx:=bT (d:=[]) (show j < a.aY.length by rw [HBL.out];exact hlt)
    have hxl:=HOK.out.bln _ (List.mem_of_getElem? hx)
    obtain ⟨v,A,hv,hsq,_⟩:=sqsq_at (show Sq (eSq eBy 27) 54 wr _ _ (.slice (some ⟨bb,bo,none⟩) a.aY.length bc) a.aY from hbf) hx
    obtain ⟨va,vc,rfl⟩:=hsq.shape
    obtain ⟨_,_,hbs⟩:=HJ.out.get 8 rfl
    have hsb:=show Sq dK 3 wr _ _ (.slice (some ⟨sb,so,none⟩) a.base.length sc) (baseB a j) from hbs
    have hsf:=(Sq.free hsb).2.2.2
    have hbc:=nat_cell hsb (upTo_get hlt)
    obtain ⟨l,hl⟩:∃l,l=(a.aY.getD j []).length:=⟨_,rfl⟩
    have HL:=aQ hl
    rw [<-hl] at hv hxl
    have h1:=HJ.out.putN (xs:=baseB a j) 8 rfl (c:=j) (y:=l) (u:=(l:Int)) (by rw [upTo_length];exact hlt) rfl
    have hsx:(baseB a j).set j l=baseB a (j+1):=by rw [hl];exact upTo_set (f:=fun i=>(a.aY.getD i []).length)
    rw [hsx] at h1
    have H1:=aQ (show dY F Z W (tGiv gq (givB a j)::tTak tq (List.replicate a.aZ.length ⟨0,0⟩)::tRcv rq 0::tSnd sq (newSnd a.cA a.aN)::begThs p { a with aX:=cZ a a.aX.length,cM:=cM,cT:=[],base:=baseB a (j+1) } ⟨.slice (some ⟨rb,ro,none⟩) a.aZ.length rc,sp,ap,.slice (some ⟨wb,wo,none⟩) a.aX.length wk,.slice (some ⟨bb,bo,none⟩) a.aY.length bc,snp,rcp,tkp,gvp,.slice (some ⟨sb,so,none⟩) a.base.length sc,.slice none 0 0,acv,rev,tav⟩ (.pointer (some ⟨sq,0,none⟩)) (.pointer (some ⟨rq,0,none⟩)) (.pointer (some ⟨tq,0,none⟩)) (.pointer (some ⟨gq,0,none⟩))++ts) (wr.setCell ⟨sb,so+j,none⟩ (.int .i64 (l:Int))) from h1)
    clear hrow hbf hx hsq hbs hsb hl h1 hsx
    go_wp2_with fail
    go_loopw [126] (fun i wr=>∃k:Nat,k<=l/\i=.int .i64 (k:Int)/\Hid (dY F Z W (tGiv gq ((givB a j).set j ⟨a.aZ.getD j 0,min k (a.aZ.getD j 0),0⟩)::tTak tq (List.replicate a.aZ.length ⟨0,0⟩)::tRcv rq 0::tSnd sq (newSnd a.cA a.aN)::begThs p { a with aX:=cZ a a.aX.length,cM:=cM,cT:=[],base:=baseB a (j+1) } ⟨.slice (some ⟨rb,ro,none⟩) a.aZ.length rc,sp,ap,.slice (some ⟨wb,wo,none⟩) a.aX.length wk,.slice (some ⟨bb,bo,none⟩) a.aY.length bc,snp,rcp,tkp,gvp,.slice (some ⟨sb,so,none⟩) a.base.length sc,.slice none 0 0,acv,rev,tav⟩ (.pointer (some ⟨sq,0,none⟩)) (.pointer (some ⟨rq,0,none⟩)) (.pointer (some ⟨tq,0,none⟩)) (.pointer (some ⟨gq,0,none⟩))++ts) wr)) (fun i _=>l - (intOf i).toNat)
    case atStart=>
     refine ⟨0,Nat.zero_le _,rfl,aQ ?_⟩
     rw [Nat.zero_min,set_same' (upTo_get hlt)]
     exact H1.out
    case round=>
     clear H1 c13 c14 hsf hbc hv
     obtain ⟨k,hk,rfl,HK⟩:=hrel
     by_cases hlk:k < l
     ·have c13:=(bB (HK.out.blk 4 rfl)).2.2.2.2.2.2.2.2.2.1
      have hc:((givB a j).set j ⟨a.aZ.getD j 0,min k (a.aZ.getD j 0),0⟩)[j]? = some ⟨a.aZ.getD j 0,min k (a.aZ.getD j 0),0⟩:=List.getElem?_set_self (by rw [upTo_length];exact hlt)
      have hrm:=HOK.out.rm _ (List.mem_of_getElem? (bT (d:=0) hlt))
      have HQ:=aQ (receiveG_h HK.out 0 rfl (by rw [List.length_set,upTo_length];exact n4) hc (by dsimp only;omega) (by dsimp only;omega) (by dsimp only;omega))
      have HR:=aQ (show (Giv.cO ⟨a.aZ.getD j 0,min k (a.aZ.getD j 0),0⟩).2=⟨a.aZ.getD j 0,min (k+1) (a.aZ.getD j 0),0⟩ by rw [<-held_eq _ k,<-held_eq _ (k+1)];rfl)
      clear hc hrm
      go_wp2_with fail
      refine HQ.out.mono ?_
      rintro e' w' ⟨rfl,hh⟩
      have HH:=aQ hh
      clear hh HQ
      go_wp2_with fail
      go_roundw
      case rel=>
       refine ⟨k+1,by omega,by go_num,aQ ?_⟩
       have:=HH.out
       rw [List.set_set,HR.out] at this
       exact this
      case measure=>simp [intOf];omega
     ·obtain rfl:l=k:=by omega
      go_wp2_with fail
      go_roundw
      case rel=>
       refine ⟨j+1,by omega,by go_num,aQ ?_⟩
       have:=HK.out
       rw [HL.out,upTo_set (f:=fun i=>(⟨a.aZ.getD i 0,min (a.aY.getD i []).length (a.aZ.getD i 0),0⟩:Giv))] at this
       exact this
      case measure=>simp [intOf];omega
   ·obtain rfl:a.aZ.length=j:=by omega
    go_wp2_with fail
    go_end0
    refine ⟨rfl,sq,rq,tq,gq,?_⟩
    have h1:=HJ.out
    rw [givB_all a cM,baseB_all HBL.out cM] at h1
    have e1:cZ a a.aX.length=(a.begin cM).aX:=waitTo_all a
    rw [e1] at h1
    exact dY.pickL (us:=[tGiv gq (a.begin cM).giv,tTak tq (List.replicate a.aZ.length ⟨0,0⟩),tRcv rq 0,tSnd sq (newSnd a.cA a.aN),
     dJ p (portRow (a.begin cM) ⟨.slice (some ⟨rb,ro,none⟩) a.aZ.length rc,sp,ap,.slice (some ⟨wb,wo,none⟩) a.aX.length wk,.slice (some ⟨bb,bo,none⟩) a.aY.length bc,sq,rq,tq,gq,.slice (some ⟨sb,so,none⟩) a.base.length sc,.slice none 0 0,acv,rev,tav⟩),tSq dK 3 (.slice (some ⟨rb,ro,none⟩) a.aZ.length rc) a.aZ,
     tSq (eSq eBy 27) 54 (.slice (some ⟨wb,wo,none⟩) a.aX.length wk) (a.begin cM).aX,tSq (eSq eBy 27) 54 (.slice (some ⟨bb,bo,none⟩) a.aY.length bc) a.aY,tSq dK 3 (.slice (some ⟨sb,so,none⟩) a.base.length sc) (a.begin cM).base,tSq eKept 114 (.slice none 0 0) []]) h1 [4,5,6,7,8,9,3,2,1,0] (by decide) rfl
end

section
open Go.RowKit
abbrev bW (x:Pt) (pv:Value):Obj:=.cells #[.int .u8 (U x.kind),.int .i64 x.cls,.int .i64 x.number,.int .i64 x.value,pv] 32
abbrev dH (x:Pt) (pv:Value):Value:=.agg #[.int .u8 (U x.kind),.int .i64 x.cls,.int .i64 x.number,.int .i64 x.value,pv]
theorem pt_cells {w:World} {b:Nat} {x:Pt} {pv:Value} (h:w.heap[b]? = some (bW x pv)):w.cell? ⟨b,0,none⟩=some (.int .u8 (U x.kind))/\w.cell? ⟨b,1,none⟩=some (.int .i64 x.cls)/\w.cell? ⟨b,2,none⟩=some (.int .i64 x.number)/\w.cell? ⟨b,3,none⟩=some (.int .i64 x.value)/\w.cell? ⟨b,4,none⟩=some pv:=
 ⟨aJ h rfl,aJ h rfl,aJ h rfl,aJ h rfl,aJ h rfl⟩
theorem Prt.Ok.beg {N:Nat} {p:Prt} (h:p.Ok N):p.Beg N:=
 ⟨h.n1,h.n4,h.rm,h.w1,h.w2,h.t1,h.t2,h.wl,h.bl,h.sl,by
  have h1:=congrArg List.length h.cT
  rw [List.length_map] at h1
  have:=h.snd.cT;have:=h.snd.w2;omega,h.wln,h.bln⟩
theorem dY.port' {F Z:BS} {W w:World} {ts:List Th} {p:Nat} {a:Prt} (h:dY F Z W (bP p a::ts) w):∃x,dY F Z W (bX p a x++ts) w:=dY.opens h
theorem dY.bO {F Z:BS} {W w:World} {ts:List Th} {p:Nat} {a:Prt} {x:PV} (h:dY F Z W (bX p a x++ts) w):dY F Z W (bP p a::ts) w:=dY.shut (f:=bX p a) h
theorem dY.dropLast {F Z:BS} {W w:World} {us ts:List Th} {T:Th} (h:dY F Z W (us++(ts++[T])) w):dY F Z W (us++ts) w:=by
 rw [<-List.append_assoc] at h
 exact h.front.tail
set_option maxRecDepth 100000 in
theorem greet_c {F Z:BS} {W w:World} {ts:List Th} {p N:Nat} {a:Prt} (x:Pt) (pa:Option Addr) (pn pc:Nat) (hok:a.Ok N) (hN:N<=1000000000) (h:dY F Z W (bP p a::ts) w) :
  Calls Try.prog 57 #[.pointer (some ⟨p,0,none⟩),dH x (.slice pa pn pc)] w fun e w'=>e=.returned (.tuple #[])/\dY F Z W (bP p (a.greet x)::ts) w':=by
 obtain ⟨y,hst⟩:=h.port'
 have h1:=(hst.new (bW x (.slice pa pn pc)))
 obtain ⟨rv,sp,ap,wv,bv,snp,rcp,tkp,gvp,bsv,kv,acv,rev,tav⟩:=y
 have H1:=aQ (show dY F Z W (bX p a ⟨rv,sp,ap,wv,bv,snp,rcp,tkp,gvp,bsv,kv,acv,rev,tav⟩++(ts++[dJ w.heap.size (bW x (.slice pa pn pc))])) (w.alloc (bW x (.slice pa pn pc))) by rw [<-List.append_assoc];exact h1)
 have hrow:=h1.blk 0 rfl
 obtain ⟨_,_,_,_,_,c5,_⟩:=aB hrow
 obtain ⟨k0,k1,k2,k3,_⟩:=pt_cells (heap_alloc_new w (bW x (.slice pa pn pc)))
 have hside:=(show ∃G Y,(tSide sp a.cS).on _ G Y from h1.get 2 rfl)
 obtain ⟨_,_,hside⟩:=hside
 have HSD:=aQ hside.2
 have HOK:=aQ hok
 dsimp only at c5
 clear hst h1 hrow h hok hside
 go_enter Try.func57,Try.ntmps57
 go_wp2_with fail
 generalize w.alloc (bW x (.slice pa pn pc))=w1 at *
 refine wp_region_still_tail 9 (by kernel_rfl) (by kernel_rfl) ?_
 simp only [List.take_succ_cons,List.take_zero,List.drop_succ_cons,List.drop_zero]
 change wpStill _ _ (World.drew _) (fun a'=>wpList _ _ _ _ a' (World.drew _)) _ _
 repeat still_step
 refine wpStill_nil ?_
 go_wp2_with fail
 refine (sideReceive_any sp a.cS w1.drew x.number x.value HSD.out).mono ?_
 rintro e w2 ⟨⟨c,rfl⟩,hs2,hf2⟩
 have H2:=aQ (show dY F Z W (bX p { a with cS:=a.cS.cO x.number x.value } ⟨rv,sp,ap,wv,bv,snp,rcp,tkp,gvp,bsv,kv,acv,rev,tav⟩++(ts++[dJ w.heap.size (bW x (.slice pa pn pc))])) w2 from
  H1.out.drew.upd 2 rfl (T':=tSide sp (a.cS.cO x.number x.value)) fun G Y hon _=>⟨⟨hon.1,hs2⟩,hf2.mono fun k hk=>by subst hk;exact hon.1⟩)
 have HSD2:=aQ hs2
 clear H1 hs2 hf2 c5 k0 k1 k2 k3 HSD
 have hrow:=H2.out.blk 0 rfl
 obtain ⟨_,_,_,_,_,c5,_,_,_,c9,_⟩:=aB hrow
 dsimp only at c5 c9
 obtain ⟨s2,hsd⟩:∃s2,s2=a.cS.cO x.number x.value:=⟨_,rfl⟩
 have HS2:=aQ hsd
 rw [<-hsd] at H2 HSD2
 clear hrow hsd
 go_wp2_with fail
 refine (peer_any sp s2 w2 HSD2.out).mono ?_
 rintro e w' ⟨rfl,rfl⟩
 by_cases h0:s2.cM=0
 ·have b0:((s2.cM:Int) != 0)=false:=by simp [h0]
  have HG:=aQ (show a.greet x={ a with cS:=s2 } by
   unfold Prt.greet;dsimp only;rw [<-HS2.out,if_neg (fun h=>h.1 h0)])
  clear h0
  go_wp2_with fail
  go_end0
  refine ⟨rfl,?_⟩
  rw [HG.out]
  exact H2.out.dropLast.bO
 ·have b0:((s2.cM:Int) != 0)=true:=by simp;omega
  by_cases h1:s2.cM=a.cM
  ·have b1:((s2.cM:Int) != (a.cM:Int))=false:=by simp [h1]
   have HG:=aQ (show a.greet x={ a with cS:=s2 } by
    unfold Prt.greet;dsimp only;rw [<-HS2.out,if_neg (fun h=>h.2 h1)])
   clear h0 h1
   go_wp2_with fail
   go_end0
   refine ⟨rfl,?_⟩
   rw [HG.out]
   exact H2.out.dropLast.bO
  ·have b1:((s2.cM:Int) != (a.cM:Int))=true:=by simp;omega
   have HG:=aQ (show a.greet x=({ a with cS:=s2 }:Prt).begin s2.cM by
    unfold Prt.greet;dsimp only;rw [<-HS2.out,if_pos ⟨h0,h1⟩])
   have HB:=aQ (show dY F Z W (begThs p { a with cS:=s2 } ⟨rv,sp,ap,wv,bv,snp,rcp,tkp,gvp,bsv,kv,acv,rev,tav⟩ (.pointer (some ⟨snp,0,none⟩)) (.pointer (some ⟨rcp,0,none⟩)) (.pointer (some ⟨tkp,0,none⟩)) (.pointer (some ⟨gvp,0,none⟩)) ++
     ([tSide sp s2,tArb ap a.arb,tSnd snp a.snd,tRcv rcp a.rcv,tTak tkp a.tak,tGiv gvp a.giv,tSq dK 3 acv a.aG,tSq dK 3 rev a.aW,tSq dK 3 tav a.cF]++(ts++[dJ w.heap.size (bW x (.slice pa pn pc))]))) w2 by
    rw [<-List.append_assoc]
    exact H2.out.pickL [0,1,4,5,10,11,2,3,6,7,8,9,12,13,14] (by decide) rfl)
   have HBG:=aQ (begin_h (a:={ a with cS:=s2 }) (N:=N) (by have:=HOK.out.beg;exact ⟨this.1,this.2,this.3,this.4,this.5,this.6,this.7,this.8,this.9,this.10,this.11,this.12,this.13⟩) hN s2.cM HB.out)
   clear h0 h1 HB H2
   go_wp2_with fail
   refine HBG.out.mono ?_
   rintro e w' ⟨rfl,sq,rq,tq,gq,hh⟩
   rw [<-List.append_assoc] at hh
   have HH:=aQ (hh.pickL (vs:=bX p (({ a with cS:=s2 }:Prt).begin s2.cM) ⟨rv,sp,ap,wv,bv,sq,rq,tq,gq,bsv,.slice none 0 0,acv,rev,tav⟩) [0,1,10,11,2,3,6,7,8,9,4,5,16,17,18] (by decide) rfl)
   clear hh HBG
   go_wp2_with fail
   go_end0
   refine ⟨rfl,?_⟩
   rw [HG.out]
   exact HH.out.dropLast.bO
set_option maxRecDepth 100000 in
theorem raise_c {F Z:BS} {W w:World} {ts:List Th} {p N:Nat} {a:Prt} (x:Pt) (pa:Option Addr) (pn pc:Nat) (hok:a.Ok N) (h:dY F Z W (bP p a::ts) w) :
  Calls Try.prog 60 #[.pointer (some ⟨p,0,none⟩),dH x (.slice pa pn pc)] w fun e w'=>e=.returned (.tuple #[])/\dY F Z W (bP p (a.raise x)::ts) w':=by
 obtain ⟨y,hst⟩:=h.port'
 have h1:=(hst.new (bW x (.slice pa pn pc)))
 obtain ⟨rv,sp,ap,wv,bv,snp,rcp,tkp,gvp,bsv,kv,acv,rev,tav⟩:=y
 have H1:=aQ (show dY F Z W (bX p a ⟨rv,sp,ap,wv,bv,snp,rcp,tkp,gvp,bsv,kv,acv,rev,tav⟩++(ts++[dJ w.heap.size (bW x (.slice pa pn pc))])) (w.alloc (bW x (.slice pa pn pc))) by rw [<-List.append_assoc];exact h1)
 have hrow:=h1.blk 0 rfl
 obtain ⟨_,c1,_,_,_,_,_,_,_,_,_,_,c12,_⟩:=aB hrow
 obtain ⟨k0,k1,k2,k3,_⟩:=pt_cells (heap_alloc_new w (bW x (.slice pa pn pc)))
 obtain ⟨_,_,hr⟩:=h1.get 1 rfl
 obtain ⟨rb,ro,rc,e1,_,_⟩:=bR (show Sq dK 3 _ _ _ rv a.aZ from hr) hok.n1
 subst e1
 have HOK:=aQ hok
 have n4:=hok.n4
 dsimp only at c1 c12
 clear hst h1 hrow h hok hr
 go_enter Try.func60,Try.ntmps60
 go_wp2_with fail
 generalize w.alloc (bW x (.slice pa pn pc))=w1 at *
 by_cases hc:0<=x.cls/\x.cls < a.aZ.length
 ·obtain ⟨c,hcc⟩:∃c:Nat,x.cls=(c:Int):=⟨x.cls.toNat,by omega⟩
  have hcl:c < a.aZ.length:=by omega
  have HG:=aQ (show a.raise x={ a with tak:=a.tak.set c ((a.tak.getD c ⟨0,0⟩).raise x.number) } by
   unfold Prt.raise
   rw [if_pos (show a.has x.cls from hc),hcc];rfl)
  have HQ:=aQ (exists_yes (p:=p) (w:=w1) c (some ⟨rb,ro,none⟩) rc hcl c1)
  have hg:=bT (d:=(⟨0,0⟩:Tak)) (show c < a.tak.length by rw [HOK.out.tl];exact hcl)
  have HR:=aQ (raise_h H1.out.drew 8 rfl (by rw [HOK.out.tl];exact n4) hg x.number)
  rw [hcc] at k1 ⊢
  clear hc hg hcc
  refine HQ.out.mono ?_
  rintro e w' ⟨rfl,rfl⟩
  go_wp2_with fail
  refine wp_region_still_tail 8 (by kernel_rfl) (by kernel_rfl) ?_
  simp only [List.take_succ_cons,List.take_zero,List.drop_succ_cons,List.drop_zero]
  change wpStill _ _ (World.drew _) (fun a'=>wpList _ _ _ _ a' (World.drew _)) _ _
  repeat still_step
  refine wpStill_nil ?_
  go_wp2_with fail
  refine HR.out.mono ?_
  rintro e w2 ⟨⟨_,rfl⟩,hh⟩
  have HH:=aQ (show dY F Z W (bX p { a with tak:=a.tak.set c ((a.tak.getD c ⟨0,0⟩).raise x.number) } ⟨.slice (some ⟨rb,ro,none⟩) a.aZ.length rc,sp,ap,wv,bv,snp,rcp,tkp,gvp,bsv,kv,acv,rev,tav⟩++(ts++[dJ w.heap.size (bW x (.slice pa pn pc))])) w2 from hh)
  clear hh HR
  go_wp2_with fail
  go_end0
  refine ⟨rfl,?_⟩
  rw [HG.out]
  exact HH.out.dropLast.bO
 ·have HG:=aQ (show a.raise x=a by
   unfold Prt.raise
   rw [if_neg (show ¬a.has x.cls from hc)])
  have HQ:=aQ (exists_no (p:=p) (w:=w1) x.cls (some ⟨rb,ro,none⟩) rc (n:=a.aZ.length) (by omega) c1)
  clear hc
  refine HQ.out.mono ?_
  rintro e w' ⟨rfl,rfl⟩
  go_wp2_with fail
  go_end0
  refine ⟨rfl,?_⟩
  rw [HG.out]
  exact H1.out.dropLast.bO
end

section
open Go.RowKit
section
variable {F Z:BS} {W w:World} {ts:List Th} {p:Nat} {s:Snd}
theorem sack_h (h:dY F Z W ts w) (i:Nat) (hi:ts[i]? = some (tSnd p s)) (hok:s.Ok) (ht:s.total < 1000000000000) (n:Int) :
  Calls Try.prog 83 #[.pointer (some ⟨p,0,none⟩),.int .i64 n] w fun e w'=>e=.returned (.int .i64 ((s.ack n).1:Int))/\dY F Z W (ts.set i (tSnd p (s.ack n).2)) w':=
 h.act i hi fun _ _ hd hon=>(ack_o hon hok ht n).mono fun _ _ ⟨he,h1,h2⟩=>⟨he,Did.same h2 (T:=tSnd p (s.ack n).2) ((SnO.thing _ _).mono h1 fun _ h=>h.1) hd⟩
theorem soffer_h (h:dY F Z W ts w) (i:Nat) (hi:ts[i]? = some (tSnd p s)) (hok:s.Ok) (v:Value) (d:dV) (hv:By w v d) :
  Calls Try.prog 69 #[.pointer (some ⟨p,0,none⟩),v] w fun e w'=>e=.returned (.int .i64 ((s.dQ d).1:Int))/\dY F Z W (ts.set i (tSnd p (s.dQ d).2)) w':=
 h.act i hi fun _ _ _ hon=>(offer_o hon hok v d hv).mono fun _ _ ⟨he,h1,h2⟩=>⟨he,Did.one0 (T:=tSnd p (s.dQ d).2) h2 h1⟩
theorem stick_h (h:dY F Z W ts w) (i:Nat) (hi:ts[i]? = some (tSnd p s)) (hok:s.Ok) (ht:s.total < 1000000000000) :
  Calls Try.prog 39 #[.pointer (some ⟨p,0,none⟩)] w fun e w'=>∃v,e=.returned (.tuple #[.int .i64 ((s.cR.1.elim 0 (·.1):Nat):Int),v,.bool s.cR.1.isSome])/\dY F Z W (ts.set i (tSnd p s.cR.2)++[tBy v (s.cR.1.elim [] (·.2))]) w':=by
 obtain ⟨G,Y,hon,hd,_,_,hb⟩:=h.use i hi
 refine (tick_o hon hok ht).mono fun e w' ⟨v,he,h1,h2,h3⟩=>⟨v,he,hb w' _ [_] ⟨h3,fun k=>(Y k/\k < w.heap.size)\/w.heap.size<=k,fun k hk=>hk.imp (·.1) .inr,Star.two (G:=fun k=>G k/\k < w.heap.size) (H:=fun _=>False) h2 ?_ (fun _ _ f=>f) (fun k hk=>⟨.inl hk.1,?_⟩) fun _ f=>f.elim⟩⟩
 ·exact ⟨h1.1,fun _ b hb=>.inr (h1.2 b hb)⟩
 ·rintro (⟨y,_⟩|hl)
  ·exact hd k hk.1 y
  ·omega
theorem skept_h (h:dY F Z W ts w) (i:Nat) (hi:ts[i]? = some (tSnd p s)) :
  Calls Try.prog 65 #[.pointer (some ⟨p,0,none⟩)] w fun e w'=>e=.returned (.int .i64 (s.cT.length:Int))/\w=w':=by
 obtain ⟨G,Y,hon⟩:=h.get i hi
 exact kept_o hon
theorem stotal_h (h:dY F Z W ts w) (i:Nat) (hi:ts[i]? = some (tSnd p s)) (hok:s.Ok) (ht:s.total < 1000000000000) :
  Calls Try.prog 70 #[.pointer (some ⟨p,0,none⟩)] w fun e w'=>e=.returned (.tuple #[.int .i64 ((s.aG:Int)+(s.cT.length:Int)),.int .i64 (s.aG:Int)])/\dY F Z W ts w':=by
 obtain ⟨G,Y,hon⟩:=h.get i hi
 exact (total_o hon hok ht).mono fun e w' ⟨he,n,hn⟩=>⟨he,by subst hn;exact h.drewN n⟩
end
theorem tally_length (l:List Nat) (ks:List (Nat × dV)):(tally l ks).length=l.length:=by
 unfold tally
 induction ks generalizing l with
 |nil=>rfl
 |cons f ks ih=>rw [List.foldl_cons,ih,List.length_set]
theorem tally_snoc (l:List Nat) {ks:List (Nat × dV)} {j:Nat} {f:Nat × dV} (hj:ks[j]? = some f):tally l (ks.take (j+1))=(tally l (ks.take j)).set f.1 ((tally l (ks.take j)).getD f.1 0+1):=by
 unfold tally
 rw [List.take_add_one,hj,List.foldl_append];rfl
theorem tally_le (ks:List (Nat × dV)):∀ {l:List Nat} {M:Nat},(∀x ∈ l,x<=M)->∀x ∈ tally l ks,x<=M+ks.length:=by
 unfold tally
 induction ks with
 |nil=>intro l M h x hx;exact h x hx
 |cons f ks ih=>
  intro l M h x hx
  rw [List.foldl_cons] at hx
  have:=ih (l:=l.set f.1 (l.getD f.1 0+1)) (M:=M+1) (fun y hy=>by
   rcases List.mem_or_eq_of_mem_set hy with hy|rfl
   ·have:=h y hy;omega
   ·rw [List.getD]
    cases hg:l[f.1]? with
    |none=>simp
    |some z=>have:=h z (List.mem_of_getElem? hg);simp;omega) x hx
  rw [List.length_cons];omega
theorem ack_le {s:Snd} (hok:s.Ok) (n:Int):(s.ack n).1<=s.cT.length:=by
 unfold Snd.ack Snd.accept
 cases hc:s.count n with
 |none=>exact Nat.zero_le _
 |some k=>exact Nat.le_trans (count_le hc) hok.cP
theorem Prt.Ok.keptl {N:Nat} {p:Prt} (h:p.Ok N):p.cT.length=p.snd.cT.length:=by
 have h1:=congrArg List.length h.cT
 rwa [List.length_map] at h1
theorem sq_cut {α : Type} {E:El α} {T:TypeId} {w:World} {F Z:BS} {g off n c:Nat} {xs:List α} (h:Sq E T w F Z (.slice (some ⟨g,off,none⟩) n c) xs) {k:Nat} (hk:k<=xs.length) :
  Sq E T w F Z (.slice (if c=k then some ⟨g,off,none⟩ else some ⟨g,off+k*E.size,none⟩) (n - k) (c - k)) (xs.drop k):=by
 by_cases h0:k=0
 ·subst h0
  simpa using h
 ·obtain ⟨g',off',e,hn,_,h'⟩:=h.drop (by omega) hk
  obtain ⟨rfl,rfl⟩:g=g'/\off=off':=by simpa using e
  rw [hn];exact h'
set_option maxRecDepth 100000 in
theorem acknowledge_c {F Z:BS} {W w:World} {ts:List Th} {p N:Nat} {a:Prt} (x:Pt) (pa:Option Addr) (pn pc:Nat) (hok:a.Ok N) (hN:N<=1000000000) (h:dY F Z W (bP p a::ts) w) :
  Calls Try.prog 59 #[.pointer (some ⟨p,0,none⟩),dH x (.slice pa pn pc)] w fun e w'=>e=.returned (.tuple #[])/\dY F Z W (bP p (a.bQ x)::ts) w':=by
 obtain ⟨y,hst⟩:=h.port'
 have h1:=(hst.new (bW x (.slice pa pn pc)))
 obtain ⟨rv,sp,ap,wv,bv,snp,rcp,tkp,gvp,bsv,kv,acv,rev,tav⟩:=y
 have H1:=aQ (show dY F Z W (bX p a ⟨rv,sp,ap,wv,bv,snp,rcp,tkp,gvp,bsv,kv,acv,rev,tav⟩++(ts++[dJ w.heap.size (bW x (.slice pa pn pc))])) (w.alloc (bW x (.slice pa pn pc))) by rw [<-List.append_assoc];exact h1)
 have hrow:=h1.blk 0 rfl
 obtain ⟨_,_,_,_,_,_,_,_,_,_,c10,_⟩:=aB hrow
 obtain ⟨k0,k1,k2,k3,_⟩:=pt_cells (heap_alloc_new w (bW x (.slice pa pn pc)))
 have HOK:=aQ hok
 have n4:=hok.n4
 dsimp only at c10
 have HR:=aQ (sack_h H1.out.drew 6 rfl hok.snd (by have:=hok.tot;omega) x.number)
 obtain ⟨k,hk⟩:∃k,k=(a.snd.ack x.number).1:=⟨_,rfl⟩
 have hkl:=ack_le hok.snd x.number
 have hkk:=hok.keptl
 have hkm:=hok.snd.cT
 have hw2:=hok.snd.w2
 rw [<-hkk] at hkl hkm
 rw [<-hk] at HR hkl
 have HK:=aQ hk
 clear hst h1 hrow h hok hk hkk
 go_enter Try.func59,Try.ntmps59
 go_wp2_with fail
 generalize w.alloc (bW x (.slice pa pn pc))=w1 at *
 refine wp_region_still_tail 6 (by kernel_rfl) (by kernel_rfl) ?_
 simp only [List.take_succ_cons,List.take_zero,List.drop_succ_cons,List.drop_zero]
 change wpStill _ _ (World.drew _) (fun a'=>wpList _ _ _ _ a' (World.drew _)) _ _
 repeat still_step
 refine wpStill_nil ?_
 go_wp2_with fail
 refine HR.out.mono ?_
 rintro e w2 ⟨rfl,hh⟩
 obtain ⟨_,_,hkp⟩:=hh.get 11 rfl
 obtain ⟨ka,kc,e5,q1,q2,q3⟩:=Sq.le (show Sq eKept 114 w2 _ _ kv a.cT from hkp)
 subst e5
 obtain ⟨_,_,hac⟩:=hh.get 12 rfl
 obtain ⟨ab,ao,ac,e6,r1,r2⟩:=bR (show Sq dK 3 w2 _ _ acv a.aG from hac) (by rw [HOK.out.al];exact HOK.out.n1)
 subst e6
 have HH:=aQ (show dY F Z W (bX p { a with snd:=(a.snd.ack x.number).2 } ⟨rv,sp,ap,wv,bv,snp,rcp,tkp,gvp,bsv,.slice ka a.cT.length kc,.slice (some ⟨ab,ao,none⟩) a.aG.length ac,rev,tav⟩++(ts++[dJ w.heap.size (bW x (.slice pa pn pc))])) w2 from hh)
 have hrow:=HH.out.blk 0 rfl
 have c15:=(aB hrow).2.2.2.2.2.2.2.2.2.2.2.2.2.2.2.1
 dsimp only at c15
 unfold maxLen at q2
 clear hkp hac hh HR H1 c10 k0 k1 k2 k3 hrow
 go_wp2_with fail
 go_loopw [21,6] (fun i _ wr=>∃j:Nat,j<=k/\i=.int .i64 (j:Int)/\Hid (dY F Z W (bX p { a with snd:=(a.snd.ack x.number).2,aG:=tally a.aG (a.cT.take j),cT:=a.cT } ⟨rv,sp,ap,wv,bv,snp,rcp,tkp,gvp,bsv,.slice ka a.cT.length kc,.slice (some ⟨ab,ao,none⟩) a.aG.length ac,rev,tav⟩++(ts++[dJ w.heap.size (bW x (.slice pa pn pc))])) wr)) (fun i _ _=>k - (intOf i).toNat)
 case atStart=>exact ⟨0,Nat.zero_le _,rfl,HH⟩
 case round=>
  clear HH c15
  obtain ⟨j,hj,rfl,HJ⟩:=hrel
  by_cases hlt:j < k
  ·obtain ⟨⟨fc,fd⟩,hx⟩:∃f,a.cT[j]? = some f:=⟨_,List.getElem?_eq_getElem (by omega)⟩
   have hcl:=HOK.out.kcl _ (List.mem_of_getElem? hx)
   obtain ⟨_,_,hkp⟩:=HJ.out.get 11 rfl
   obtain ⟨kb,ko,kcc,e5,_,_⟩:=bR (show Sq eKept 114 wr _ _ (.slice ka a.cT.length kc) a.cT from hkp) (by omega)
   obtain ⟨rfl,rfl⟩:ka=some ⟨kb,ko,none⟩/\kc=kcc:=by simpa using e5
   obtain ⟨v,k0,k1,hby⟩:=kept_at hkp hx
   obtain ⟨va,vc,rfl⟩:=hby.slice
   obtain ⟨_,_,hac⟩:=HJ.out.get 12 rfl
   have hac':=show Sq dK 3 wr _ _ (.slice (some ⟨ab,ao,none⟩) a.aG.length ac) (tally a.aG (a.cT.take j)) from hac
   have haf:=(Sq.free hac').2.2.2
   have hal:(tally a.aG (a.cT.take j)).length=a.aZ.length:=by rw [tally_length,HOK.out.al]
   dsimp only at hcl
   have hz:=bT (d:=0) (show fc < (tally a.aG (a.cT.take j)).length by rw [hal];exact hcl)
   have hzb:=tally_le (a.cT.take j) HOK.out.acn _ (List.mem_of_getElem? hz)
   rw [List.length_take] at hzb
   have hzc:=nat_cell hac' hz
   have hrow:=HJ.out.blk 0 rfl
   have c16:=(aB hrow).2.2.2.2.2.2.2.2.2.2.2.2.2.2.2.2.1
   dsimp only at c16
   rw [HOK.out.al] at c16 r1
   have hbox:=aK wr (.cells #[.int .i64 (fc:Int),.slice va fd.length vc] 114)
   have hs:=((HJ.out.putN (xs:=tally a.aG (a.cT.take j)) 12 rfl (c:=fc) (y:=(tally a.aG (a.cT.take j)).getD fc 0+1) (u:=((tally a.aG (a.cT.take j)).getD fc 0:Int)+1) (by rw [hal];exact hcl) (by omega)).alloc (.cells #[.int .i64 (fc:Int),.slice va fd.length vc] 114)).drew
   have e9:=tally_snoc a.aG hx
   dsimp only at e9
   rw [<-e9] at hs
   have HS:=aQ hs
   obtain ⟨z,hzz⟩:∃z,z=(tally a.aG (a.cT.take j)).getD fc 0:=⟨_,rfl⟩
   rw [<-hzz] at hzb hzc HS
   have hp1:=lt_of_block hrow
   have ha1:=World.block_lt_of_cell? wr _ hzc
   dsimp only at ha1
   clear hkp hby e5 hx hac hac' hz hzz hrow hbox hs e9 hal
   have hw1:IntKind.i64.wrap ((z:Int)+1)=(z:Int)+1:=IntWalk.i64_in _ (by omega)
   go_wp2_with fail
   refine wp_region_still_tail 10 (by kernel_rfl) (by kernel_rfl) ?_
   simp only [List.take_succ_cons,List.take_zero,List.drop_succ_cons,List.drop_zero]
   change wpStill _ _ (World.drew _) (fun a'=>wpList _ _ _ _ a' (World.drew _)) _ _
   repeat still_step
   refine wpStill_nil ?_
   go_wp2_with fail
   go_roundw
   case rel=>exact ⟨j+1,by omega,by go_num,HS⟩
   case measure=>simp [intOf];omega
  ·obtain rfl:k=j:=by omega
   have HG:=aQ (show a.bQ x={ a with snd:=(a.snd.ack x.number).2,aG:=tally a.aG (a.cT.take k),cT:=a.cT.drop k } by
    unfold Prt.bQ;rw [<-HK.out])
   have hrow:=HJ.out.blk 0 rfl
   have c15:=(aB hrow).2.2.2.2.2.2.2.2.2.2.2.2.2.2.2.1
   have cf:=fun i=>aD hrow i
   dsimp only at c15
   have HROW:=aQ hrow
   have HCUT:=aQ (fun (nv:Value) (hnv:∀G Y,Sq eKept 114 wr G Y (.slice ka a.cT.length kc) a.cT->Sq eKept 114 wr G Y nv (a.cT.drop k))=>
    show dY F Z W (bX p { a with snd:=(a.snd.ack x.number).2,aG:=tally a.aG (a.cT.take k),cT:=a.cT.drop k } ⟨rv,sp,ap,wv,bv,snp,rcp,tkp,gvp,bsv,nv,.slice (some ⟨ab,ao,none⟩) a.aG.length ac,rev,tav⟩++(ts++[dJ w.heap.size (bW x (.slice pa pn pc))])) (wr.setCell ⟨p,15,none⟩ nv) from by
     have h1:=HJ.out.upd 11 rfl (T':=tSq eKept 114 nv (a.cT.drop k)) (w':=wr) fun G Y hon _=>⟨hnv G Y hon,Fr.refl _ _⟩
     exact h1.set 0 rfl (portRow { a with snd:=(a.snd.ack x.number).2,aG:=tally a.aG (a.cT.take k),cT:=a.cT.drop k } ⟨rv,sp,ap,wv,bv,snp,rcp,tkp,gvp,bsv,nv,.slice (some ⟨ab,ao,none⟩) a.aG.length ac,rev,tav⟩) (w':=wr.setCell ⟨p,15,none⟩ nv) (by (repeat (first|(with_reducible (first|exact Fr.refl _ _|refine Fr.setCell ?_ ?_ _|refine Fr.drewN ?_ _|refine Fr.drew ?_))|exact Or.inl rfl))) (by have hr:=HROW.out;(apply aS;focus (with_reducible (repeat (first|exact hr|apply aU|apply aP|apply aF))));rfl))
   clear hrow
   have hki:(k:Int)<=(a.cT.length:Int):=by omega
   cases ka with
   |none=>
    obtain ⟨z1,z2⟩:=q3 rfl
    have hk0:k=0:=by omega
    subst hk0
    subst z2
    rw [z1] at c15
    have HS:=aQ (HCUT.out (.slice none 0 0) fun G Y _=>by
     rw [List.drop_zero,List.eq_nil_of_length_eq_zero z1]
     exact Sq.nil _ _ _ _ _)
    clear q3 HCUT
    go_wp2_with fail
    go_end0
    refine ⟨rfl,?_⟩
    rw [HG.out]
    exact HS.out.dropLast.bO
   |some kad=>
    obtain ⟨kb,ko,rfl⟩:∃kb ko,kad=⟨kb,ko,none⟩:=by
     obtain ⟨_,_,K,D,us,_,_,_,⟨_,⟨h,_⟩|⟨g,off,cap,cur,e,_⟩⟩,_⟩:=HJ.out.get 11 rfl
     ·cases h
     ·obtain ⟨rfl,_⟩:kad=⟨g,off,none⟩/\kc=cap:=by simpa using e
      exact ⟨g,off,rfl⟩
    have HS:=aQ (HCUT.out (.slice (if kc=k then some ⟨kb,ko,none⟩ else some ⟨kb,ko+k*2,none⟩) (a.cT.length - k) (kc - k)) fun G Y h=>sq_cut h hkl)
    obtain ⟨na,hna⟩:∃na,(if kc=k then some (⟨kb,ko,none⟩:Addr) else some ⟨kb,ko+k*2,none⟩)=na:=⟨_,rfl⟩
    rw [hna] at HS
    clear q3 HCUT
    go_wp2_with fail
    go_end0
    refine ⟨rfl,?_⟩
    rw [HG.out]
    exact HS.out.dropLast.bO
end

section
open Go.RowKit
section
variable {F Z:BS} {W w:World} {ts:List Th} {p N:Nat} {a:Prt}
theorem rcv_h {rp k:Nat} (h:dY F Z W ts w) (i j:Nat) (hi:ts[i]? = some (tRcv rp k)) (hk:k < 1000000000000) (v:Value) (d:dV) (hj:ts[j]? = some (tBy v d)) (hij:j≠i) (hd:d.length<=1048576) :
  Calls Try.prog 82 #[.pointer (some ⟨rp,0,none⟩),.int .i64 ((k:Int) % 256),v] w fun e w'=>∃v',e=.returned (.tuple #[v',.bool true])/\dY F Z W (ts.set i (tRcv rp (k+1))++[tBy v' d]) w':=by
 obtain ⟨G,Y,hon,hdj,_,hoth,hb⟩:=h.use i hi
 obtain ⟨H,h1,h2,hby⟩:=hoth j _ hij hj
 by_cases h0:0 < d.length
 ·refine (receive_yes rp k v d w hon.1 hk hby.1 hd fun b hb e=>?_).mono fun e w' ⟨v',he,ho,hr,hf⟩=>⟨v',he,hb w' _ [_] ⟨hf.mono fun x hx=>by subst hx;exact hon.2,fun x=>(Y x/\x < w.heap.size)\/w.heap.size<=x,fun x hx=>hx.imp (·.1) .inr,Star.two (G:=fun x=>x=rp) (H:=fun _=>False) ⟨hr,rfl⟩ ?_ (fun _ _ f=>f) (fun x hx=>⟨.inl (by have hx':x=rp:=hx;subst hx';exact hon.2),?_⟩) fun _ f=>f.elim⟩⟩
  ·subst e;exact hdj b hon.2 (hby.2 h0 b hb)
  ·exact ⟨ho.by,fun _ b hb=>.inr (ho.byD.2 b hb).1⟩
  ·have hx':x=rp:=hx
   subst hx'
   have:=lt_of_block hon.1
   rintro (⟨y,_⟩|hl)
   ·exact hdj x hon.2 y
   ·omega
 ·have hd0:d=[]:=List.eq_nil_of_length_eq_zero (by omega)
  subst hd0
  refine (receive_yes' rp k v [] w hon.1 hk (Rd.stay hby.1 fun h=>by rw [cu_length] at h;simp at h) hd).mono fun e w' ⟨v',he,ho,hr,hf⟩=>⟨v',he,hb w' _ [_] ⟨hf.mono fun x hx=>by subst hx;exact hon.2,fun x=>(Y x/\x < w.heap.size)\/w.heap.size<=x,fun x hx=>hx.imp (·.1) .inr,Star.two (G:=fun x=>x=rp) (H:=fun _=>False) ⟨hr,rfl⟩ ?_ (fun _ _ f=>f) (fun x hx=>⟨.inl (by have hx':x=rp:=hx;subst hx';exact hon.2),?_⟩) fun _ f=>f.elim⟩⟩
  ·exact ⟨ho.by,fun _ b hb=>.inr (ho.byD.2 b hb).1⟩
  ·have hx':x=rp:=hx
   subst hx'
   have:=lt_of_block hon.1
   rintro (⟨y,_⟩|hl)
   ·exact hdj x hon.2 y
   ·omega
theorem dY.lastBlk {us:List Th} {b:Nat} {o:Obj} (h:dY F Z W (us++(ts++[dJ b o])) w):w.heap[b]? = some o:=by
 rw [<-List.append_assoc] at h
 exact h.front.blk 0 rfl
theorem get_last' {us:List Th} {B:Th}:(us++(ts++[B]))[us.length+ts.length]? = some B:=by
 rw [List.getElem?_append_right (by omega),Nat.add_sub_cancel_left];simp
theorem get_later {us:List Th} {T B:Th} {j:Nat} (hj:ts[j]? = some T):(us++(ts++[B]))[us.length+j]? = some T:=by
 rw [List.getElem?_append_right (by omega),Nat.add_sub_cancel_left,List.getElem?_append_left (aA hj),hj]
set_option maxRecDepth 100000 in
theorem receive_c (x:Pt) (pv:Value) (hok:a.Ok N) (hN:N<=1000000000) (h:dY F Z W (bP p a::ts) w) (j:Nat) (hj:ts[j]? = some (tBy pv x.pay)) (hpl:x.pay.length<=1000) :
  Calls Try.prog 58 #[.pointer (some ⟨p,0,none⟩),dH x pv] w fun e w'=>e=.returned (.tuple #[])/\dY F Z W (bP p (a.cO x)::ts) w':=by
 obtain ⟨y,hst⟩:=h.port'
 have h1:=(hst.new (bW x pv))
 obtain ⟨rv,sp,ap,wv,bv,snp,rcp,tkp,gvp,bsv,kv,acv,rev,tav⟩:=y
 obtain ⟨_,_,hby⟩:=h.get (j+1) (T:=tBy pv x.pay) (by simpa using hj)
 obtain ⟨pa,pc,rfl⟩:=ByZ.slice hby
 have H1:=aQ (show dY F Z W (bX p a ⟨rv,sp,ap,wv,bv,snp,rcp,tkp,gvp,bsv,kv,acv,rev,tav⟩++(ts++[dJ w.heap.size (bW x (.slice pa x.pay.length pc))])) (w.alloc (bW x (.slice pa x.pay.length pc))) by rw [<-List.append_assoc];exact h1)
 have hrow:=h1.blk 0 rfl
 obtain ⟨_,c1,_,_,_,_,_,_,_,_,_,c11,_,c13,_⟩:=aB hrow
 obtain ⟨k0,k1,k2,k3,k4⟩:=pt_cells (heap_alloc_new w (bW x (.slice pa x.pay.length pc)))
 obtain ⟨_,_,hr⟩:=h1.get 1 rfl
 obtain ⟨rb,ro,rc,e1,_,_⟩:=bR (show Sq dK 3 _ _ _ rv a.aZ from hr) hok.n1
 subst e1
 have HOK:=aQ hok
 have HJ:=aQ hj
 have n4:=hok.n4
 dsimp only at c1 c11 c13
 clear hst h1 hrow h hok hr hby hj c13 k0 k3
 go_enter Try.func58,Try.ntmps58
 go_wp2_with fail
 generalize w.alloc (bW x (.slice pa x.pay.length pc))=w1 at *
 by_cases hc:0<=x.cls/\x.cls < a.aZ.length
 ·obtain ⟨c,hcc⟩:∃c:Nat,x.cls=(c:Int):=⟨x.cls.toNat,by omega⟩
  have hcl:c < a.aZ.length:=by omega
  have HHAS:=aQ (show a.has x.cls from hc)
  have HQ:=aQ (exists_yes (p:=p) (w:=w1) c (some ⟨rb,ro,none⟩) rc hcl c1)
  have HCC:=aQ hcc
  rw [hcc] at k1 ⊢
  clear hc hcc
  refine HQ.out.mono ?_
  rintro e w' ⟨rfl,rfl⟩
  clear HQ
  by_cases hn:x.number=((a.rcv % 256:Nat):Int)
  ·have HQ2:=aQ (rcv_h H1.out.drew 7 (15+j) rfl (by have:=HOK.out.rcv;omega) (.slice pa x.pay.length pc) x.pay (get_later (us:=bX p a ⟨.slice (some ⟨rb,ro,none⟩) a.aZ.length rc,sp,ap,wv,bv,snp,rcp,tkp,gvp,bsv,kv,acv,rev,tav⟩) HJ.out) (by omega) (by omega))
   have HNM:=aQ hn
   have hn':x.number=(a.rcv:Int) % 256:=by omega
   rw [hn'] at k2
   clear hn hn'
   go_wp2_with fail
   refine wp_region_held_drew (S:=fun w'=>w'.cell? ⟨p,11,none⟩=some (.pointer (some ⟨rcp,0,none⟩))/\w'.cell? ⟨w.heap.size,2,none⟩=some (.int .i64 ((a.rcv:Int) % 256))/\w'.cell? ⟨w.heap.size,4,none⟩=some (.slice pa x.pay.length pc)) (by kernel_rfl) ⟨c11,k2,k4⟩ (fun hS0=>?_)
   change wpAnyH _ _ _ _ _ (6+8) _ _ _
   refine aH 0 8 (by kernel_rfl) hS0 (fun _ _ _ _ _ h=>h) ?_
   simp only [List.drop_zero,List.take_succ_cons,List.take_zero]
   iterate 8 (refine aR (v:=?_) (by rfl) ?_ ?_;rotate_left 1;(focus ((intro w' hS';obtain ⟨l0,l1,l2⟩:=hS';go_simp);try with_reducible rfl));simp only [Act.put,List.setIfInBounds_toArray,List.set_cons_zero,List.set_cons_succ])
   refine aT ?_
   refine aM 8 (by kernel_rfl) rfl (fun K hK=>?_)
   (refine step_call (f:=?_) (args:=?_) (by rfl) ?_ ?_;rotate_left 2;(focus (go_simp;first|(with_reducible rfl)|(refine ⟨?_,?_⟩ <;> with_reducible rfl)));(refine (HQ2.out).mono ?_);rintro e w2 ⟨v',rfl,hh⟩)
   refine ⟨_,rfl,?_⟩
   simp only [Act.put,List.setIfInBounds_toArray,List.set_cons_zero,List.set_cons_succ]
   obtain ⟨_,_,hby⟩:=(dY.front hh).get 0 rfl
   obtain ⟨va,vc,rfl⟩:=ByZ.slice hby
   have H2:=aQ (show dY F Z W (tBy (.slice va x.pay.length vc) x.pay::(bX p { a with rcv:=a.rcv+1 } ⟨.slice (some ⟨rb,ro,none⟩) a.aZ.length rc,sp,ap,wv,bv,snp,rcp,tkp,gvp,bsv,kv,acv,rev,tav⟩++(ts++[dJ w.heap.size (bW x (.slice pa x.pay.length pc))]))) w2 from hh.front)
   clear hh hby HQ2 H1 c1 c11 k1 k2 k4 hS0
   have hrow:=H2.out.blk 1 rfl
   have c13:=(aB hrow).2.2.2.2.2.2.2.2.2.2.2.2.2.1
   have c11:=(aB hrow).2.2.2.2.2.2.2.2.2.2.2.1
   have hp1:=lt_of_block hrow
   have hbox:=H2.out.lastBlk (us:=tBy (.slice va x.pay.length vc) x.pay::bX p { a with rcv:=a.rcv+1 } ⟨.slice (some ⟨rb,ro,none⟩) a.aZ.length rc,sp,ap,wv,bv,snp,rcp,tkp,gvp,bsv,kv,acv,rev,tav⟩)
   have k1:=(pt_cells hbox).2.1
   have k2:=(pt_cells hbox).2.2.1
   have k4:=(pt_cells hbox).2.2.2.2
   rw [HCC.out] at k1
   rw [HNM.out] at k2
   dsimp only at c13 c11
   have hSx:w2.cell? ⟨p,11,none⟩=some (.pointer (some ⟨rcp,0,none⟩))/\w2.cell? ⟨w.heap.size,2,none⟩=some (.int .i64 ((a.rcv:Int) % 256))/\w2.cell? ⟨w.heap.size,4,none⟩=some (.slice pa x.pay.length pc):=⟨c11,by rw [k2];simp,k4⟩
   clear c11 k2 k4
   refine hK.out _ _ hSx ?_
   clear hK K
   change wpAnyH _ _ _ _ _ (0+5) _ _ _
   refine aH 9 5 (by kernel_rfl) hSx (fun _ _ _ _ _ h=>h) ?_
   simp only [List.drop_succ_cons,List.drop_zero,List.take_succ_cons,List.take_zero]
   iterate 5 (refine aR (v:=?_) (by rfl) ?_ ?_;rotate_left 1;(focus ((intro w' hS';go_simp);try with_reducible rfl));simp only [Act.put,List.setIfInBounds_toArray,List.set_cons_zero,List.set_cons_succ])
   refine aT ?_
   refine wpAnyH_done (by kernel_rfl) ?_ _
   clear hSx
   have hg:=bT (d:=(⟨0,0,0⟩:Giv)) (show c < a.giv.length by rw [HOK.out.gl];exact hcl)
   have hgb:=HOK.out.giv _ (List.mem_of_getElem? hg)
   have HR:=aQ (receiveG_h H2.out.drew 10 rfl (by rw [HOK.out.gl];exact n4) hg (by omega) (by omega) (by omega))
   clear hrow hbox hg hgb
   go_wp2_with fail
   refine wp_region_still_tail 6 (by kernel_rfl) (by kernel_rfl) ?_
   simp only [List.take_succ_cons,List.take_zero,List.drop_succ_cons,List.drop_zero]
   change wpStill _ _ (World.drew _) (fun a'=>wpList _ _ _ _ a' (World.drew _)) _ _
   repeat still_step
   refine wpStill_nil ?_
   go_wp2_with fail
   refine HR.out.mono ?_
   rintro e w3 ⟨rfl,hh⟩
   have H3:=aQ (show dY F Z W (tBy (.slice va x.pay.length vc) x.pay::(bX p { a with rcv:=a.rcv+1,giv:=a.giv.set c (a.giv.getD c ⟨0,0,0⟩).cO.2 } ⟨.slice (some ⟨rb,ro,none⟩) a.aZ.length rc,sp,ap,wv,bv,snp,rcp,tkp,gvp,bsv,kv,acv,rev,tav⟩++(ts++[dJ w.heap.size (bW x (.slice pa x.pay.length pc))]))) w3 from hh)
   clear hh HR H2 c13 k1
   have hrow:=H3.out.blk 1 rfl
   have hp1:=lt_of_block hrow
   cases hrv:(a.giv.getD c ⟨0,0,0⟩).cO.1 with
   |false=>
    have HG:=aQ (show a.cO x={ a with rcv:=a.rcv+1,giv:=a.giv.set c (a.giv.getD c ⟨0,0,0⟩).cO.2,bL:=a.bL+1 } by
     have hg:=bT (d:=(⟨0,0,0⟩:Giv)) (show c < a.giv.length by rw [HOK.out.gl];exact hcl)
     have e:(a.giv.getD c ⟨0,0,0⟩).cO.2=a.giv.getD c ⟨0,0,0⟩:=by
      revert hrv
      unfold Giv.cO
      split
      ·intro _;rfl
      ·intro h;cases h
     unfold Prt.cO
     rw [if_neg (by rintro (h|h);exact h HHAS.out;exact h HNM.out),HCC.out]
     dsimp only [Int.toNat_natCast]
     rw [if_pos hrv,e,set_same' hg])
    have c19:=(aB hrow).2.2.2.2.2.2.2.2.2.2.2.2.2.2.2.2.2.2.2
    have cf:=fun i=>aD hrow i
    have hov:=HOK.out.ovn
    have HS:=aQ (H3.out.set 1 rfl (portRow { a with rcv:=a.rcv+1,giv:=a.giv.set c (a.giv.getD c ⟨0,0,0⟩).cO.2,bL:=a.bL+1 } ⟨.slice (some ⟨rb,ro,none⟩) a.aZ.length rc,sp,ap,wv,bv,snp,rcp,tkp,gvp,bsv,kv,acv,rev,tav⟩) (w':=w3.setCell ⟨p,19,none⟩ (.int .i64 ((a.bL:Int)+1))) (by (repeat (first|(with_reducible (first|exact Fr.refl _ _|refine Fr.setCell ?_ ?_ _|refine Fr.drewN ?_ _|refine Fr.drew ?_))|exact Or.inl rfl))) (by (apply aS;focus (with_reducible (repeat (first|exact hrow|apply aU|apply aP|apply aF))));rfl))
    clear hrow hrv
    go_wp2_with fail
    refine bodyPost_ret (v:=.tuple #[]) (by simp [results,Try.results58,go_sem]) rfl ?_
    refine ⟨rfl,?_⟩
    rw [HG.out]
    exact HS.out.tail.dropLast.bO
   |true=>
    have HRV:=aQ hrv
    obtain ⟨_,_,hb⟩:=H3.out.get 6 rfl
    obtain ⟨b1,o1,k1,e2,m1,m1'⟩:=bR (show Sq (eSq eBy 27) 54 w3 _ _ bv a.aY from hb) (by rw [HOK.out.bl];omega)
    subst e2
    have hbf:=(Sq.free (show Sq (eSq eBy 27) 54 w3 _ _ (.slice (some ⟨b1,o1,none⟩) a.aY.length k1) a.aY from hb)).2.2.2
    have hx:=bT (d:=[]) (show c < a.aY.length by rw [HOK.out.bl];exact hcl)
    have hln:=HOK.out.bln _ (List.mem_of_getElem? hx)
    have hpb:p≠b1:=H3.out.apart 1 6 (by decide) rfl rfl (fun _ _ h=>h.2) fun _ _ h=>(Sq.free (show Sq _ _ _ _ _ _ _ from h)).2.1
    have hbox:=H3.out.lastBlk (us:=tBy (.slice va x.pay.length vc) x.pay::bX p { a with rcv:=a.rcv+1,giv:=a.giv.set c (a.giv.getD c ⟨0,0,0⟩).cO.2 } ⟨.slice (some ⟨rb,ro,none⟩) a.aZ.length rc,sp,ap,wv,.slice (some ⟨b1,o1,none⟩) a.aY.length k1,snp,rcp,tkp,gvp,bsv,kv,acv,rev,tav⟩)
    obtain ⟨vb,hvc,hout0⟩:=H3.out.out 6 rfl hx
    have hout:=hout0.front
    obtain ⟨xs,hxs⟩:∃xs,xs=a.aY.getD c []:=⟨_,rfl⟩
    have HXS:=aQ hxs
    rw [<-hxs] at hln hout
    obtain ⟨_,_,hsq⟩:=hout.get 0 rfl
    obtain ⟨va2,k2,e3⟩:=Sq.shape (show Sq eBy 27 w3 _ _ vb xs from hsq)
    subst e3
    have hbb:w.heap.size≠b1:=(show dY F Z W ((tSq eBy 27 (.slice va2 xs.length k2) xs::tBy (.slice va x.pay.length vc) x.pay::(bX p { a with rcv:=a.rcv+1,giv:=a.giv.set c (a.giv.getD c ⟨0,0,0⟩).cO.2 } ⟨.slice (some ⟨rb,ro,none⟩) a.aZ.length rc,sp,ap,wv,.slice (some ⟨b1,o1,none⟩) a.aY.length k1,snp,rcp,tkp,gvp,bsv,kv,acv,rev,tav⟩).set 5 (tSq (eOpt (eSq eBy 27)) 54 (.slice (some ⟨b1,o1,none⟩) a.aY.length k1) ((a.aY.map some).set c none)))++(ts++[dJ w.heap.size (bW x (.slice pa x.pay.length pc))])) w3 from hout).apart (17+ts.length) 7 (by omega) (get_last' (us:=tSq eBy 27 (.slice va2 xs.length k2) xs::tBy (.slice va x.pay.length vc) x.pay::(bX p { a with rcv:=a.rcv+1,giv:=a.giv.set c (a.giv.getD c ⟨0,0,0⟩).cO.2 } ⟨.slice (some ⟨rb,ro,none⟩) a.aZ.length rc,sp,ap,wv,.slice (some ⟨b1,o1,none⟩) a.aY.length k1,snp,rcp,tkp,gvp,bsv,kv,acv,rev,tav⟩).set 5 (tSq (eOpt (eSq eBy 27)) 54 (.slice (some ⟨b1,o1,none⟩) a.aY.length k1) ((a.aY.map some).set c none)))) rfl (fun _ _ h=>h.2) fun _ _ h=>(Sq.free (show Sq _ _ _ _ _ _ _ from h)).2.1
    obtain ⟨Kx,us,Yx,hsl,hKn,hoth,hback⟩:=hout.appY 0 rfl
    have hKp:¬Kx p:=hKn p 2 _ (by decide) rfl fun H Y h=>.inl h.2
    have hKb:¬Kx b1:=hKn b1 7 _ (by decide) rfl fun H Y h=>.inl (Sq.free (show Sq _ _ _ H Y _ _ from h)).2.1
    have hKx:¬Kx w.heap.size:=hKn _ (17+ts.length) (dJ w.heap.size (bW x (.slice pa x.pay.length pc))) (by omega) (get_last' (us:=tSq eBy 27 (.slice va2 xs.length k2) xs::tBy (.slice va x.pay.length vc) x.pay::(bX p { a with rcv:=a.rcv+1,giv:=a.giv.set c (a.giv.getD c ⟨0,0,0⟩).cO.2 } ⟨.slice (some ⟨rb,ro,none⟩) a.aZ.length rc,sp,ap,wv,.slice (some ⟨b1,o1,none⟩) a.aY.length k1,snp,rcp,tkp,gvp,bsv,kv,acv,rev,tav⟩).set 5 (tSq (eOpt (eSq eBy 27)) 54 (.slice (some ⟨b1,o1,none⟩) a.aY.length k1) ((a.aY.map some).set c none)))) fun H Y h=>.inl h.2
    obtain ⟨Hx,_,hby⟩:=hoth 1 _ (by decide) rfl
    have hrow:=H3.out.blk 1 rfl
    have c8:=(aB hrow).2.2.2.2.2.2.2.2.1
    have k1':=(pt_cells hbox).2.1
    rw [HCC.out] at k1'
    dsimp only at c8
    rw [HOK.out.bl] at c8 m1
    have hbl1:b1 < w3.heap.size:=World.block_lt_of_cell? w3 _ hvc
    have hxl:=lt_of_block hbox
    have hbd:=bS w3 1
    have hba:=aK w3.drew (.cells #[.slice va x.pay.length vc] 27)
    have hS2:(w3.drew.alloc (.cells #[.slice va x.pay.length vc] 27)).cell? ⟨p,8,none⟩=some (.slice (some ⟨b1,o1,none⟩) a.aZ.length k1)/\(w3.drew.alloc (.cells #[.slice va x.pay.length vc] 27)).cell? ⟨w.heap.size,1,none⟩=some (.int .i64 (c:Int)):=⟨aI _ _ c8,aI _ _ k1'⟩
    have hv2:(w3.drew.alloc (.cells #[.slice va x.pay.length vc] 27)).cell? ⟨b1,o1+c,none⟩=some (.slice va2 xs.length k2):=aI _ _ hvc
    have HARM:=aQ (fun (v2:Value) (w2:World) (hsl2:Sl w2 (fun k=>Kx k\/(w3.drew.alloc (.cells #[.slice va x.pay.length vc] 27)).heap.size<=k) 27 1 v2 (xs.length+1) (us++[.slice va x.pay.length vc])) (hfr2:Fr Kx (w3.drew.alloc (.cells #[.slice va x.pay.length vc] 27)) w2)=>
     show ∃a2 c2,v2=.slice a2 (xs.length+1) c2/\w2.cell? ⟨p,8,none⟩=some (.slice (some ⟨b1,o1,none⟩) a.aZ.length k1)/\w2.cell? ⟨w.heap.size,1,none⟩=some (.int .i64 (c:Int))/\w2.cell? ⟨b1,o1+c,none⟩=some (.slice va2 xs.length k2)/\(∀k,w2.frozen? ⟨b1,k,none⟩=false) /\
      Hid (dY F Z W (bX p { a with rcv:=a.rcv+1,giv:=a.giv.set c (a.giv.getD c ⟨0,0,0⟩).cO.2,aY:=a.aY.set c (xs++[x.pay]) } ⟨.slice (some ⟨rb,ro,none⟩) a.aZ.length rc,sp,ap,wv,.slice (some ⟨b1,o1,none⟩) a.aY.length k1,snp,rcp,tkp,gvp,bsv,kv,acv,rev,tav⟩++(ts++[dJ w.heap.size (bW x (.slice pa x.pay.length pc))])) (w2.setCell ⟨b1,o1+c,none⟩ (.slice a2 (xs.length+1) c2))) from by
     obtain ⟨a2,c2,rfl⟩:=hsl2.shape
     have h1:=hback (w3.drew.alloc (.cells #[.slice va x.pay.length vc] 27)) w2 [.slice va x.pay.length vc] [x.pay] _ (hbd.trans hba) hsl2 hfr2 ⟨fun _=>False,Yx,fun _ f=>f.elim,fun _ y=>.inl y,fun _ f=>f.elim,Els.single (E:=eBy) ⟨_,rfl,ByZ.below hby (hbd.trans hba)⟩⟩
     have h2:=dY.back (c:=c) (yss:=a.aY.set c (xs++[x.pay])) (dY.rear h1) 6 rfl (by rw [List.length_set,List.length_map,HOK.out.bl];exact hcl) set_gap
     have hlA:∀k,k < w3.heap.size->k < (w3.drew.alloc (.cells #[.slice va x.pay.length vc] 27)).heap.size:=fun k hk=>by rw [World.size_alloc];exact Nat.lt_succ_of_lt hk
     exact ⟨a2,c2,rfl,(World.cell?_of_block (hfr2.block p (hlA p hp1) hKp)).trans hS2.1,(World.cell?_of_block (hfr2.block _ (hlA _ hxl) hKx)).trans hS2.2,(World.cell?_of_block (hfr2.block b1 (hlA b1 hbl1) hKb)).trans hv2,fun k=>(World.frozen?_of_block (hfr2.block b1 (hlA b1 hbl1) hKb)).trans ((World.frozen?_of_block ((hbd.trans hba).block b1 hbl1)).trans (hbf k)),aQ h2.tail⟩)
    have HSL:=aQ hsl
    have w8:=hS2.1
    have w9:=hS2.2
    clear hb hx hout hout0 hsq hxs hKn hoth hback hsl hKp hKb hKx hby hrow hbox m1' hba hbd hS2 hbf hrv
    go_wp2_with fail
    refine wp_region_held_drew (S:=fun w'=>w'.cell? ⟨p,8,none⟩=some (.slice (some ⟨b1,o1,none⟩) a.aZ.length k1)/\w'.cell? ⟨w.heap.size,1,none⟩=some (.int .i64 (c:Int))) (by kernel_rfl) ⟨c8,k1'⟩ (fun hS0=>?_)
    change wpAnyH _ _ _ _ _ (6+13) _ _ _
    refine aH 0 13 (by kernel_rfl) hS0 (fun _ _ _ _ _ h=>h) ?_
    simp only [List.drop_zero,List.take_succ_cons,List.take_zero]
    iterate 13 (refine aR (v:=?_) (by rfl) ?_ ?_;rotate_left 1;(focus ((intro w' hS';obtain ⟨l0,l1⟩:=hS';go_simp);try with_reducible rfl));simp only [Act.put,List.setIfInBounds_toArray,List.set_cons_zero,List.set_cons_succ])
    refine aT ?_
    change wpAnyH _ _ _ _ _ (5+1) _ _ _
    refine aH 14 1 (by kernel_rfl) hS0 (fun _ _ _ _ _ h=>h) ?_
    simp only [List.drop_succ_cons,List.drop_zero,List.take_succ_cons,List.take_zero]
    (refine aR (v:=?_) (by rfl) ?_ ?_;rotate_left 1;(focus ((intro w' hS';go_simp);try with_reducible rfl));simp only [Act.put,List.setIfInBounds_toArray,List.set_cons_zero,List.set_cons_succ])
    refine aT ?_
    clear hS0
    refine wpAnyH_two 13 15 (by kernel_rfl) rfl rfl (fun K hK=>?_) (fun K hK=>?_)
    focus
     go_simp
     refine hK.out _ _ ⟨c8,k1'⟩ ?_
     clear hK K
     refine aM 15 (by kernel_rfl) rfl (fun K hK=>?_)
     go_simp
     refine hK.out _ _ ⟨w8,w9⟩ ?_
     clear hK K
    rotate_left
    focus
     go_simp
     refine hK.out _ _ ⟨w8,w9⟩ ?_
     clear hK K
     refine aM 13 (by kernel_rfl) rfl (fun K hK=>?_)
     go_simp
     refine hK.out _ _ ⟨w8,w9⟩ ?_
     clear hK K
    all_goals
     refine aM 16 (by kernel_rfl) rfl (fun K hK=>?_)
     refine step_app_sl slBB rfl _ _ rfl Kx (.slice va2 xs.length k2) xs.length us rfl (HSL.out.drew.alloc _) _ 1 [.slice va x.pay.length vc] rfl (rd_one _ _ _ _ rfl) (by intro u hu;simp at hu;subst hu;rfl) (by unfold maxLen;omega) (by omega) ?_
     intro v2 w4 hsl2 hfr2
     obtain ⟨a2,c2,rfl,q1,q2,q3,qf,HS4⟩:=HARM.out v2 w4 hsl2 hfr2
     clear hsl2 hfr2
     refine hK.out _ _ ⟨q1,q2⟩ ?_
     clear hK K
     simp only [Act.put,List.setIfInBounds_toArray,List.set_cons_zero,List.set_cons_succ]
     refine aM 17 (by kernel_rfl) rfl (fun K hK=>?_)
     go_simp
     refine hK.out _ _ ⟨q1,q2⟩ ?_
     clear hK K
     refine aM 18 (by kernel_rfl) rfl (fun K hK=>?_)
     go_simp
     refine hK.out _ _ ⟨cell_ne hpb q1,cell_ne hbb q2⟩ ?_
     clear hK K
     refine wpAnyH_done (by kernel_rfl) ?_ _
     clear q1 q2 q3 qf w8 w9 hv2 c8 k1' HARM HSL hvc
     generalize w4.setCell ⟨b1,o1+c,none⟩ (.slice a2 (xs.length+1) c2)=w5 at HS4 ⊢
     obtain ⟨_,_,hre⟩:=HS4.out.get 13 rfl
     obtain ⟨b3,o3,k3,e3,m3,m3'⟩:=bR (show Sq dK 3 w5 _ _ rev a.aW from hre) (by rw [HOK.out.rl];omega)
     subst e3
     have hz:=bT (d:=0) (show c < a.aW.length by rw [HOK.out.rl];exact hcl)
     have hzb:=HOK.out.ren _ (List.mem_of_getElem? hz)
     have hzc:=nat_cell hre hz
     have hzf:=(Sq.free (show Sq dK 3 w5 _ _ (.slice (some ⟨b3,o3,none⟩) a.aW.length k3) a.aW from hre)).2.2.2
     have hrow:=HS4.out.blk 0 rfl
     have c17:=(aB hrow).2.2.2.2.2.2.2.2.2.2.2.2.2.2.2.2.2.1
     have hbox:=HS4.out.lastBlk (us:=bX p { a with rcv:=a.rcv+1,giv:=a.giv.set c (a.giv.getD c ⟨0,0,0⟩).cO.2,aY:=a.aY.set c (xs++[x.pay]) } ⟨.slice (some ⟨rb,ro,none⟩) a.aZ.length rc,sp,ap,wv,.slice (some ⟨b1,o1,none⟩) a.aY.length k1,snp,rcp,tkp,gvp,bsv,kv,acv,.slice (some ⟨b3,o3,none⟩) a.aW.length k3,tav⟩)
     have k1':=(pt_cells hbox).2.1
     rw [HCC.out] at k1'
     dsimp only at c17
     rw [HOK.out.rl] at c17 m3
     have HS5:=aQ (show dY F Z W (bX p { a with rcv:=a.rcv+1,giv:=a.giv.set c (a.giv.getD c ⟨0,0,0⟩).cO.2,aY:=a.aY.set c (xs++[x.pay]),aW:=a.aW.set c (a.aW.getD c 0+1) } ⟨.slice (some ⟨rb,ro,none⟩) a.aZ.length rc,sp,ap,wv,.slice (some ⟨b1,o1,none⟩) a.aY.length k1,snp,rcp,tkp,gvp,bsv,kv,acv,.slice (some ⟨b3,o3,none⟩) a.aW.length k3,tav⟩++(ts++[dJ w.heap.size (bW x (.slice pa x.pay.length pc))])) ((w5.setCell ⟨b3,o3+c,none⟩ (.int .i64 ((a.aW.getD c 0:Int)+1))).drew) from
      (HS4.out.putN (xs:=a.aW) 13 rfl (c:=c) (y:=a.aW.getD c 0+1) (u:=(a.aW.getD c 0:Int)+1) (by rw [HOK.out.rl];exact hcl) (by omega)).drew)
     obtain ⟨z,hzz⟩:∃z,z=a.aW.getD c 0:=⟨_,rfl⟩
     have HZ:=aQ hzz
     rw [<-hzz] at hzb hzc
     clear hre hz hrow hbox hzz HS4 m1 m3'
     have hw1:IntKind.i64.wrap ((z:Int)+1)=(z:Int)+1:=IntWalk.i64_in _ (by omega)
     go_upto_region 7 with fail
     refine wp_region_still_tail 10 (by kernel_rfl) (by kernel_rfl) ?_
     simp only [List.take_succ_cons,List.take_zero,List.drop_succ_cons,List.drop_zero]
     change wpStill _ _ (World.drew _) (fun a'=>wpList _ _ _ _ a' (World.drew _)) _ _
     repeat still_step
     refine wpStill_nil ?_
     go_wp2_with fail
     go_end0
     have HG:a.cO x={ a with rcv:=a.rcv+1,giv:=a.giv.set c (a.giv.getD c ⟨0,0,0⟩).cO.2,aY:=a.aY.set c (xs++[x.pay]),aW:=a.aW.set c (a.aW.getD c 0+1) }:=by
      unfold Prt.cO
      rw [if_neg (by rintro (h|h);exact h HHAS.out;exact h HNM.out),HCC.out]
      dsimp only [Int.toNat_natCast]
      rw [if_neg (by rw [HRV.out];decide),<-HXS.out]
     refine ⟨rfl,?_⟩
     rw [HG]
     have hz:=HZ.out
     subst hz
     exact HS5.out.dropLast.bO
  ·have HG:=aQ (show a.cO x=a by
    unfold Prt.cO
    rw [if_pos (.inr hn)])
   have hne:x.number≠(a.rcv:Int) % 256:=by omega
   obtain ⟨_,_,hby⟩:=H1.out.drew.get (15+j) (get_later (us:=bX p a ⟨.slice (some ⟨rb,ro,none⟩) a.aZ.length rc,sp,ap,wv,bv,snp,rcp,tkp,gvp,bsv,kv,acv,rev,tav⟩) HJ.out)
   obtain ⟨_,_,hrcv⟩:=H1.out.drew.get 7 rfl
   have HQ2:=aQ (receive_no rcp a.rcv x.number (.slice pa x.pay.length pc) x.pay w1.drew hrcv.1 hby.1 hne)
   clear hn hne hby hrcv
   go_wp2_with fail
   refine wp_region_held_drew (S:=fun w'=>w'.cell? ⟨p,11,none⟩=some (.pointer (some ⟨rcp,0,none⟩))/\w'.cell? ⟨w.heap.size,2,none⟩=some (.int .i64 (x.number))/\w'.cell? ⟨w.heap.size,4,none⟩=some (.slice pa x.pay.length pc)) (by kernel_rfl) ⟨c11,k2,k4⟩ (fun hS0=>?_)
   change wpAnyH _ _ _ _ _ (6+8) _ _ _
   refine aH 0 8 (by kernel_rfl) hS0 (fun _ _ _ _ _ h=>h) ?_
   simp only [List.drop_zero,List.take_succ_cons,List.take_zero]
   iterate 8 (refine aR (v:=?_) (by rfl) ?_ ?_;rotate_left 1;(focus ((intro w' hS';obtain ⟨l0,l1,l2⟩:=hS';go_simp);try with_reducible rfl));simp only [Act.put,List.setIfInBounds_toArray,List.set_cons_zero,List.set_cons_succ])
   refine aT ?_
   refine aM 8 (by kernel_rfl) rfl (fun K hK=>?_)
   (refine step_call (f:=?_) (args:=?_) (by rfl) ?_ ?_;rotate_left 2;(focus (go_simp;first|(with_reducible rfl)|(refine ⟨?_,?_⟩ <;> with_reducible rfl)));(refine (HQ2.out).mono ?_);rintro e w' ⟨rfl,rfl⟩)
   refine ⟨_,rfl,?_⟩
   simp only [Act.put,List.setIfInBounds_toArray,List.set_cons_zero,List.set_cons_succ]
   have hSx:=hS0
   refine hK.out _ _ hSx ?_
   clear hK K
   change wpAnyH _ _ _ _ _ (0+5) _ _ _
   refine aH 9 5 (by kernel_rfl) hSx (fun _ _ _ _ _ h=>h) ?_
   simp only [List.drop_succ_cons,List.drop_zero,List.take_succ_cons,List.take_zero]
   iterate 5 (refine aR (v:=?_) (by rfl) ?_ ?_;rotate_left 1;(focus ((intro w' hS';go_simp);try with_reducible rfl));simp only [Act.put,List.setIfInBounds_toArray,List.set_cons_zero,List.set_cons_succ])
   refine aT ?_
   refine wpAnyH_done (by kernel_rfl) ?_ _
   go_wp2_with fail
   refine bodyPost_ret (v:=.tuple #[]) (by simp [results,Try.results58,go_sem]) rfl ?_
   refine ⟨rfl,?_⟩
   rw [HG.out]
   exact H1.out.drew.dropLast.bO
 ·have HG:=aQ (show a.cO x=a by
   unfold Prt.cO
   rw [if_pos (show ¬a.has x.cls\/_ from .inl hc)])
  have HQ:=aQ (exists_no (p:=p) (w:=w1) x.cls (some ⟨rb,ro,none⟩) rc (n:=a.aZ.length) (by omega) c1)
  clear hc
  refine HQ.out.mono ?_
  rintro e w' ⟨rfl,rfl⟩
  go_wp2_with fail
  refine bodyPost_ret (v:=.tuple #[]) (by simp [results,Try.results58,go_sem]) rfl ?_
  refine ⟨rfl,?_⟩
  rw [HG.out]
  exact H1.out.dropLast.bO
end
end

section
open Go.RowKit
section
variable {F Z:BS} {W w:World} {ts:List Th} {p N:Nat} {a:Prt}
set_option maxRecDepth 100000 in
theorem handle_c (x:Pt) (pv:Value) (hok:a.Ok N) (hN:N<=1000000000) (h:dY F Z W (bP p a::ts) w) (j:Nat) (hj:ts[j]? = some (tBy pv x.pay)) (hpl:x.pay.length<=1000) :
  Calls Try.prog 33 #[.pointer (some ⟨p,0,none⟩),dH x pv] w fun e w'=>e=.returned (.tuple #[])/\dY F Z W (bP p (a.cU x)::ts) w':=by
 have hmf:∀(fn:Fn) (first cap:Array Value) (w:World),(Instr.makeFunc fn first cap).run Try.prog w=.ok (.func fn first cap) w:=fun _ _ _ _=>rfl
 have h1:=(h.new (bW x pv))
 obtain ⟨_,_,hby⟩:=h.get (j+1) (T:=tBy pv x.pay) (by simpa using hj)
 obtain ⟨pa,pc,rfl⟩:=ByZ.slice hby
 have H1:=aQ (show dY F Z W (bP p a::(ts++[dJ w.heap.size (bW x (.slice pa x.pay.length pc))])) (w.alloc (bW x (.slice pa x.pay.length pc))) from h1)
 obtain ⟨_,_,y,hst⟩:=h1.get 0 rfl
 have hrow:=(hst.get (i:=0) rfl).1
 have c5:=(aB hrow).2.2.2.2.2.1
 have HSD:=aQ (hst.get (i:=2) rfl).2
 obtain ⟨k0,k1,k2,k3,k4⟩:=pt_cells (heap_alloc_new w (bW x (.slice pa x.pay.length pc)))
 have hj':(ts++[dJ w.heap.size (bW x (.slice pa x.pay.length pc))])[j]? = some (tBy (.slice pa x.pay.length pc) x.pay):=by rw [List.getElem?_append_left (aA hj),hj]
 have HJ:=aQ hj'
 have HOK:=aQ hok
 obtain ⟨rv,sp,ap,wv,bv,snp,rcp,tkp,gvp,bsv,kv,acv,rev,tav⟩:=y
 dsimp only at c5 HSD
 clear hst h1 hrow h hok hby hj hj'
 have HDROP:=aQ (fun (a':Prt) (w':World) (h:dY F Z W (bP p a'::(ts++[dJ w.heap.size (bW x (.slice pa x.pay.length pc))])) w')=>show dY F Z W (bP p a'::ts) w' from dY.dropLast (us:=[bP p a']) h)
 go_enter Try.func33,Try.ntmps33
 go_wp2_with fail
 generalize w.alloc (bW x (.slice pa x.pay.length pc))=w1 at *
 by_cases hk1:x.kind=1#8
 ·have b1:((U x.kind:Int) != 1)=false:=by rw [hk1];rfl
  have b2:((U x.kind:Int) == 1)=true:=by rw [hk1];rfl
  have HG:=aQ (show a.cU x=a.greet x by unfold Prt.cU;rw [if_pos hk1])
  clear hk1
  go_quiet (fail)
  go_wp2_with fail
  refine (greet_c x pa x.pay.length pc HOK.out hN (H1.out.drewN nq)).mono ?_
  rintro e w' ⟨rfl,hh⟩
  have HH:=aQ hh
  clear hh
  go_wp2_with fail
  go_end0
  refine ⟨rfl,?_⟩
  rw [HG.out]
  exact HDROP.out _ _ HH.out
 ·have b1:((U x.kind:Int) != 1)=true:=by
   rw [bne_iff_ne];intro e;exact hk1 (U_inj.1 (e.trans (by rfl:(1:Int)=U (1#8))))
  have b2:((U x.kind:Int) == 1)=false:=by rw [beq_eq_false_iff_ne];rw [bne_iff_ne] at b1;exact b1
  by_cases hup:a.cS.state=2
  ·have b3:((a.cS.state:Int) == 2)=true:=by rw [hup];rfl
   by_cases hac:a.cS.cM≠0/\(a.cS.cM:Int)=x.value
   ·have HAC:=aQ (show decide (a.cS.cM≠0/\(a.cS.cM:Int)=x.value)=true from decide_eq_true hac)
    have HC:=aQ (show a.cS.state=2/\a.cS.cM≠0/\(a.cS.cM:Int)=x.value from ⟨hup,hac⟩)
    have HK1:=aQ hk1
    clear hup hac hk1
    go_quiet (first|((go_at_call 35;exact Calls.quiet_of_same ((state_any sp a.cS _ (by exact HSD.out)).mono fun e w' h=>⟨show e=.returned (.int .i64 (a.cS.state:Int)) from h.1,h.2.symm⟩)))|((go_at_call 56;exact Calls.quiet_of_same ((accepts_any sp a.cS _ x.value (by exact HSD.out)).mono fun e w' h=>⟨show e=.returned (.bool true) from by rw [h.1,HAC.out],h.2.symm⟩))))
    go_upto_region 6 with fail
    by_cases hk2:x.kind=2#8
    ·have b4:((U x.kind:Int) == 2)=true:=by rw [hk2];rfl
     have HG:=aQ (show a.cU x=a.cO x by unfold Prt.cU;rw [if_neg HK1.out,if_neg (fun h=>h HC.out),if_pos hk2])
     clear hk2
     go_wp2_with fail
     refine (receive_c x (.slice pa x.pay.length pc) HOK.out hN (H1.out.drewN nq) j HJ.out hpl).mono ?_
     rintro e w' ⟨rfl,hh⟩
     have HH:=aQ hh
     clear hh
     go_wp2_with fail
     go_end0
     refine ⟨rfl,?_⟩
     rw [HG.out]
     exact HDROP.out _ _ HH.out
    ·have b4:((U x.kind:Int) == 2)=false:=by rw [beq_eq_false_iff_ne];intro e;exact hk2 (U_inj.1 (e.trans (by rfl:(2:Int)=U (2#8))))
     by_cases hk3:x.kind=3#8
     ·have b5:((U x.kind:Int) == 3)=true:=by rw [hk3];rfl
      have HG:=aQ (show a.cU x=a.bQ x by unfold Prt.cU;rw [if_neg HK1.out,if_neg (fun h=>h HC.out),if_neg hk2,if_pos hk3])
      clear hk2 hk3
      go_wp2_with fail
      refine (acknowledge_c x pa x.pay.length pc HOK.out hN (H1.out.drewN nq)).mono ?_
      rintro e w' ⟨rfl,hh⟩
      have HH:=aQ hh
      clear hh
      go_wp2_with fail
      go_end0
      refine ⟨rfl,?_⟩
      rw [HG.out]
      exact HDROP.out _ _ HH.out
     ·have b5:((U x.kind:Int) == 3)=false:=by rw [beq_eq_false_iff_ne];intro e;exact hk3 (U_inj.1 (e.trans (by rfl:(3:Int)=U (3#8))))
      by_cases hk4:x.kind=4#8
      ·have b6:((U x.kind:Int) == 4)=true:=by rw [hk4];rfl
       have HG:=aQ (show a.cU x=a.raise x by unfold Prt.cU;rw [if_neg HK1.out,if_neg (fun h=>h HC.out),if_neg hk2,if_neg hk3,if_pos hk4])
       clear hk2 hk3 hk4
       go_wp2_with fail
       refine (raise_c x pa x.pay.length pc HOK.out (H1.out.drewN nq)).mono ?_
       rintro e w' ⟨rfl,hh⟩
       have HH:=aQ hh
       clear hh
       go_wp2_with fail
       go_end0
       refine ⟨rfl,?_⟩
       rw [HG.out]
       exact HDROP.out _ _ HH.out
      ·have b6:((U x.kind:Int) == 4)=false:=by rw [beq_eq_false_iff_ne];intro e;exact hk4 (U_inj.1 (e.trans (by rfl:(4:Int)=U (4#8))))
       have HG:=aQ (show a.cU x=a by unfold Prt.cU;rw [if_neg HK1.out,if_neg (fun h=>h HC.out),if_neg hk2,if_neg hk3,if_neg hk4])
       clear hk2 hk3 hk4
       go_wp2_with fail
       refine bodyPost_ret (v:=.tuple #[]) (by simp [results,Try.results33,go_sem]) rfl ?_
       refine ⟨rfl,?_⟩
       rw [HG.out]
       exact HDROP.out _ _ (H1.out.drewN _)
   ·have HAC:=aQ (show decide (a.cS.cM≠0/\(a.cS.cM:Int)=x.value)=false from decide_eq_false hac)
    have HG:=aQ (show a.cU x=a by unfold Prt.cU;rw [if_neg hk1,if_pos (fun h=>hac h.2)])
    clear hup hac hk1
    go_quiet (first|((go_at_call 35;exact Calls.quiet_of_same ((state_any sp a.cS _ (by exact HSD.out)).mono fun e w' h=>⟨show e=.returned (.int .i64 (a.cS.state:Int)) from h.1,h.2.symm⟩)))|((go_at_call 56;exact Calls.quiet_of_same ((accepts_any sp a.cS _ x.value (by exact HSD.out)).mono fun e w' h=>⟨show e=.returned (.bool false) from by rw [h.1,HAC.out],h.2.symm⟩))))
    go_wp2_with fail
    refine bodyPost_ret (v:=.tuple #[]) (by simp [results,Try.results33,go_sem]) rfl ?_
    refine ⟨rfl,?_⟩
    rw [HG.out]
    exact HDROP.out _ _ (H1.out.drewN _)
  ·have b3:((a.cS.state:Int) == 2)=false:=by rw [beq_eq_false_iff_ne];omega
   have HG:=aQ (show a.cU x=a by unfold Prt.cU;rw [if_neg hk1,if_pos (fun h=>hup h.1)])
   clear hup hk1
   go_quiet ((go_at_call 35;exact Calls.quiet_of_same ((state_any sp a.cS _ (by exact HSD.out)).mono fun e w' h=>⟨show e=.returned (.int .i64 (a.cS.state:Int)) from h.1,h.2.symm⟩)))
   go_wp2_with fail
   refine bodyPost_ret (v:=.tuple #[]) (by simp [results,Try.results33,go_sem]) rfl ?_
   refine ⟨rfl,?_⟩
   rw [HG.out]
   exact HDROP.out _ _ (H1.out.drewN _)
end
end

section
open Go.RowKit
theorem slKept:SlT Try.prog 78 114 (.agg #[.int .i64 0,.slice none 0 0]) 2 32:=⟨Try.underlying78,info_parts (by kernel_rfl),rfl,by decide⟩
theorem dY.weak {F Z:BS} {W w:World} {ts:List Th} {A T:Th} (h:dY F Z W ts w) (i:Nat) (hi:ts[i]? = some A) (k:∀G Y,A.on w G Y->T.on w (fun _=>False) Y):dY F Z W (ts++[T]) w:=by
 obtain ⟨L,h1,h2,h3⟩:=h
 refine ⟨L,h1,h2,fun j T' hj=>?_⟩
 by_cases hjl:j < ts.length
 ·rw [List.getElem?_append_left hjl] at hj;exact h3 j T' hj
 ·rw [List.getElem?_append_right (Nat.le_of_not_lt hjl)] at hj
  obtain rfl:T=T':=by
   have:j - ts.length=0:=by have:=aA hj;simp at this;omega
   rw [this] at hj;simpa using hj
  exact T.mono (k _ _ (h3 i A hi)) (fun _ f=>f.elim) fun _ h=>h
theorem rd_two (w : World) (g : Nat) (u v : Value) (T : TypeId) (hg : g = w.heap.size) : Rd (w.alloc (.cells #[u, v] T)) 2 (.slice (some ⟨g, 0, none⟩) 1 1) 1 [u, v] := by
  subst hg
  refine ⟨rfl, _, 1, rfl, Nat.le_refl _, by decide, (fun e => by cases e), fun b hb j x hj => ?_⟩
  obtain rfl := Option.some.inj hb
  have hr := heap_alloc_new w (.cells #[u, v] T)
  match j, hj with
  | 0, hj => exact ⟨rfl, by obtain rfl : u = x := by simpa using hj
                            exact aJ (i := 0) hr rfl⟩
  | 1, hj => exact ⟨rfl, by obtain rfl : v = x := by simpa using hj
                            exact aJ (i := 1) hr rfl⟩
  | j + 2, hj => simp at hj
abbrev askC (a:Prt) (c:Nat):Bool:=decide (0 < (a.aX.getD c []).length) && decide ((a.tak.getD c ⟨0,0⟩).cP < (a.tak.getD c ⟨0,0⟩).cE)
theorem requests_eq {a:Prt} {n:Nat} (h:a.aX.length=n):upTo n (askC a) (fun _=>false) n=a.bK:=by rw [upTo_all,<-h];rfl
theorem put_bool {F Z:BS} {W w:World} {ts:List Th} {T:TypeId} {b off n cap:Nat} {xs:List Bool} (h:dY F Z W ts w) (i:Nat) (hi:ts[i]? = some (tSq eBool T (.slice (some ⟨b,off,none⟩) n cap) xs)) {c:Nat} {y:Bool} (hc:c < xs.length) :
  dY F Z W (ts.set i (tSq eBool T (.slice (some ⟨b,off,none⟩) n cap) (xs.set c y))) (w.setCell ⟨b,off+c,none⟩ (.bool y)):=by
 have:=h.put pure_bool i hi (c:=c) (j:=0) (a:=xs.getD c false) (a':=y) (u:=.bool y) (bT hc) (by decide) rfl
 simpa [eBool] using this
theorem dY.byAt {F Z:BS} {W w:World} {ts:List Th} {T1 T2:TypeId} {b o n cap c k:Nat} {xss:List (List (List (BitVec 8)))} {xs:List (List (BitVec 8))} {d:List (BitVec 8)} (h:dY F Z W ts w) (i:Nat) (hi:ts[i]? = some (tSq (eSq eBy T1) T2 (.slice (some ⟨b,o,none⟩) n cap) xss)) (hx:xss[c]? = some xs) (hd:xs[k]? = some d) :
  ∃b2 o2 k2 v,w.cell? ⟨b,o+c,none⟩=some (.slice (some ⟨b2,o2,none⟩) xs.length k2)/\xs.length<=k2/\k2<=9223372036854775807/\w.cell? ⟨b2,o2+k,none⟩=some v/\dY F Z W (ts++[tBy v d]) w:=by
 obtain ⟨G,Y,hon⟩:=h.get i hi
 obtain ⟨v0,A,hv0,hsq,_⟩:=sqsq_at hon hx
 obtain ⟨b2,o2,k2,rfl,m1,m2⟩:=bR hsq (by have:=aA hd;omega)
 obtain ⟨v,hv,hby⟩:=sqby_at hsq hd
 refine ⟨b2,o2,k2,v,hv0,m1,m2,hv,h.weak i hi fun G' Y' hon'=>?_⟩
 obtain ⟨v0',A',hv0',hsq',_⟩:=sqsq_at hon' hx
 rw [hv0] at hv0'
 obtain rfl:=Option.some.inj hv0'
 obtain ⟨v',hv',hby'⟩:=sqby_at hsq' hd
 rw [hv] at hv'
 obtain rfl:=Option.some.inj hv'
 exact hby'
theorem dY.lastBy {F Z:BS} {W w:World} {us ts:List Th} {v:Value} {d:List (BitVec 8)} (h:dY F Z W (us++(ts++[tBy v d])) w):By w v d:=by
 rw [<-List.append_assoc] at h
 obtain ⟨_,_,hb⟩:=h.front.get 0 rfl
 exact hb.1
section
variable {F Z:BS} {W w:World} {ts:List Th} {p N:Nat} {a:Prt}
set_option maxRecDepth 100000 in
theorem class_c (num:Nat) (hok:a.Ok N) (hN:N<=1000000000) (hnum:num < 256) (hk:(num+256 - a.snd.aG % 256) % 256 < a.cT.length) (h:dY F Z W (bP p a::ts) w) :
  Calls Try.prog 40 #[.pointer (some ⟨p,0,none⟩),.int .i64 (num:Int)] w fun e w'=>e=.returned (.int .i64 ((a.classOf num:Nat):Int))/\dY F Z W (bP p a::ts) w':=by
 obtain ⟨y,hst⟩:=h.port'
 obtain ⟨rv,sp,ap,wv,bv,snp,rcp,tkp,gvp,bsv,kv,acv,rev,tav⟩:=y
 have hrow:=hst.blk 0 rfl
 have c10:=(aB hrow).2.2.2.2.2.2.2.2.2.2.1
 have HR:=aQ (stotal_h hst 6 rfl hok.snd (by have:=hok.tot;omega))
 have hac:a.snd.aG<=1000000000:=by have:=hok.tot;unfold Snd.total at this;omega
 obtain ⟨q,hq⟩:∃q,q=(num+256 - a.snd.aG % 256) % 256:=⟨_,rfl⟩
 have hqi:((num:Int) - (a.snd.aG:Int) % 256+256) % 256=(q:Int):=by omega
 have HQ:=aQ hq
 rw [<-hq] at hk
 have hn1:(num:Int) < 256:=by omega
 obtain ⟨⟨fc,fd⟩,hx⟩:∃f,a.cT[q]? = some f:=⟨_,List.getElem?_eq_getElem hk⟩
 have HK:=aQ hx
 dsimp only at c10
 clear hq hst hrow h hok hx
 go_enter Try.func40,Try.ntmps40
 go_wp2_with fail
 refine HR.out.mono ?_
 rintro e w1 ⟨rfl,hh⟩
 obtain ⟨_,_,hkp⟩:=hh.get 11 rfl
 obtain ⟨kb,ko,kc,e5,m1,m2⟩:=bR (show Sq eKept 114 w1 _ _ kv a.cT from hkp) (by omega)
 subst e5
 obtain ⟨v,k0,_,_⟩:=kept_at hkp HK.out
 have HH:=aQ hh
 have hrow:=hh.blk 0 rfl
 have c15:=(aB hrow).2.2.2.2.2.2.2.2.2.2.2.2.2.2.2.1
 dsimp only at c15
 clear hkp hh hrow HR c10
 go_wp2_with fail
 go_ret
 refine ⟨?_,HH.out.bO⟩
 unfold Prt.classOf
 rw [<-HQ.out,show a.cT.getD q (0,[])=(fc,fd) by simp [List.getD,HK.out]]
 rfl
set_option maxRecDepth 100000 in
theorem choose_c (hok:a.Ok N) (_:N<=1000000000) (h:dY F Z W (bP p a::ts) w) :
  Calls Try.prog 38 #[.pointer (some ⟨p,0,none⟩)] w fun e w'=>e=.returned (.tuple #[])/\dY F Z W (bP p a.choose::ts) w':=by
 obtain ⟨y,hst⟩:=h.port'
 obtain ⟨rv,sp,ap,wv,bv,snp,rcp,tkp,gvp,bsv,kv,acv,rev,tav⟩:=y
 have hrow:=hst.blk 0 rfl
 obtain ⟨_,_,c2,_,_,_,_,c7,_,_,c10,_⟩:=aB hrow
 obtain ⟨_,_,hwt⟩:=hst.get 4 rfl
 have n1:=hok.n1;have n4:=hok.n4
 obtain ⟨b1,o1,k1,e2,m1,m1'⟩:=bR (show Sq (eSq eBy 27) 54 w _ _ wv a.aX from hwt) (by rw [hok.wl];exact n1)
 subst e2
 have HOK:=aQ hok
 have HH:=aQ hst
 dsimp only at c2 c7 c10
 rw [hok.wl] at c7 m1
 clear hst hrow h hok hwt
 go_enter Try.func38,Try.ntmps38
 go_wp2_with fail
 by_cases hfull:a.cA<=a.snd.cT.length
 ·have HG:=aQ (show a.choose=a by unfold Prt.choose;rw [if_pos hfull])
  go_quiet ((go_at_call 65;exact Calls.quiet_of_same ((skept_h (HH.out.drewN _) 6 rfl).mono fun e w' h=>⟨show e=.returned (.int .i64 (a.snd.cT.length:Int)) from h.1,h.2.symm⟩)))
  go_wp2_with fail
  refine bodyPost_ret (v:=.tuple #[]) (by simp [results,Try.results38,go_sem]) rfl ?_
  refine ⟨rfl,?_⟩
  rw [HG.out]
  exact (HH.out.drewN _).bO
 ·have hroom:decide (a.cA<=a.snd.cT.length)=false:=by simpa using hfull
  have HROOM:=aQ hfull
  clear hfull
  go_quiet ((go_at_call 65;exact Calls.quiet_of_same ((skept_h (HH.out.drewN _) 6 rfl).mono fun e w' h=>⟨show e=.returned (.int .i64 (a.snd.cT.length:Int)) from h.1,h.2.symm⟩)))
  have h1:=HH.out.drewN nq
  generalize w.drewN nq=w1 at h1 ⊢
  have H1:=aQ h1
  have d7:=(aB (h1.blk 0 rfl)).2.2.2.2.2.2.2.1
  dsimp only at d7
  rw [HOK.out.wl] at d7
  clear h1 c2 c7 c10 HH
  go_wp2_with (at_make;refine wpList_mkH (E:=eBool) slBool rfl (a0:=false) (fun _ _=>rfl) rfl _ _ rfl a.aZ.length rfl rfl (by omega) (by unfold maxLen;omega) ?_;intro w2 hb2 hs2;obtain ⟨qb,hqb⟩:∃qb,qb=w1.heap.size:=⟨_,rfl⟩;rw [<-hqb] at hs2 ⊢;have H2:=aQ ((H1.out.add hb2 (T:=tSq eBool 4 (.slice (some ⟨qb,0,none⟩) a.aZ.length a.aZ.length) (List.replicate a.aZ.length false)) (by rw [hqb] at hs2 ⊢;exact hs2)).front);clear hb2 hs2 d7 hqb;have d7:=(aB (H2.out.blk 1 rfl)).2.2.2.2.2.2.2.1;dsimp only at d7;rw [HOK.out.wl] at d7)
  go_loopw [30,3,4] (fun i _ _ wr=>∃j:Nat,j<=a.aZ.length/\i=.int .i64 (j:Int)/\Hid (dY F Z W (tSq eBool 4 (.slice (some ⟨qb,0,none⟩) a.aZ.length a.aZ.length) (upTo a.aZ.length (askC a) (fun _=>false) j)::(bX p a ⟨rv,sp,ap,.slice (some ⟨b1,o1,none⟩) a.aX.length k1,bv,snp,rcp,tkp,gvp,bsv,kv,acv,rev,tav⟩++ts)) wr)) (fun i _ _ _=>a.aZ.length - (intOf i).toNat)
  case atStart=>exact ⟨0,Nat.zero_le _,rfl,aQ (by rw [upTo_zero,show (List.range a.aZ.length).map (fun _=>false)=List.replicate a.aZ.length false by rw [List.map_const',List.length_range]];exact H2.out)⟩
  case round=>
   clear H2 H1 d7
   obtain ⟨j,hj,rfl,HJ⟩:=hrel
   by_cases hlt:j < a.aZ.length
   ·have hrow:=HJ.out.blk 1 rfl
    have d7:=(aB hrow).2.2.2.2.2.2.2.1
    have d12:=(aB hrow).2.2.2.2.2.2.2.2.2.2.2.2.1
    dsimp only at d7 d12
    rw [HOK.out.wl] at d7
    obtain ⟨_,_,hwt⟩:=HJ.out.get 5 rfl
    have hx:=bT (d:=[]) (show j < a.aX.length by rw [HOK.out.wl];exact hlt)
    have hln:=HOK.out.wln _ (List.mem_of_getElem? hx)
    obtain ⟨v,A,hv,hsq,_⟩:=sqsq_at (show Sq (eSq eBy 27) 54 wr _ _ (.slice (some ⟨b1,o1,none⟩) a.aX.length k1) a.aX from hwt) hx
    obtain ⟨va,vc,rfl⟩:=hsq.shape
    obtain ⟨_,_,hrq⟩:=HJ.out.get 0 rfl
    have hrf:=(Sq.free (show Sq eBool 4 wr _ _ (.slice (some ⟨qb,0,none⟩) a.aZ.length a.aZ.length) _ from hrq)).2.2.2
    have hrc:=bool_cell hrq (upTo_get hlt)
    rw [Nat.zero_add] at hrc
    have hg:=bT (d:=(⟨0,0⟩:Tak)) (show j < a.tak.length by rw [HOK.out.tl];exact hlt)
    have hgb:=HOK.out.tak _ (List.mem_of_getElem? hg)
    obtain ⟨l,hl⟩:∃l,l=(a.aX.getD j []).length:=⟨_,rfl⟩
    have HL:=aQ hl
    rw [<-hl] at hv hln
    have HPUT:=aQ (fun (w':World) (h:dY F Z W (tSq eBool 4 (.slice (some ⟨qb,0,none⟩) a.aZ.length a.aZ.length) (upTo a.aZ.length (askC a) (fun _=>false) j)::(bX p a ⟨rv,sp,ap,.slice (some ⟨b1,o1,none⟩) a.aX.length k1,bv,snp,rcp,tkp,gvp,bsv,kv,acv,rev,tav⟩++ts)) w')=>show dY F Z W (tSq eBool 4 (.slice (some ⟨qb,0,none⟩) a.aZ.length a.aZ.length) (upTo a.aZ.length (askC a) (fun _=>false) (j+1))::(bX p a ⟨rv,sp,ap,.slice (some ⟨b1,o1,none⟩) a.aX.length k1,bv,snp,rcp,tkp,gvp,bsv,kv,acv,rev,tav⟩++ts)) (w'.setCell ⟨qb,j,none⟩ (.bool (askC a j))) from by
     have:=put_bool h 0 rfl (c:=j) (y:=askC a j) (by rw [upTo_length];exact hlt)
     rw [upTo_set (f:=askC a),Nat.zero_add] at this
     exact this)
    by_cases h0:l=0
    ·have HAS:=aQ (show askC a j=false by unfold askC;rw [<-HL.out,h0];rfl)
     rw [h0] at hv
     clear hrow hwt hx hsq hrq hg hgb hl h0 hln
     go_wp2_with fail
     go_roundw
     case rel=>exact ⟨j+1,by omega,by go_num,aQ (by have:=HPUT.out _ HJ.out;rwa [HAS.out] at this)⟩
     case measure=>simp [intOf];omega
    ·have hlp:0 < l:=by omega
     have HAS:=aQ (show askC a j=decide ((a.tak.getD j ⟨0,0⟩).cP < (a.tak.getD j ⟨0,0⟩).cE) by unfold askC;rw [<-HL.out,decide_eq_true hlp,Bool.true_and])
     have HR:=aQ (left_h HJ.out 9 rfl (by rw [HOK.out.tl];exact n4) hg (by omega) (by omega))
     obtain ⟨sn,hsn⟩:∃sn,sn=(a.tak.getD j ⟨0,0⟩).cP:=⟨_,rfl⟩
     obtain ⟨lm,hlm⟩:∃lm,lm=(a.tak.getD j ⟨0,0⟩).cE:=⟨_,rfl⟩
     rw [<-hsn,<-hlm] at HAS HR hgb
     obtain ⟨g1,g2⟩:=hgb
     clear hrow hwt hx hsq hrq hg hl h0 hsn hlm
     go_wp2_with fail
     refine HR.out.mono ?_
     rintro e w4 ⟨rfl,hh⟩
     have H4:=aQ hh
     obtain ⟨_,_,hrq⟩:=hh.get 0 rfl
     have hrf4:=(Sq.free (show Sq eBool 4 w4 _ _ (.slice (some ⟨qb,0,none⟩) a.aZ.length a.aZ.length) _ from hrq)).2.2.2
     have hrc4:=bool_cell hrq (upTo_get hlt)
     rw [Nat.zero_add] at hrc4
     clear hh hrq hrf hrc HR hv d7 d12
     go_wp2_with fail
     go_roundw
     case rel=>exact ⟨j+1,by omega,by go_num,aQ (by have:=HPUT.out _ H4.out;rwa [HAS.out] at this)⟩
     case measure=>simp [intOf];omega
   ·obtain rfl:a.aZ.length=j:=by omega
    have h5:=HJ.out
    rw [requests_eq HOK.out.wl] at h5
    have H5:=aQ h5
    have hrow:=h5.blk 1 rfl
    have d6:=(aB hrow).2.2.2.2.2.2.1
    dsimp only at d6
    have hrl:a.bK.length=a.aZ.length:=by unfold Prt.bK;simp [HOK.out.wl]
    have HRL:=aQ hrl
    have HP:=aQ (pick_h h5 4 0 rfl rfl (by decide) (by rw [hrl];exact HOK.out.arb))
    clear h5 hrow hrl
    cases hpk:(a.arb.pick a.bK).1 with
    |none=>
     have HG:=aQ (show a.choose={ a with arb:=(a.arb.pick a.bK).2 } by unfold Prt.choose;rw [if_neg HROOM.out,hpk])
     have HPK:=aQ hpk
     rw [hpk] at HP
     clear hpk
     go_wp2_with fail
     refine HP.out.mono ?_
     rintro e w6 ⟨rfl,hh⟩
     have HH:=aQ (show dY F Z W (tSq eBool 4 (.slice (some ⟨qb,0,none⟩) a.aZ.length a.aZ.length) a.bK::(bX p { a with arb:=(a.arb.pick a.bK).2 } ⟨rv,sp,ap,.slice (some ⟨b1,o1,none⟩) a.aX.length k1,bv,snp,rcp,tkp,gvp,bsv,kv,acv,rev,tav⟩++ts)) w6 from hh)
     clear hh HP d6
     go_wp2_with fail
     refine bodyPost_ret (v:=.tuple #[]) (by simp [results,Try.results38,go_sem]) rfl ?_
     refine ⟨rfl,?_⟩
     rw [HG.out]
     exact HH.out.tail.bO
    |some c=>
     have hfr:=firstReq_lt (req:=a.bK) (ptr:=a.arb.ptr) (n:=a.bK.length) (by rw [HRL.out];exact n1) (k:=a.bK.length) (i:=0) (c:=c) hpk
     have hcl:c < a.aZ.length:=by rw [<-HRL.out];exact hfr.1
     have hask:askC a c=true:=by
      have:=hfr.2
      unfold Prt.bK at this
      rw [List.getD,List.getElem?_map,List.getElem?_range (by rw [HOK.out.wl];exact hcl)] at this
      exact this
     have hwn:0 < (a.aX.getD c []).length:=by
      unfold askC at hask
      rw [Bool.and_eq_true] at hask
      exact of_decide_eq_true hask.1
     obtain ⟨d,l,hdl⟩:∃d l,a.aX.getD c []=d::l:=by
      cases hw:a.aX.getD c [] with
      |nil=>rw [hw] at hwn;simp at hwn
      |cons d l=>exact ⟨d,l,rfl⟩
     have HG:=aQ (show a.choose={ a with arb:=(a.arb.pick a.bK).2,aX:=a.aX.set c l,tak:=a.tak.set c (a.tak.getD c ⟨0,0⟩).take,snd:=(a.snd.dQ d).2,cT:=a.cT++[(c,d)] } by
      unfold Prt.choose
      rw [if_neg HROOM.out,hpk]
      dsimp only
      rw [hdl];rfl)
     have HDL:=aQ hdl
     rw [hpk] at HP
     clear hpk hfr hask hwn hdl
     go_wp2_with fail
     refine HP.out.mono ?_
     rintro e w6 ⟨rfl,hh⟩
     have hh':=show dY F Z W (tSq eBool 4 (.slice (some ⟨qb,0,none⟩) a.aZ.length a.aZ.length) a.bK::(bX p { a with arb:=(a.arb.pick a.bK).2 } ⟨rv,sp,ap,.slice (some ⟨b1,o1,none⟩) a.aX.length k1,bv,snp,rcp,tkp,gvp,bsv,kv,acv,rev,tav⟩++ts)) w6 from hh
     have H6:=aQ hh'.tail
     rw [show chNum (some c)=(c:Int) from rfl]
     clear hh hh' HP d6
     have hx:a.aX[c]? = some (d::l):=by rw [<-HDL.out];exact bT (by rw [HOK.out.wl];exact hcl)
     have hdl:=HOK.out.wsz _ (List.mem_of_getElem? hx) d List.mem_cons_self
     have hln:=HOK.out.wln _ (List.mem_of_getElem? hx)
     obtain ⟨b2,o2,k2,v,hv0,m2,m2',hv,h7⟩:=H6.out.byAt 4 rfl hx (k:=0) (d:=d) rfl
     rw [Nat.add_zero] at hv
     have H7:=aQ (show dY F Z W (bX p { a with arb:=(a.arb.pick a.bK).2 } ⟨rv,sp,ap,.slice (some ⟨b1,o1,none⟩) a.aX.length k1,bv,snp,rcp,tkp,gvp,bsv,kv,acv,rev,tav⟩++(ts++[tBy v d])) w6 by rw [<-List.append_assoc];exact h7)
     obtain ⟨va,vc,hve⟩:=By.slice H7.out.lastBy
     subst hve
     obtain ⟨vc',hvc',_,hinner⟩:=H7.out.inner 4 rfl hx
     obtain rfl:vc'=_:=Option.some.inj (hvc'.symm.trans hv0)
     rw [show (d::l).length=l.length+1 from rfl] at hv0 m2 hln hinner
     have HS:=aQ (hinner (.slice (if k2=1 then some ⟨b2,o2,none⟩ else some ⟨b2,o2+1,none⟩) l.length (k2 - 1)) l fun G Y h=>by
      obtain ⟨g,off,e,_,_,h'⟩:=h.drop (k:=1) (by decide) (by simp)
      obtain ⟨rfl,rfl⟩:b2=g/\o2=off:=by simpa using e
      simpa [eBy] using h')
     obtain ⟨_,_,hwt⟩:=H7.out.get 4 rfl
     have hwf:=(Sq.free (show Sq (eSq eBy 27) 54 w6 _ _ (.slice (some ⟨b1,o1,none⟩) a.aX.length k1) a.aX from hwt)).2.2.2
     have d7:=(aB (H7.out.blk 0 rfl)).2.2.2.2.2.2.2.1
     dsimp only at d7
     rw [HOK.out.wl] at d7
     have h1l:(1:Int)<=(l.length:Int)+1:=by omega
     have hm2:((l.length:Int)+1)<=(k2:Int):=by omega
     have h0l:0 < l.length+1:=by omega
     obtain ⟨na,hna⟩:∃na,(if k2=1 then some (⟨b2,o2,none⟩:Addr) else some ⟨b2,o2+1,none⟩)=na:=⟨_,rfl⟩
     rw [hna] at HS
     clear hx h7 hinner hwt hvc' H6
     go_wp2_with fail
     refine wp_region_still_tail 14 (by kernel_rfl) (by kernel_rfl) ?_
     simp only [List.take_succ_cons,List.take_zero,List.drop_succ_cons,List.drop_zero]
     change wpStill _ _ (World.drew _) (fun a'=>wpList _ _ _ _ a' (World.drew _)) _ _
     repeat still_step
     refine wpStill_nil ?_
     clear hna
     go_upto_region 11 with fail
     have hs3:=HS.out.drew
     generalize hw2:World.drew _=w7 at hs3 ⊢
     clear hw2 HS d7 hwf hv0 hv h1l hm2 h0l m2 m2'
     have H8:=aQ (show dY F Z W (bX p { a with arb:=(a.arb.pick a.bK).2,aX:=a.aX.set c l } ⟨rv,sp,ap,.slice (some ⟨b1,o1,none⟩) a.aX.length k1,bv,snp,rcp,tkp,gvp,bsv,kv,acv,rev,tav⟩++(ts++[tBy (.slice va d.length vc) d])) w7 from hs3)
     have d12:=(aB (hs3.blk 0 rfl)).2.2.2.2.2.2.2.2.2.2.2.2.1
     dsimp only at d12
     have hg:=bT (d:=(⟨0,0⟩:Tak)) (show c < a.tak.length by rw [HOK.out.tl];exact hcl)
     have HT:=aQ (takeT_h H8.out 8 rfl (by rw [HOK.out.tl];exact n4) hg (by have:=(HOK.out.tak _ (List.mem_of_getElem? hg)).2;omega))
     clear hg hs3
     go_wp2_with fail
     refine HT.out.mono ?_
     rintro e w8 ⟨⟨_,rfl⟩,hh⟩
     have H9:=aQ (show dY F Z W (bX p { a with arb:=(a.arb.pick a.bK).2,aX:=a.aX.set c l,tak:=a.tak.set c (a.tak.getD c ⟨0,0⟩).take } ⟨rv,sp,ap,.slice (some ⟨b1,o1,none⟩) a.aX.length k1,bv,snp,rcp,tkp,gvp,bsv,kv,acv,rev,tav⟩++(ts++[tBy (.slice va d.length vc) d])) w8 from hh)
     have d10:=(aB (hh.blk 0 rfl)).2.2.2.2.2.2.2.2.2.2.1
     dsimp only at d10
     have HF:=aQ (soffer_h H9.out 6 rfl HOK.out.snd (.slice va d.length vc) d H9.out.lastBy)
     clear hh HT H8 d12
     go_wp2_with fail
     refine HF.out.mono ?_
     rintro e w9 ⟨rfl,hh⟩
     have H10:=aQ (show dY F Z W (bX p { a with arb:=(a.arb.pick a.bK).2,aX:=a.aX.set c l,tak:=a.tak.set c (a.tak.getD c ⟨0,0⟩).take,snd:=(a.snd.dQ d).2 } ⟨rv,sp,ap,.slice (some ⟨b1,o1,none⟩) a.aX.length k1,bv,snp,rcp,tkp,gvp,bsv,kv,acv,rev,tav⟩++(ts++[tBy (.slice va d.length vc) d])) w9 from hh)
     clear hh HF H9 d10
     obtain ⟨_,_,hkp⟩:=H10.out.get 11 rfl
     obtain ⟨ka,kc,e5,q1,q2,q3⟩:=Sq.le (show Sq eKept 114 w9 _ _ kv a.cT from hkp)
     subst e5
     have hkl:a.cT.length<=128:=HOK.out.beg.kl
     obtain ⟨Kx,us,Yx,hsl,hKn,hoth,hback⟩:=H10.out.appY 11 rfl
     have hKp:¬Kx p:=hKn p 0 _ (by decide) rfl fun H Y h=>.inl h.2
     have hby2:ByZ w9 Yx (.slice va d.length vc) d:=by
      obtain ⟨H,_,hh⟩:=hoth (15+ts.length) (tBy (.slice va d.length vc) d) (by omega) (get_last' (us:=bX p { a with arb:=(a.arb.pick a.bK).2,aX:=a.aX.set c l,tak:=a.tak.set c (a.tak.getD c ⟨0,0⟩).take,snd:=(a.snd.dQ d).2 } ⟨rv,sp,ap,.slice (some ⟨b1,o1,none⟩) a.aX.length k1,bv,snp,rcp,tkp,gvp,bsv,.slice ka a.cT.length kc,acv,rev,tav⟩))
      exact hh
     have hrow:=H10.out.blk 0 rfl
     have hp1:=lt_of_block hrow
     have d15:=(aB hrow).2.2.2.2.2.2.2.2.2.2.2.2.2.2.2.1
     dsimp only at d15
     have hba:=aK w9 (.cells #[.int .i64 (c:Int),.slice va d.length vc] 114)
     have HARM:=aQ (fun (v2:Value) (w2:World) (hsl2:Sl w2 (fun k=>Kx k\/(w9.alloc (.cells #[.int .i64 (c:Int),.slice va d.length vc] 114)).heap.size<=k) 114 2 v2 (a.cT.length+1) (us++[.int .i64 (c:Int),.slice va d.length vc])) (hfr2:Fr Kx (w9.alloc (.cells #[.int .i64 (c:Int),.slice va d.length vc] 114)) w2)=>
      show ∃a2 c2,v2=.slice a2 (a.cT.length+1) c2/\w2.cell? ⟨p,15,none⟩=some (.slice ka a.cT.length kc)/\(∀k,w2.frozen? ⟨p,k,none⟩=false)/\Hid (dY F Z W (bX p { a with arb:=(a.arb.pick a.bK).2,aX:=a.aX.set c l,tak:=a.tak.set c (a.tak.getD c ⟨0,0⟩).take,snd:=(a.snd.dQ d).2,cT:=a.cT++[(c,d)] } ⟨rv,sp,ap,.slice (some ⟨b1,o1,none⟩) a.aX.length k1,bv,snp,rcp,tkp,gvp,bsv,.slice a2 (a.cT.length+1) c2,acv,rev,tav⟩++(ts++[tBy (.slice va d.length vc) d])) (w2.setCell ⟨p,15,none⟩ (.slice a2 (a.cT.length+1) c2))) from by
      obtain ⟨a2,c2,rfl⟩:=hsl2.shape
      have h1:=hback (w9.alloc (.cells #[.int .i64 (c:Int),.slice va d.length vc] 114)) w2 [.int .i64 (c:Int),.slice va d.length vc] [(c,d)] _ hba hsl2 hfr2 ⟨fun _=>False,Yx,fun _ f=>f.elim,fun _ y=>.inl y,fun _ f=>f.elim,
       Els.single (E:=eKept) ⟨[.int .i64 (c:Int)],[.slice va d.length vc],fun _=>False,fun _=>False,rfl,fun _ f=>f,fun _ f=>f,fun _ f=>f.elim,rfl,_,rfl,hby2.below hba⟩⟩
      have hr2:=(hfr2.block p (by rw [World.size_alloc];exact Nat.lt_succ_of_lt hp1) hKp).trans ((hba.block p hp1).trans hrow)
      exact ⟨a2,c2,rfl,(aB hr2).2.2.2.2.2.2.2.2.2.2.2.2.2.2.2.1,fun k=>aD hr2 k,aQ (h1.set 0 rfl (portRow { a with arb:=(a.arb.pick a.bK).2,aX:=a.aX.set c l,tak:=a.tak.set c (a.tak.getD c ⟨0,0⟩).take,snd:=(a.snd.dQ d).2,cT:=a.cT++[(c,d)] } ⟨rv,sp,ap,.slice (some ⟨b1,o1,none⟩) a.aX.length k1,bv,snp,rcp,tkp,gvp,bsv,.slice a2 (a.cT.length+1) c2,acv,rev,tav⟩) (w':=w2.setCell ⟨p,15,none⟩ (.slice a2 (a.cT.length+1) c2)) (by (repeat (first|(with_reducible (first|exact Fr.refl _ _|refine Fr.setCell ?_ ?_ _|refine Fr.drewN ?_ _|refine Fr.drew ?_))|exact Or.inl rfl))) (by (apply aS;focus (with_reducible (repeat (first|exact hr2|apply aU|apply aP|apply aF))));rfl))⟩)
     have HSL:=aQ hsl
     clear hkp hsl hKn hoth hback hKp hby2 hrow hba q1 q2 q3
     go_wp2_with (at_builtin;refine cQ slKept rfl _ _ rfl Kx (.slice ka a.cT.length kc) a.cT.length us rfl (HSL.out.alloc _) _ 1 [.int .i64 (c:Int),.slice va d.length vc] rfl (rd_two _ _ _ _ _ rfl) (by intro u hu;simp at hu;rcases hu with rfl|rfl <;> rfl) (by unfold maxLen;omega) (by omega) ?_;intro v2 w2 hsl2 hfr2;obtain ⟨a2,c2,rfl,k0,kf,HS2⟩:=HARM.out v2 w2 hsl2 hfr2;clear hsl2 hfr2)
     go_end0
     refine ⟨rfl,?_⟩
     rw [HG.out]
     exact HS2.out.dropLast.bO
end
end

section
open Go.RowKit
abbrev ptL (x:Pt) (pv:Value):List Value:=[.int .u8 (U x.kind),.int .i64 x.cls,.int .i64 x.number,.int .i64 x.value,pv]
def ePt:El Pt where
 size:=5
 rd w _ Z cs p:=∃v,cs=ptL p v/\ByZ w Z v p.pay
 len h:=by obtain ⟨v,h,_⟩:=h;rw [h];rfl
 keep h _ hk:=by obtain ⟨v,e,h⟩:=h;exact ⟨v,e,h.stay fun k hz=>hk k (.inr hz)⟩
 mono h _ hZ:=by obtain ⟨v,e,h⟩:=h;exact ⟨v,e,h.mono hZ⟩
 one h u hu:=by
  obtain ⟨v,rfl,⟨_,a,c,rfl,_⟩,_⟩:=h
  simp only [ptL,List.mem_cons,List.not_mem_nil,or_false] at hu
  rcases hu with rfl|rfl|rfl|rfl|rfl <;> rfl
theorem ePt_rd {w:World} {A B:BS} {cs:List Value} {p:Pt} (h:ePt.rd w A B cs p):ePt.rd w (fun _=>False) (fun k=>A k\/B k) cs p:=by
 obtain ⟨v,e,h⟩:=h;exact ⟨v,e,h.mono fun _ h=>.inr h⟩
theorem slPt:SlT Try.prog 28 32 (.agg #[.int .u8 0,.int .i64 0,.int .i64 0,.int .i64 0,.slice none 0 0]) 5 56:=⟨Try.underlying28,info_parts (by kernel_rfl),rfl,by decide⟩
theorem ptL_one {x:Pt} {a:Option Addr} {n c:Nat}:∀u ∈ ptL x (.slice a n c),u.oneCell'=true:=by
 intro u hu
 simp only [ptL,List.mem_cons,List.not_mem_nil,or_false] at hu
 rcases hu with rfl|rfl|rfl|rfl|rfl <;> rfl
theorem rd_pt {w:World} {vb:Nat} {x:Pt} {v:Value} (hrow:w.heap[vb]? = some (bW x v)):Rd w 5 (.slice (some ⟨vb,0,none⟩) 1 1) 1 (ptL x v):=by
 refine ⟨rfl,some ⟨vb,0,none⟩,1,rfl,Nat.le_refl _,by unfold maxLen;omega,(fun e=>by cases e),fun b hb k u hk=>?_⟩
 obtain rfl:=Option.some.inj hb
 refine ⟨rfl,?_⟩
 simp only [World.cell?,hrow,Nat.zero_add]
 simpa using hk
section
variable {F Z:BS} {W w1 w2:World} {ts:List Th}
theorem wpList_app_pt {ops:Array Oper} {rest:List Oper} {o:Oper} {ac:Act} {Q:Exit->Act->World->Prop} {a:Option Addr} {c:Nat} {xs:List Pt} {x:Pt} {pa:Option Addr} {pn pc:Nat}
  (hg:o.guard=none) (s y:Operand) (hop:o.op=Op.call { callee:=Callee.builtin Builtin.append,args := #[s,y],argTypes := #[28,28] })
  (h:dY F Z W ts w1) (i:Nat) (hi:ts[i]? = some (tSq ePt 32 (.slice a xs.length c) xs)) (hp:∀Y,Others ts i w1 Y->ByZ w1 Y (.slice pa pn pc) x.pay) (hb:Below w1.heap.size w1 w2) (hl:xs.length<=1000000) (hs:ac.eval s=.slice a xs.length c) (vb:Nat) (hx:ac.eval y=.slice (some ⟨vb,0,none⟩) 1 1) (hrow:w2.heap[vb]? = some (bW x (.slice pa pn pc)))
  (hK:∀a' c' w3,dY F Z W (ts.set i (tSq ePt 32 (.slice a' (xs++[x]).length c') (xs++[x]))) w3->wpList Try.prog ops Q rest (ac.put o.dst (.slice a' (xs.length+1) c')) w3):wpList Try.prog ops Q (o::rest) ac w2:=by
 obtain ⟨K,us,Y,hsl,_,hoth,hback⟩:=h.appY i hi
 refine cQ slPt hg s y hop K (.slice a xs.length c) xs.length us hs (Sl.keep hsl fun k _ hl=>hb.block k hl) _ 1 _ hx (rd_pt hrow) ptL_one (by unfold maxLen;omega) (by omega) ?_
 intro v' w' hs2 hf2
 obtain ⟨a2,c2,rfl⟩:=hs2.shape
 refine hK _ _ _ ?_
 have:=hback w2 w' _ [x] _ hb hs2 hf2 ⟨fun _=>False,Y,fun _ f=>f.elim,fun k hk=>.inl hk,fun _ f=>f.elim,Els.single (E:=ePt) ⟨_,rfl,ByZ.below (hp Y hoth) hb⟩⟩
 rw [List.length_append]
 exact this
theorem step_app_pt {ops:Array Oper} {o:Oper} {ac:Act} {K0:Act->World->Prop} {Q:Exit->Act->World->Prop} {E0:Prop} {a:Option Addr} {c:Nat} {xs:List Pt} {x:Pt} {pa:Option Addr} {pn pc:Nat}
  (hg:o.guard=none) (s y:Operand) (hop:o.op=Op.call { callee:=Callee.builtin Builtin.append,args := #[s,y],argTypes := #[28,28] })
  (h:dY F Z W ts w1) (i:Nat) (hi:ts[i]? = some (tSq ePt 32 (.slice a xs.length c) xs)) (hp:∀Y,Others ts i w1 Y->ByZ w1 Y (.slice pa pn pc) x.pay) (hb:Below w1.heap.size w1 w2) (hl:xs.length<=1000000) (hs:ac.eval s=.slice a xs.length c) (vb:Nat) (hx:ac.eval y=.slice (some ⟨vb,0,none⟩) 1 1) (hrow:w2.heap[vb]? = some (bW x (.slice pa pn pc)))
  (hK:∀a' c' w3,dY F Z W (ts.set i (tSq ePt 32 (.slice a' (xs++[x]).length c') (xs++[x]))) w3->K0 (ac.put o.dst (.slice a' (xs.length+1) c')) w3):if Region.wanted o (yielded ops ac.tmps)=true then Oper.wp Try.prog o ac w2 K0 Q else E0:=by
 obtain ⟨K,us,Y,hsl,_,hoth,hback⟩:=h.appY i hi
 refine step_app_sl slPt hg s y hop K (.slice a xs.length c) xs.length us hs (Sl.keep hsl fun k _ hl=>hb.block k hl) _ 1 _ hx (rd_pt hrow) ptL_one (by unfold maxLen;omega) (by omega) ?_
 intro v' w' hs2 hf2
 obtain ⟨a2,c2,rfl⟩:=hs2.shape
 refine hK _ _ _ ?_
 have:=hback w2 w' _ [x] _ hb hs2 hf2 ⟨fun _=>False,Y,fun _ f=>f.elim,fun k hk=>.inl hk,fun _ f=>f.elim,Els.single (E:=ePt) ⟨_,rfl,ByZ.below (hp Y hoth) hb⟩⟩
 rw [List.length_append]
 exact this
theorem dY.lit_pt (h:dY F Z W ts w1) {x:Pt} {v:Value} (hp:∀Y,ByZ w1 Y v x.pay):dY F Z W (tSq ePt 32 (.slice (some ⟨w1.heap.size,0,none⟩) 1 1) [x]::ts) (w1.alloc (bW x v)):=by
 refine (h.add (aK w1 _) (T:=tSq ePt 32 (.slice (some ⟨w1.heap.size,0,none⟩) 1 1) [x]) ?_).front
 refine ⟨fun k=>k=w1.heap.size,fun _=>False,ptL x v,fun k hk=>by rcases hk with rfl|f;exact Nat.le_refl _;exact f.elim,fun _ _ f=>f,fun k hk=>by subst hk;simp,?_,Els.single (E:=ePt) ⟨v,rfl,(hp _).below (aK w1 _)⟩⟩
 exact ⟨rfl,.inr ⟨w1.heap.size,0,1,(ptL x v).toArray,rfl,rfl,heap_alloc_new w1 _,Nat.le_refl _,by unfold maxLen;omega,by simp [ePt],rfl⟩⟩
end
theorem pt_at {w:World} {Z:BS} {a:Option Addr} {n c:Nat} {l:List Pt} (h:RdS ePt w Z (.slice a n c) l) {i:Nat} {x:Pt} (hi:l[i]? = some x) :
  ∃b off pa pc,a=some ⟨b,off,none⟩/\ByZ w Z (.slice pa x.pay.length pc) x.pay/\w.cell? ⟨b,off+i*5,none⟩=some (.int .u8 (U x.kind))/\w.cell? ⟨b,off+i*5+1,none⟩=some (.int .i64 x.cls)/\w.cell? ⟨b,off+i*5+2,none⟩=some (.int .i64 x.number)/\w.cell? ⟨b,off+i*5+3,none⟩=some (.int .i64 x.value)/\w.cell? ⟨b,off+i*5+4,none⟩=some (.slice pa x.pay.length pc):=by
 obtain ⟨b,off,cs,e,_,⟨v,rfl,hv⟩,hc⟩:=h.at (by decide) hi
 obtain ⟨pa,pc,rfl⟩:=hv.slice
 exact ⟨b,off,pa,pc,e,hv,hc 0 _ rfl,hc 1 _ rfl,hc 2 _ rfl,hc 3 _ rfl,hc 4 _ rfl⟩
end

section
theorem mem_set {α : Type} {P : α -> Prop} {l:List α} {i:Nat} {v : α} (h:∀x ∈ l,P x) (hv:P v):∀x ∈ l.set i v,P x:=fun x hx=>by
 rcases List.mem_or_eq_of_mem_set hx with hx|rfl
 ·exact h x hx
 ·exact hv
theorem bM {α : Type} {P : α -> Prop} {l:List α} {d : α} (h:∀x ∈ l,P x) (hd:P d) (i:Nat):P (l.getD i d):=by
 rw [List.getD]
 cases hx:l[i]? with
 |none=>exact hd
 |some x=>exact h x (List.mem_of_getElem? hx)
theorem Prt.Ok.mono {N M:Nat} {p:Prt} (h:p.Ok N) (hm:N<=M):p.Ok M:=
 ⟨h.n1,h.n4,h.rm,h.i1,h.i2,h.w1,h.w2,h.t1,h.t2,h.d1,h.d2,h.cS,h.arb,h.wl,h.bl,h.tl,h.gl,h.sl,h.al,h.rl,h.kl,h.cM,h.snd,h.win,(Nat.le_trans h.tot hm),(Nat.le_trans h.rcv hm),h.cT,h.kcl,h.wsz,(fun x hx=>Nat.le_trans (h.wln x hx) hm),h.bsz,(fun x hx=>Nat.le_trans (h.bln x hx) hm),h.tak,(fun g hg=>⟨(h.giv g hg).1,(h.giv g hg).2.1,Nat.le_trans (h.giv g hg).2.2 hm⟩),(fun x hx=>Nat.le_trans (h.bas x hx) hm),(fun x hx=>Nat.le_trans (h.acn x hx) hm),(fun x hx=>Nat.le_trans (h.ren x hx) hm),(fun x hx=>Nat.le_trans (h.tan x hx) hm),(Nat.le_trans h.ovn hm)⟩
theorem Prt.Ok.small {N:Nat} {p:Prt} (h:p.Ok N):∀f ∈ p.cT,f.2.length<=64:=fun f hf=>h.snd.small _ (by rw [<-h.cT];exact List.mem_map.2 ⟨f,hf,rfl⟩)
theorem Prt.Ok.begin {N:Nat} {p:Prt} (h:p.Ok N) {cM:Nat} (hp:cM<=1099511627775):(p.begin cM).Ok (N+128):=by
 have k:=h.mono (show N<=N+128 by omega)
 have hkl:=h.beg.kl
 refine ⟨k.n1,k.n4,k.rm,k.i1,k.i2,k.w1,k.w2,k.t1,k.t2,k.d1,k.d2,k.cS,k.arb,(by simp [Prt.begin,h.wl]),k.bl,(by simp [Prt.begin]),(by simp [Prt.begin]),(by simp [Prt.begin,h.bl]),k.al,k.rl,k.kl,(hp),(newSnd_ok h.w1 h.w2 h.t1 h.t2),(rfl),(by simp [Prt.begin,newSnd,Snd.total]),(Nat.zero_le _),(rfl),(fun f hf=>by cases hf),?_,?_,k.bsz,k.bln,?_,?_,?_,k.acn,k.ren,k.tan,k.ovn⟩
 ·intro l hl d hd
  obtain ⟨c,hc,rfl⟩:=List.mem_map.1 hl
  rcases List.mem_append.1 hd with hd|hd
  ·obtain ⟨f,hf,rfl⟩:=List.mem_map.1 hd
   exact h.small f (List.mem_filter.1 hf).1
  ·exact bM (P:=fun l:List dV=>∀d ∈ l,d.length<=64) h.wsz (by simp) c d hd
 ·intro l hl
  obtain ⟨c,hc,rfl⟩:=List.mem_map.1 hl
  have h1:=again_le p.cT c
  have h2:=bM (P:=fun l:List dV=>l.length<=N) (d:=[]) h.wln (Nat.zero_le _) c
  unfold again at h1
  rw [List.length_append]
  omega
 ·intro t ht
  obtain ⟨_,rfl⟩:=List.mem_replicate.1 ht
  exact ⟨Nat.le_refl _,Nat.zero_le _⟩
 ·intro g hg
  obtain ⟨c,hc,rfl⟩:=List.mem_map.1 hg
  have h1:=bM (P:=fun l:List dV=>l.length<=N) (d:=[]) h.bln (Nat.zero_le _) c
  have h2:p.aZ.getD c 0<=64:=bM (P:=fun x:Nat=>x<=64) (fun x hx=>(h.rm x hx).2) (Nat.zero_le _) c
  rw [held_eq]
  exact ⟨h2,Nat.zero_le _,by dsimp only;omega⟩
 ·intro x hx
  obtain ⟨l,hl,rfl⟩:=List.mem_map.1 hx
  exact k.bln l hl
theorem Side.receive_peer {s:Side} (h:s.Ok) (m y:Int):(s.cO m y).cM<=1099511627775:=by
 have:=h.cO m y;have:=this.cM;have:=(h.cO m y).seen;omega
theorem Prt.Ok.greet {N:Nat} {p:Prt} (h:p.Ok N) (x:Pt):(p.greet x).Ok (N+200):=by
 have k:=h.mono (show N<=N+200 by omega)
 have h1:({ p with cS:=p.cS.cO x.number x.value }:Prt).Ok N:=⟨h.n1,h.n4,h.rm,h.i1,h.i2,h.w1,h.w2,h.t1,h.t2,h.d1,h.d2,(h.cS.cO _ _),h.arb,h.wl,h.bl,h.tl,h.gl,h.sl,h.al,h.rl,h.kl,h.cM,h.snd,h.win,h.tot,h.rcv,h.cT,h.kcl,h.wsz,h.wln,h.bsz,h.bln,h.tak,h.giv,h.bas,h.acn,h.ren,h.tan,h.ovn⟩
 unfold Prt.greet
 dsimp only
 split
 ·exact (h1.begin (Side.receive_peer h.cS _ _)).mono (by omega)
 ·exact h1.mono (by omega)
theorem Prt.Ok.cO {N:Nat} {p:Prt} (h:p.Ok N) (x:Pt) (hx:x.pay.length<=1000):(p.cO x).Ok (N+200):=by
 have k:=h.mono (show N<=N+200 by omega)
 have hr:=h.rcv;have ho:=h.ovn
 unfold Prt.cO
 split
 ·exact k
 ·dsimp only
  split
  ·exact ⟨k.n1,k.n4,k.rm,k.i1,k.i2,k.w1,k.w2,k.t1,k.t2,k.d1,k.d2,k.cS,k.arb,k.wl,k.bl,k.tl,k.gl,k.sl,k.al,k.rl,k.kl,k.cM,k.snd,k.win,k.tot,(by dsimp only;omega),k.cT,k.kcl,k.wsz,k.wln,k.bsz,k.bln,k.tak,k.giv,k.bas,k.acn,k.ren,k.tan,(by dsimp only;omega)⟩
  ·exact ⟨k.n1,k.n4,k.rm,k.i1,k.i2,k.w1,k.w2,k.t1,k.t2,k.d1,k.d2,k.cS,k.arb,k.wl,(by simp [h.bl]),k.tl,(by simp [h.gl]),k.sl,k.al,(by simp [h.rl]),k.kl,k.cM,k.snd,k.win,k.tot,(by dsimp only;omega),k.cT,k.kcl,k.wsz,k.wln,(mem_set k.bsz (fun d hd=>by
    rcases List.mem_append.1 hd with hd|hd
    ·exact bM (P:=fun l:List dV=>∀d ∈ l,d.length<=1000) k.bsz (by simp) _ d hd
    ·rw [List.mem_singleton.1 hd];exact hx)),(mem_set k.bln (by
    have:=bM (P:=fun l:List dV=>l.length<=N) (d:=[]) h.bln (Nat.zero_le _) x.cls.toNat
    rw [List.length_append,List.length_singleton];omega)),k.tak,(mem_set k.giv (by
    have h0:=bM (P:=fun g:Giv=>g.room<=64/\g.cI<=g.aW/\g.aW<=N) (d:=⟨0,0,0⟩) h.giv ⟨Nat.zero_le _,Nat.le_refl _,Nat.zero_le _⟩ x.cls.toNat
    unfold Giv.cO
    split
    ·exact ⟨h0.1,h0.2.1,Nat.le_trans h0.2.2 (by omega)⟩
    ·exact ⟨h0.1,by dsimp only;omega,by dsimp only;omega⟩)),k.bas,k.acn,(mem_set k.ren (by
    have:=bM (P:=fun x:Nat=>x<=N) (d:=0) h.ren (Nat.zero_le _) x.cls.toNat
    omega)),k.tan,k.ovn⟩
theorem Prt.Ok.bQ {N : Nat} {p : Prt} (h : p.Ok N) (x : Pt) : (p.bQ x).Ok (N + 200) := by
  have k := h.mono (show N ≤ N + 200 by omega)
  have hkl := h.beg.kl
  have hak := ack_le h.snd x.number
  have hkk := h.keptl
  unfold Prt.bQ
  have hw : (p.snd.ack x.number).2.cA = p.snd.cA := by
    unfold Snd.ack Snd.accept
    cases p.snd.count x.number with
    | none => rfl
    | some k => unfold Snd.drop; dsimp only; split <;> rfl
  have hkd : (p.snd.ack x.number).2.cT = p.snd.cT.drop (p.snd.ack x.number).1 := by
    unfold Snd.ack Snd.accept
    cases p.snd.count x.number with
    | none => simp
    | some k => unfold Snd.drop; dsimp only; split
                · rename_i h0; subst h0; simp
                · rfl
  exact ⟨k.n1, k.n4, k.rm, k.i1, k.i2, k.w1, k.w2, k.t1, k.t2, k.d1, k.d2, k.cS, k.arb, k.wl, k.bl, k.tl, k.gl, k.sl, (by rw [tally_length]; exact h.al), k.rl, k.kl, k.cM, (ack_ok h.snd _), (by rw [hw]; exact h.win), (by have := accept_total h.snd x.number; show (p.snd.accept x.number).2.total ≤ _; rw [this]; exact k.tot), k.rcv, (by rw [hkd, ← h.cT, List.map_drop]), (fun f hf => h.kcl f (List.mem_of_mem_drop hf)), k.wsz, k.wln, k.bsz, k.bln, k.tak, k.giv, k.bas, (fun y hy => by have := tally_le _ h.acn y hy; rw [List.length_take] at this; omega), k.ren, k.tan, k.ovn⟩
theorem Tak.raise_ok {t:Tak} (h:t.cP<=t.cE/\t.cE<=1099511627776) (l:Int):(t.raise l).cP<=(t.raise l).cE/\(t.raise l).cE<=1099511627776:=by
 unfold Tak.raise
 split
 ·exact h
 ·dsimp only;omega
theorem Prt.Ok.raise {N:Nat} {p:Prt} (h:p.Ok N) (x:Pt):(p.raise x).Ok (N+200):=by
 have k:=h.mono (show N<=N+200 by omega)
 unfold Prt.raise
 split
 ·exact ⟨k.n1,k.n4,k.rm,k.i1,k.i2,k.w1,k.w2,k.t1,k.t2,k.d1,k.d2,k.cS,k.arb,k.wl,k.bl,(by simp [h.tl]),k.gl,k.sl,k.al,k.rl,k.kl,k.cM,k.snd,k.win,k.tot,k.rcv,k.cT,k.kcl,k.wsz,k.wln,k.bsz,k.bln,(mem_set k.tak (Tak.raise_ok (bM (P:=fun t:Tak=>t.cP<=t.cE/\t.cE<=1099511627776) k.tak ⟨Nat.le_refl _,Nat.zero_le _⟩ _) _)),k.giv,k.bas,k.acn,k.ren,k.tan,k.ovn⟩
 ·exact k
theorem Prt.Ok.cU {N:Nat} {p:Prt} (h:p.Ok N) (x:Pt) (hx:x.pay.length<=1000):(p.cU x).Ok (N+200):=by
 have k:=h.mono (show N<=N+200 by omega)
 unfold Prt.cU
 split
 ·exact h.greet x
 ·split
  ·exact k
  ·split
   ·exact h.cO x hx
   ·split
    ·exact h.bQ x
    ·split
     ·exact h.raise x
     ·exact k
theorem Prt.Ok.handles {N:Nat} {p:Prt} (h:p.Ok N):∀(l:List Pt),(∀x ∈ l,x.pay.length<=1000)->(l.foldl Prt.cU p).Ok (N+200*l.length)
 |[],_=>h
 |x::l,hl=>by
  rw [List.foldl_cons,List.length_cons]
  exact ((h.cU x (hl x List.mem_cons_self)).handles l fun y hy=>hl y (List.mem_cons_of_mem _ hy)).mono (by omega)
theorem Prt.Ok.sideTick {N:Nat} {p:Prt} (h:p.Ok N):({ p with cS:=p.cS.cR }:Prt).Ok N:=⟨h.n1,h.n4,h.rm,h.i1,h.i2,h.w1,h.w2,h.t1,h.t2,h.d1,h.d2,(h.cS.cR),h.arb,h.wl,h.bl,h.tl,h.gl,h.sl,h.al,h.rl,h.kl,h.cM,h.snd,h.win,h.tot,h.rcv,h.cT,h.kcl,h.wsz,h.wln,h.bsz,h.bln,h.tak,h.giv,h.bas,h.acn,h.ren,h.tan,h.ovn⟩
theorem offer_takes {s:Snd} {d:dV} (h1:d.length<=64) (h2:s.cT.length < s.cA):s.dQ d=(0,{ s with cT:=s.cT++[d] }):=by
 unfold Snd.dQ;rw [if_neg (by omega),if_neg (by omega)]
theorem Prt.pick_some {N:Nat} {p:Prt} (h:p.Ok N) {c:Nat} (hc:(p.arb.pick p.bK).1=some c):c < p.aZ.length/\0 < (p.aX.getD c []).length/\(p.tak.getD c ⟨0,0⟩).cP < (p.tak.getD c ⟨0,0⟩).cE:=by
 have hl:p.bK.length=p.aZ.length:=by unfold Prt.bK;simp [h.wl]
 have hf:=firstReq_lt (req:=p.bK) (ptr:=p.arb.ptr) (n:=p.bK.length) (by rw [hl];exact h.n1) (k:=p.bK.length) (i:=0) (c:=c) hc
 have hcl:c < p.aZ.length:=by rw [<-hl];exact hf.1
 have:=hf.2
 unfold Prt.bK at this
 rw [List.getD,List.getElem?_map,List.getElem?_range (by rw [h.wl];exact hcl)] at this
 have h3:(decide (0 < (p.aX.getD c []).length) && decide ((p.tak.getD c ⟨0,0⟩).cP < (p.tak.getD c ⟨0,0⟩).cE))=true:=this
 rw [Bool.and_eq_true] at h3
 exact ⟨hcl,of_decide_eq_true h3.1,of_decide_eq_true h3.2⟩
theorem Prt.Ok.choose {N:Nat} {p:Prt} (h:p.Ok N):p.choose.Ok (N+1):=by
 have k:=h.mono (show N<=N+1 by omega)
 have hrl:p.bK.length=p.aZ.length:=by unfold Prt.bK;simp [h.wl]
 have harb:(p.arb.pick p.bK).2.Ok p.aZ.length:=by
  have:=h.arb;rw [<-hrl] at this ⊢;exact this.pick
 unfold Prt.choose
 split
 ·exact k
 ·rename_i hroom
  split
  ·exact ⟨k.n1,k.n4,k.rm,k.i1,k.i2,k.w1,k.w2,k.t1,k.t2,k.d1,k.d2,k.cS,(harb),k.wl,k.bl,k.tl,k.gl,k.sl,k.al,k.rl,k.kl,k.cM,k.snd,k.win,k.tot,k.rcv,k.cT,k.kcl,k.wsz,k.wln,k.bsz,k.bln,k.tak,k.giv,k.bas,k.acn,k.ren,k.tan,k.ovn⟩
  ·rename_i c hc
   obtain ⟨q1,q2,q3⟩:=Prt.pick_some h hc
   obtain ⟨d,l,hdl⟩:∃d l,p.aX.getD c []=d::l:=by
    cases hw:p.aX.getD c [] with
    |nil=>rw [hw] at q2;simp at q2
    |cons d l=>exact ⟨d,l,rfl⟩
   have hm:d::l ∈ p.aX:=by rw [<-hdl];exact List.mem_of_getElem? (bT (by rw [h.wl];exact q1))
   have hd:=h.wsz _ hm d List.mem_cons_self
   have hln:=h.wln _ hm
   have hot:=h.tot
   rw [hdl]
   have hof:=offer_takes (s:=p.snd) (d:=d) hd (by rw [h.win];omega)
   show Prt.Ok (N+1) { p with arb:=_,aX:=p.aX.set c l,tak:=_,snd:=(p.snd.dQ d).2,cT:=p.cT++[(c,d)] }
   rw [hof]
   have hoo:({ p.snd with cT:=p.snd.cT++[d] }:Snd).Ok:=by have:=offer_ok h.snd d;rwa [hof] at this
   exact ⟨k.n1,k.n4,k.rm,k.i1,k.i2,k.w1,k.w2,k.t1,k.t2,k.d1,k.d2,k.cS,(harb),(by simp [h.wl]),k.bl,(by simp [h.tl]),k.gl,k.sl,k.al,k.rl,k.kl,k.cM,(hoo),(h.win),(by simp only [Snd.total,List.length_append,List.length_singleton] at hot ⊢;omega),k.rcv,(by rw [List.map_append,h.cT];rfl),(fun f hf=>by
    rcases List.mem_append.1 hf with hf|hf
    ·exact h.kcl f hf
    ·rw [List.mem_singleton.1 hf];exact q1),(mem_set k.wsz fun e he=>h.wsz _ hm e (List.mem_cons_of_mem _ he)),(mem_set k.wln (by rw [List.length_cons] at hln;omega)),k.bsz,k.bln,(mem_set k.tak (by
    have:=bM (P:=fun t:Tak=>t.cP<=t.cE/\t.cE<=1099511627776) (d:=⟨0,0⟩) k.tak ⟨Nat.le_refl _,Nat.zero_le _⟩ c
    unfold Tak.take
    split
    ·exact this
    ·dsimp only;omega)),k.giv,k.bas,k.acn,k.ren,k.tan,k.ovn⟩
theorem snd_tick_kept (s:Snd):s.cR.2.cT=s.cT/\s.cR.2.cA=s.cA:=by
 unfold Snd.cR
 split
 ·exact ⟨rfl,rfl⟩
 ·split
  ·split <;> exact ⟨rfl,rfl⟩
  ·exact ⟨rfl,rfl⟩
theorem Prt.Ok.sndTick {N:Nat} {p:Prt} (h:p.Ok N):({ p with snd:=p.snd.cR.2 }:Prt).Ok N:=by
 have h1:=snd_tick_kept p.snd
 exact ⟨h.n1,h.n4,h.rm,h.i1,h.i2,h.w1,h.w2,h.t1,h.t2,h.d1,h.d2,h.cS,h.arb,h.wl,h.bl,h.tl,h.gl,h.sl,h.al,h.rl,h.kl,h.cM,(tick_ok h.snd),(by rw [h1.2];exact h.win),(by rw [tick_total];exact h.tot),h.rcv,(by rw [h1.1];exact h.cT),h.kcl,h.wsz,h.wln,h.bsz,h.bln,h.tak,h.giv,h.bas,h.acn,h.ren,h.tan,h.ovn⟩
theorem Prt.Ok.cR {N:Nat} {p:Prt} (h:p.Ok N) {l:List Pt} (hl:∀x ∈ l,x.pay.length<=1000):(p.cR l).2.Ok (N+200*l.length+1):=by
 have h1:=(h.handles l hl).sideTick
 unfold Prt.cR
 dsimp only
 split
 ·exact h1.mono (by omega)
 ·have h2:=h1.choose.sndTick
  cases ht:(Prt.choose { l.foldl Prt.cU p with cS:=(l.foldl Prt.cU p).cS.cR }).snd.cR with
  |mk o s=>
   rw [ht] at h2
   cases o with
   |none=>exact h2
   |some nd=>exact h2
theorem Prt.Ok.dQ {N:Nat} {p:Prt} (h:p.Ok N) (c:Int) (d:dV):(p.dQ c d).2.Ok (N+65):=by
 have k:=h.mono (show N<=N+65 by omega)
 unfold Prt.dQ
 split
 ·exact k
 ·rename_i h0
  split
  ·exact k
  ·rename_i h1
   have hc:0<=c/\c < p.aZ.length:=Decidable.byContradiction fun hc=>h0 (.inl hc)
   have hd:d.length<=64:=Nat.le_of_not_lt fun hc=>h0 (.inr hc)
   have hm:p.aX.getD c.toNat [] ∈ p.aX:=List.mem_of_getElem? (bT (by rw [h.wl];omega))
   exact ⟨k.n1,k.n4,k.rm,k.i1,k.i2,k.w1,k.w2,k.t1,k.t2,k.d1,k.d2,k.cS,k.arb,(by simp [h.wl]),k.bl,k.tl,k.gl,k.sl,k.al,k.rl,k.kl,k.cM,k.snd,k.win,k.tot,k.rcv,k.cT,k.kcl,(mem_set k.wsz fun e he=>by
    rcases List.mem_append.1 he with he|he
    ·exact h.wsz _ hm e he
    ·rw [List.mem_singleton.1 he];exact hd),(mem_set k.wln (by rw [List.length_append,List.length_singleton];omega)),k.bsz,k.bln,k.tak,k.giv,k.bas,k.acn,k.ren,k.tan,k.ovn⟩
theorem Giv.free_ok {g:Giv} {N:Nat} (h:g.room<=64/\g.cI<=g.aW/\g.aW<=N):g.free.room<=64/\g.free.cI<=g.free.aW/\g.free.aW<=N:=by
 unfold Giv.free
 split
 ·exact h
 ·dsimp only;omega
theorem Prt.Ok.take {N:Nat} {p:Prt} (h:p.Ok N) (c:Int):(p.take c).2.Ok (N+1):=by
 have k:=h.mono (show N<=N+1 by omega)
 unfold Prt.take
 split
 ·exact k
 ·rename_i d hd
  have hc:p.has c:=by
   unfold Prt.peek at hd
   split at hd
   ·assumption
   ·cases hd
  have hc':0<=c/\c < p.aZ.length:=hc
  have hm:p.aY.getD c.toNat [] ∈ p.aY:=List.mem_of_getElem? (bT (by rw [h.bl];omega))
  have hg:p.giv.getD c.toNat ⟨0,0,0⟩ ∈ p.giv:=List.mem_of_getElem? (bT (by rw [h.gl];omega))
  have ht:p.cF.getD c.toNat 0 ∈ p.cF:=List.mem_of_getElem? (bT (by rw [h.kl];omega))
  have ht':=h.tan _ ht
  exact ⟨k.n1,k.n4,k.rm,k.i1,k.i2,k.w1,k.w2,k.t1,k.t2,k.d1,k.d2,k.cS,k.arb,k.wl,(by simp [h.bl]),k.tl,(by simp [h.gl]),k.sl,k.al,k.rl,(by simp [h.kl]),k.cM,k.snd,k.win,k.tot,k.rcv,k.cT,k.kcl,k.wsz,k.wln,(mem_set k.bsz fun e he=>h.bsz _ hm e (List.mem_of_mem_drop he)),(mem_set k.bln (by have:=h.bln _ hm;rw [List.length_drop];omega)),k.tak,(mem_set k.giv (Giv.free_ok (k.giv _ hg))),k.bas,k.acn,k.ren,(mem_set k.tan (by omega)),k.ovn⟩
theorem newPrt_ok {inc wi ti de:Nat} {aZ:List Nat} (n1:1<=aZ.length) (n4:aZ.length<=4) (rm:∀x ∈ aZ,1<=x/\x<=64) (i1:1<=inc) (i2:inc<=1099511627775) (w1:1<=wi) (w2:wi<=128) (t1:1<=ti) (t2:ti<=1000) (d1:1<=de) (d2:de<=1000) :
  (dG inc aZ wi ti de).Ok 200:=by
 have hr0:∀x ∈ List.replicate aZ.length (0:Nat),x<=0:=fun x hx=>by rw [(List.mem_replicate.1 hx).2];exact Nat.le_refl _
 have h:Prt.Ok 0 ⟨inc,aZ,wi,ti,de,newSide inc de,newArb aZ.length,List.replicate aZ.length [],List.replicate aZ.length [],0,newSnd wi ti,0,List.replicate aZ.length ⟨0,0⟩,List.replicate aZ.length ⟨0,0,0⟩,List.replicate aZ.length 0,[],List.replicate aZ.length 0,List.replicate aZ.length 0,List.replicate aZ.length 0,0⟩:=
  ⟨(n1),(n4),(rm),(i1),(i2),(w1),(w2),(t1),(t2),(d1),(d2),(newSide_ok i1 i2 d1 d2),(newArb_ok n1 (by omega)),(by simp),(by simp),(by simp),(by simp),(by simp),(by simp),(by simp),(by simp),(Nat.zero_le _),(newSnd_ok w1 w2 t1 t2),(rfl),(Nat.le_refl _),(Nat.le_refl _),(rfl),(fun f hf=>by cases hf),(fun l hl=>by rw [(List.mem_replicate.1 hl).2];simp),(fun l hl=>by rw [(List.mem_replicate.1 hl).2];exact Nat.le_refl _),(fun l hl=>by rw [(List.mem_replicate.1 hl).2];simp),(fun l hl=>by rw [(List.mem_replicate.1 hl).2];exact Nat.le_refl _),(fun t ht=>by rw [(List.mem_replicate.1 ht).2];exact ⟨Nat.le_refl _,Nat.zero_le _⟩),(fun t ht=>by rw [(List.mem_replicate.1 ht).2];exact ⟨Nat.zero_le _,Nat.le_refl _,Nat.le_refl _⟩),(hr0),(hr0),(hr0),(hr0),(Nat.le_refl _)⟩
 have:=(h.begin (cM:=0) (by omega)).mono (show 0+128<=200 by omega)
 exact this
end

end Go.Proofs.Ytbgjpfbcelkllaa
