/- Lemmas; no condition on the program. -/
import Derived.Test.YtjnbanjjoomecaaGreatDoorPkG1
import Derived.Lib.MinMax
import Derived.Test.YtjnbanjjoomecaaGreatDoorPkG2
import Derived.Test.YtjnbanjjoomecaaGreatDoorPkA1
import Derived.Test.YtjnbanjjoomecaaGreatDoorPkF1
import Derived.StillTailTactics
namespace Go.Proofs.YtjnbanjjoomecaaGreatDoor
open Go.RowKit
open List renaming replicate→Vr, getElem?_eq_getElem→Vw, take_succ_cons→Vy, drop_succ_cons→Vz, mem_of_getElem?→VD, append_assoc→VE, getElem?_map→VG, drop_zero→VH, take_zero→VI, length_map→VL, getElem?_eq_none→VT, range→VV, length_take→VW, getElem?_range→VY, length_drop→V9, length_set→Wd, eq_nil_of_length_eq_zero→Wh, getElem?_drop→Wl, getElem?_set_self→Wm, take_of_length_le→Wn, nil_append→WT, set_set→Xo, take_add_one→Xr
open _root_.Go.Proofs.Tryz renaming prog→Vs
open World renaming cell?_of_block→Vt, block_lt_of_cell?→Vv, setCell→VR, drew→V3, size_alloc→WW, frozen?_of_block→XA, drewN→XE
open Nat renaming le_refl→Vu, zero_le→VJ, zero_add→V5, lt_or_ge→WV, mul_one→Xi, le_succ→Yb
open Act renaming put→VF
open _root_.Go.RowKit.Below renaming setCell→VK, refl→VQ, trans→Wi
open Option.some renaming inj→VM
open Region renaming wanted→VN, ready→Wt, binds→WC, noSelect→WO, Mode→Xc, noSelect_spec→X4, free_spec→Yt
open Option renaming map_some→V_
open Int renaming toNat_natCast→Wv
open Bool renaming and_eq_true→Ww
open Oper renaming wp→WZ
open _root_.Array renaming setIfInBounds_comm→XU
set_option maxRecDepth 100000
set_option maxHeartbeats 64000000
abbrev Gu (m d p se st si ch:Int):Value:=.agg #[.int .i64 m,.int .i64 d,.int .i64 p,.int .i64 se,.int .i64 st,.int .i64 si,.int .i64 ch]
abbrev uR (s:Side) (ch:Int):Value:=Gu s.mine s.dead s.cM s.seen s.state s.silent ch
theorem D6 {w:World} {b:Nat} {u0 u1 u2 u3 u4 u5 u6:Value} {T:TypeId} (h:w.heap[b]? = some (.cells #[u0,u1,u2,u3,u4,u5,u6] T)) :
  w.cell? ⟨b,0,none⟩=some u0/\w.cell? ⟨b,1,none⟩=some u1/\w.cell? ⟨b,2,none⟩=some u2/\w.cell? ⟨b,3,none⟩=some u3/\w.cell? ⟨b,4,none⟩=some u4/\w.cell? ⟨b,5,none⟩=some u5/\w.cell? ⟨b,6,none⟩=some u6:=
 ⟨aJ h rfl,aJ h rfl,aJ h rfl,aJ h rfl,aJ h rfl,aJ h rfl,aJ h rfl⟩
theorem qw {B b:Nat} {w w':World} (h:Below B w w') (hb:B<=b) (v0 v1 v2 v3 v4 v5 v6:Value) :
  Below B w (((((((w'.setCell ⟨b,0,none⟩ v0).setCell ⟨b,1,none⟩ v1).setCell ⟨b,2,none⟩ v2).setCell ⟨b,3,none⟩ v3).setCell ⟨b,4,none⟩ v4).setCell ⟨b,5,none⟩ v5).setCell ⟨b,6,none⟩ v6):=
 VK (VK (VK (VK (VK (VK (VK h hb _) hb _) hb _) hb _) hb _) hb _) hb _
theorem vC (m d p se st si ch st' p':Int) (w:World):Calls Vs 122 #[Gu m d p se st si ch,.int .i64 st',.int .i64 p'] w fun e w'=>∃ch',e=.returned (Gu m d p' se st' 0 ch')/\Below w.heap.size w w':=by
 obtain ⟨ch',hch⟩:∃ch',IntKind.i64.wrap (ch+1)=ch':=⟨_,rfl⟩;by_cases h1:st=st'
 ·by_cases h2:p=p'
  ·subst h1 h2
   clear hch;go_enter Tryz.func122,Tryz.ntmps122;go_wp2_with fail;exact bodyPost_ret (v:=Gu m d p se st 0 ch) (by simp [results,Tryz.results122,go_sem]) rfl ⟨ch,rfl,by exact dC⟩
  ·subst h1
   have e2:(p != p')=true:=by simpa using h2
   clear h2;go_enter Tryz.func122,Tryz.ntmps122;go_wp2_with fail;exact bodyPost_ret (v:=Gu m d p' se st 0 ch') (by simp [results,Tryz.results122,go_sem]) rfl ⟨ch',rfl,by exact dC⟩
 ·have e1:(st != st')=true:=by simpa using h1
  clear h1;go_enter Tryz.func122,Tryz.ntmps122;go_wp2_with fail;exact bodyPost_ret (v:=Gu m d p' se st' 0 ch') (by simp [results,Tryz.results122,go_sem]) rfl ⟨ch',rfl,by exact dC⟩
theorem xn (s:Side) (ho:s.Ok) (ch:Int) (w:World):Calls Vs 76 #[uR s ch] w fun e w'=>∃ch',e=.returned (uR s.cR ch')/\Below w.heap.size w w':=by
 obtain ⟨m,d,p,se,st,si⟩:=s;obtain ⟨a1,a2,a3,a4,a5,a6,a7,a8,a9⟩:=ho;dsimp only at *;unfold Side.cR;dsimp only;by_cases h0:p=0
 ·subst h0
  rw [if_pos rfl];go_enter Tryz.func76,Tryz.ntmps76;go_wp2_with fail;exact bodyPost_ret (v:=Gu m d 0 se st si ch) (by simp [results,Tryz.results76,go_sem]) rfl ⟨⟨ch,rfl⟩,by exact dC⟩
 ·rw [if_neg h0]
  have e0:((p:Int) == 0)=false:=by simp;omega
  by_cases h1:d<=si+1
  ·rw [if_pos h1]
   go_enter Tryz.func76,Tryz.ntmps76;go_wp2_with fail;refine (vC m d p se st (si+1) ch 0 0 _).mono ?_;rintro e w1 ⟨ch',rfl,hb⟩
   have hr:w1.heap[w.heap.size+1]? = some (.cells #[.int .i64 0,.int .i64 0,.int .i64 0,.int .i64 0,.int .i64 0,.int .i64 0,.int .i64 0] 49):=by
    have h:=heap_alloc_new (w.alloc (.cells #[.int .i64 (m:Int),.int .i64 (d:Int),.int .i64 (p:Int),.int .i64 (se:Int),.int .i64 (st:Int),.int .i64 ((si:Int)+1),.int .i64 ch] 49)) (.cells #[.int .i64 0,.int .i64 0,.int .i64 0,.int .i64 0,.int .i64 0,.int .i64 0,.int .i64 0] 49);rw [WW] at h;exact (hb.block _ (by simp)).trans h
   have HB:=aQ (show Below w.heap.size w w1 from Wi (by exact dC) (hb.mono (by simp <;> omega)));obtain ⟨g0,g1,g2,g3,g4,g5,g6⟩:=D6 hr;have gf:=fun i=>aD hr i;have hgl:=lt_of_block hr;clear hr;go_wp2_with fail;exact bodyPost_ret (v:=Gu m d 0 se 0 0 ch') (by simp [results,Tryz.results76,go_sem,g0,g1,g2,g3,g4,g5,g6]) rfl ⟨ch',rfl,qw HB.out (Yb _) _ _ _ _ _ _ _⟩
  ·rw [if_neg h1]
   go_enter Tryz.func76,Tryz.ntmps76;go_wp2_with fail;exact bodyPost_ret (v:=Gu m d p se st (si+1) ch) (by simp [results,Tryz.results76,go_sem]) rfl ⟨ch,by simp [uR,Gu],by exact dC⟩
abbrev sdO (m d p se st si ch:Int):Obj:=.cells #[.int .i64 m,.int .i64 d,.int .i64 p,.int .i64 se,.int .i64 st,.int .i64 si,.int .i64 ch] 49
abbrev sdZ:Obj:=.cells #[.int .i64 0,.int .i64 0,.int .i64 0,.int .i64 0,.int .i64 0,.int .i64 0,.int .i64 0] 49
theorem zM (s:Side) (ch:Int) (x y:Int) (w:World):Calls Vs 117 #[uR s ch,.int .i64 x,.int .i64 y] w fun e w'=>∃ch',e=.returned (uR (s.cO x y) ch')/\Below w.heap.size w w':=by
 obtain ⟨m,d,p,se,st,si⟩:=s;unfold Side.cO;dsimp only;by_cases h0:x < 1\/1099511627775 < x\/x < (se:Int)
 ·rw [if_pos h0]
  have h1:x < 1\/(1<=x/\1099511627776<=x)\/(1<=x/\x < 1099511627776/\x < (se:Int)):=by omega
  clear h0
  rcases h1 with h1|⟨h1,h2⟩|⟨h1,h2,h3⟩
  all_goals
   go_enter Tryz.func117,Tryz.ntmps117;go_wp2_with fail;exact bodyPost_ret (v:=Gu m d p se st si ch) (by simp [results,Tryz.results117,go_sem]) rfl ⟨ch,rfl,by exact dC⟩
 ·rw [if_neg h0]
  have h1:1<=x:=by omega
  have h2:x < 1099511627776:=by omega
  have h3:(se:Int)<=x:=by omega
  have hn:((x.toNat:Nat):Int)=x:=by omega
  clear h0
  have hr:∀w1,Below ((w.alloc (sdO m d p x st si ch)).alloc sdZ).heap.size ((w.alloc (sdO m d p x st si ch)).alloc sdZ) w1->w1.heap[w.heap.size+1]? = some sdZ:=fun w1 hb=>by
   have h:=heap_alloc_new (w.alloc (sdO m d p x st si ch)) sdZ;rw [WW] at h;exact (hb.block _ (by simp)).trans h
  have HR:=aQ hr;clear hr;have HN:=aQ hn;clear hn;by_cases hy:y=(m:Int)
  ·rw [if_pos hy]
   subst hy;go_enter Tryz.func117,Tryz.ntmps117;go_wp2_with fail;refine (vC m d p x st si ch 2 x _).mono ?_;rintro e w1 ⟨ch',rfl,hb⟩;have hq:=HR.out _ hb;have HB:=aQ (show Below w.heap.size w w1 from Wi (by exact dC) (hb.mono (by simp <;> omega)));clear hb;obtain ⟨g0,g1,g2,g3,g4,g5,g6⟩:=D6 hq;have gf:=fun i=>aD hq i;have hgl:=lt_of_block hq;clear hq;go_wp2_with fail;exact bodyPost_ret (v:=Gu m d x x 2 0 ch') (by simp [results,Tryz.results117,go_sem,g0,g1,g2,g3,g4,g5,g6]) rfl ⟨ch',by rw [<-HN.out];simp [uR],qw HB.out (Yb _) _ _ _ _ _ _ _⟩
  ·rw [if_neg hy]
   have hy2:(y == (m:Int))=false:=by simpa using hy
   go_enter Tryz.func117,Tryz.ntmps117;go_wp2_with fail;refine (vC m d p x st si ch 1 x _).mono ?_;rintro e w1 ⟨ch',rfl,hb⟩;have hq:=HR.out _ hb;have HB:=aQ (show Below w.heap.size w w1 from Wi (by exact dC) (hb.mono (by simp <;> omega)));clear hb;obtain ⟨g0,g1,g2,g3,g4,g5,g6⟩:=D6 hq;have gf:=fun i=>aD hq i;have hgl:=lt_of_block hq;clear hq;go_wp2_with fail;exact bodyPost_ret (v:=Gu m d x x 1 0 ch') (by simp [results,Tryz.results117,go_sem,g0,g1,g2,g3,g4,g5,g6]) rfl ⟨ch',by rw [<-HN.out];simp [uR],qw HB.out (Yb _) _ _ _ _ _ _ _⟩
abbrev Kn (g:fV):Value:=.agg #[.int .i64 (g.room:Int),.int .i64 (g.aW:Int),.int .i64 (g.cI:Int)]
abbrev NN (t:jC):Value:=.agg #[.int .i64 (t.cP:Int),.int .i64 (t.cE:Int)]
theorem Ev (g:fV) (h:g.room+g.cI<=2000000000) (w:World):Calls Vs 77 #[Kn g] w fun e w'=>e=.returned (.int .i64 (g.cE:Int))/\Below w.heap.size w w':=by
 obtain ⟨r,c,f⟩:=g;dsimp only at *;go_enter Tryz.func77,Tryz.ntmps77;go_wp2_with fail;go_ret;exact ⟨by simp [fV.cE],by exact dC⟩
theorem Cu (g:fV) (h1:g.cI<=g.aW) (h2:g.aW<=g.room+g.cI) (h3:g.aW<=2000000000) (w:World):Calls Vs 119 #[Kn g] w fun e w'=>e=.returned (.tuple #[Kn g.cO.2,.int .i64 (if g.cO.1 then 0 else 5)])/\Below w.heap.size w w':=by
 obtain ⟨r,c,f⟩:=g;unfold fV.cO fV.cE;dsimp only at *;by_cases h0:r+f<=c
 ·rw [if_pos h0]
  have hq:((c:Int) - (f:Int) == (r:Int))=true:=by simp;omega
  go_enter Tryz.func119,Tryz.ntmps119;go_wp2_with fail;exact bodyPost_ret (v:=.tuple #[.agg #[.int .i64 (r:Int),.int .i64 (c:Int),.int .i64 (f:Int)],.int .i64 5]) (by simp [results,Tryz.results119,go_sem]) rfl ⟨rfl,by exact dC⟩
 ·rw [if_neg h0]
  have hq:((c:Int) - (f:Int) == (r:Int))=false:=by simp;omega
  go_enter Tryz.func119,Tryz.ntmps119;go_wp2_with fail;exact bodyPost_ret (v:=.tuple #[.agg #[.int .i64 (r:Int),.int .i64 ((c:Int)+1),.int .i64 (f:Int)],.int .i64 0]) (by simp [results,Tryz.results119,go_sem]) rfl ⟨by simp,by exact dC⟩
theorem Iq (g:fV) (h1:g.cI<=g.aW) (h3:g.aW<=2000000000) (w:World):Calls Vs 71 #[Kn g] w fun e w'=>(∃r,e=.returned (.tuple #[Kn g.free,.int .i64 r]))/\Below w.heap.size w w':=by
 obtain ⟨r,c,f⟩:=g;unfold fV.free;dsimp only at *;by_cases h0:c<=f
 ·rw [if_pos h0]
  obtain rfl:c=f:=by omega
  go_enter Tryz.func71,Tryz.ntmps71;go_wp2_with fail;exact bodyPost_ret (v:=.tuple #[.agg #[.int .i64 (r:Int),.int .i64 (c:Int),.int .i64 (c:Int)],.int .i64 7]) (by simp [results,Tryz.results71,go_sem]) rfl ⟨⟨7,rfl⟩,by exact dC⟩
 ·rw [if_neg h0]
  have hq:((c:Int) == (f:Int))=false:=by simp;omega
  go_enter Tryz.func71,Tryz.ntmps71;go_wp2_with fail;exact bodyPost_ret (v:=.tuple #[.agg #[.int .i64 (r:Int),.int .i64 (c:Int),.int .i64 ((f:Int)+1)],.int .i64 0]) (by simp [results,Tryz.results71,go_sem]) rfl ⟨⟨0,by simp⟩,by exact dC⟩
theorem Ik (t:jC) (h:t.cE<=1099511627776) (w:World):Calls Vs 79 #[NN t] w fun e w'=>(∃r,e=.returned (.tuple #[NN t.take,.int .i64 r]))/\Below w.heap.size w w':=by
 obtain ⟨s,l⟩:=t;unfold jC.take;dsimp only at *;by_cases h0:l<=s
 ·rw [if_pos h0]
  go_enter Tryz.func79,Tryz.ntmps79;go_wp2_with fail;exact bodyPost_ret (v:=.tuple #[.agg #[.int .i64 (s:Int),.int .i64 (l:Int)],.int .i64 5]) (by simp [results,Tryz.results79,go_sem]) rfl ⟨⟨5,rfl⟩,by exact dC⟩
 ·rw [if_neg h0]
  go_enter Tryz.func79,Tryz.ntmps79;go_wp2_with fail;exact bodyPost_ret (v:=.tuple #[.agg #[.int .i64 ((s:Int)+1),.int .i64 (l:Int)],.int .i64 0]) (by simp [results,Tryz.results79,go_sem]) rfl ⟨⟨0,by simp⟩,by exact dC⟩
theorem Et (t:jC) (x:Int) (w:World):Calls Vs 121 #[NN t,.int .i64 x] w fun e w'=>(∃r,e=.returned (.tuple #[NN (t.raise x),.int .i64 r]))/\Below w.heap.size w w':=by
 obtain ⟨s,l⟩:=t;unfold jC.raise;dsimp only;by_cases h0:x < 0\/1099511627776 < x
 ·rw [if_pos h0]
  have h1:x < 0\/(0<=x/\1099511627776 < x):=by omega
  clear h0
  rcases h1 with h1|⟨h1,h2⟩
  all_goals
   go_enter Tryz.func121,Tryz.ntmps121;go_wp2_with fail;exact bodyPost_ret (v:=.tuple #[.agg #[.int .i64 (s:Int),.int .i64 (l:Int)],.int .i64 2]) (by simp [results,Tryz.results121,go_sem]) rfl ⟨⟨2,rfl⟩,by exact dC⟩
 ·rw [if_neg h0]
  obtain ⟨n,rfl⟩:∃n:Nat,x=(n:Int):=⟨x.toNat,by omega⟩;have h1:(0:Int)<=(n:Int):=by omega
  have h2:(n:Int)<=1099511627776:=by omega
  rw [Wv];obtain ⟨k,hk⟩:∃k,k=max l n:=⟨_,rfl⟩;have hmx:max (l:Int) (n:Int)=(k:Int):=by omega
  rw [<-hk];clear h0 hk;go_enter Tryz.func121,Tryz.ntmps121;go_wp2_with fail;exact bodyPost_ret (v:=.tuple #[.agg #[.int .i64 (s:Int),.int .i64 (k:Int)],.int .i64 0]) (by simp [results,Tryz.results121,go_sem]) rfl ⟨⟨0,rfl⟩,by exact dC⟩

def Aj:El jC where
 size:=2
 rd _ _ _ cs t:=cs=[.int .i64 (t.cP:Int),.int .i64 (t.cE:Int)]
 len h:=by rw [h];rfl
 keep h _ _:=h
 mono h _ _:=h
 one h u hu:=by
  rw [h] at hu;simp at hu
  rcases hu with rfl|rfl <;> rfl
def xA:El fV where
 size:=3
 rd _ _ _ cs g:=cs=[.int .i64 (g.room:Int),.int .i64 (g.aW:Int),.int .i64 (g.cI:Int)]
 len h:=by rw [h];rfl
 keep h _ _:=h
 mono h _ _:=h
 one h u hu:=by
  rw [h] at hu;simp at hu
  rcases hu with rfl|rfl|rfl <;> rfl
structure RpV where
 rv:Value
 wv:Value
 bv:Value
 kv:Value
 cv:Value
 tv:Value
 gv:Value
 ev:Value
 av:Value
 sv:Value
 nv:Value
 hv:Value
 ch:Int
abbrev iX (a:δ) (x:RpV):Obj:=.cells #[.int .i64 (a.inc:Int),x.rv,.int .i64 (a.cA:Int),.int .i64 (a.aN:Int),.int .i64 (a.dead:Int),
 .int .i64 (a.cS.mine:Int),.int .i64 (a.cS.dead:Int),.int .i64 (a.cS.cM:Int),.int .i64 (a.cS.seen:Int),.int .i64 (a.cS.state:Int),.int .i64 (a.cS.silent:Int),.int .i64 x.ch,
 x.wv,x.bv,.int .i64 (a.cM:Int),
 .int .i64 (a.snd.cA:Int),.int .i64 (a.snd.aN:Int),x.kv,.int .i64 ((a.snd.aG+a.snd.cT.length:Nat):Int),.int .i64 (a.snd.aG:Int),.int .i64 (a.snd.pos:Int),.int .i64 (a.snd.cP:Int),.int .i64 (a.snd.timer:Int),
 x.cv,.int .i64 (a.rcv:Int),x.tv,x.gv,x.ev,.int .i64 (a.dE.ptr:Int),x.av,x.sv,x.nv,x.hv,.int .i64 (a.bL:Int)] 61
abbrev ω (p:Nat) (a:δ) (x:RpV):List Th:=
 [dJ p (iX a x),a_ dK x.rv a.aZ,ζ (df ψ 40) 51 x.wv a.aX,ζ (df ψ 40) 51 x.bv a.aY,ζ ψ 40 x.kv a.snd.cT,ζ dK 3 x.cv (a.cT.map (·.1)),
  ζ Aj 176 x.tv a.bu,ζ xA 161 x.gv a.π,ζ dK 3 x.ev a.base,ζ dK 3 x.av a.dE.jc,ζ dK 3 x.sv a.aG,ζ dK 3 x.nv a.aW,ζ dK 3 x.hv a.cF]
def gJ (p:Nat) (a:δ):Th:=Na (ω p a)
section
variable {F Z:BS} {W w:World} {ts:List Th} {p:Nat} {a:δ}
theorem dY.rp (h:dY F Z W (gJ p a::ts) w):∃x,dY F Z W (ω p a x++ts) w:=dY.opens h
theorem dY.ax {x:RpV} (h:dY F Z W (ω p a x++ts) w):dY F Z W (gJ p a::ts) w:=dY.shut (f:=ω p a) h
theorem jF {n:Nat} (c:Nat) (ra:Option Addr) (rc:Nat) (hc:c < n) (h1:w.cell? ⟨p,1,none⟩=some (.slice ra n rc)) :
  Calls Vs 70 #[.pointer (some ⟨p,0,none⟩),.int .i64 (c:Int)] w fun e w'=>e=.returned (.bool true)/\w=w':=by
 go_enter Tryz.func70,Tryz.ntmps70;go_wp2_with fail;go_ret;exact ⟨by simp,rfl⟩
theorem uC {n:Nat} (c:Int) (ra:Option Addr) (rc:Nat) (hc:c < 0\/(n:Int)<=c) (h1:w.cell? ⟨p,1,none⟩=some (.slice ra n rc)) :
  Calls Vs 70 #[.pointer (some ⟨p,0,none⟩),.int .i64 c] w fun e w'=>e=.returned (.bool false)/\w=w':=by
 have hq:c < 0\/(0<=c/\(n:Int)<=c):=by omega
 clear hc
 rcases hq with h0|⟨h0,h2⟩
 ·go_enter Tryz.func70,Tryz.ntmps70
  go_wp2_with fail;go_ret;exact ⟨by first|rfl|simp;try omega,rfl⟩
 ·go_enter Tryz.func70,Tryz.ntmps70
  go_wp2_with fail;go_ret;exact ⟨by first|rfl|simp;try omega,rfl⟩
end

section
variable {P:Program} {ops:Array Oper} {Q:Exit->Act->World->Prop} {md:Xc} {S:World->Prop} {last:Nat}
def wpAnyL (P:Program) (md:Xc) (ops:Array Oper) (Q:Exit->Act->World->Prop) (S:World->Prop) (last:Nat):Nat->Array Bool->Act->World->Prop
 |0,listed,a,w=>Wt md ops listed=[]/\Q .normal a w
 |fuel+1,listed,a,w=>
  (Wt md ops listed=[]->Q .normal a w) /\
  ∀i ∈ Wt md ops listed,wpOp P ops Q i (fun a' w'=>((listed.setIfInBounds i true).getD last true=false->S w')/\wpAnyL P md ops Q S last fuel (listed.setIfInBounds i true) a' w') a w
theorem vP:∀(fuel:Nat) (listed:Array Bool) (a:Act) (w:World),wpAnyL P md ops Q S last fuel listed a w->wpAnyH P md ops Q (fun _=>True) fuel listed a w
 |0,_,_,_,h=>h
 |fuel+1,_,_,_,h=>⟨h.1,fun i hi=>wpOp_mono (fun a' w' h2=>⟨trivial,vP fuel _ a' w' h2.2⟩) (h.2 i hi)⟩
theorem η (last:Nat) {id:Nat} {a:Act} {w:World} (hm:P.follows .mixedOrders=true) (hS:S w.drew)
  (h:S w.drew->wpAnyL P .any ops Q S last ops.size (Array.replicate ops.size false) a w.drew):(Code.region id ops true).wp P Q a w:=
 wp_region_held_drew (S:=fun _=>True) hm trivial fun _=>vP _ _ _ _ (h hS)
theorem qM {listed:Array Bool} {i:Nat} (h:(listed.setIfInBounds i true).getD last true=false):i≠last/\listed.getD last true=false:=by
 by_cases e:i=last
 ·subst e
  rcases WV i listed.size with h'|h'
  ·simp [h'] at h
  ·simp [h'] at h
 ·rw [getD_set_ne true e] at h
  exact ⟨e,h⟩
theorem lJ {S':World->Prop} {i:Nat} {oi:Oper} {v:Value} (hi:ops[i]? = some oi) (hsel:∀(j:Nat) (o:Oper) cs b,ops[j]? = some o->o.op≠.select cs b)
  (hQ:∀c a w,Q (.panic c) (a.put oi.dst v) w->Q (.panic c) a w) (hil:i≠last) (hla:(∀w,S' w)\/(∀w,S w->S' w)/\∀o,ops[last]? = some o->∃e ∈ o.after,WC md e=true/\e.on=i) :
  ∀(fuel:Nat) (listed:Array Bool) (a:Act) (w:World),
   (∀j oj,ops[j]? = some oj->j≠i->listed.getD j true=false->(∀e ∈ oj.after,WC md e=true->e.on≠i)->oi.apart ops oj=true) ->
   i ∈ Wt md ops listed->gF P ops S' oi v a->(listed.getD last true=false->S w)->((∀w,S' w)\/listed.getD last true=false) ->
   wpAnyL P md ops Q S last fuel (listed.setIfInBounds i true) (a.put oi.dst v) w->wpAnyL P md ops Q S last (fuel+1) listed a w:=by
 have hone:∀(w:World) (listed:Array Bool),(listed.getD last true=false->S w)->((∀w,S' w)\/listed.getD last true=false)->S' w:=fun w listed hS h=>h.elim (fun h=>h w) fun h=>hla.elim (fun h=>h w) fun h2=>h2.1 w (hS h)
 intro fuel
 induction fuel with
 |zero=>
  intro listed a w _ hr hy hS hls H;refine ⟨fun h=>(by rw [h] at hr;cases hr),fun j hj=>?_⟩;by_cases hji:j=i
  ·subst hji;exact hy.wpOp hi (hone w _ hS hls) ⟨fun h=>hS (qM h).2,H⟩
  ·have:=ready_mono hj hji
   rw [H.1] at this
   cases this
 |succ fuel ih=>
  intro listed a w hfree hr hy hS hls H;refine ⟨fun h=>(by rw [h] at hr;cases hr),fun j hj=>?_⟩;by_cases hji:j=i
  ·subst hji;exact hy.wpOp hi (hone w _ hS hls) ⟨fun h=>hS (qM h).2,H⟩
  ·have h1:=H.2 j (ready_mono hj hji)
   obtain ⟨hjun,oj,hoj,hall⟩:=mem_ready.1 hj
   have hnot:∀e ∈ oj.after,WC md e=true->e.on≠i:=fun e he hb heq=>by
    have h1:=hall e he hb;have h0:=(mem_ready.1 hr).1;rw [heq] at h1
    rcases WV i listed.size with h'|h'
    ·simp [h'] at h0 h1;rw [h0] at h1;cases h1
    ·simp [Array.getElem?_eq_none h'] at h1
   have NU:(∀w,S' w)\/(listed.setIfInBounds j true).getD last true=false:=by
    rcases hla with h|⟨_,hla⟩
    ·exact .inl h
    ·rcases hls with h|h
     ·exact .inl h
     ·refine .inr ?_
      have hjl:j≠last:=fun e=>by
       subst e;obtain ⟨e,he,hb,ho⟩:=hla oj hoj;exact hnot e he hb ho
      rw [getD_set_ne true hjl];exact h
   have h2:=su hoj (hfree j oj hoj hji hjun hnot) (fun cs b=>hsel i oi cs b hi) (fun cs b=>hsel j oj cs b hoj) hQ hy h1
   have hfree':∀k ok,ops[k]? = some ok->k≠i->(listed.setIfInBounds j true).getD k true=false ->
     (∀e ∈ ok.after,WC md e=true->e.on≠i)->oi.apart ops ok=true:=fun k ok hk hki hun hno=>by
    refine hfree k ok hk hki ?_ hno;by_cases hjk:j=k
    ·subst hjk;exact hjun
    ·rw [getD_set_ne true hjk] at hun;exact hun
   refine wpOp_mono (fun a' w' h3=>?_) h2
   have hSj:(listed.setIfInBounds j true).getD last true=false->S w':=fun h=>h3.2.1 (by
    rw [XU _ _ (Ne.symm hji),getD_set_ne true hil];exact h)
   refine ⟨hSj,ih (listed.setIfInBounds j true) a' w' hfree' (ready_mono hr (Ne.symm hji)) h3.1 hSj NU ?_⟩;rw [XU _ _ hji];exact h3.2.2
theorem wZ {i:Nat} {oi:Oper} {v:Value} (hi:ops[i]? = some oi) (hsel:∀(j:Nat) (o:Oper) cs b,ops[j]? = some o->o.op≠.select cs b)
  (hQ:∀c a w,Q (.panic c) (a.put oi.dst v) w->Q (.panic c) a w) (hil:i≠last) (hla:∀o,ops[last]? = some o->∃e ∈ o.after,WC md e=true/\e.on=i) :
  ∀(fuel:Nat) (listed:Array Bool) (a:Act) (w:World),
   (∀j oj,ops[j]? = some oj->j≠i->listed.getD j true=false->(∀e ∈ oj.after,WC md e=true->e.on≠i)->oi.apart ops oj=true) ->
   i ∈ Wt md ops listed->gF P ops S oi v a->S w->listed.getD last true=false ->
   wpAnyL P md ops Q S last fuel (listed.setIfInBounds i true) (a.put oi.dst v) w->wpAnyL P md ops Q S last (fuel+1) listed a w:=
 fun fuel listed a w h1 h2 h3 h4 h5 h6=>lJ hi hsel hQ hil (.inr ⟨fun _ h=>h,hla⟩) fuel listed a w h1 h2 h3 (fun _=>h4) (.inr h5) h6
theorem dS {l:List Oper} (i:Nat) {fuel:Nat} {listed:Array Bool} {a:Act} {w:World} {o:Oper} {rest:List Oper} (hs:(WO l.toArray && dZ md l.toArray i 1 listed && decide (i≠last))=true) (ho:l.drop i=o::rest) (hS:listed.getD last true=false->S w) (hQ:∀c a w t v,Q (.panic c) (a.put (some t) v) w->Q (.panic c) a w)
  (h:dU P l.toArray (fun _=>True) (fun a'=>wpAnyL P md l.toArray Q S last fuel (listed.setIfInBounds i true) a' w) [o] a):wpAnyL P md l.toArray Q S last (fuel+1) listed a w:=by
 simp only [Ww,decide_eq_true_eq] at hs;obtain ⟨⟨h1,h2⟩,h3⟩:=hs;simp only [dZ,Ww] at h2;obtain ⟨⟨hf,hr⟩,_⟩:=h2
 have h0:l.toArray[i]? = some o:=by
  have:(l.drop i)[0]? = some o:=by rw [ho];rfl
  rw [Wl] at this;simpa using this
 obtain ⟨v,hy,h⟩:=h;exact lJ h0 (X4 h1) (fun c a w=>by cases o.dst with|none=>exact id|some t=>exact hQ c a w t _) h3 (.inl fun _=>trivial) fuel listed a w (Yt h0 hf) (by simpa using hr) hy hS (.inl fun _=>trivial) h
def zB (md:Xc) (ops:Array Oper) (last lo n:Nat):Bool:=
 decide (lo+n<=last) && match ops[last]? with|some o=>(VV n).all fun j=>o.after.any fun e=>WC md e && e.on == lo+j|none=>true
theorem pG (hs:WO ops=true) {w:World} (hS:S w) (hQ:∀c a w t v,Q (.panic c) (a.put (some t) v) w->Q (.panic c) a w) :
  ∀(n lo fuel:Nat) (listed:Array Bool) (a:Act) (l:List Oper),(∀j,j < n->ops[lo+j]? = l[j]?)->l.length=n->dZ md ops lo n listed=true->listed.getD last true=false->(∀j,j < n->lo+j≠last/\∀o,ops[last]? = some o->∃e ∈ o.after,WC md e=true/\e.on=lo+j) ->
   dU P ops S (fun a'=>wpAnyL P md ops Q S last fuel (marks lo n listed) a' w) l a->wpAnyL P md ops Q S last (fuel+n) listed a w
 |0,lo,fuel,listed,a,l,_,hl,_,_,_,h=>by
  obtain rfl:=List.length_eq_zero_iff.1 hl;exact h
 |n+1,lo,fuel,listed,a,[],_,hl,_,_,_,_=>by simp at hl
 |n+1,lo,fuel,listed,a,o::l,hj,hl,hok,hun,hla,⟨v,hy,h⟩=>by
  simp only [dZ,Ww] at hok;obtain ⟨⟨hf,hr⟩,hok⟩:=hok;have h0:ops[lo]? = some o:=by have:=hj 0 (by omega);simpa using this
  refine wZ h0 (X4 hs) (fun c a w=>by cases o.dst with|none=>exact id|some t=>exact hQ c a w t _) (by have:=(hla 0 (by omega)).1;simpa using this) (by have:=(hla 0 (by omega)).2;simpa using this) (fuel+n) listed a w (Yt h0 hf) (by simpa using hr) hy hS hun ?_;exact pG hs hS hQ n (lo+1) fuel _ _ l (fun j hjn=>by have:=hj (j+1) (by omega);rw [show lo+1+j=lo+(j+1) by omega,this];rfl) (by simpa using hl) hok (by rw [getD_set_ne true (by have:=(hla 0 (by omega)).1;simpa using this)];exact hun) (fun j hjn=>by have:=hla (j+1) (by omega);rwa [show lo+(j+1)=lo+1+j by omega] at this) h
theorem wX {l:List Oper} (lo n:Nat) {fuel:Nat} {listed:Array Bool} {a:Act} {w:World} (hs:(WO l.toArray && dZ md l.toArray lo n listed && decide (lo+n<=l.length) && zB md l.toArray last lo n && !listed.getD last true)=true) (hS:S w) (hQ:∀c a w t v,Q (.panic c) (a.put (some t) v) w->Q (.panic c) a w)
  (h:dU P l.toArray S (fun a'=>wpAnyL P md l.toArray Q S last fuel (marks lo n listed) a' w) ((l.drop lo).take n) a):wpAnyL P md l.toArray Q S last (fuel+n) listed a w:=by
 simp only [Ww,decide_eq_true_eq,zB] at hs;obtain ⟨⟨⟨⟨h1,h2⟩,h3⟩,h4,h5⟩,h6⟩:=hs;refine pG h1 hS hQ n lo fuel listed a _ (fun j hj=>?_) ?_ h2 (by simpa using h6) (fun j hj=>⟨by omega,fun o ho=>?_⟩) h
 ·rw [List.getElem?_take,if_pos hj,Wl];simp
 ·simp;omega
 ·rw [ho] at h5
  obtain ⟨k,hk,he⟩:=Array.any_eq_true.1 (List.all_eq_true.1 h5 j (List.mem_range.2 hj));rw [Ww,beq_iff_eq] at he;exact ⟨_,Array.getElem_mem hk,he.1,he.2⟩
theorem D_ {l:List Oper} (i:Nat) {o:Oper} {rest:List Oper} {fuel:Nat} {listed:Array Bool} {a:Act} {w:World} (hr:Wt md l.toArray listed=[i]) (ho:l.drop i=o::rest)
  (h:∀K:Act->World->Prop,Shut (∀a w,(i≠last->S w)->wpAnyL P md l.toArray Q S last fuel (listed.setIfInBounds i true) a w->K a w)->if VN o (yielded l.toArray a.tmps)=true then WZ P o a w K Q else K (a.put o.dst undef) w) :
  wpAnyL P md l.toArray Q S last (fuel+1) listed a w:=by
 have ho':l.toArray[i]? = some o:=by
  have:(l.drop i)[0]? = some o:=by rw [ho];rfl
  rw [Wl] at this;simpa using this
 refine ⟨fun h=>(by rw [hr] at h;cases h),fun k hk=>?_⟩;rw [hr] at hk;obtain rfl:k=i:=by simpa using hk
 exact wpOp_step ho' fun K hK=>h K fun a w hS hW=>hK a w ⟨fun h=>hS (qM h).1,hW⟩
theorem jJ {l:List Oper} (i:Nat) {o:Oper} {rest:List Oper} {fuel:Nat} {listed:Array Bool} {a:Act} {w:World} (hr:Wt md l.toArray listed=[i]) (ho:l.drop i=o::rest) (hl:listed.getD last true=true)
  (h:∀K:Act->World->Prop,Shut (∀a w,wpAnyL P md l.toArray Q S last fuel (listed.setIfInBounds i true) a w->K a w)->if VN o (yielded l.toArray a.tmps)=true then WZ P o a w K Q else K (a.put o.dst undef) w) :
  wpAnyL P md l.toArray Q S last (fuel+1) listed a w:=by
 have ho':l.toArray[i]? = some o:=by
  have:(l.drop i)[0]? = some o:=by rw [ho];rfl
  rw [Wl] at this;simpa using this
 refine ⟨fun h=>(by rw [hr] at h;cases h),fun k hk=>?_⟩;rw [hr] at hk;obtain rfl:k=i:=by simpa using hk
 exact wpOp_step ho' fun K hK=>h K fun a w hW=>hK a w ⟨fun h=>absurd (hl.symm.trans (qM h).2) (by decide),hW⟩
theorem Ck {listed:Array Bool} {a:Act} {w:World} (hr:Wt md ops listed=[]) (h:Q .normal a w) (fuel:Nat):wpAnyL P md ops Q S last fuel listed a w:=by
 cases fuel with
 |zero=>exact ⟨hr,h⟩
 |succ n=>exact ⟨fun _=>h,fun i hi=>by rw [hr] at hi;cases hi⟩
theorem kX {l l':List Oper} (lo n:Nat) {fuel:Nat} {listed:Array Bool} {a:Act} {w:World} (hS:S w) (h:dU P l.toArray S (fun a'=>wpAnyL P md l.toArray Q S last fuel (marks lo n listed) a' w) l' a) (hs:(Region.noSelect l.toArray && dZ md l.toArray lo n listed && decide (lo+n<=l.length) && zB md l.toArray last lo n && !listed.getD last true)=true:=by kernel_rfl) (hQ:∀c a w t v,Q (.panic c) (a.put (some t) v) w->Q (.panic c) a w:=by exact fun _ _ _ _ _ h=>h)
  (hl:(l.drop lo).take n=l':=by (simp only [List.drop_zero,List.drop_succ_cons,List.take_succ_cons,List.take_zero];exact rfl)):wpAnyL P md l.toArray Q S last (fuel+n) listed a w:=wX lo n hs hS hQ (hl ▸ h)
theorem bq {l:List Oper} (i:Nat) {o:Oper} {rest:List Oper} {fuel:Nat} {listed:Array Bool} {a:Act} {w:World}
  (h:∀K:Act->World->Prop,Shut (∀a w,(i≠last->S w)->wpAnyL P md l.toArray Q S last fuel (listed.setIfInBounds i true) a w->K a w)->if Region.wanted o (yielded l.toArray a.tmps)=true then Oper.wp P o a w K Q else K (a.put o.dst undef) w) (hr:Region.ready md l.toArray listed=[i]:=by kernel_rfl) (ho:l.drop i=o::rest:=by exact rfl) :
  wpAnyL P md l.toArray Q S last (fuel+1) listed a w:=D_ i hr ho h
theorem lG {listed:Array Bool} {a:Act} {w:World} {fuel:Nat} (h:Q .normal a w) (hr:Region.ready md ops listed=[]:=by kernel_rfl):wpAnyL P md ops Q S last fuel listed a w:=Ck hr h fuel
end

theorem qK (w:World) (g:Nat) (e:TypeId) (fr:Nat × Nat) (hfr:fr=(0,0)) (hg:g=w.heap.size):Sl (w.alloc (.cells #[] e fr)) (fun k=>w.heap.size<=k) e 1 (.slice (some ⟨g,0,none⟩) 0 0) 0 []:=by
 subst hg;subst hfr;exact ⟨rfl,.inr ⟨w.heap.size,0,0,#[],rfl,Vu _,heap_alloc_new w _,Vu _,VJ _,by simp,by simp⟩⟩
theorem Sl.Jz {w w1:World} {e:TypeId} {v:Value} {d:dV} {B:Nat} (h:Sl w1 (fun k=>B<=k) e 1 v d.length (cu d)) (hB:w.heap.size<=B):fE w1 (fun k=>w.heap.size<=k) v d:=by
 refine ⟨h.rd,fun _ b hb=>?_⟩;obtain ⟨_,⟨rfl,_⟩|⟨g,off,cap,cur,rfl,h1,h2,_⟩⟩:=h
 ·cases hb
 ·obtain rfl:g=b:=by simpa [Value.ownBlock] using hb
  exact Nat.le_trans hB h1
section
variable {w:World} {F Z:BS} {W:World} {ts:List Th} {p:Nat} {a:δ}
theorem dY.UI {G Y:BS} (h:(gJ p a).on w G Y) (hd:Dj G Y):∃x,dY G Y w (ω p a x) w:=by
 obtain ⟨x,h⟩:=dY.opens (dY.nT h hd);exact ⟨x,by simpa using h⟩
theorem dY.KU {G Y:BS} {w0:World} {x:RpV} (h:dY G Y w0 (ω p a x) w):lS w0 G Y [gJ p a] w:=(dY.shut (f:=ω p a) (ts:=[]) (by simpa using h)).did
theorem zP {n:Nat} (c:Int) (da:Option Addr) (dn dc:Nat) (ra:Option Addr) (rc:Nat) (_:n<=4) (hdn:dn<=9223372036854775807) (hc:c < 0\/(n:Int)<=c\/64 < dn) (h1:w.cell? ⟨p,1,none⟩=some (.slice ra n rc)) :
  Calls Vs 35 #[.pointer (some ⟨p,0,none⟩),.int .i64 c,.slice da dn dc] w fun e w'=>e=.returned (.int .i64 2)/\w=w':=by
 by_cases h0:c < 0\/(n:Int)<=c
 ·have HQ:=aQ (uC (p:=p) (w:=w) c ra rc h0 h1)
  clear h1 hc h0;go_enter Tryz.func35,Tryz.ntmps35;go_wp2_with (go_at_call 70;refine HQ.out.mono ?_;rintro e w' ⟨rfl,rfl⟩);go_ret;exact ⟨rfl,rfl⟩
 ·obtain ⟨m,rfl⟩:∃m:Nat,c=(m:Int):=⟨c.toNat,by omega⟩
  have hd:64 < dn:=by omega
  have HQ:=aQ (jF (p:=p) (w:=w) m ra rc (by omega) h1);clear h1 hc h0;go_enter Tryz.func35,Tryz.ntmps35;go_wp2_with (go_at_call 70;refine HQ.out.mono ?_;rintro e w' ⟨rfl,rfl⟩);go_ret;exact ⟨rfl,rfl⟩
theorem Ct (m n dn dc q k2:Nat) (da ra va:Option Addr) (hm:m < n) (_:n<=4) (hd:dn<=64) (b1 o1 k1 rc:Nat) (c1:w.cell? ⟨p,1,none⟩=some (.slice ra n rc)) (c12:w.cell? ⟨p,12,none⟩=some (.slice (some ⟨b1,o1,none⟩) n k1)) (hq:64<=q) (hq2:q<=1000000) (hc:w.cell? ⟨b1,o1+m,none⟩=some (.slice va q k2)) :
  Calls Vs 35 #[.pointer (some ⟨p,0,none⟩),.int .i64 (m:Int),.slice da dn dc] w fun e w'=>e=.returned (.int .i64 5)/\w=w':=by
 have HQ:=aQ (jF (p:=p) (w:=w) m ra rc hm c1);clear c1;go_enter Tryz.func35,Tryz.ntmps35;go_wp2_with (go_at_call 70;refine HQ.out.mono ?_;rintro e w' ⟨rfl,rfl⟩);go_ret;exact ⟨rfl,rfl⟩
theorem Eu {N:Nat} (h:dY F Z W (gJ p a::ts) w) (j:Nat) (hok:a.Ok N) (m:Nat) (hm:m < a.aZ.length) (dv:Value) (d:dV) {T:Th} (hT:Reads T dv d) (hj:ts[j]? = some T) (hd:d.length<=64) (hf:(a.aX.getD m []).length < 64) :
  Calls Vs 35 #[.pointer (some ⟨p,0,none⟩),.int .i64 (m:Int),dv] w fun e w'=>e=.returned (.int .i64 0)/\dY F Z W (gJ p { a with aX:=a.aX.set m (a.aX.getD m []++[d]) }::ts) w':=by
 obtain ⟨G,Y,hon,Rs,_,hoth,hback⟩:=h.use 0 rfl;obtain ⟨H,_,_,JM⟩:=hoth (j+1) _ (by omega) (by simpa using hj);have hby:=hT _ _ _ JM;clear JM hT
 suffices hs:Calls Vs 35 #[.pointer (some ⟨p,0,none⟩),.int .i64 (m:Int),dv] w fun e w'=>e=.returned (.int .i64 0)/\lS w G Y [gJ p { a with aX:=a.aX.set m (a.aX.getD m []++[d]) }] w' from
  hs.mono fun e w' ⟨he,hh⟩=>⟨he,by have:=hback w' _ [] hh;rwa [List.append_nil] at this⟩
 clear hback hoth h hj;obtain ⟨x,hst⟩:=dY.UI hon Rs;clear hon;obtain ⟨rv,wv,bv,kv,cv,tv,gv,ev,av,sv,nv,hv,ch⟩:=x;have hrow:=hst.blk 0 rfl;have c1:w.cell? ⟨p,1,none⟩=some rv:=aJ hrow rfl;have c12:w.cell? ⟨p,12,none⟩=some wv:=aJ hrow rfl;obtain ⟨_,_,hr⟩:=hst.get 1 rfl;obtain ⟨_,_,hb⟩:=hst.get 2 rfl;have n1:=hok.n1;have n4:=hok.n4;have wl:=hok.wl;obtain ⟨ra,rc,e1,_⟩:=dh.shape (show dh dK w _ rv a.aZ from hr);obtain ⟨b1,o1,k1,e2,m1,nG⟩:=bR (show Sq (df ψ 40) 51 w _ _ wv a.aX from hb) (by omega);subst e1 e2;have hbf:=(Sq.free (show Sq (df ψ 40) 51 w _ _ (.slice (some ⟨b1,o1,none⟩) a.aX.length k1) a.aX from hb)).2.2.2;have hx:=bT (d:=[]) (show m < a.aX.length by omega);have hpb:p≠b1:=hst.apart 0 2 (by decide) rfl rfl (fun _ _ h=>h.2) fun _ _ h=>(Sq.free (show Sq _ _ _ _ _ _ _ from h)).2.1
 obtain ⟨vc,je,hout⟩:=hst.out 2 rfl hx;obtain ⟨_,_,eD⟩:=hout.get 13 rfl;obtain ⟨va,k2,e3⟩:=Sq.shape (show Sq ψ 40 w _ _ vc (a.aX.getD m []) from eD);subst e3;obtain ⟨da,dc,e4⟩:=hby.slice;subst e4;obtain ⟨xs,hxs⟩:∃xs,xs=a.aX.getD m []:=⟨_,rfl⟩;have uA:=aQ hxs;rw [<-hxs] at hf je hout;have HQ:=aQ (jF (p:=p) (w:=w) m ra rc hm c1);have nK:=aQ hby;have DT:=aQ hout;rw [wl] at c12 m1;clear hst hrow hr hb hby hout eD hx hxs c1 nG;have hf1:decide (64<=xs.length)=false:=by simp;omega
 have hd1:decide (64 < d.length)=false:=by simp;omega
 go_enter Tryz.func35,Tryz.ntmps35;go_wp2_with (go_at_call 70;refine HQ.out.mono ?_;rintro e w' ⟨rfl,rfl⟩);refine η 18 (S:=fun w'=>w'.cell? ⟨p,12,none⟩=some (.slice (some ⟨b1,o1,none⟩) a.aZ.length k1)/\w'.cell? ⟨b1,o1+m,none⟩=some (.slice va xs.length k2)) (by kernel_rfl) ⟨c12,je⟩ (fun hS0=>?_);refine kX 0 12 hS0 ?_
 iterate 12 (refine aR (v:=?_) (by rfl) ?_ ?_;rotate_left 1;(focus ((intro w' hS';obtain ⟨q1,q2⟩:=hS';go_simp);try with_reducible rfl));simp only [VF,ag,Ψ,ae])
 refine aT ?_;refine kX 13 1 hS0 ?_;refine dI ?_;refine aT ?_;refine bq 12 (fun K hK=>?_);go_simp;refine hK.out _ _ (fun _=>⟨aI _ _ c12,aI _ _ je⟩) ?_;clear hK K;refine bq 14 (fun K hK=>?_);refine υ Ao rfl _ _ rfl (fun k=>w.heap.size<=k) _ 0 [] rfl (by exact qK _ _ _ _ rfl rfl) _ d.length (cu d) rfl (by exact (nK.out.drewN 1).alloc _) iM (by unfold maxLen;omega) (by omega) ?_;intro v1 w1 hsl1 qB;rw [V5,WT] at hsl1;obtain ⟨jQ,jP,rfl⟩:=hsl1.shape;have hbw:Below w.heap.size w ((w.drew).alloc (.cells #[] 5)):=by exact dC
 have hb1':Below w.heap.size w w1:=hbw.trans ((qB.below (B:=w.heap.size) (by simp) fun k hk=>hk));have hbz:fE w1 (fun k=>w.heap.size<=k) (.slice jQ d.length jP) d:=Sl.Jz (hsl1.mono (G:=fun k=>w.heap.size<=k) (by rintro k (h|h);exact h;simp at h;omega)) (Vu _);have hp1:p < w.heap.size:=Vv w _ c12;have hl1:b1 < w.heap.size:=Vv w _ je;have hS1:w1.cell? ⟨p,12,none⟩=some (.slice (some ⟨b1,o1,none⟩) a.aZ.length k1)/\w1.cell? ⟨b1,o1+m,none⟩=some (.slice va xs.length k2):=⟨(Vt (hb1'.block p hp1)).trans c12,(Vt (hb1'.block b1 hl1)).trans je⟩;refine hK.out _ _ (fun _=>hS1) ?_;clear hK K;simp only [VF,ag,Ψ,ae];have HA:=DT.out.mM hb1' (T:=dD (.slice jQ d.length jP) d) hbz;obtain ⟨Kx,us,hsl,hKn,hback⟩:=HA.app 13 rfl;have o5:¬Kx p:=hKn p 0 _ (by decide) rfl fun H Y h=>.inl h.2
 have hKb:¬Kx b1:=hKn b1 2 _ (by decide) rfl fun H Y h=>.inl (Sq.free (show Sq _ _ _ H Y _ _ from h)).2.1
 have fP:=aQ hback;have gK:=aQ hsl;clear hsl1 qB hbw hb1' hbz HA hKn hback hsl;have iq:=aK w1 (.cells #[.slice jQ d.length jP] 40);have hS2:(w1.alloc (.cells #[.slice jQ d.length jP] 40)).cell? ⟨p,12,none⟩=some (.slice (some ⟨b1,o1,none⟩) a.aZ.length k1)/\(w1.alloc (.cells #[.slice jQ d.length jP] 40)).cell? ⟨b1,o1+m,none⟩=some (.slice va xs.length k2):=⟨aI _ _ hS1.1,aI _ _ hS1.2⟩
 have iT:=aQ (fun (v2:Value) (w2:World) (hsl2:Sl w2 (fun k=>Kx k\/(w1.alloc (.cells #[.slice jQ d.length jP] 40)).heap.size<=k) 40 1 v2 (xs.length+1) (us++[.slice jQ d.length jP])) (hfr2:Fr Kx (w1.alloc (.cells #[.slice jQ d.length jP] 40)) w2)=>
  show ∃g2 cz cap2,v2=.slice (some ⟨g2,cz,none⟩) (xs.length+1) cap2/\w2.cell? ⟨b1,o1+m,none⟩=some (.slice va xs.length k2)/\(∀j,w2.frozen? ⟨b1,j,none⟩=false)/\w2.cell? ⟨p,12,none⟩=some (.slice (some ⟨b1,o1,none⟩) a.aZ.length k1)/\Hid (dY G Y w (ω p { a with aX:=a.aX.set m (xs++[d]) } ⟨.slice ra a.aZ.length rc,.slice (some ⟨b1,o1,none⟩) a.aX.length k1,bv,kv,cv,tv,gv,ev,av,sv,nv,hv,ch⟩) (w2.setCell ⟨b1,o1+m,none⟩ (.slice (some ⟨g2,cz,none⟩) (xs.length+1) cap2))) from by
  obtain ⟨g2,cz,cap2,rfl,_⟩:=Sl.head hsl2 (by omega);have TU:p < (w1.alloc (.cells #[.slice jQ d.length jP] 40)).heap.size:=Vv _ _ hS2.1;have TZ:b1 < (w1.alloc (.cells #[.slice jQ d.length jP] 40)).heap.size:=Vv _ _ hS2.2;have fU:w2.cell? ⟨p,12,none⟩=some (.slice (some ⟨b1,o1,none⟩) a.aZ.length k1)/\w2.cell? ⟨b1,o1+m,none⟩=some (.slice va xs.length k2):=⟨(Vt (hfr2.block p TU o5)).trans hS2.1,(Vt (hfr2.block b1 TZ hKb)).trans hS2.2⟩
  have hs4:=fP.out _ w2 [.slice jQ d.length jP] [d] _ iq hsl2 hfr2 fun Y hO=>by
   obtain ⟨H,_,hh⟩:=hO 14 _ (by decide) rfl;exact ⟨fun _=>False,Y,fun _ f=>f.elim,fun _ y=>.inl y,fun _ f=>f.elim,fK.single (E:=ψ) ⟨_,rfl,fE.below hh iq⟩⟩
  have hs5:dY G Y w ((ω p a ⟨.slice ra a.aZ.length rc,.slice (some ⟨b1,o1,none⟩) a.aX.length k1,bv,kv,cv,tv,gv,ev,av,sv,nv,hv,ch⟩).set 2 (ζ (jm (df ψ 40)) 51 (.slice (some ⟨b1,o1,none⟩) a.aX.length k1) ((a.aX.map some).set m none))++[ζ ψ 40 (.slice (some ⟨g2,cz,none⟩) (xs.length+1) cap2) (xs++[d])]) w2:=
   hs4.pick [0,1,2,3,4,5,6,7,8,9,10,11,12,13] _ (by decide) rfl
  have qz:=aQ (dY.back (c:=m) (Gr:=a.aX.set m (xs++[d])) hs5 2 rfl (by rw [Wd,VL];omega) j_)
  have DL:∀j,w2.frozen? ⟨b1,j,none⟩=false:=by
   obtain ⟨_,_,hh⟩:=hs5.get 2 rfl;exact (Sq.free (show Sq (jm (df ψ 40)) 51 w2 _ _ (.slice (some ⟨b1,o1,none⟩) a.aX.length k1) ((a.aX.map some).set m none) from hh)).2.2.2
  exact ⟨g2,cz,cap2,rfl,fU.2,DL,fU.1,qz⟩)
 clear iq fP o5 hKb;refine bq 15 (fun K hK=>?_);go_simp;refine hK.out _ _ (fun _=>hS2) ?_;clear hK K;refine bq 16 (fun K hK=>?_);refine υ qA rfl _ _ rfl Kx (.slice va xs.length k2) xs.length us rfl (gK.out.alloc _) _ 1 [.slice jQ d.length jP] rfl (iA _ _ _ _ rfl) (by intro u hu;simp at hu;subst hu;rfl) (by unfold maxLen;omega) (by omega) ?_;intro v2 w2 hsl2 hfr2;obtain ⟨g2,cz,cap2,rfl,k0,kf,kp,qz⟩:=iT.out v2 w2 hsl2 hfr2;clear hsl2 hfr2;refine hK.out _ _ (fun _=>⟨kp,k0⟩) ?_;clear hK K;simp only [VF,ag,Ψ,ae];refine bq 17 (fun K hK=>?_);go_simp;refine hK.out _ _ (fun _=>⟨kp,k0⟩) ?_;clear hK K;refine bq 18 (fun K hK=>?_);go_simp;refine hK.out _ _ (fun e=>absurd rfl e) ?_;clear hK K;refine lG ?_;go_wp2_with fail;go_ret;exact ⟨rfl,by rw [<-uA.out];exact dY.KU qz.out⟩
end

def bg.Dy (s:bg) (n:Int):Int:=match s.count n with|none => -1|some k=>k
section
variable {F Z:BS} {W w:World} {ts:List Th} {p:Nat} {a:δ}
theorem Mi (p:Nat) (s:bg) (hok:s.Ok) (_:s.aG < 1000000000000) (n:Int) (w:World) (c4:w.cell? ⟨p,19,none⟩=some (.int .i64 (s.aG:Int))) (c6:w.cell? ⟨p,21,none⟩=some (.int .i64 (s.cP:Int))) :
  Calls Vs 152 #[.pointer (some ⟨p,15,none⟩),.int .i64 n] w fun e w'=>e=.returned (.int .i64 (s.Dy n))/\w=w':=by
 have qI:=hok.cP;have hkl:=hok.cT;have hw2:=hok.w2
 have hn':((n < 0\/256<=n)/\s.Dy n = -1)\/(0<=n/\n < 256/\∃k:Nat,(n - (s.aG:Int)) % 256=k/\(n - (s.aG:Int) % 256+256) % 256=k/\((s.cP < k/\s.Dy n = -1)\/(k<=s.cP/\s.Dy n=k))):=by
  unfold bg.Dy bg.count;by_cases h1:n < 0\/256<=n
  ·rw [if_pos h1];exact .inl ⟨h1,rfl⟩
  ·rw [if_neg h1]
   refine .inr ⟨by omega,by omega,(n.toNat+256 - s.aG % 256) % 256,by omega,by omega,?_⟩;by_cases h2:s.cP < (n.toNat+256 - s.aG % 256) % 256
   ·rw [if_pos h2];exact .inl ⟨h2,rfl⟩
   ·rw [if_neg h2];exact .inr ⟨by omega,rfl⟩
 clear hok;generalize s.Dy n=z at *
 rcases hn' with ⟨h1|h1,hz⟩|⟨h1,h2,k,h3,h3',⟨h4,hz⟩|⟨h4,hz⟩⟩
 all_goals subst hz
 all_goals go_enter Tryz.func152,Tryz.ntmps152
 all_goals go_wp2_with fail
 all_goals go_ret
 all_goals exact ⟨by first|rfl|(simp [h3']),rfl⟩
theorem R9 (n:Int) (hok:a.snd.Ok) (ht:a.snd.aG+a.snd.cT.length < 1000000000000) (h:dY F Z W (gJ p a::ts) w) :
  Calls Vs 120 #[.pointer (some ⟨p,15,none⟩),.int .i64 n] w fun e w'=>e=.returned (.int .i64 ((a.snd.nJ n).1:Int))/\dY F Z W (gJ p { a with snd:=(a.snd.nJ n).2 }::ts) w':=by
 obtain ⟨x,hst⟩:=h.rp;obtain ⟨rv,wv,bv,kv,cv,tv,gv,ev,av,sv,nv,hv,ch⟩:=x;obtain ⟨_,_,hkp⟩:=hst.get 4 rfl;have Kj:=show Sq ψ 40 w _ _ kv a.snd.cT from hkp;obtain ⟨ka,kc,e5,q1,q2,q3⟩:=Kj.le;subst e5;have hrow:=hst.blk 0 rfl;have c17:w.cell? ⟨p,17,none⟩=some (.slice ka a.snd.cT.length kc):=aJ hrow rfl;have c19:w.cell? ⟨p,19,none⟩=some (.int .i64 (a.snd.aG:Int)):=aJ hrow rfl;have c20:w.cell? ⟨p,20,none⟩=some (.int .i64 (a.snd.pos:Int)):=aJ hrow rfl;have c21:w.cell? ⟨p,21,none⟩=some (.int .i64 (a.snd.cP:Int)):=aJ hrow rfl;have QT:w.cell? ⟨p,22,none⟩=some (.int .i64 (a.snd.timer:Int)):=aJ hrow rfl;have cf:=fun i=>aD hrow i
 have qI:=hok.cP;have hpos:=hok.pos;have hkl:=hok.cT;have hw2:=hok.w2;have HC:=aQ (Mi p a.snd hok (by omega) n w c19 c21);have HST:=aQ hst;unfold maxLen at q2;unfold bg.nJ bg.accept;unfold bg.Dy at HC
 cases hcn:a.snd.count n with
 |none=>
  rw [hcn] at HC;clear hcn cf c17 c19 c20 c21 QT hst hkp Kj hrow h hok;go_enter Tryz.func120,Tryz.ntmps120;go_wp2_with fail;refine HC.out.mono ?_;rintro e w1 ⟨rfl,rfl⟩;go_wp2_with fail;go_ret;exact ⟨rfl,HST.out.ax⟩
 |some k=>
  rw [hcn] at HC;have hks:=count_le hcn;clear hcn;dsimp only;by_cases hz:k=0
  ·subst hz
   clear cf c17 c19 c20 c21 QT hst hkp Kj hrow h hok;go_enter Tryz.func120,Tryz.ntmps120;go_wp2_with fail;refine HC.out.mono ?_;rintro e w1 ⟨rfl,rfl⟩;go_wp2_with fail;go_ret;exact ⟨rfl,HST.out.ax⟩
  ·obtain ⟨g,off,rfl,_,hc,_⟩:=Kj.drop (k:=k) (by omega) (by omega)
   have hd:=HST.out.upd 4 rfl (T':=ζ ψ 40 (.slice (if kc=k then some ⟨g,off,none⟩ else some ⟨g,off+k,none⟩) (a.snd.cT.length - k) (kc - k)) (a.snd.cT.drop k)) (w':=w) fun G Y hon _=>⟨by
    have:=DV (show Sq ψ 40 w G Y (.slice (some ⟨g,off,none⟩) a.snd.cT.length kc) a.snd.cT from hon) (show k<=a.snd.cT.length by omega);rw [show k*(ψ).size=k from Xi k] at this;exact this,Fr.refl _ _⟩
   obtain ⟨na,hna⟩:∃na,(if kc=k then some (⟨g,off,none⟩:Addr) else some ⟨g,off+k,none⟩)=na:=⟨_,rfl⟩;rw [hna] at hd;have hmx:max (0:Int) ((a.snd.pos:Int) - (k:Int))=((a.snd.pos - k:Nat):Int):=by omega
   have hki:(k:Int)<=(a.snd.cT.length:Int):=by omega
   have hkc:(a.snd.cT.length:Int)<=(kc:Int):=by omega
   have HD:=aQ hd;have θ:=aQ hrow;have HK:=aQ (show 0 < k from by omega);have hk0:(0:Int) < (k:Int):=by omega
   clear hst hkp Kj hrow h hok hd hz;go_enter Tryz.func120,Tryz.ntmps120;go_wp2_with fail;refine HC.out.mono ?_;rintro e w1 ⟨rfl,rfl⟩;go_wp2_with fail;go_ret;refine ⟨rfl,?_⟩;have hdr:a.snd.drop k={ a.snd with cT:=a.snd.cT.drop k,aG:=a.snd.aG+k,cP:=a.snd.cP - k,pos:=a.snd.pos - k,timer:=0 }:=by unfold bg.drop;rw [if_neg (by have:=HK.out;omega)]
   rw [hdr];refine (HD.out.set 0 rfl (iX { a with snd:={ a.snd with cT:=a.snd.cT.drop k,aG:=a.snd.aG+k,cP:=a.snd.cP - k,pos:=a.snd.pos - k,timer:=0 } } ⟨rv,wv,bv,.slice na (a.snd.cT.length - k) (kc - k),cv,tv,gv,ev,av,sv,nv,hv,ch⟩) (by exact eZ) ?_).ax;have hr:=θ.out
   (refine aS (Ξ hr) ?_)
   simp [V9];omega
end

section
variable {F Z:BS} {W w:World} {ts:List Th} {p:Nat} {a:δ}
theorem FY (hsm:∀d ∈ a.snd.cT,d.length<=64) (hkl:a.snd.cT.length<=128) (_:a.snd.cP<=a.snd.cT.length) (ht:a.snd.aG+a.snd.cT.length < 1000000000000) (h:dY F Z W (gJ p a::ts) w) (h0:a.snd.pos < a.snd.cT.length) :
  Calls Vs 123 #[.pointer (some ⟨p,15,none⟩)] w fun e w'=>∃v,e=.returned (.tuple #[.int .i64 (a.snd.send.1.1:Int),v,.bool true])/\dY F Z W (gJ p { a with snd:=a.snd.send.2 }::(ts++[dD v a.snd.send.1.2])) w':=by
 obtain ⟨x,jb⟩:=h.rp;obtain ⟨rv,wv,bv,kv,cv,tv,gv,ev,av,sv,nv,hv,ch⟩:=x;have hx:=bT (d:=[]) h0;have hsend:a.snd.send=(((a.snd.aG+a.snd.pos) % 256,a.snd.cT.getD a.snd.pos []),{ a.snd with pos:=a.snd.pos+1,cP:=max a.snd.cP (a.snd.pos+1),timer:=0 }):=rfl;have TK:=hsm _ (VD hx);obtain ⟨d,hd⟩:∃d,d=a.snd.cT.getD a.snd.pos []:=⟨_,rfl⟩;rw [<-hd] at hx hsend TK;rw [hsend];dsimp only;clear hsend hd;obtain ⟨_,_,hb⟩:=jb.get 4 rfl;obtain ⟨b1,o1,k1,e1,m1,nG⟩:=bR (show Sq ψ 40 w _ _ kv a.snd.cT from hb) (by omega);subst e1;obtain ⟨v0,hv0,yO⟩:=oG hb hx;obtain ⟨va,vk,rfl⟩:=yO.slice;have nK:=aQ yO.1;have hrow:=jb.blk 0 rfl;have c17:w.cell? ⟨p,17,none⟩=some (.slice (some ⟨b1,o1,none⟩) a.snd.cT.length k1):=aJ hrow rfl;have c19:w.cell? ⟨p,19,none⟩=some (.int .i64 (a.snd.aG:Int)):=aJ hrow rfl;have c20:w.cell? ⟨p,20,none⟩=some (.int .i64 (a.snd.pos:Int)):=aJ hrow rfl;have HST:=aQ jb;clear hrow hb yO jb h hsm hx;go_enter Tryz.func123,Tryz.ntmps123;go_wp2_with fail;go_quiet (fail);go_wp2_with fail;generalize hwq:XE w _=wq;have hbq:Below w.heap.size w wq:=by rw [<-hwq];exact bS w _
 have d17:wq.cell? ⟨p,17,none⟩=some (.slice (some ⟨b1,o1,none⟩) a.snd.cT.length k1):=by rw [<-hwq];exact c17
 have d20:wq.cell? ⟨p,20,none⟩=some (.int .i64 (a.snd.pos:Int)):=by rw [<-hwq];exact c20
 have QR:wq.cell? ⟨b1,o1+a.snd.pos,none⟩=some (.slice va d.length vk):=by rw [<-hwq];exact hv0
 have Un:=aQ (HST.out.own hbq);have UC:=aQ (nK.out.below hbq);clear hwq hbq c17 c20 c19 hv0 HST nK;refine wp_region_held_drew (S:=fun w'=>w'.cell? ⟨p,17,none⟩=some (.slice (some ⟨b1,o1,none⟩) a.snd.cT.length k1)/\w'.cell? ⟨p,20,none⟩=some (.int .i64 (a.snd.pos:Int))/\w'.cell? ⟨b1,o1+a.snd.pos,none⟩=some (.slice va d.length vk)) (by kernel_rfl) ⟨d17,d20,QR⟩ (fun hS0=>?_);refine Φ 1 10 hS0 ?_
 iterate 10 (refine aR (v:=?_) (by rfl) ?_ ?_;rotate_left 1;(focus ((intro w' hS';obtain ⟨l0,l1,l2⟩:=hS';go_simp);try with_reducible rfl));simp only [VF,ag,Ψ,ae])
 refine aT ?_;refine ah 0 (fun K hK=>?_);go_simp;refine hK.out _ _ ⟨aI _ _ d17,aI _ _ d20,aI _ _ QR⟩ ?_;clear hK K;refine ah 11 (fun K hK=>?_);refine υ Ao rfl _ _ rfl (fun k=>wq.heap.size<=k) _ 0 [] rfl (by exact qK _ _ _ _ rfl rfl) _ d.length (cu d) rfl (by exact (UC.out.drewN 1).alloc _) iM (by unfold maxLen;omega) (by omega) ?_;intro v1 w1 hsl1 qB;rw [V5,WT] at hsl1;obtain ⟨jQ,jP,rfl⟩:=hsl1.shape;have hbw:Below wq.heap.size wq ((wq.drew).alloc (.cells #[] 5)):=by exact dC
 have hb1':Below wq.heap.size wq w1:=hbw.trans ((qB.below (B:=wq.heap.size) (by simp) fun k hk=>hk));have hbz:fE w1 (fun k=>wq.heap.size<=k) (.slice jQ d.length jP) d:=Sl.Jz (hsl1.mono (G:=fun k=>wq.heap.size<=k) (by rintro k (h|h);exact h;simp at h;omega)) (Vu _);have hA:=Un.out.mM hb1' (T:=dD (.slice jQ d.length jP) d) hbz;rw [VE] at hA;have hrow:=hA.blk 0 rfl;have c17:w1.cell? ⟨p,17,none⟩=some (.slice (some ⟨b1,o1,none⟩) a.snd.cT.length k1):=aJ hrow rfl;have c20:w1.cell? ⟨p,20,none⟩=some (.int .i64 (a.snd.pos:Int)):=aJ hrow rfl;have c21:w1.cell? ⟨p,21,none⟩=some (.int .i64 (a.snd.cP:Int)):=aJ hrow rfl;have QT:w1.cell? ⟨p,22,none⟩=some (.int .i64 (a.snd.timer:Int)):=aJ hrow rfl;have cf:=fun i=>aD hrow i
 have e0:w1.cell? ⟨b1,o1+a.snd.pos,none⟩=some (.slice va d.length vk):=(Vt (hb1'.block b1 (Vv _ _ QR))).trans QR;refine hK.out _ _ ⟨c17,c20,e0⟩ ?_;clear hK K;simp only [VF,ag,Ψ,ae];refine ah 12 (fun K hK=>?_);go_simp;refine hK.out _ _ ⟨c17,c20,e0⟩ ?_;clear hK K;refine fZ ?_;have HA:=aQ hA;have θ:=aQ hrow;have hmx:max (a.snd.cP:Int) ((a.snd.pos:Int)+1)=((max a.snd.cP (a.snd.pos+1):Nat):Int):=by omega
 clear d17 d20 QR hS0 Un UC hsl1 qB hbw hb1' hbz hA hrow c17 e0;go_wp2_with fail
 go_region
 go_wp2_with fail
 go_ret3
 refine ⟨.slice jQ d.length jP,by simp,?_⟩;refine dY.ax (p:=p) (ts:=ts++[dD (.slice jQ d.length jP) d]) (HA.out.set 0 rfl (iX { a with snd:={ a.snd with pos:=a.snd.pos+1,cP:=max a.snd.cP (a.snd.pos+1),timer:=0 } } ⟨rv,wv,bv,.slice (some ⟨b1,o1,none⟩) a.snd.cT.length k1,cv,tv,gv,ev,av,sv,nv,hv,ch⟩) (by exact eZ) ?_);have hr:=θ.out
 (refine aS (Ξ hr) ?_)
 first|rfl|(simp;done)|(simp;omega)
theorem SF (w:World) (Y:BS):fE w Y (.slice none 0 0) []:=⟨By.of_nil _,fun h=>absurd h (by simp)⟩
theorem dY.K3 (h:dY F Z W ts w):dY F Z W (ts++[dD (.slice none 0 0) []]) w:=h.mM (VQ _ _) (SF _ _)
theorem OB (hok:a.snd.Ok) (ht:a.snd.aG+a.snd.cT.length < 1000000000000) (h:dY F Z W (gJ p a::ts) w) :
  Calls Vs 81 #[.pointer (some ⟨p,15,none⟩)] w fun e w'=>∃v,e=.returned (.tuple #[.int .i64 ((a.snd.cR.1.elim 0 (·.1):Nat):Int),v,.bool a.snd.cR.1.isSome])/\dY F Z W (gJ p { a with snd:=a.snd.cR.2 }::(ts++[dD v (a.snd.cR.1.elim [] (·.2))])) w':=by
 obtain ⟨x,jb⟩:=h.rp;obtain ⟨rv,wv,bv,kv,cv,tv,gv,ev,av,sv,nv,hv,ch⟩:=x;obtain ⟨_,_,hb⟩:=jb.get 4 rfl;obtain ⟨ka,kc,e1,m1,nG,_⟩:=(show Sq ψ 40 w _ _ kv a.snd.cT from hb).le;subst e1;have hrow:=jb.blk 0 rfl;have c16:w.cell? ⟨p,16,none⟩=some (.int .i64 (a.snd.aN:Int)):=aJ hrow rfl;have c17:w.cell? ⟨p,17,none⟩=some (.slice ka a.snd.cT.length kc):=aJ hrow rfl;have c20:w.cell? ⟨p,20,none⟩=some (.int .i64 (a.snd.pos:Int)):=aJ hrow rfl;have QT:w.cell? ⟨p,22,none⟩=some (.int .i64 (a.snd.timer:Int)):=aJ hrow rfl;have cf:=fun i=>aD hrow i
 have hpos:=hok.pos;have qI:=hok.cP;have hkl:=hok.cT;have hw2:=hok.w2;have ht2:=hok.t2;have htm:=hok.timer;have HSM:=aQ hok.small;have HST:=aQ jb;have θ:=aQ hrow;have HT:=aQ ht;unfold maxLen at nG;clear jb hb hrow hok h ht;unfold bg.cR;by_cases h0:a.snd.cT.length=0
 ·have hp0:a.snd.pos=0:=by omega
  rw [if_pos h0];have HN:=aQ (fun n=>((HST.out.own (bS w n)).K3));clear c16 QT cf;go_enter Tryz.func81,Tryz.ntmps81;go_wp2_with fail;go_quiet (fail);go_wp2_with fail
  go_ret3
  refine ⟨.slice none 0 0,rfl,?_⟩;refine dY.ax (x:=⟨rv,wv,bv,.slice ka a.snd.cT.length kc,cv,tv,gv,ev,av,sv,nv,hv,ch⟩) (ts:=ts++[dD (.slice none 0 0) []]) ?_;rw [<-VE];exact HN.out _
 ·rw [if_neg h0]
  by_cases h1:a.snd.cT.length<=a.snd.pos
  ·rw [if_pos h1]
   by_cases h2:a.snd.timer+1 < a.snd.aN
   ·rw [if_pos h2]
    go_enter Tryz.func81,Tryz.ntmps81;go_wp2_with fail;go_quiet (fail);go_wp2_with fail;go_quiet (fail);go_wp2_with fail
    go_ret3
    refine ⟨.slice none 0 0,rfl,?_⟩;refine dY.ax (x:=⟨rv,wv,bv,.slice ka a.snd.cT.length kc,cv,tv,gv,ev,av,sv,nv,hv,ch⟩) (ts:=ts++[dD (.slice none 0 0) []]) ?_;rw [<-VE];refine dY.K3 ?_;refine HST.out.set 0 rfl (iX { a with snd:={ a.snd with timer:=a.snd.timer+1 } } ⟨rv,wv,bv,.slice ka a.snd.cT.length kc,cv,tv,gv,ev,av,sv,nv,hv,ch⟩) (by exact eZ) ?_;have hr:=θ.out
    (refine aS (Ξ hr) ?_)
    first|rfl|(simp;done)|(simp;omega)
   ·rw [if_neg h2]
    go_enter Tryz.func81,Tryz.ntmps81;go_wp2_with fail;go_quiet (fail);go_wp2_with fail;go_quiet (fail);go_wp2_with fail
    refine (FY (p:=p) (a:={ a with snd:={ a.snd with pos:=0,timer:=a.snd.timer+1 } }) (ts:=ts) (F:=F) (Z:=Z) (W:=W) HSM.out (by show a.snd.cT.length<=128;omega) qI HT.out (by
     refine dY.ax (x:=⟨rv,wv,bv,.slice ka a.snd.cT.length kc,cv,tv,gv,ev,av,sv,nv,hv,ch⟩) ?_;refine HST.out.set 0 rfl (iX { a with snd:={ a.snd with pos:=0,timer:=a.snd.timer+1 } } ⟨rv,wv,bv,.slice ka a.snd.cT.length kc,cv,tv,gv,ev,av,sv,nv,hv,ch⟩) (by exact eZ) ?_;have hr:=θ.out
     (refine aS (Ξ hr) ?_)
     first|rfl|(simp;done)|(simp;omega)) (by show 0 < a.snd.cT.length;omega)).mono ?_
    rintro e w1 ⟨v,rfl,hh⟩;have HH:=aQ hh;clear hh;go_wp2_with fail
    go_ret3
    exact ⟨v,rfl,HH.out⟩
  ·rw [if_neg h1]
   have Qy:=aQ (fun n=>FY (p:=p) (a:=a) HSM.out (by omega) qI HT.out (dY.ax (HST.out.own (bS w n))) (by omega));go_enter Tryz.func81,Tryz.ntmps81;go_wp2_with fail;go_quiet (fail);go_wp2_with fail;refine (Qy.out _).mono ?_;rintro e w1 ⟨v,rfl,hh⟩;have HH:=aQ hh;clear hh Qy;go_wp2_with fail
   go_ret3
   exact ⟨v,rfl,HH.out⟩
end

section
variable {F Z:BS} {W w:World} {ts:List Th} {p:Nat} {a:δ}
theorem Il (v:Value) (d:dV) (hbv:By w v d) (hd:d.length<=64) (hroom:a.snd.cT.length < a.snd.cA) (hw2:a.snd.cA<=128) (ht:a.snd.aG+a.snd.cT.length < 1000000000000) (h:dY F Z W (gJ p a::ts) w) :
  Calls Vs 80 #[.pointer (some ⟨p,15,none⟩),v] w fun e w'=>e=.returned (.int .i64 0)/\dY F Z W (gJ p { a with snd:={ a.snd with cT:=a.snd.cT++[d] } }::ts) w':=by
 obtain ⟨x,jb⟩:=h.rp;obtain ⟨rv,wv,bv,kv,cv,tv,gv,ev,av,sv,nv,hv,ch⟩:=x;obtain ⟨_,_,hb⟩:=jb.get 4 rfl;obtain ⟨ka,kc,e1,m1,nG,_⟩:=(show Sq ψ 40 w _ _ kv a.snd.cT from hb).le;subst e1;obtain ⟨da,dc,e4⟩:=hbv.slice;subst e4;have hrow:=jb.blk 0 rfl;have c15:w.cell? ⟨p,15,none⟩=some (.int .i64 (a.snd.cA:Int)):=aJ hrow rfl;have c17:w.cell? ⟨p,17,none⟩=some (.slice ka a.snd.cT.length kc):=aJ hrow rfl;have nK:=aQ hbv;have HST:=aQ jb;unfold maxLen at nG;have hq:((a.snd.cT.length:Int) == (a.snd.cA:Int))=false:=by simp;omega
 clear jb hb hrow h hbv;go_enter Tryz.func80,Tryz.ntmps80;go_wp2_with fail;go_quiet (fail);go_wp2_with fail;generalize hwq:XE w _=wq;have hbq:Below w.heap.size w wq:=by rw [<-hwq];exact bS w _
 have d17:wq.cell? ⟨p,17,none⟩=some (.slice ka a.snd.cT.length kc):=by rw [<-hwq];exact c17
 have Un:=aQ (HST.out.own hbq);have UC:=aQ (nK.out.below hbq);clear hwq hbq c17 c15 HST nK hq;refine η 12 (S:=fun w'=>w'.cell? ⟨p,17,none⟩=some (.slice ka a.snd.cT.length kc)) (by kernel_rfl) d17 (fun hS0=>?_);refine kX 0 5 hS0 ?_
 iterate 5 refine dI ?_
 refine aT ?_;refine kX 6 1 hS0 ?_;refine dI ?_;refine aT ?_;refine bq 5 (fun K hK=>?_);go_simp;refine hK.out _ _ (fun _=>aI _ _ d17) ?_;clear hK K;refine bq 7 (fun K hK=>?_);refine υ Ao rfl _ _ rfl (fun k=>wq.heap.size<=k) _ 0 [] rfl (by exact qK _ _ _ _ rfl rfl) _ d.length (cu d) rfl (by exact (UC.out.drewN 1).alloc _) iM (by unfold maxLen;omega) (by omega) ?_;intro v1 w1 hsl1 qB;rw [V5,WT] at hsl1;obtain ⟨jQ,jP,rfl⟩:=hsl1.shape;have hbw:Below wq.heap.size wq ((wq.drew).alloc (.cells #[] 5)):=by exact dC
 have hb1':Below wq.heap.size wq w1:=hbw.trans ((qB.below (B:=wq.heap.size) (by simp) fun k hk=>hk));have hbz:fE w1 (fun k=>wq.heap.size<=k) (.slice jQ d.length jP) d:=Sl.Jz (hsl1.mono (G:=fun k=>wq.heap.size<=k) (by rintro k (h|h);exact h;simp at h;omega)) (Vu _);have hA:dY F Z W ((dD (.slice jQ d.length jP) d::ω p a ⟨rv,wv,bv,.slice ka a.snd.cT.length kc,cv,tv,gv,ev,av,sv,nv,hv,ch⟩)++ts) w1:=(Un.out.mM hb1' (T:=dD (.slice jQ d.length jP) d) hbz).front;have c17:w1.cell? ⟨p,17,none⟩=some (.slice ka a.snd.cT.length kc):=aJ (hA.blk 1 rfl) rfl;refine hK.out _ _ (fun _=>c17) ?_;clear hK K;simp only [VF,ag,Ψ,ae];obtain ⟨Kx,us,hsl,hKn,hback⟩:=hA.app 5 rfl;have o5:¬Kx p:=hKn p 1 _ (by decide) rfl fun H Y h=>.inl h.2
 have fP:=aQ hback;have gK:=aQ hsl;clear hsl1 qB hbw hb1' hbz hA hKn hback hsl d17 Un UC hS0;have iq:=aK w1 (.cells #[.slice jQ d.length jP] 40);have d17:=aI w1 (.cells #[.slice jQ d.length jP] 40) c17
 have iT:=aQ (fun (v2:Value) (w2:World) (hsl2:Sl w2 (fun k=>Kx k\/(w1.alloc (.cells #[.slice jQ d.length jP] 40)).heap.size<=k) 40 1 v2 (a.snd.cT.length+1) (us++[.slice jQ d.length jP])) (hfr2:Fr Kx (w1.alloc (.cells #[.slice jQ d.length jP] 40)) w2)=>
  show ∃g2 cz cap2,v2=.slice (some ⟨g2,cz,none⟩) (a.snd.cT.length+1) cap2/\Hid (dY F Z W ((ω p a ⟨rv,wv,bv,.slice ka a.snd.cT.length kc,cv,tv,gv,ev,av,sv,nv,hv,ch⟩).set 4 (ζ ψ 40 (.slice (some ⟨g2,cz,none⟩) (a.snd.cT.length+1) cap2) (a.snd.cT++[d]))++ts) w2) from by
  obtain ⟨g2,cz,cap2,rfl,_⟩:=Sl.head hsl2 (by omega)
  have hs4:=fP.out _ w2 [.slice jQ d.length jP] [d] _ iq hsl2 hfr2 fun Y hO=>by
   obtain ⟨H,_,hh⟩:=hO 0 _ (by decide) rfl;exact ⟨fun _=>False,Y,fun _ f=>f.elim,fun _ y=>.inl y,fun _ f=>f.elim,fK.single (E:=ψ) ⟨_,rfl,fE.below hh iq⟩⟩
  exact ⟨g2,cz,cap2,rfl,aQ hs4.tail⟩)
 clear iq fP o5;refine bq 8 (fun K hK=>?_);go_simp;refine hK.out _ _ (fun _=>d17) ?_;clear hK K;refine bq 9 (fun K hK=>?_);refine υ qA rfl _ _ rfl Kx (.slice ka a.snd.cT.length kc) a.snd.cT.length us rfl (gK.out.alloc _) _ 1 [.slice jQ d.length jP] rfl (iA _ _ _ _ rfl) (by intro u hu;simp at hu;subst hu;rfl) (by unfold maxLen;omega) (by omega) ?_;intro v2 w2 hsl2 hfr2;obtain ⟨g2,cz,cap2,rfl,qz⟩:=iT.out v2 w2 hsl2 hfr2;have hrow:=qz.out.blk 0 rfl;have TM:w2.cell? ⟨p,17,none⟩=some (.slice ka a.snd.cT.length kc):=aJ hrow rfl;have q18:w2.cell? ⟨p,18,none⟩=some (.int .i64 ((a.snd.aG+a.snd.cT.length:Nat):Int)):=aJ hrow rfl;have cf:=fun i=>aD hrow i
 have θ:=aQ hrow;clear hsl2 hfr2 iT hrow;refine hK.out _ _ (fun _=>TM) ?_;clear hK K;simp only [VF,ag,Ψ,ae];refine bq 10 (fun K hK=>?_);go_simp;refine hK.out _ _ (fun _=>TM) ?_;clear hK K;refine bq 11 (fun K hK=>?_);go_simp;refine hK.out _ _ (fun _=>TM) ?_;clear hK K;refine bq 12 (fun K hK=>?_);go_simp;refine hK.out _ _ (fun e=>absurd rfl e) ?_;clear hK K;refine lG ?_;have hnn:((a.snd.aG+a.snd.cT.length:Nat):Int)+1<=1000000000000:=by omega
 have hn0:(0:Int)<=((a.snd.aG+a.snd.cT.length:Nat):Int):=by omega
 generalize rT:a.snd.aG+a.snd.cT.length=num at *;go_wp2_with fail;go_ret;refine ⟨rfl,?_⟩;refine dY.ax (x:=⟨rv,wv,bv,.slice (some ⟨g2,cz,none⟩) (a.snd.cT.length+1) cap2,cv,tv,gv,ev,av,sv,nv,hv,ch⟩) ?_
 have hset:=qz.out.set 0 rfl (iX { a with snd:={ a.snd with cT:=a.snd.cT++[d] } } ⟨rv,wv,bv,.slice (some ⟨g2,cz,none⟩) (a.snd.cT.length+1) cap2,cv,tv,gv,ev,av,sv,nv,hv,ch⟩) (w':=(w2.setCell ⟨p,17,none⟩ (.slice (some ⟨g2,cz,none⟩) (a.snd.cT.length+1) cap2)).setCell ⟨p,18,none⟩ (.int .i64 ((num:Int)+1))) (by exact eZ) (by
  have hr:=θ.out
  (refine aS (Ξ hr) ?_)
  subst rT
  first|rfl|(simp;done)|(simp;omega))
 exact hset
theorem LY (n:Int) (hn:n=((a.rcv % 256:Nat):Int)) (hr:a.rcv < 1000000000000) (h:dY F Z W (gJ p a::ts) w) :
  Calls Vs 118 #[.pointer (some ⟨p,24,none⟩),.int .i64 n] w fun e w'=>e=.returned (.bool true)/\dY F Z W (gJ p { a with rcv:=a.rcv+1 }::ts) w':=by
 obtain ⟨x,jb⟩:=h.rp;have hrow:=jb.blk 0 rfl;have c24:w.cell? ⟨p,24,none⟩=some (.int .i64 (a.rcv:Int)):=aJ hrow rfl;have cf:=fun i=>aD hrow i
 have HST:=aQ jb;have θ:=aQ hrow;have hn':n=(a.rcv:Int) % 256:=by omega
 subst hn';clear jb h hrow hn;go_enter Tryz.func118,Tryz.ntmps118;go_wp2_with fail;go_ret;refine ⟨rfl,?_⟩;refine dY.ax (x:=x) ?_;refine HST.out.set 0 rfl (iX { a with rcv:=a.rcv+1 } x) (by exact eZ) ?_;have hr:=θ.out
 (refine aS (Ξ hr) ?_)
 first|rfl|(simp;done)|(simp;omega)
theorem OC (n:Int) (r:Nat) (hn:n≠((r % 256:Nat):Int)) (c24:w.cell? ⟨p,24,none⟩=some (.int .i64 (r:Int))) :
  Calls Vs 118 #[.pointer (some ⟨p,24,none⟩),.int .i64 n] w fun e w'=>e=.returned (.bool false)/\w=w':=by
 have hq:(n != (r:Int) % 256)=true:=by simp;omega
 clear hn;go_enter Tryz.func118,Tryz.ntmps118;go_wp2_with fail;go_ret;exact ⟨rfl,rfl⟩
end

theorem mY:Pure xA GQ:=fun _ _ _ _ _=>Iff.rfl
theorem qL:Pure Aj GK:=fun _ _ _ _ _=>Iff.rfl
section
variable {F Z:BS} {W w:World} {ts:List Th} {T:TypeId} {b off n cap:Nat}
theorem qR {gs:List fV} (h:Sq xA T w F Z (.slice (some ⟨b,off,none⟩) n cap) gs) {c:Nat} {g:fV} (hc:gs[c]? = some g) :
  w.cell? ⟨b,off+c*3,none⟩=some (.int .i64 (g.room:Int))/\w.cell? ⟨b,off+c*3+1,none⟩=some (.int .i64 (g.aW:Int))/\w.cell? ⟨b,off+c*3+2,none⟩=some (.int .i64 (g.cI:Int)):=
 ⟨fO mY h hc (j:=0) rfl,fO mY h hc (j:=1) rfl,fO mY h hc (j:=2) rfl⟩
theorem u_ {gs:List jC} (h:Sq Aj T w F Z (.slice (some ⟨b,off,none⟩) n cap) gs) {c:Nat} {g:jC} (hc:gs[c]? = some g) :
  w.cell? ⟨b,off+c*2,none⟩=some (.int .i64 (g.cP:Int))/\w.cell? ⟨b,off+c*2+1,none⟩=some (.int .i64 (g.cE:Int)):=
 ⟨fO qL h hc (j:=0) rfl,fO qL h hc (j:=1) rfl⟩
theorem dY.UL {gs:List fV} (h:dY F Z W ts w) (i:Nat) (hi:ts[i]? = some (ζ xA T (.slice (some ⟨b,off,none⟩) n cap) gs)) {c:Nat} {g:fV} (hc:gs[c]? = some g) (g':fV) :
  dY F Z W (ts.set i (ζ xA T (.slice (some ⟨b,off,none⟩) n cap) (gs.set c g'))) (((w.setCell ⟨b,off+c*3,none⟩ (.int .i64 (g'.room:Int))).setCell ⟨b,off+c*3+1,none⟩ (.int .i64 (g'.aW:Int))).setCell ⟨b,off+c*3+2,none⟩ (.int .i64 (g'.cI:Int))):=by
 have hil:=aA hi;have hcl:=aA hc;have h1:=h.put mY i hi (c:=c) (j:=0) (a:=g) (a':=⟨g'.room,g.aW,g.cI⟩) (u:=.int .i64 (g'.room:Int)) hc (by decide) rfl;have h2:=h1.put mY i (Wm hil) (c:=c) (j:=1) (a:=⟨g'.room,g.aW,g.cI⟩) (a':=⟨g'.room,g'.aW,g.cI⟩) (u:=.int .i64 (g'.aW:Int)) (Wm hcl) (by decide) rfl;have h3:=h2.put mY i (Wm (by rw [Wd];exact hil)) (c:=c) (j:=2) (a:=⟨g'.room,g'.aW,g.cI⟩) (a':=g') (u:=.int .i64 (g'.cI:Int)) (Wm (by rw [Wd];exact hcl)) (by decide) rfl;rw [Xo,Xo,Xo,Xo] at h3;exact h3
theorem dY.UK {gs:List jC} (h:dY F Z W ts w) (i:Nat) (hi:ts[i]? = some (ζ Aj T (.slice (some ⟨b,off,none⟩) n cap) gs)) {c:Nat} {g:jC} (hc:gs[c]? = some g) (g':jC) :
  dY F Z W (ts.set i (ζ Aj T (.slice (some ⟨b,off,none⟩) n cap) (gs.set c g'))) ((w.setCell ⟨b,off+c*2,none⟩ (.int .i64 (g'.cP:Int))).setCell ⟨b,off+c*2+1,none⟩ (.int .i64 (g'.cE:Int))):=by
 have hil:=aA hi;have hcl:=aA hc;have h1:=h.put qL i hi (c:=c) (j:=0) (a:=g) (a':=⟨g'.cP,g.cE⟩) (u:=.int .i64 (g'.cP:Int)) hc (by decide) rfl;have h2:=h1.put qL i (Wm hil) (c:=c) (j:=1) (a:=⟨g'.cP,g.cE⟩) (a':=g') (u:=.int .i64 (g'.cE:Int)) (Wm hcl) (by decide) rfl;rw [Xo,Xo] at h2;exact h2
end
section
variable {w:World} {F Z:BS} {W:World} {ts:List Th} {p:Nat} {a:δ}
theorem LW {n:Nat} (c:Int) (ra:Option Addr) (rc:Nat) (hc:c < 0\/(n:Int)<=c) (h1:w.cell? ⟨p,1,none⟩=some (.slice ra n rc)) :
  Calls Vs 36 #[.pointer (some ⟨p,0,none⟩),.int .i64 c] w fun e w'=>e=.returned (.tuple #[.slice none 0 0,.bool false])/\w=w':=by
 have HQ:=aQ (uC (p:=p) (w:=w) c ra rc hc h1);clear h1 hc;go_enter Tryz.func36,Tryz.ntmps36;go_wp2_with (go_at_call 70;refine HQ.out.mono ?_;rintro e w' ⟨rfl,rfl⟩);go_ret2;exact ⟨rfl,rfl⟩
theorem Er (m n k2:Nat) (ra va:Option Addr) (hm:m < n) (_:n<=4) (b1 o1 k1 rc:Nat) (c1:w.cell? ⟨p,1,none⟩=some (.slice ra n rc)) (c13:w.cell? ⟨p,13,none⟩=some (.slice (some ⟨b1,o1,none⟩) n k1)) (hc:w.cell? ⟨b1,o1+m,none⟩=some (.slice va 0 k2)) :
  Calls Vs 36 #[.pointer (some ⟨p,0,none⟩),.int .i64 (m:Int)] w fun e w'=>e=.returned (.tuple #[.slice none 0 0,.bool false])/\w=w':=by
 have HQ:=aQ (jF (p:=p) (w:=w) m ra rc hm c1);clear c1;go_enter Tryz.func36,Tryz.ntmps36;go_wp2_with (go_at_call 70;refine HQ.out.mono ?_;rintro e w' ⟨rfl,rfl⟩);go_ret2;exact ⟨rfl,rfl⟩
theorem Ii {N:Nat} (h:dY F Z W (gJ p a::ts) w) (hok:a.Ok N) (hN:N<=1000000000) (m:Nat) (hm:m < a.aZ.length) (d:dV) (l:List dV) (hl:a.aY.getD m []=d::l) :
  Calls Vs 36 #[.pointer (some ⟨p,0,none⟩),.int .i64 (m:Int)] w fun e w'=>∃v,e=.returned (.tuple #[v,.bool true])/\dY F Z W (gJ p (a.take m).2::(ts++[dD v d])) w':=by
 obtain ⟨x,jb⟩:=h.rp;obtain ⟨rv,wv,bv,kv,cv,tv,gv,ev,av,sv,nv,hv,ch⟩:=x;have n1:=hok.n1;have bl:=hok.bl;have n4:=hok.n4;have kl:=hok.kl;have gl:=hok.gl;have hx:=bT (d:=[]) (show m < a.aY.length by omega)
 have sV:=aQ (show (a.take m).2={ a with aY:=a.aY.set m l,π:=a.π.set m (a.π.getD m ⟨0,0,0⟩).free,cF:=a.cF.set m (a.cF.getD m 0+1) } by
  unfold δ.take δ.jY;rw [if_pos (show a.has (m:Int) from ⟨by omega,by omega⟩)];simp only [Wv,hl];rfl)
 rw [hl] at hx;obtain ⟨_,_,hb⟩:=jb.get 3 rfl;obtain ⟨b1,o1,k1,e1,m1,nG⟩:=bR (show Sq (df ψ 40) 51 w _ _ bv a.aY from hb) (by omega);subst e1;have hbf:=(Sq.free (show Sq (df ψ 40) 51 w _ _ (.slice (some ⟨b1,o1,none⟩) a.aY.length k1) a.aY from hb)).2.2.2;obtain ⟨b2,o2,k2,v,hv0,m2,Gw,hv2,UU⟩:=jb.RA 3 rfl hx (k:=0) rfl;have hst:dY F Z W ((dD v d::ω p a ⟨rv,wv,.slice (some ⟨b1,o1,none⟩) a.aY.length k1,kv,cv,tv,gv,ev,av,sv,nv,hv,ch⟩)++ts) w:=UU.front;have hrow:=hst.blk 1 rfl;have c1:w.cell? ⟨p,1,none⟩=some rv:=aJ hrow rfl;have c13:w.cell? ⟨p,13,none⟩=some (.slice (some ⟨b1,o1,none⟩) a.aY.length k1):=aJ hrow rfl;obtain ⟨_,_,hr⟩:=hst.get 2 rfl;obtain ⟨ra,rc,e1,_⟩:=dh.shape (show dh dK w _ rv a.aZ from hr);subst e1;obtain ⟨vc,je,_,jT⟩:=hst.inner 4 rfl hx;rw [hv0] at je;obtain rfl:=VM je;have HQ:=aQ (jF (p:=p) (w:=w) m ra rc hm c1)
 have HS2:=aQ (jT (.slice (if k2=1 then some ⟨b2,o2,none⟩ else some ⟨b2,o2+1,none⟩) l.length (k2 - 1)) l fun G Y h=>by
   obtain ⟨g,off,e,_,_,h'⟩:=h.drop (k:=1) (by decide) (by simp);obtain ⟨rfl,rfl⟩:b2=g/\o2=off:=by simpa using e
   simpa [ψ] using h')
 have bz:=aQ hok;clear jb UU hst h hok hl hx hb hr jT c1 hrow je;rw [show (d::l).length=l.length+1 from rfl] at hv0 m2;rw [bl] at c13 m1;rw [Nat.add_zero] at hv2;have QO:(1:Int)<=(l.length:Int)+1:=by omega
 have h1q:((l.length:Int)+1 == 0)=false:=by simp;omega
 obtain ⟨na,hna⟩:∃na,(if k2=1 then some (⟨b2,o2,none⟩:Addr) else some ⟨b2,o2+1,none⟩)=na:=⟨_,rfl⟩;have hsl1:l.length+1 - 1=l.length:=rfl;have hm2:((l.length:Int)+1)<=(k2:Int):=by omega
 rw [hna] at HS2;clear m2 hsl1;go_enter Tryz.func36,Tryz.ntmps36;go_wp2_with (go_at_call 70;refine HQ.out.mono ?_;rintro e w' ⟨rfl,rfl⟩);refine wp_region_still_tail 14 (by kernel_rfl) (by kernel_rfl) ?_;simp only [Vy,VI,Vz,VH];change wpStill _ _ (V3 _) (fun a'=>wpList _ _ _ _ a' (V3 _)) _ _
 repeat still_step
 refine wpStill_nil ?_;clear hna;go_wp2_with fail;generalize hw2:VR _ _ _=w2;have hs3:dY F Z W ((dD v d::ω p { a with aY:=a.aY.set m l } ⟨.slice ra a.aZ.length rc,wv,.slice (some ⟨b1,o1,none⟩) a.aY.length k1,kv,cv,tv,gv,ev,av,sv,nv,hv,ch⟩)++ts) w2:=by rw [<-hw2];exact HS2.out
 clear hw2 HS2 c13 hbf hv0 QO hm2 Gw;have hrow:=hs3.blk 1 rfl;have uK:w2.cell? ⟨p,26,none⟩=some gv:=aJ hrow rfl;have hg:=bT (d:=(⟨0,0,0⟩:fV)) (show m < a.π.length by omega);have hgb:=bz.out.π _ (VD hg);obtain ⟨_,_,hb⟩:=hs3.get 8 rfl;obtain ⟨b3,o3,k3,e3,m3,QJ⟩:=bR (show Sq xA 161 w2 _ _ gv a.π from hb) (by omega);subst e3;have hg3:=qR (show Sq xA 161 w2 _ _ (.slice (some ⟨b3,o3,none⟩) a.π.length k3) a.π from hb) hg;have hgf:=(Sq.free (show Sq xA 161 w2 _ _ (.slice (some ⟨b3,o3,none⟩) a.π.length k3) a.π from hb)).2.2.2;obtain ⟨g,hgg⟩:∃g,g=a.π.getD m ⟨0,0,0⟩:=⟨_,rfl⟩;have HG:=aQ hgg;rw [<-hgg] at hg3 hgb;have AY:=aQ hg;have Df:=aQ hs3;rw [gl] at uK m3;clear hs3 hrow hg hb hgg;refine η 17 (S:=fun w'=>w'.cell? ⟨p,26,none⟩=some (.slice (some ⟨b3,o3,none⟩) a.aZ.length k3)/\w'.cell? ⟨b3,o3+m*3,none⟩=some (.int .i64 (g.room:Int))/\w'.cell? ⟨b3,o3+m*3+1,none⟩=some (.int .i64 (g.aW:Int))/\w'.cell? ⟨b3,o3+m*3+2,none⟩=some (.int .i64 (g.cI:Int))) (by kernel_rfl) ⟨uK,hg3.1,hg3.2.1,hg3.2.2⟩ (fun hS0=>?_);refine kX 0 12 hS0 ?_
 iterate 12 (refine aR (v:=?_) (by rfl) ?_ ?_;rotate_left 1;(focus ((intro w' hS';obtain ⟨q1,q2,q3,q4⟩:=hS';go_simp);try with_reducible rfl));simp only [VF,ag,Ψ,ae])
 refine aT ?_;refine bq 12 (fun K hK=>?_)
 (refine ν (f:=?_) (args:=?_) (by rfl) ?_ ?_;rotate_left 2;(focus (go_simp;first|(with_reducible rfl)|(refine ⟨?_,?_⟩ <;> with_reducible rfl)));(refine (Iq g hgb.2.1 (by omega) _).mono ?_);rintro e w3 ⟨⟨r3,rfl⟩,hb3⟩)
 refine ⟨_,rfl,?_⟩;simp only [VF,ag,Ψ,ae];have hb4:Below w2.heap.size w2 w3:=Wi (by exact dC) hb3;have hp2:=Vv w2 _ uK;have hq2:=Vv w2 _ hg3.1
 have hS1:w3.cell? ⟨p,26,none⟩=some (.slice (some ⟨b3,o3,none⟩) a.aZ.length k3)/\w3.cell? ⟨b3,o3+m*3,none⟩=some (.int .i64 (g.room:Int))/\w3.cell? ⟨b3,o3+m*3+1,none⟩=some (.int .i64 (g.aW:Int))/\w3.cell? ⟨b3,o3+m*3+2,none⟩=some (.int .i64 (g.cI:Int)):=
  ⟨(Vt (hb4.block p hp2)).trans uK,(Vt (hb4.block b3 hq2)).trans hg3.1,(Vt (hb4.block b3 hq2)).trans hg3.2.1,(Vt (hb4.block b3 hq2)).trans hg3.2.2⟩
 have aaS:∀j,w3.frozen? ⟨b3,j,none⟩=false:=by
  obtain ⟨_,_,hb⟩:=(Df.out.own hb4).get 8 rfl;exact (Sq.free (show Sq xA 161 w3 _ _ (.slice (some ⟨b3,o3,none⟩) a.π.length k3) a.π from hb)).2.2.2
 have nH:=aQ ((Df.out.own hb4).UL 8 rfl AY.out g.free);refine hK.out _ _ (fun _=>hS1) ?_;clear hK K hb3 hb4 hgf uK hg3 hS0 Df;obtain ⟨e1,e2,e3,e4⟩:=hS1;have hS1:w3.cell? ⟨p,26,none⟩=some (.slice (some ⟨b3,o3,none⟩) a.aZ.length k3)/\w3.cell? ⟨b3,o3+m*3,none⟩=some (.int .i64 (g.room:Int))/\w3.cell? ⟨b3,o3+m*3+1,none⟩=some (.int .i64 (g.aW:Int))/\w3.cell? ⟨b3,o3+m*3+2,none⟩=some (.int .i64 (g.cI:Int)):=⟨e1,e2,e3,e4⟩;refine dS 13 (by kernel_rfl) rfl (fun _=>hS1) (fun _ _ _ _ _ h=>h) ?_;refine dI ?_;refine aT ?_;refine dS 14 (by kernel_rfl) rfl (fun _=>hS1) (fun _ _ _ _ _ h=>h) ?_;refine dI ?_;refine aT ?_;refine dS 15 (by kernel_rfl) rfl (fun _=>hS1) (fun _ _ _ _ _ h=>h) ?_;refine dI ?_;refine aT ?_;refine bq 16 (fun K hK=>?_);go_simp;refine hK.out _ _ (fun _=>hS1) ?_;clear hK K;refine bq 17 (fun K hK=>?_);go_simp;refine hK.out _ _ (fun e=>absurd rfl e) ?_;clear hK K;refine lG ?_;generalize wL:VR (VR (VR w3 _ _) _ _) _ _=w5;have hs5:dY F Z W ((dD v d::ω p { a with aY:=a.aY.set m l,π:=a.π.set m g.free } ⟨.slice ra a.aZ.length rc,wv,.slice (some ⟨b1,o1,none⟩) a.aY.length k1,kv,cv,tv,.slice (some ⟨b3,o3,none⟩) a.π.length k3,ev,av,sv,nv,hv,ch⟩)++ts) w5:=by rw [<-wL];exact nH.out
 clear wL nH e1 e2 e3 e4 hS1 aaS;have hrow:=hs5.blk 1 rfl;have c32:w5.cell? ⟨p,32,none⟩=some hv:=aJ hrow rfl;obtain ⟨_,_,hb⟩:=hs5.get 13 rfl;obtain ⟨b4,o4,k4,e4,m4,m4'⟩:=bR (show Sq dK 3 w5 _ _ hv a.cF from hb) (by omega);subst e4;have hx4:=bT (d:=0) (show m < a.cF.length by omega);have ht4:=bz.out.tan _ (VD hx4);have hc4:=dP hb hx4;have JL:=(Sq.free hb).2.2.2;have HS6:=aQ (hs5.yM (xs:=a.cF) 13 rfl (c:=m) (y:=a.cF.getD m 0+1) (u:=(a.cF.getD m 0:Int)+1) (by omega) (by omega));obtain ⟨z,hz⟩:∃z,z=a.cF.getD m 0:=⟨_,rfl⟩;have HZ:=aQ hz;rw [<-hz] at ht4 hc4;rw [kl] at c32 m4;clear hrow hb hx4 hz hs5;go_wp2_with fail;go_ret2;refine ⟨v,rfl,?_⟩;rw [sV.out,<-HG.out];have hz:=HZ.out;subst hz;have h7:dY F Z W (dD v d::(ω p { a with aY:=a.aY.set m l,π:=a.π.set m g.free,cF:=a.cF.set m (a.cF.getD m 0+1) } ⟨.slice ra a.aZ.length rc,wv,.slice (some ⟨b1,o1,none⟩) a.aY.length k1,kv,cv,tv,.slice (some ⟨b3,o3,none⟩) a.π.length k3,ev,av,sv,nv,.slice (some ⟨b4,o4,none⟩) a.cF.length k4,ch⟩++ts)) _:=HS6.out;have h8:=h7.wT;rw [VE] at h8;exact h8.ax
end

theorem aaz:o8 Vs 56 176 (.agg #[.int .i64 0,.int .i64 0]) 2 16:=⟨Tryz.underlying56,info_parts (by kernel_rfl),rfl,by decide⟩
theorem aaA:o8 Vs 57 161 (.agg #[.int .i64 0,.int .i64 0,.int .i64 0]) 3 24:=⟨Tryz.underlying57,info_parts (by kernel_rfl),rfl,by decide⟩
def gI (a:δ) (j:Nat):List (List dV):=(VV a.aX.length).map fun c=>again (a.cT.drop j) c++a.aX.getD c []
theorem um (a:δ) (j:Nat):(gI a j).length=a.aX.length:=by simp [gI]
theorem xh (a:δ):gI a a.cT.length=a.aX:=by
 unfold gI;rw [List.drop_length];exact qQ a.aX []
theorem zF {a:δ} {j c:Nat} (hc:c < a.aX.length):(gI a j)[c]? = some (again (a.cT.drop j) c++a.aX.getD c []):=by
 unfold gI;rw [VG,VY hc];rfl
theorem zD {a:δ} {j c:Nat} {d:dV} (hj:a.cT[j]? = some (c,d)):(gI a (j+1)).set c (d::(again (a.cT.drop (j+1)) c++a.aX.getD c []))=gI a j:=by
 have hdr:a.cT.drop j=(c,d)::a.cT.drop (j+1):=by
  have hl:=aA hj;rw [List.drop_eq_getElem_cons hl];rw [Vw hl] at hj;rw [VM hj]
 apply List.ext_getElem?;intro i;rw [List.getElem?_set];unfold gI;by_cases hci:c=i
 ·subst hci
  rw [if_pos rfl];by_cases hl:c < a.aX.length
  ·rw [if_pos (by simpa using hl),VG,VY hl,V_,hdr]
   simp [again]
  ·rw [if_neg (by simpa using hl),VG,VT (by simp;omega)];rfl
 ·rw [if_neg hci,VG,VG,hdr]
  by_cases hl:i < a.aX.length
  ·rw [VY hl,V_,V_]
   have hne:(c == i)=false:=by simpa using hci
   simp [again,hne]
  ·rw [VT (by simp;omega)];rfl
section
variable {F Z:BS} {W w wr:World} {ts:List Th} {p:Nat} {a:δ}
theorem dY.aaD {T:TypeId} {v:Value} {d:dV} (h:dY F Z W ts w) (i:Nat) (hi:ts[i]? = some (dD v d)):dY F Z W (ζ ψ T (.slice (some ⟨w.heap.size,0,none⟩) 1 1) [d]::ts) (w.alloc (.cells #[v] T)):=by
 have h0:=dY.jW (E:=ψ) (T:=T) h;obtain ⟨K,us,Y,hsl,_,hoth,hback⟩:=h0.yT 0 rfl;obtain ⟨H,_,hby⟩:=hoth (i+1) _ (by omega) (by simpa using hi);obtain rfl:us=[]:=Wh (by have:=hsl.1;simpa using this);refine hback w (w.alloc (.cells #[v] T)) [v] [d] _ (VQ _ _) ⟨rfl,.inr ⟨w.heap.size,0,1,#[v],rfl,.inr (Vu _),heap_alloc_new w _,Vu _,by unfold maxLen;omega,by simp [ψ],rfl⟩⟩ (Fr.of_below (Fr.refl _ _) (aK w _)) ⟨fun _=>False,Y,fun _ f=>f.elim,fun _ y=>.inl y,fun _ f=>f.elim,fK.single (E:=ψ) ⟨_,rfl,hby⟩⟩
theorem dY.RB {α : Type} {E:El α} {f : α -> List Value} {T:TypeId} {av:Value} {xs:List α} (hp:Pure E f) (h:dY F Z W ts wr) (i:Nat) (hi:ts[i]? = some (ζ E T av xs)) :
  ∃K us,Sl wr K T E.size av xs.length us/\(∀(b:Nat) (j:Nat) (T':Th),j≠i->ts[j]? = some T'->(∀H Y,T'.on wr H Y->H b\/Y b)->¬K b) /\
   ∀(w1 w2:World) (y : α) (u2:Value),Below wr.heap.size wr w1->Sl w2 (fun k=>K k\/w1.heap.size<=k) T E.size u2 (xs.length+1) (us++f y)->Fr K w1 w2->dY F Z W (ts.set i (ζ E T u2 (xs++[y]))) w2:=by
 obtain ⟨K,us,h1,h2,h3⟩:=h.app i hi;refine ⟨K,us,h1,h2,fun w1 w2 y u2 hb hsl hf=>h3 w1 w2 (f y) [y] u2 hb hsl hf fun Y _=>⟨fun _=>False,fun _=>False,fun _ f=>f.elim,fun _ f=>f.elim,fun _ f=>f.elim,?_⟩⟩;have:=hp.of (w:=w1) (Z:=fun _=>False) (fun _=>False) [y];simpa using this
end

structure δ.aa3 (N:Nat) (p:δ):Prop where
 n1:1<=p.aZ.length
 n4:p.aZ.length<=4
 wl:p.aX.length=p.aZ.length
 bl:p.aY.length=p.aZ.length
 kl:p.cT.length<=128
 qy:∀l ∈ p.aX,l.length<=N
 rO:∀l ∈ p.aY,l.length<=N
theorem Mh (w : World) (g : Nat) (u v z : Value) (T : TypeId) (hg : g = w.heap.size) : Rd (w.alloc (.cells #[u, v, z] T)) 3 (.slice (some ⟨g, 0, none⟩) 1 1) 1 [u, v, z] := by
  subst hg;refine ⟨rfl, _, 1, rfl, Vu _, by decide, (fun e => by cases e), fun b hb j x hj => ?_⟩;obtain rfl := VM hb;have hr := heap_alloc_new w (.cells #[u, v, z] T)
  match j, hj with
  | 0, hj => exact ⟨rfl, by obtain rfl : u = x := by simpa using hj
                            exact aJ (i := 0) hr rfl⟩
  | 1, hj => exact ⟨rfl, by obtain rfl : v = x := by simpa using hj
                            exact aJ (i := 1) hr rfl⟩
  | 2, hj => exact ⟨rfl, by obtain rfl : z = x := by simpa using hj
                            exact aJ (i := 2) hr rfl⟩
  | j + 3, hj => simp at hj
abbrev iJ (a:δ) (j:Nat):δ:={ a with aX:=gI a 0,snd:=eH a.cA a.aN,cT:=[],rcv:=0,bu:=Vr j ⟨0,0⟩,π:=(a.begin a.cM).π.take j,base:=(a.begin a.cM).base.take j }
theorem MH {a:δ} {j:Nat} (q:Nat) (hbuf:(a.aY.getD j []).length<=a.aZ.getD j 0) (hj:j < a.aZ.length):(a.begin q).π.take (j+1)=(a.begin q).π.take j++[⟨a.aZ.getD j 0,(a.aY.getD j []).length,0⟩]:=by
 have h:(a.begin q).π[j]? = some ⟨a.aZ.getD j 0,(a.aY.getD j []).length,0⟩:=by
  show ((VV a.aZ.length).map fun c=>fV.held ⟨a.aZ.getD c 0,0,0⟩ (a.aY.getD c []).length)[j]? = _;rw [VG,VY hj,V_,ng,Nat.min_eq_left hbuf]
 rw [Xr,h];rfl
theorem Jn {a:δ} {j:Nat} (q:Nat) (hj:j < a.aY.length):(a.begin q).base.take (j+1)=(a.begin q).base.take j++[(a.aY.getD j []).length]:=by
 have h:(a.begin q).base[j]? = some (a.aY.getD j []).length:=by
  show (a.aY.map List.length)[j]? = _;rw [VG,bT (d:=[]) hj];rfl
 rw [Xr,h];rfl
theorem MZ (a:δ) {j:Nat} (hj:j<=a.aZ.length):(iJ a j).π.length=j:=by
 show ((a.begin a.cM).π.take j).length=j;rw [VW,show (a.begin a.cM).π.length=a.aZ.length by simp [δ.begin]];omega
theorem Jm {a:δ} {j:Nat} (bl:a.aY.length=a.aZ.length) (hj:j<=a.aZ.length):(iJ a j).base.length=j:=by
 show ((a.begin a.cM).base.take j).length=j;rw [VW,show (a.begin a.cM).base.length=a.aZ.length by simp [δ.begin,bl]];omega
theorem M0 {a:δ} (bl:a.aY.length=a.aZ.length):iJ a a.aZ.length=a.begin a.cM:=by
 have h1:(a.begin a.cM).π.take a.aZ.length=(a.begin a.cM).π:=Wn (by simp [δ.begin]);have h2:(a.begin a.cM).base.take a.aZ.length=(a.begin a.cM).base:=Wn (by simp [δ.begin,bl]);unfold iJ;rw [h1,h2];rfl
section
variable {F Z:BS} {W w:World} {ts:List Th} {p:Nat} {a:δ}
theorem Bt {N:Nat} (hok:a.aa3 N) (hN:N<=1000000000) (hkk:a.snd.cT=a.cT.map (·.2)) (hcl:∀f ∈ a.cT,f.1 < a.aZ.length) (hbuf:∀c,(a.aY.getD c []).length<=a.aZ.getD c 0) (h:dY F Z W (gJ p a::ts) w) :
  Calls Vs 56 #[.pointer (some ⟨p,0,none⟩)] w fun e w'=>e=.returned (.tuple #[])/\dY F Z W (gJ p (a.begin a.cM)::ts) w':=by
 obtain ⟨x,jb⟩:=h.rp;obtain ⟨rv,wv,bv,kv,cv,tv,gv,ev,av,sv,nv,hv,ch⟩:=x;have n1:=hok.n1;have n4:=hok.n4;have wl:=hok.wl;have bl:=hok.bl;have hkl:=hok.kl;have hkn:a.snd.cT.length=a.cT.length:=by rw [hkk,VL]
 have hcn:(a.cT.map (·.1)).length=a.cT.length:=VL ..;obtain ⟨_,_,hr⟩:=jb.get 1 rfl;obtain ⟨ra,rc,e1,_⟩:=dh.shape (show dh dK w _ rv a.aZ from hr);obtain ⟨_,_,hb⟩:=jb.get 2 rfl;obtain ⟨b1,o1,k1,e2,m1,nG⟩:=bR (show Sq (df ψ 40) 51 w _ _ wv a.aX from hb) (by omega);obtain ⟨_,_,hb4⟩:=jb.get 4 rfl;obtain ⟨ka,kc,e4,q1,q1',_⟩:=(show Sq ψ 40 w _ _ kv a.snd.cT from hb4).le;obtain ⟨_,_,hb5⟩:=jb.get 5 rfl;obtain ⟨ca,cc,e5,q2,q2',_⟩:=(show Sq dK 3 w _ _ cv (a.cT.map (·.1)) from hb5).le;subst e1 e2 e4 e5;rw [hkn] at q1;rw [hcn] at q2;unfold maxLen at q1' q2';have hrow:=jb.blk 0 rfl;have c17:w.cell? ⟨p,17,none⟩=some (.slice ka a.snd.cT.length kc):=aJ hrow rfl;rw [hkn] at c17;have HKK:=aQ hkk;have TE:=aQ hcl;have RI:=aQ hbuf;have bz:=aQ hok;have HST:=aQ jb;have HKN:=aQ hkn;have JC:=aQ hcn;clear hr hb hb4 hb5 hrow jb h hkk hcl hbuf hok hkn hcn;go_enter Tryz.func56,Tryz.ntmps56;go_wp2_with fail;go_loopw [2,3] (fun i _ wr=>∃j:Nat,j<=a.cT.length/\i=.int .i64 ((j:Int) - 1)/\Hid (dY F Z W (ω p { a with aX:=gI a j } ⟨.slice ra a.aZ.length rc,.slice (some ⟨b1,o1,none⟩) a.aX.length k1,bv,.slice ka a.snd.cT.length kc,.slice ca (a.cT.map (·.1)).length cc,tv,gv,ev,av,sv,nv,hv,ch⟩++ts) wr)) (fun i _ _=>(intOf i+1).toNat)
 case atStart=>exact ⟨a.cT.length,Vu _,rfl,aQ (by rw [xh];exact HST.out)⟩
 case round=>
  clear HST c17;obtain ⟨j,hj,rfl,HJ⟩:=hrel;by_cases hlt:0 < j
  ·obtain ⟨i,rfl⟩:∃i,j=i+1:=⟨j - 1,by omega⟩
   obtain ⟨⟨c,d⟩,hx⟩:∃f,a.cT[i]? = some f:=⟨_,Vw (by omega)⟩;have hcl:=TE.out _ (VD hx);dsimp only at hcl;have hxd:a.snd.cT[i]? = some d:=by rw [HKK.out,VG,hx];rfl
   have TT:(a.cT.map (·.1))[i]? = some c:=by rw [VG,hx];rfl
   have hij:((i+1:Nat):Int) - 1=(i:Int):=by omega
   rw [hij];obtain ⟨_,_,hb4⟩:=HJ.out.get 4 rfl;obtain ⟨bk,ok,kc',e4,_,_⟩:=bR (show Sq ψ 40 wr _ _ (.slice ka a.snd.cT.length kc) a.snd.cT from hb4) (by rw [HKN.out];omega);obtain ⟨rfl,rfl⟩:ka=some ⟨bk,ok,none⟩/\kc=kc':=by simpa using e4
   obtain ⟨_,_,hb5⟩:=HJ.out.get 5 rfl;obtain ⟨bc,oc,cc',e5,_,_⟩:=bR (show Sq dK 3 wr _ _ (.slice ca (a.cT.map (·.1)).length cc) (a.cT.map (·.1)) from hb5) (by rw [JC.out];omega);obtain ⟨rfl,rfl⟩:ca=some ⟨bc,oc,none⟩/\cc=cc':=by simpa using e5
   obtain ⟨v0,hv0,yO⟩:=oG hb4 hxd;have hcc:=dP hb5 TT;obtain ⟨va,vk,rfl⟩:=yO.slice
   have hB:=(HJ.out.weak 4 rfl (T:=dD (.slice va d.length vk) d) (fun G' Y' Ke=>by
    obtain ⟨v',hv',yP⟩:=oG (show Sq ψ 40 wr G' Y' (.slice (some ⟨bk,ok,none⟩) a.snd.cT.length kc) a.snd.cT from Ke) hxd;rw [hv0] at hv';obtain rfl:=VM hv';exact yP)).front
   obtain ⟨vcw,je,tF⟩:=hB.out 3 rfl (zF (a:=a) (j:=i+1) (c:=c) (by rw [wl];exact hcl));have hout:=tF.front;obtain ⟨xs,hxs⟩:∃xs,xs=again (a.cT.drop (i+1)) c++a.aX.getD c []:=⟨_,rfl⟩;have uA:=aQ hxs
   have hxl:xs.length<=1000001000:=by
    have h1:=qW (a.cT.drop (i+1)) c;have h2:=bz.out.qy _ (VD (bT (d:=[]) (show c < a.aX.length by rw [wl];exact hcl)));rw [hxs,List.length_append];rw [V9] at h1;omega
   rw [<-hxs] at hout;obtain ⟨_,_,eD⟩:=hout.get 0 rfl;obtain ⟨xa,xc,e9,hx1,hx2,_⟩:=Sq.le (show Sq ψ 40 wr _ _ vcw xs from eD);subst e9;have hpb:p≠b1:=hout.apart 2 4 (by decide) rfl rfl (fun _ _ h=>h.2) fun _ _ h=>(Sq.free (show Sq _ _ _ _ _ (.slice (some ⟨b1,o1,none⟩) a.aX.length k1) _ from h)).2.1
   have hfz:∀k,wr.frozen? ⟨b1,k,none⟩=false:=by
    obtain ⟨_,_,hh⟩:=hout.get 4 rfl;exact (Sq.free (show Sq _ _ _ _ _ (.slice (some ⟨b1,o1,none⟩) a.aX.length k1) _ from hh)).2.2.2
   have hrow:=hout.blk 2 rfl;have c12:wr.cell? ⟨p,12,none⟩=some (.slice (some ⟨b1,o1,none⟩) a.aX.length k1):=aJ hrow rfl;have c17:wr.cell? ⟨p,17,none⟩=some (.slice (some ⟨bk,ok,none⟩) a.snd.cT.length kc):=aJ hrow rfl;have c23:wr.cell? ⟨p,23,none⟩=some (.slice (some ⟨bc,oc,none⟩) (a.cT.map (·.1)).length cc):=aJ hrow rfl;have hL:=dY.aaD (T := 40) hout.drew 1 rfl;obtain ⟨Kx,us,Yx,hsl,hKn,hoth,hback⟩:=hL.yT 0 rfl;have o5:¬Kx p:=hKn p 3 _ (by decide) rfl fun H Y h=>.inl h.2
   have hKb:¬Kx b1:=hKn b1 5 _ (by decide) rfl fun H Y h=>.inl (Sq.free (show Sq _ _ _ H Y (.slice (some ⟨b1,o1,none⟩) a.aX.length k1) _ from h)).2.1
   have hKk:¬Kx bk:=hKn bk 7 _ (by decide) rfl fun H Y h=>.inl (Sq.free (show Sq _ _ _ H Y (.slice (some ⟨bk,ok,none⟩) a.snd.cT.length kc) _ from h)).2.1
   obtain ⟨Hx,_,K',D',Gs,_,_,_,rR,DK⟩:=hoth 1 _ (by decide) rfl;have hp1:p < (wr.drew.alloc (.cells #[.slice va d.length vk] 40)).heap.size:=Vv _ _ (aI _ _ c12);have hl1:b1 < (wr.drew.alloc (.cells #[.slice va d.length vk] 40)).heap.size:=Vv _ _ (aI _ _ je);have hl2:bk < (wr.drew.alloc (.cells #[.slice va d.length vk] 40)).heap.size:=Vv _ _ (aI _ _ hv0);have hq12:=aI wr.drew (.cells #[.slice va d.length vk] 40) c12;have UZ:=aI wr.drew (.cells #[.slice va d.length vk] 40) je;have Rh:=aI wr.drew (.cells #[.slice va d.length vk] 40) c17;have U0:=aI wr.drew (.cells #[.slice va d.length vk] 40) hv0
   have iT:=aQ (fun (v2:Value) (w2:World) (hsl2:Sl w2 (fun k=>Kx k\/(wr.drew.alloc (.cells #[.slice va d.length vk] 40)).heap.size<=k) 40 1 v2 (1+xs.length) (us++Gs)) (hfr2:Fr Kx (wr.drew.alloc (.cells #[.slice va d.length vk] 40)) w2)=>
    show ∃a2 c2,v2=.slice a2 (1+xs.length) c2/\w2.cell? ⟨p,12,none⟩=some (.slice (some ⟨b1,o1,none⟩) a.aX.length k1)/\w2.cell? ⟨b1,o1+c,none⟩=some (.slice xa xs.length xc)/\w2.cell? ⟨p,17,none⟩=some (.slice (some ⟨bk,ok,none⟩) a.snd.cT.length kc)/\w2.cell? ⟨bk,ok+i,none⟩=some (.slice va d.length vk)/\(∀k,w2.frozen? ⟨b1,k,none⟩=false)/\Hid (dY F Z W (ω p { a with aX:=gI a i } ⟨.slice ra a.aZ.length rc,.slice (some ⟨b1,o1,none⟩) a.aX.length k1,bv,.slice (some ⟨bk,ok,none⟩) a.snd.cT.length kc,.slice (some ⟨bc,oc,none⟩) (a.cT.map (·.1)).length cc,tv,gv,ev,av,sv,nv,hv,ch⟩++ts) (w2.setCell ⟨b1,o1+c,none⟩ (.slice a2 (1+xs.length) c2))) from by
     obtain ⟨a2,c2,rfl⟩:=hsl2.shape;have h1:=hback _ w2 Gs xs _ (VQ _ _) hsl2 hfr2 ⟨fun _=>False,Yx,fun _ f=>f.elim,fun _ y=>.inl y,fun _ f=>f.elim,DZ DK⟩;have h2:=dY.back (c:=c) (Gr:=gI a i) (dY.tail (dY.tail (dY.wT h1))) 2 rfl (by rw [Wd,VL,um,wl];exact hcl) (by rw [j_];congr 1;rw [List.singleton_append,uA.out];exact zD hx);exact ⟨a2,c2,rfl,(Vt (hfr2.block p hp1 o5)).trans hq12,(Vt (hfr2.block b1 hl1 hKb)).trans UZ,(Vt (hfr2.block p hp1 o5)).trans Rh,(Vt (hfr2.block bk hl2 hKk)).trans U0,fun k=>(XA (hfr2.block b1 hl1 hKb)).trans ((XA ((aK wr.drew _).block b1 (Vv wr _ je))).trans (hfz k)),aQ h2⟩)
   have gK:=aQ hsl;have Dq:=aQ rR.rd;have uP:=aQ DK.one;have hm3:a.aX.length<=4:=by omega
   have hci:(c:Int) < (a.aX.length:Int):=by omega
   rw [JC.out] at c23;rw [HKN.out] at c17 Rh;rw [HKN.out] at iT;have hii:i < a.cT.length:=by omega
   clear hsl hKn hoth hback rR DK eD hout tF hB hL o5 hKb hKk hxs hp1 hl1 hl2 HJ hb4 hb5 e4 e5 yO hrow hxd TT hx;go_wp2_with fail;refine η 23 (S:=fun w'=>w'.cell? ⟨p,12,none⟩=some (.slice (some ⟨b1,o1,none⟩) a.aX.length k1)/\w'.cell? ⟨p,17,none⟩=some (.slice (some ⟨bk,ok,none⟩) a.cT.length kc)/\w'.cell? ⟨bk,ok+i,none⟩=some (.slice va d.length vk)/\w'.cell? ⟨b1,o1+c,none⟩=some (.slice xa xs.length xc)) (by kernel_rfl) ⟨c12,c17,hv0,je⟩ (fun hS0=>?_);refine kX 0 13 hS0 ?_
   iterate 13 (refine aR (v:=?_) (by rfl) ?_ ?_;rotate_left 1;(focus ((intro w' hS';obtain ⟨l1,l2,l3,l4⟩:=hS';go_simp);try with_reducible rfl));simp only [VF,ag,Ψ,ae])
   refine aT ?_;refine kX 14 7 hS0 ?_
   iterate 7 (refine aR (v:=?_) (by rfl) ?_ ?_;rotate_left 1;(focus ((intro w' hS';obtain ⟨l1,l2,l3,l4⟩:=hS';go_simp);try with_reducible rfl));simp only [VF,ag,Ψ,ae])
   refine aT ?_;refine bq 13 (fun K hK=>?_);go_simp;refine hK.out _ _ (fun _=>⟨hq12,Rh,U0,UZ⟩) ?_;clear hK K;refine bq 21 (fun K hK=>?_);refine υ qA rfl _ _ rfl Kx (.slice (some ⟨wr.drew.heap.size,0,none⟩) 1 1) 1 us rfl gK.out (.slice xa xs.length xc) xs.length Gs rfl (Dq.out.keep fun _ _ _=>rfl) uP.out (by unfold maxLen;omega) (by omega) ?_;intro v2 w2 hsl2 hfr2;obtain ⟨a2,c2,rfl,e12,evc,e17,ev0,ef,HS2⟩:=iT.out v2 w2 hsl2 hfr2;clear hsl2 hfr2;refine hK.out _ _ (fun _=>⟨e12,e17,ev0,evc⟩) ?_;clear hK K;simp only [VF,ag,Ψ,ae];refine bq 22 (fun K hK=>?_);go_simp;refine hK.out _ _ (fun _=>⟨e12,e17,ev0,evc⟩) ?_;clear hK K;refine bq 23 (fun K hK=>?_);go_simp;refine hK.out _ _ (fun e=>absurd rfl e) ?_;clear hK K;refine lG ?_;go_wp2_with fail;go_roundw
   case rel=>exact ⟨i,by omega,by go_num,aQ (by rw [HKN.out];exact HS2.out)⟩
   case measure=>first|(simp [intOf];done)|(simp [intOf];omega)
  ·obtain rfl:j=0:=by omega
   have hrow:=HJ.out.blk 0 rfl;have c2:wr.cell? ⟨p,2,none⟩=some (.int .i64 (a.cA:Int)):=aJ hrow rfl;have c3:wr.cell? ⟨p,3,none⟩=some (.int .i64 (a.aN:Int)):=aJ hrow rfl;have c15:wr.cell? ⟨p,15,none⟩=some (.int .i64 (a.snd.cA:Int)):=aJ hrow rfl;have c16:wr.cell? ⟨p,16,none⟩=some (.int .i64 (a.snd.aN:Int)):=aJ hrow rfl;have c17:wr.cell? ⟨p,17,none⟩=some (.slice ka a.snd.cT.length kc):=aJ hrow rfl;have c18:wr.cell? ⟨p,18,none⟩=some (.int .i64 ((a.snd.aG+a.snd.cT.length:Nat):Int)):=aJ hrow rfl;have c19:wr.cell? ⟨p,19,none⟩=some (.int .i64 (a.snd.aG:Int)):=aJ hrow rfl;have c20:wr.cell? ⟨p,20,none⟩=some (.int .i64 (a.snd.pos:Int)):=aJ hrow rfl;have c21:wr.cell? ⟨p,21,none⟩=some (.int .i64 (a.snd.cP:Int)):=aJ hrow rfl;have QT:wr.cell? ⟨p,22,none⟩=some (.int .i64 (a.snd.timer:Int)):=aJ hrow rfl;have c23:wr.cell? ⟨p,23,none⟩=some (.slice ca (a.cT.map (·.1)).length cc):=aJ hrow rfl;have c24:wr.cell? ⟨p,24,none⟩=some (.int .i64 (a.rcv:Int)):=aJ hrow rfl;have xB:wr.cell? ⟨p,25,none⟩=some tv:=aJ hrow rfl;have uK:wr.cell? ⟨p,26,none⟩=some gv:=aJ hrow rfl;have PS:wr.cell? ⟨p,27,none⟩=some ev:=aJ hrow rfl;have cf:=fun i=>aD hrow i
   have hpl:=lt_of_block hrow;have hz:((0:Nat):Int) - 1 = -1:=rfl;rw [hz];have θ:=aQ hrow;clear hrow hz;go_wp2_with fail;refine wp_region_still_tail 14 (by kernel_rfl) (by kernel_rfl) ?_;simp only [Vy,VI,Vz,VH];change wpStill _ _ (V3 _) (fun a'=>wpList _ _ _ _ a' (V3 _)) _ _
   repeat still_step
   refine wpStill_nil ?_;go_upto_region 8 with fail
   have h1:=HJ.out.set 0 rfl (iX (iJ a 0) ⟨.slice ra a.aZ.length rc,.slice (some ⟨b1,o1,none⟩) a.aX.length k1,bv,.slice none 0 0,.slice none 0 0,.slice none 0 0,.slice none 0 0,.slice none 0 0,av,sv,nv,hv,ch⟩) (w':=(((((((((((((wr.setCell ⟨p,15,none⟩ (.int .i64 a.cA)).setCell ⟨p,16,none⟩ (.int .i64 a.aN)).setCell ⟨p,17,none⟩ (.slice none 0 0)).setCell ⟨p,18,none⟩ (.int .i64 0)).setCell ⟨p,19,none⟩ (.int .i64 0)).setCell ⟨p,20,none⟩ (.int .i64 0)).setCell ⟨p,21,none⟩ (.int .i64 0)).setCell ⟨p,22,none⟩ (.int .i64 0)).setCell ⟨p,23,none⟩ (.slice none 0 0)).setCell ⟨p,24,none⟩ (.int .i64 0)).setCell ⟨p,25,none⟩ (.slice none 0 0)).setCell ⟨p,26,none⟩ (.slice none 0 0)).setCell ⟨p,27,none⟩ (.slice none 0 0))) (by exact eZ) (by have hr:=θ.out;(refine aS (Ξ hr) ?_);simp [eH]);have h2:=((((h1.upd 4 rfl (T':=ζ ψ 40 (.slice none 0 0) []) fun G Y _ _=>⟨Sq.nil _ _ _ _ _,Fr.refl _ _⟩).upd 5 rfl (T':=ζ dK 3 (.slice none 0 0) []) fun G Y _ _=>⟨Sq.nil _ _ _ _ _,Fr.refl _ _⟩).upd 6 rfl (T':=ζ Aj 176 (.slice none 0 0) []) fun G Y _ _=>⟨Sq.nil _ _ _ _ _,Fr.refl _ _⟩).upd 7 rfl (T':=ζ xA 161 (.slice none 0 0) []) fun G Y _ _=>⟨Sq.nil _ _ _ _ _,Fr.refl _ _⟩).upd 8 rfl (T':=ζ dK 3 (.slice none 0 0) []) fun G Y _ _=>⟨Sq.nil _ _ _ _ _,Fr.refl _ _⟩
   have H0:=aQ (show dY F Z W (ω p (iJ a 0) ⟨.slice ra a.aZ.length rc,.slice (some ⟨b1,o1,none⟩) a.aX.length k1,bv,.slice none 0 0,.slice none 0 0,.slice none 0 0,.slice none 0 0,.slice none 0 0,av,sv,nv,hv,ch⟩++ts) _ from h2.drew);clear h1 h2 c2 c3 c15 c16 c17 c18 c19 c20 c21 QT c23 c24 xB uK PS cf hpl θ HJ;generalize V3 (VR _ _ _)=w1 at H0 ⊢;have hrow:=H0.out.blk 0 rfl;have c1:w1.cell? ⟨p,1,none⟩=some (.slice ra a.aZ.length rc):=aJ hrow rfl;clear hrow;go_wp2_with fail;go_loopw [4,5] (fun i _ wq=>∃(j:Nat) (tj gj ej:Value),j<=a.aZ.length/\i=.int .i64 (j:Int)/\Hid (dY F Z W (ω p (iJ a j) ⟨.slice ra a.aZ.length rc,.slice (some ⟨b1,o1,none⟩) a.aX.length k1,bv,.slice none 0 0,.slice none 0 0,tj,gj,ej,av,sv,nv,hv,ch⟩++ts) wq)) (fun i _ _=>a.aZ.length - (intOf i).toNat)
   case atStart=>exact ⟨0,_,_,_,VJ _,rfl,H0⟩
   case round=>
    clear H0 c1;obtain ⟨j,tj,gj,ej,hj,rfl,HJ⟩:=hrel;by_cases hlt:j < a.aZ.length
    ·have hrow:=HJ.out.blk 0 rfl
     have c1:wr.cell? ⟨p,1,none⟩=some (.slice ra a.aZ.length rc):=aJ hrow rfl;have c13:wr.cell? ⟨p,13,none⟩=some bv:=aJ hrow rfl;have xB:wr.cell? ⟨p,25,none⟩=some tj:=aJ hrow rfl;obtain ⟨_,_,hb3⟩:=HJ.out.get 3 rfl;obtain ⟨b2,o2,k2,e2,_,_⟩:=bR (show Sq (df ψ 40) 51 wr _ _ bv a.aY from hb3) (by omega);subst e2;have hxb:=bT (d:=[]) (show j < a.aY.length by omega);obtain ⟨vb,_,hvb,hsb,_⟩:=iQ (show Sq (df ψ 40) 51 wr _ _ (.slice (some ⟨b2,o2,none⟩) a.aY.length k2) a.aY from hb3) hxb;obtain ⟨vba,vbk,e3⟩:=hsb.shape;subst e3;have hbl:=bz.out.rO _ (VD hxb);obtain ⟨_,_,hb6⟩:=HJ.out.get 6 rfl;obtain ⟨ta,tc,e6,_,_,_⟩:=(show Sq Aj 176 wr _ _ tj (iJ a j).bu from hb6).le;subst e6;obtain ⟨held,KE⟩:∃held,held=(a.aY.getD j []).length:=⟨_,rfl⟩;have Qz:=aQ KE;rw [<-KE] at hvb hbl;obtain ⟨Kx,us,hsl,_,hback⟩:=dY.RB qL HJ.out 6 rfl;have hrl:(iJ a j).bu.length=j:=List.length_replicate ..;rw [hrl] at hsl hback xB;have gK:=aQ hsl
     have iT:=aQ (fun (v2:Value) (w2:World) (hsl2:Sl w2 (fun k=>Kx k\/(wr.alloc (.cells #[.int .i64 0,.int .i64 0] 176)).heap.size<=k) 176 2 v2 (j+1) (us++[.int .i64 0,.int .i64 0])) (hfr2:Fr Kx (wr.alloc (.cells #[.int .i64 0,.int .i64 0] 176)) w2)=>
      show Hid (dY F Z W ((ω p (iJ a j) ⟨.slice ra a.aZ.length rc,.slice (some ⟨b1,o1,none⟩) a.aX.length k1,.slice (some ⟨b2,o2,none⟩) a.aY.length k2,.slice none 0 0,.slice none 0 0,.slice ta j tc,gj,ej,av,sv,nv,hv,ch⟩).set 6 (ζ Aj 176 v2 (Vr (j+1) ⟨0,0⟩))++ts) w2) from by
      have h1:=hback _ w2 ⟨0,0⟩ v2 (aK wr _) hsl2 hfr2;rw [show (iJ a j).bu++[⟨0,0⟩]=Vr (j+1) ⟨0,0⟩ from (List.replicate_succ' ..).symm] at h1;exact aQ h1)
     have hbi:(held:Int)<=1000000000:=by omega
     clear hrow hb3 hxb hsb hb6 hsl hback KE;go_wp2_with (at_builtin;refine cQ aaz rfl _ _ rfl Kx (.slice ta j tc) j us rfl (gK.out.alloc _) _ 1 [.int .i64 0,.int .i64 0] rfl (KV _ _ _ _ _ rfl) (by intro u hu;simp at hu;subst hu;rfl) (by unfold maxLen;omega) (by omega) ?_;intro v2 w2 hsl2 hfr2;have HS2:=iT.out v2 w2 hsl2 hfr2;obtain ⟨PN,PM,rfl⟩:=hsl2.shape;clear hsl2 hfr2 iT gK;have hrow:=HS2.out.blk 0 rfl;have d25:w2.cell? ⟨p,25,none⟩=some (.slice ta j tc):=aJ hrow rfl;have cf:=fun i=>aD hrow i;have θ:=aQ hrow;clear hrow);have Df:=aQ (HS2.out.set 0 rfl (iX { iJ a j with bu:=Vr (j+1) ⟨0,0⟩ } ⟨.slice ra a.aZ.length rc,.slice (some ⟨b1,o1,none⟩) a.aX.length k1,.slice (some ⟨b2,o2,none⟩) a.aY.length k2,.slice none 0 0,.slice none 0 0,.slice PN (j+1) PM,gj,ej,av,sv,nv,hv,ch⟩) (w':=w2.setCell ⟨p,25,none⟩ (.slice PN (j+1) PM)) (by exact eZ) (by have hr:=θ.out;(refine aS (Ξ hr) ?_);rfl));clear HS2 θ d25 cf xB c13 hvb c1;generalize VR w2 _ _=w3 at Df ⊢;have hs3:dY F Z W (ω p { iJ a j with bu:=Vr (j+1) ⟨0,0⟩ } ⟨.slice ra a.aZ.length rc,.slice (some ⟨b1,o1,none⟩) a.aX.length k1,.slice (some ⟨b2,o2,none⟩) a.aY.length k2,.slice none 0 0,.slice none 0 0,.slice PN (j+1) PM,gj,ej,av,sv,nv,hv,ch⟩++ts) w3:=Df.out;clear Df;have hrow:=hs3.blk 0 rfl;have c1:w3.cell? ⟨p,1,none⟩=some (.slice ra a.aZ.length rc):=aJ hrow rfl;have uK:w3.cell? ⟨p,26,none⟩=some gj:=aJ hrow rfl;obtain ⟨_,_,hr⟩:=hs3.get 1 rfl;obtain ⟨rb,ro,cs,e7,_,h7,h8⟩:=(show dh dK w3 _ (.slice ra a.aZ.length rc) a.aZ from hr).at (by decide) (bT (d:=0) hlt);obtain rfl:cs=[.int .i64 (a.aZ.getD j 0:Int)]:=h7;have hrm:=h8 0 _ rfl;have hrm:w3.cell? ⟨rb,ro+j,none⟩=some (.int .i64 (a.aZ.getD j 0:Int)):=by simpa [dK] using hrm
     subst e7;obtain ⟨_,_,rJ⟩:=hs3.get 7 rfl;obtain ⟨ga,gc,e8,_,_,_⟩:=(show Sq xA 161 w3 _ _ gj (iJ a j).π from rJ).le;have hgl:=MZ a hj;rw [hgl] at e8;subst e8;obtain ⟨Kx,us,hsl,hKn,hback⟩:=dY.RB mY hs3.drew 7 rfl;have o5:¬Kx p:=hKn p 0 _ (by decide) rfl fun H Y h=>.inl h.2
     have hKr:¬Kx rb:=hKn rb 1 _ (by decide) rfl fun H Y h=>by
      obtain ⟨b',o',cs',e',hz,_⟩:=(show dh dK w3.drew Y (.slice (some ⟨rb,ro,none⟩) a.aZ.length rc) a.aZ from h).at (by decide) (bT (d:=0) hlt);obtain ⟨rfl,rfl⟩:rb=b'/\ro=o':=by simpa using e'
      exact .inr hz
     have rR:Sl w3.drew Kx 161 3 (.slice ga j gc) (iJ a j).π.length us:=hsl;rw [hgl] at rR;obtain ⟨room,hroom⟩:∃room,room=a.aZ.getD j 0:=⟨_,rfl⟩;have uU:=aQ hroom;rw [<-hroom] at hrm;have Kc:=aI w3.drew (.cells #[.int .i64 (room:Int),.int .i64 (held:Int),.int .i64 0] 161) uK;have hq1:=aI w3.drew (.cells #[.int .i64 (room:Int),.int .i64 (held:Int),.int .i64 0] 161) c1;have yH:=aI w3.drew (.cells #[.int .i64 (room:Int),.int .i64 (held:Int),.int .i64 0] 161) hrm
     have iT:=aQ (fun (v2:Value) (w2:World) (hsl2:Sl w2 (fun k=>Kx k\/(w3.drew.alloc (.cells #[.int .i64 (room:Int),.int .i64 (held:Int),.int .i64 0] 161)).heap.size<=k) 161 3 v2 (j+1) (us++[.int .i64 (room:Int),.int .i64 (held:Int),.int .i64 0])) (hfr2:Fr Kx (w3.drew.alloc (.cells #[.int .i64 (room:Int),.int .i64 (held:Int),.int .i64 0] 161)) w2)=>
      show ∃Ng Nf,v2=.slice Ng (j+1) Nf/\w2.cell? ⟨p,26,none⟩=some (.slice ga j gc)/\w2.cell? ⟨p,1,none⟩=some (.slice (some ⟨rb,ro,none⟩) a.aZ.length rc)/\w2.cell? ⟨rb,ro+j,none⟩=some (.int .i64 (room:Int))/\Hid (dY F Z W ((ω p { iJ a j with bu:=Vr (j+1) ⟨0,0⟩ } ⟨.slice (some ⟨rb,ro,none⟩) a.aZ.length rc,.slice (some ⟨b1,o1,none⟩) a.aX.length k1,.slice (some ⟨b2,o2,none⟩) a.aY.length k2,.slice none 0 0,.slice none 0 0,.slice PN (j+1) PM,.slice ga j gc,ej,av,sv,nv,hv,ch⟩).set 7 (ζ xA 161 v2 (iJ a (j+1)).π)++ts) w2) from by
      obtain ⟨Ng,Nf,rfl⟩:=hsl2.shape;have hl:∀b,¬Kx b->b < (w3.drew.alloc (.cells #[.int .i64 (room:Int),.int .i64 (held:Int),.int .i64 0] 161)).heap.size->w2.heap[b]? = (w3.drew.alloc (.cells #[.int .i64 (room:Int),.int .i64 (held:Int),.int .i64 0] 161)).heap[b]?:=fun b hn hl=>hfr2.block b hl hn
      have h1:=hback _ w2 ⟨room,held,0⟩ (.slice Ng (j+1) Nf) (aK w3.drew _) (by
       show Sl w2 _ 161 3 _ ((iJ a j).π.length+1) _;rw [hgl];exact hsl2) hfr2
      have e:(iJ a j).π++[⟨room,held,0⟩]=(iJ a (j+1)).π:=by rw [uU.out,Qz.out];exact (MH a.cM (RI.out j) hlt).symm
      refine ⟨Ng,Nf,rfl,(Vt (hl p o5 (Vv _ _ Kc))).trans Kc,(Vt (hl p o5 (Vv _ _ Kc))).trans hq1,(Vt (hl rb hKr (Vv _ _ yH))).trans yH,aQ ?_⟩;rw [<-e];exact h1)
     have gK:=aQ rR;clear hrow hr h8 rJ hsl hKn hback rR hs3 hroom;go_wp2_with fail;refine η 19 (S:=fun w'=>w'.cell? ⟨p,26,none⟩=some (.slice ga j gc)/\w'.cell? ⟨p,1,none⟩=some (.slice (some ⟨rb,ro,none⟩) a.aZ.length rc)/\w'.cell? ⟨rb,ro+j,none⟩=some (.int .i64 (room:Int))) (by kernel_rfl) ⟨uK,c1,hrm⟩ (fun hS0=>?_);refine kX 0 15 hS0 ?_
     iterate 15 (refine aR (v:=?_) (by rfl) ?_ ?_;rotate_left 1;(focus ((intro w' hS';obtain ⟨l1,l2,l3⟩:=hS';go_simp);try with_reducible rfl));simp only [VF,ag,Ψ,ae])
     refine aT ?_;refine bq 15 (fun K hK=>?_);go_simp;refine hK.out _ _ (fun _=>⟨Kc,hq1,yH⟩) ?_;clear hK K;refine bq 16 (fun K hK=>?_);refine υ aaA rfl _ _ rfl Kx (.slice ga j gc) j us rfl (gK.out.alloc _) _ 1 [.int .i64 (room:Int),.int .i64 (held:Int),.int .i64 0] rfl (Mh _ _ _ _ _ _ rfl) (by intro u hu;simp at hu;rcases hu with rfl|rfl|rfl <;> rfl) (by unfold maxLen;omega) (by omega) ?_;intro v2 w2 hsl2 hfr2;obtain ⟨Ng,Nf,rfl,e26,e1,er,HS2⟩:=iT.out v2 w2 hsl2 hfr2;clear hsl2 hfr2 iT gK;have hrow:=HS2.out.blk 0 rfl;have cf:=fun i=>aD hrow i
     have θ:=aQ hrow;clear hrow;refine hK.out _ _ (fun _=>⟨e26,e1,er⟩) ?_;clear hK K;simp only [VF,ag,Ψ,ae];refine bq 17 (fun K hK=>?_);go_simp;refine hK.out _ _ (fun _=>⟨e26,e1,er⟩) ?_;clear hK K;refine bq 18 (fun K hK=>?_);go_simp;refine hK.out _ _ (fun _=>⟨e26,e1,er⟩) ?_;clear hK K;refine bq 19 (fun K hK=>?_);go_simp;refine hK.out _ _ (fun e=>absurd rfl e) ?_;clear hK K;refine lG ?_;have Df:=aQ (HS2.out.set 0 rfl (iX { iJ a j with bu:=Vr (j+1) ⟨0,0⟩,π:=(iJ a (j+1)).π } ⟨.slice (some ⟨rb,ro,none⟩) a.aZ.length rc,.slice (some ⟨b1,o1,none⟩) a.aX.length k1,.slice (some ⟨b2,o2,none⟩) a.aY.length k2,.slice none 0 0,.slice none 0 0,.slice PN (j+1) PM,.slice Ng (j+1) Nf,ej,av,sv,nv,hv,ch⟩) (w':=w2.setCell ⟨p,26,none⟩ (.slice Ng (j+1) Nf)) (by exact eZ) (by have hr:=θ.out;(refine aS (Ξ hr) ?_);rfl));clear HS2 θ cf Kc hq1 yH hS0 uK c1 hrm e26 e1 er;generalize VR w2 _ _=w4 at Df ⊢;have hs4:dY F Z W (ω p { iJ a j with bu:=Vr (j+1) ⟨0,0⟩,π:=(iJ a (j+1)).π } ⟨.slice (some ⟨rb,ro,none⟩) a.aZ.length rc,.slice (some ⟨b1,o1,none⟩) a.aX.length k1,.slice (some ⟨b2,o2,none⟩) a.aY.length k2,.slice none 0 0,.slice none 0 0,.slice PN (j+1) PM,.slice Ng (j+1) Nf,ej,av,sv,nv,hv,ch⟩++ts) w4:=Df.out;clear Df;have hrow:=hs4.blk 0 rfl;have c1:w4.cell? ⟨p,1,none⟩=some (.slice (some ⟨rb,ro,none⟩) a.aZ.length rc):=aJ hrow rfl;have PS:w4.cell? ⟨p,27,none⟩=some ej:=aJ hrow rfl;obtain ⟨_,_,T_⟩:=hs4.get 8 rfl;obtain ⟨ea,ec,e8,_,_,_⟩:=(show Sq dK 3 w4 _ _ ej (iJ a j).base from T_).le;have hgl:=Jm bl hj;rw [hgl] at e8;subst e8;obtain ⟨Kx,us,hsl,_,hback⟩:=dY.RB jG hs4 8 rfl;have rR:Sl w4 Kx 3 1 (.slice ea j ec) (iJ a j).base.length us:=hsl;rw [hgl] at rR;have gK:=aQ rR
     have iT:=aQ (fun (v2:Value) (w2:World) (hsl2:Sl w2 (fun k=>Kx k\/(w4.alloc (.cells #[.int .i64 (held:Int)] 3)).heap.size<=k) 3 1 v2 (j+1) (us++[.int .i64 (held:Int)])) (hfr2:Fr Kx (w4.alloc (.cells #[.int .i64 (held:Int)] 3)) w2)=>
      show Hid (dY F Z W ((ω p { iJ a j with bu:=Vr (j+1) ⟨0,0⟩,π:=(iJ a (j+1)).π } ⟨.slice (some ⟨rb,ro,none⟩) a.aZ.length rc,.slice (some ⟨b1,o1,none⟩) a.aX.length k1,.slice (some ⟨b2,o2,none⟩) a.aY.length k2,.slice none 0 0,.slice none 0 0,.slice PN (j+1) PM,.slice Ng (j+1) Nf,.slice ea j ec,av,sv,nv,hv,ch⟩).set 8 (ζ dK 3 v2 (iJ a (j+1)).base)++ts) w2) from by
      have h1:=hback _ w2 held v2 (aK w4 _) (by
       show Sl w2 _ 3 1 _ ((iJ a j).base.length+1) _;rw [hgl];exact hsl2) hfr2
      have e:(iJ a j).base++[held]=(iJ a (j+1)).base:=by rw [Qz.out];exact (Jn a.cM (by omega)).symm
      rw [e] at h1;exact aQ h1)
     clear hrow T_ hsl rR hback hs4 hgl;go_wp2_with (at_builtin;refine cQ kI rfl _ _ rfl Kx (.slice ea j ec) j us rfl (gK.out.alloc _) _ 1 [.int .i64 (held:Int)] rfl (iA _ _ _ _ rfl) (by intro u hu;simp at hu;subst hu;rfl) (by unfold maxLen;omega) (by omega) ?_;intro v2 w2 hsl2 hfr2;have HS2:=iT.out v2 w2 hsl2 hfr2;obtain ⟨e2a,e2c,rfl⟩:=hsl2.shape;clear hsl2 hfr2 iT gK;have hrow:=HS2.out.blk 0 rfl;have d27:w2.cell? ⟨p,27,none⟩=some (.slice ea j ec):=aJ hrow rfl;have cf:=fun i=>aD hrow i;have θ:=aQ hrow;clear hrow);have qz:=aQ (HS2.out.set 0 rfl (iX (iJ a (j+1)) ⟨.slice (some ⟨rb,ro,none⟩) a.aZ.length rc,.slice (some ⟨b1,o1,none⟩) a.aX.length k1,.slice (some ⟨b2,o2,none⟩) a.aY.length k2,.slice none 0 0,.slice none 0 0,.slice PN (j+1) PM,.slice Ng (j+1) Nf,.slice e2a (j+1) e2c,av,sv,nv,hv,ch⟩) (w':=w2.setCell ⟨p,27,none⟩ (.slice e2a (j+1) e2c)) (by exact eZ) (by have hr:=θ.out;(refine aS (Ξ hr) ?_);rfl));go_roundw
     case rel=>exact ⟨j+1,_,_,_,by omega,by go_num,qz⟩
     case measure=>first|(simp [intOf];done)|(simp [intOf];omega)
    ·obtain rfl:a.aZ.length=j:=by omega
     have hrow:=HJ.out.blk 0 rfl;have c1:wr.cell? ⟨p,1,none⟩=some (.slice ra a.aZ.length rc):=aJ hrow rfl;clear hrow;go_wp2_with fail;go_end0;exact ⟨rfl,by rw [<-M0 bl];exact HJ.out.ax⟩
end

section
variable {F Z:BS} {W w:World} {ts:List Th} {p N:Nat} {a:δ}
theorem L9 (x:Pt) (pa:Option Addr) (pn pc:Nat) (hk:x.kind=1#8) (hok:a.Ok N) (hN:N<=1000000000) (hbuf:∀c,(a.aY.getD c []).length<=a.aZ.getD c 0) (h:dY F Z W (gJ p a::ts) w) :
  Calls Vs 75 #[.pointer (some ⟨p,0,none⟩),dH x (.slice pa pn pc)] w fun e w'=>e=.returned (.tuple #[])/\dY F Z W (gJ p (a.gy x)::ts) w':=by
 obtain ⟨y,hst⟩:=h.rp;have h1:=(hst.new (bW x (.slice pa pn pc)));obtain ⟨rv,wv,bv,kv,cv,tv,gv,ev,av,sv,nv,hv,ch⟩:=y;have H1:=aQ (show dY F Z W (ω p a ⟨rv,wv,bv,kv,cv,tv,gv,ev,av,sv,nv,hv,ch⟩++(ts++[dJ w.heap.size (bW x (.slice pa pn pc))])) (w.alloc (bW x (.slice pa pn pc))) by rw [<-VE];exact h1);have hrow:=h1.blk 0 rfl;have c5:(w.alloc (bW x (.slice pa pn pc))).cell? ⟨p,5,none⟩=some (.int .i64 (a.cS.mine:Int)):=aJ hrow rfl;have c6:(w.alloc (bW x (.slice pa pn pc))).cell? ⟨p,6,none⟩=some (.int .i64 (a.cS.dead:Int)):=aJ hrow rfl;have c7:(w.alloc (bW x (.slice pa pn pc))).cell? ⟨p,7,none⟩=some (.int .i64 (a.cS.cM:Int)):=aJ hrow rfl;have c8:(w.alloc (bW x (.slice pa pn pc))).cell? ⟨p,8,none⟩=some (.int .i64 (a.cS.seen:Int)):=aJ hrow rfl;have c9:(w.alloc (bW x (.slice pa pn pc))).cell? ⟨p,9,none⟩=some (.int .i64 (a.cS.state:Int)):=aJ hrow rfl;have c10:(w.alloc (bW x (.slice pa pn pc))).cell? ⟨p,10,none⟩=some (.int .i64 (a.cS.silent:Int)):=aJ hrow rfl;have c11:(w.alloc (bW x (.slice pa pn pc))).cell? ⟨p,11,none⟩=some (.int .i64 ch):=aJ hrow rfl;obtain ⟨k0,k1,k2,k3,_⟩:=dx (heap_alloc_new w (bW x (.slice pa pn pc)));have b2:((U x.kind:Int) == 1)=true:=by rw [hk];rfl
 have bz:=aQ hok;have RI:=aQ hbuf;clear hst h1 hrow h hok hk hbuf k1;go_enter Tryz.func75,Tryz.ntmps75;go_wp2_with fail;generalize w.alloc (bW x (.slice pa pn pc))=w1 at *;refine η 12 (S:=fun w'=>(w'.cell? ⟨p,5,none⟩=some (.int .i64 (a.cS.mine:Int))/\w'.cell? ⟨p,6,none⟩=some (.int .i64 (a.cS.dead:Int))/\w'.cell? ⟨p,7,none⟩=some (.int .i64 (a.cS.cM:Int))/\w'.cell? ⟨p,8,none⟩=some (.int .i64 (a.cS.seen:Int))/\w'.cell? ⟨p,9,none⟩=some (.int .i64 (a.cS.state:Int))/\w'.cell? ⟨p,10,none⟩=some (.int .i64 (a.cS.silent:Int))/\w'.cell? ⟨p,11,none⟩=some (.int .i64 ch))/\w'.cell? ⟨w.heap.size,2,none⟩=some (.int .i64 x.number)/\w'.cell? ⟨w.heap.size,3,none⟩=some (.int .i64 x.value)) (by kernel_rfl) ⟨⟨c5,c6,c7,c8,c9,c10,c11⟩,k2,k3⟩ (fun hS0=>?_);refine kX 0 9 hS0 ?_
 iterate 9 (refine aR (v:=?_) (by rfl) ?_ ?_;rotate_left 1;(focus ((intro w' hS';obtain ⟨⟨l1,l2,l3,l4,l5,l6,l7⟩,l8,l9⟩:=hS';go_simp);try with_reducible rfl));simp only [VF,ag,Ψ,ae])
 refine aT ?_;refine bq 9 (fun K hK=>?_)
 (refine ν (f:=?_) (args:=?_) (by rfl) ?_ ?_;rotate_left 2;(focus (go_simp;first|(with_reducible rfl)|(refine ⟨?_,?_⟩ <;> with_reducible rfl)));(refine (zM a.cS ch x.number x.value _).mono ?_);rintro e w3 ⟨Dc,rfl,hb3⟩)
 refine ⟨_,rfl,?_⟩;simp only [VF,ag,Ψ,ae];have hb4:Below w1.heap.size w1 w3:=Wi (by exact dC) hb3;have hs3:=H1.out.own hb4;have hrow:=hs3.blk 0 rfl;have d5:w3.cell? ⟨p,5,none⟩=some (.int .i64 (a.cS.mine:Int)):=aJ hrow rfl;have d6:w3.cell? ⟨p,6,none⟩=some (.int .i64 (a.cS.dead:Int)):=aJ hrow rfl;have d7:w3.cell? ⟨p,7,none⟩=some (.int .i64 (a.cS.cM:Int)):=aJ hrow rfl;have d8:w3.cell? ⟨p,8,none⟩=some (.int .i64 (a.cS.seen:Int)):=aJ hrow rfl;have d9:w3.cell? ⟨p,9,none⟩=some (.int .i64 (a.cS.state:Int)):=aJ hrow rfl;have d10:w3.cell? ⟨p,10,none⟩=some (.int .i64 (a.cS.silent:Int)):=aJ hrow rfl;have d11:w3.cell? ⟨p,11,none⟩=some (.int .i64 ch):=aJ hrow rfl;have cf:=fun i=>aD hrow i
 have hbx:=hs3.mZ (us:=ω p a ⟨rv,wv,bv,kv,cv,tv,gv,ev,av,sv,nv,hv,ch⟩);obtain ⟨_,_,k2',Aq,_⟩:=dx hbx;refine hK.out _ _ (fun _=>⟨⟨d5,d6,d7,d8,d9,d10,d11⟩,k2',Aq⟩) ?_;clear hK K;refine bq 10 (fun K hK=>?_);go_simp;refine hK.out _ _ (fun _=>⟨⟨d5,d6,d7,d8,d9,d10,d11⟩,k2',Aq⟩) ?_;clear hK K;refine bq 11 (fun K hK=>?_);go_simp;refine hK.out _ _ (fun _=>⟨⟨d5,d6,d7,d8,d9,d10,d11⟩,k2',Aq⟩) ?_;clear hK K;refine bq 12 (fun K hK=>?_);go_simp;refine hK.out _ _ (fun e=>absurd rfl e) ?_;clear hK K;refine lG ?_;obtain ⟨s2,hs2⟩:∃s2,s2=a.cS.cO x.number x.value:=⟨_,rfl⟩;have HS2:=aQ hs2;rw [<-hs2];have nH:=aQ (hs3.set 0 rfl (iX { a with cS:=s2 } ⟨rv,wv,bv,kv,cv,tv,gv,ev,av,sv,nv,hv,Dc⟩) (w':=((((((w3.setCell ⟨p,5,none⟩ (.int .i64 s2.mine)).setCell ⟨p,6,none⟩ (.int .i64 s2.dead)).setCell ⟨p,7,none⟩ (.int .i64 s2.cM)).setCell ⟨p,8,none⟩ (.int .i64 s2.seen)).setCell ⟨p,9,none⟩ (.int .i64 s2.state)).setCell ⟨p,10,none⟩ (.int .i64 s2.silent)).setCell ⟨p,11,none⟩ (.int .i64 Dc)) (by exact eZ) (by (refine aS (Ξ hrow) ?_);rfl));clear hs3 hrow d5 d6 d7 d8 d9 d10 d11 cf hbx k2' Aq hS0 hb3 hb4 hs2 c5 c6 c7 c8 c9 c10 c11 k0 k2 k3 H1;generalize VR (VR (VR (VR (VR (VR (VR w3 _ _) _ _) _ _) _ _) _ _) _ _) _ _=w4 at nH ⊢;have hs4:dY F Z W (ω p { a with cS:=s2 } ⟨rv,wv,bv,kv,cv,tv,gv,ev,av,sv,nv,hv,Dc⟩++(ts++[dJ w.heap.size (bW x (.slice pa pn pc))])) w4:=nH.out;have hrow:=hs4.blk 0 rfl;have c7:w4.cell? ⟨p,7,none⟩=some (.int .i64 (s2.cM:Int)):=aJ hrow rfl;have c14:w4.cell? ⟨p,14,none⟩=some (.int .i64 (a.cM:Int)):=aJ hrow rfl;have cf:=fun i=>aD hrow i
 have θ:=aQ hrow;clear hs4 hrow;by_cases h0:s2.cM=0
 ·have b0:((s2.cM:Int) != 0)=false:=by simp [h0]
  have HG:=aQ (show a.gy x={ a with cS:=s2 } by
   unfold δ.gy;dsimp only;rw [<-HS2.out,if_neg (fun h=>h.1 h0)])
  clear h0;go_wp2_with fail;go_quiet (fail);go_wp2_with fail;refine bodyPost_ret (v:=.tuple #[]) (by simp [results,Tryz.results75,go_sem]) rfl ?_;refine ⟨rfl,?_⟩;rw [HG.out];exact (nH.out.own (bS _ _)).dropLast.ax
 ·have b0:((s2.cM:Int) != 0)=true:=by simp;omega
  by_cases h1:s2.cM=a.cM
  ·have b1:((s2.cM:Int) != (a.cM:Int))=false:=by simp [h1]
   have HG:=aQ (show a.gy x={ a with cS:=s2 } by
    unfold δ.gy;dsimp only;rw [<-HS2.out,if_neg (fun h=>h.2 h1)])
   clear h0 h1;go_wp2_with fail;go_quiet (fail);go_wp2_with fail;refine bodyPost_ret (v:=.tuple #[]) (by simp [results,Tryz.results75,go_sem]) rfl ?_;refine ⟨rfl,?_⟩;rw [HG.out];exact (nH.out.own (bS _ _)).dropLast.ax
  ·have b1:((s2.cM:Int) != (a.cM:Int))=true:=by simp;omega
   have HG:=aQ (show a.gy x=({ a with cS:=s2,cM:=s2.cM }:δ).begin s2.cM by
    unfold δ.gy;dsimp only;rw [<-HS2.out,if_pos ⟨h0,h1⟩];rfl)
   clear h0 h1;go_wp2_with fail;go_quiet (fail);go_wp2_with fail
   refine (Bt (p:=p) (a:={ a with cS:=s2,cM:=s2.cM }) (N:=N) (ts:=ts++[dJ w.heap.size (bW x (.slice pa pn pc))]) (F:=F) (Z:=Z) (W:=W) ⟨bz.out.n1,bz.out.n4,bz.out.wl,bz.out.bl,bz.out.Uf.kl,bz.out.qy,bz.out.rO⟩ hN bz.out.cT.symm bz.out.yF RI.out (by
    refine dY.ax (x:=⟨rv,wv,bv,kv,cv,tv,gv,ev,av,sv,nv,hv,Dc⟩) ?_;refine dY.set (nH.out.own (bS _ _)) 0 rfl (iX { a with cS:=s2,cM:=s2.cM } ⟨rv,wv,bv,kv,cv,tv,gv,ev,av,sv,nv,hv,Dc⟩) (by exact eZ) ?_;have hr:=θ.out
    (refine aS (Ξ hr) ?_)
    rfl)).mono ?_
   rintro e w5 ⟨rfl,hh⟩;have HH:=aQ hh;clear hh;go_wp2_with fail;refine bodyPost_ret (v:=.tuple #[]) (by simp [results,Tryz.results75,go_sem]) rfl ?_;refine ⟨rfl,?_⟩;rw [HG.out];exact dY.dropLast (us:=[gJ p _]) HH.out
end

section
variable {F Z:BS} {W w:World} {ts:List Th} {p N:Nat} {a:δ}
theorem LX (x:Pt) (pa:Option Addr) (pn pc:Nat) (hk:x.kind≠1#8) (hup:¬(a.cS.state=2/\(a.cS.cM:Int)=x.value)) (h:dY F Z W (gJ p a::ts) w) :
  Calls Vs 75 #[.pointer (some ⟨p,0,none⟩),dH x (.slice pa pn pc)] w fun e w'=>e=.returned (.tuple #[])/\dY F Z W (gJ p a::ts) w':=by
 obtain ⟨y,hst⟩:=h.rp;have h1:=(hst.new (bW x (.slice pa pn pc)));have H1:=aQ (show dY F Z W (ω p a y++(ts++[dJ w.heap.size (bW x (.slice pa pn pc))])) (w.alloc (bW x (.slice pa pn pc))) by rw [<-VE];exact h1);have hrow:=h1.blk 0 rfl;have c7:(w.alloc (bW x (.slice pa pn pc))).cell? ⟨p,7,none⟩=some (.int .i64 (a.cS.cM:Int)):=aJ hrow rfl;have c9:(w.alloc (bW x (.slice pa pn pc))).cell? ⟨p,9,none⟩=some (.int .i64 (a.cS.state:Int)):=aJ hrow rfl;obtain ⟨k0,k1,k2,k3,_⟩:=dx (heap_alloc_new w (bW x (.slice pa pn pc)));have b2:((U x.kind:Int) == 1)=false:=by rw [beq_eq_false_iff_ne];intro e;exact hk (pz.1 (e.trans (by rfl:(1:Int)=U (1#8))))
 clear hst h1 hrow h hk k1 k2;by_cases h0:a.cS.state=2
 ·have b3:((a.cS.state:Int) != 2)=false:=by rw [h0];rfl
  have b4:(x.value != (a.cS.cM:Int))=true:=by rw [bne_iff_ne];intro e;exact hup ⟨h0,e.symm⟩
  clear h0 hup;go_enter Tryz.func75,Tryz.ntmps75;go_wp2_with fail;generalize w.alloc (bW x (.slice pa pn pc))=w1 at *;go_quiet (fail);go_wp2_with fail;refine bodyPost_ret (v:=.tuple #[]) (by simp [results,Tryz.results75,go_sem]) rfl ?_;exact ⟨rfl,(H1.out.own (bS _ _)).dropLast.ax⟩
 ·have b3:((a.cS.state:Int) != 2)=true:=by rw [bne_iff_ne];omega
  clear h0 hup;go_enter Tryz.func75,Tryz.ntmps75;go_wp2_with fail;generalize w.alloc (bW x (.slice pa pn pc))=w1 at *;go_quiet (fail);go_wp2_with fail;refine bodyPost_ret (v:=.tuple #[]) (by simp [results,Tryz.results75,go_sem]) rfl ?_;exact ⟨rfl,(H1.out.own (bS _ _)).dropLast.ax⟩
theorem L8 (x:Pt) (pa:Option Addr) (pn pc:Nat) (h1:x.kind≠1#8) (h2:x.kind≠2#8) (h3:x.kind≠3#8) (h4:x.kind≠4#8) (hs:a.cS.state=2) (hv:(a.cS.cM:Int)=x.value) (h:dY F Z W (gJ p a::ts) w) :
  Calls Vs 75 #[.pointer (some ⟨p,0,none⟩),dH x (.slice pa pn pc)] w fun e w'=>e=.returned (.tuple #[])/\dY F Z W (gJ p a::ts) w':=by
 obtain ⟨y,hst⟩:=h.rp;have hn:=(hst.new (bW x (.slice pa pn pc)));have H1:=aQ (show dY F Z W (ω p a y++(ts++[dJ w.heap.size (bW x (.slice pa pn pc))])) (w.alloc (bW x (.slice pa pn pc))) by rw [<-VE];exact hn);have hrow:=hn.blk 0 rfl;have c7:(w.alloc (bW x (.slice pa pn pc))).cell? ⟨p,7,none⟩=some (.int .i64 (a.cS.cM:Int)):=aJ hrow rfl;have c9:(w.alloc (bW x (.slice pa pn pc))).cell? ⟨p,9,none⟩=some (.int .i64 (a.cS.state:Int)):=aJ hrow rfl;obtain ⟨k0,k1,k2,k3,_⟩:=dx (heap_alloc_new w (bW x (.slice pa pn pc)));have b1:((U x.kind:Int) == 1)=false:=by rw [beq_eq_false_iff_ne];intro e;exact h1 (pz.1 (e.trans (by rfl:(1:Int)=U (1#8))))
 have b2:((U x.kind:Int) == 2)=false:=by rw [beq_eq_false_iff_ne];intro e;exact h2 (pz.1 (e.trans (by rfl:(2:Int)=U (2#8))))
 have b3:((U x.kind:Int) == 3)=false:=by rw [beq_eq_false_iff_ne];intro e;exact h3 (pz.1 (e.trans (by rfl:(3:Int)=U (3#8))))
 have b4:((U x.kind:Int) == 4)=false:=by rw [beq_eq_false_iff_ne];intro e;exact h4 (pz.1 (e.trans (by rfl:(4:Int)=U (4#8))))
 have b5:((a.cS.state:Int) != 2)=false:=by rw [hs];rfl
 have b6:(x.value != (a.cS.cM:Int))=false:=by rw [hv];simp
 clear hst hn hrow h h1 h2 h3 h4 k1 k2 hs hv;go_enter Tryz.func75,Tryz.ntmps75;go_wp2_with fail;generalize w.alloc (bW x (.slice pa pn pc))=w1 at *;go_quiet (fail);go_wp2_with fail;go_end0;exact ⟨rfl,(H1.out.own (bS _ _)).dropLast.ax⟩
theorem LZ (x:Pt) (pa:Option Addr) (pn pc:Nat) (hk:x.kind=4#8) (hs:a.cS.state=2) (hv:(a.cS.cM:Int)=x.value) (hok:a.Ok N) (h:dY F Z W (gJ p a::ts) w) :
  Calls Vs 75 #[.pointer (some ⟨p,0,none⟩),dH x (.slice pa pn pc)] w fun e w'=>e=.returned (.tuple #[])/\dY F Z W (gJ p (a.raise x)::ts) w':=by
 obtain ⟨y,hst⟩:=h.rp;have hn:=(hst.new (bW x (.slice pa pn pc)));obtain ⟨rv,wv,bv,kv,cv,tv,gv,ev,av,sv,nv,hv',ch⟩:=y;have H1:=aQ (show dY F Z W (ω p a ⟨rv,wv,bv,kv,cv,tv,gv,ev,av,sv,nv,hv',ch⟩++(ts++[dJ w.heap.size (bW x (.slice pa pn pc))])) (w.alloc (bW x (.slice pa pn pc))) by rw [<-VE];exact hn);have hrow:=hn.blk 0 rfl;have c1:(w.alloc (bW x (.slice pa pn pc))).cell? ⟨p,1,none⟩=some rv:=aJ hrow rfl;have c7:(w.alloc (bW x (.slice pa pn pc))).cell? ⟨p,7,none⟩=some (.int .i64 (a.cS.cM:Int)):=aJ hrow rfl;have c9:(w.alloc (bW x (.slice pa pn pc))).cell? ⟨p,9,none⟩=some (.int .i64 (a.cS.state:Int)):=aJ hrow rfl;obtain ⟨_,_,hr⟩:=hn.get 1 rfl;obtain ⟨ra,rc,e1,_⟩:=dh.shape (show dh dK _ _ rv a.aZ from hr);subst e1;obtain ⟨k0,k1,k2,k3,_⟩:=dx (heap_alloc_new w (bW x (.slice pa pn pc)));have b1:((U x.kind:Int) == 1)=false:=by rw [hk];rfl
 have b2:((U x.kind:Int) == 2)=false:=by rw [hk];rfl
 have b3:((U x.kind:Int) == 3)=false:=by rw [hk];rfl
 have b4:((U x.kind:Int) == 4)=true:=by rw [hk];rfl
 have b5:((a.cS.state:Int) != 2)=false:=by rw [hs];rfl
 have b6:(x.value != (a.cS.cM:Int))=false:=by rw [hv];simp
 have bz:=aQ hok;have n4:=hok.n4;have tl:=hok.tl;clear hst hn hrow h hs hv hr hok hk;go_enter Tryz.func75,Tryz.ntmps75;go_wp2_with fail;generalize w.alloc (bW x (.slice pa pn pc))=w1 at *;go_quiet (fail);generalize hw2:XE w1 _=w2;have hb2:Below w1.heap.size w1 w2:=by rw [<-hw2];exact bS w1 _
 have H2:=aQ (H1.out.own hb2);have k1:w2.cell? ⟨w.heap.size,1,none⟩=some (.int .i64 x.cls):=by rw [<-hw2];exact k1
 have k2:w2.cell? ⟨w.heap.size,2,none⟩=some (.int .i64 x.number):=by rw [<-hw2];exact k2
 have k0:w2.cell? ⟨w.heap.size,0,none⟩=some (.int .u8 (U x.kind)):=by rw [<-hw2];exact k0
 have c1:w2.cell? ⟨p,1,none⟩=some (.slice ra a.aZ.length rc):=by rw [<-hw2];exact c1
 clear hw2 hb2 H1 c7 c9 k3 b5 b6;by_cases hc:0<=x.cls/\x.cls < a.aZ.length
 ·obtain ⟨c,hcc⟩:∃c:Nat,x.cls=(c:Int):=⟨x.cls.toNat,by omega⟩
  have hcl:c < a.aZ.length:=by omega
  have HG:=aQ (show a.raise x={ a with bu:=a.bu.set c ((a.bu.getD c ⟨0,0⟩).raise x.number) } by
   unfold δ.raise;rw [if_pos (show a.has x.cls from hc),hcc];rfl)
  have HQ:=aQ (jF (p:=p) (w:=w2) c ra rc hcl c1);rw [hcc] at k1;clear hc;have hg:=bT (d:=(⟨0,0⟩:jC)) (show c < a.bu.length by rw [tl];exact hcl);obtain ⟨_,_,hb6⟩:=H2.out.get 6 rfl;obtain ⟨b3',o3,Aq,e3,m3,QJ⟩:=bR (show Sq Aj 176 w2 _ _ tv a.bu from hb6) (by omega);subst e3;have hg3:=u_ (show Sq Aj 176 w2 _ _ (.slice (some ⟨b3',o3,none⟩) a.bu.length Aq) a.bu from hb6) hg;have xB:w2.cell? ⟨p,25,none⟩=some (.slice (some ⟨b3',o3,none⟩) a.bu.length Aq):=aJ (H2.out.blk 0 rfl) rfl;obtain ⟨g,hgg⟩:∃g,g=a.bu.getD c ⟨0,0⟩:=⟨_,rfl⟩;rw [<-hgg] at hg3 HG;have AY:=aQ hg;rw [tl] at xB m3;have hci:(c:Int) < (a.aZ.length:Int):=by omega
  clear hb6 hg hgg;go_wp2_with (go_at_call 70;refine HQ.out.mono ?_;rintro e w' ⟨rfl,rfl⟩);refine η 21 (S:=fun w'=>w'.cell? ⟨p,25,none⟩=some (.slice (some ⟨b3',o3,none⟩) a.aZ.length Aq)/\w'.cell? ⟨w.heap.size,1,none⟩=some (.int .i64 (c:Int))/\w'.cell? ⟨w.heap.size,2,none⟩=some (.int .i64 x.number)/\w'.cell? ⟨b3',o3+c*2,none⟩=some (.int .i64 (g.cP:Int))/\w'.cell? ⟨b3',o3+c*2+1,none⟩=some (.int .i64 (g.cE:Int))) (by kernel_rfl) ⟨xB,k1,k2,hg3.1,hg3.2⟩ (fun hS0=>?_);refine kX 0 16 hS0 ?_
  iterate 16 (refine aR (v:=?_) (by rfl) ?_ ?_;rotate_left 1;(focus ((intro w' hS';obtain ⟨l1,l2,l3,l4,l5⟩:=hS';go_simp);try with_reducible rfl));simp only [VF,ag,Ψ,ae])
  refine aT ?_;refine bq 16 (fun K hK=>?_)
  (refine ν (f:=?_) (args:=?_) (by rfl) ?_ ?_;rotate_left 2;(focus (go_simp;first|(with_reducible rfl)|(refine ⟨?_,?_⟩ <;> with_reducible rfl)));(refine (Et g x.number _).mono ?_);rintro e w3 ⟨⟨r3,rfl⟩,hb3⟩)
  refine ⟨_,rfl,?_⟩;simp only [VF,ag,Ψ,ae];have hb4:Below w2.heap.size w2 w3:=Wi (by exact dC) hb3;have hs3:=H2.out.own hb4;have d25:w3.cell? ⟨p,25,none⟩=some (.slice (some ⟨b3',o3,none⟩) a.aZ.length Aq):=(Vt (hb4.block _ (Vv _ _ xB))).trans xB;have d1:w3.cell? ⟨w.heap.size,1,none⟩=some (.int .i64 (c:Int)):=(Vt (hb4.block _ (Vv _ _ k1))).trans k1;have d2:w3.cell? ⟨w.heap.size,2,none⟩=some (.int .i64 x.number):=(Vt (hb4.block _ (Vv _ _ k2))).trans k2;have e1:w3.cell? ⟨b3',o3+c*2,none⟩=some (.int .i64 (g.cP:Int)):=(Vt (hb4.block _ (Vv _ _ hg3.1))).trans hg3.1;have e2:w3.cell? ⟨b3',o3+c*2+1,none⟩=some (.int .i64 (g.cE:Int)):=(Vt (hb4.block _ (Vv _ _ hg3.2))).trans hg3.2
  have hgf:∀j,w3.frozen? ⟨b3',j,none⟩=false:=by
   obtain ⟨_,_,hb⟩:=hs3.get 6 rfl;exact (Sq.free (show Sq Aj 176 w3 _ _ (.slice (some ⟨b3',o3,none⟩) a.bu.length Aq) a.bu from hb)).2.2.2
  have nH:=aQ (hs3.UK 6 rfl AY.out (g.raise x.number));refine hK.out _ _ (fun _=>⟨d25,d1,d2,e1,e2⟩) ?_;clear hK K hb3 hb4 hs3 hS0 xB k1 k2 hg3;refine dS 17 (by kernel_rfl) rfl (fun _=>⟨d25,d1,d2,e1,e2⟩) (fun _ _ _ _ _ h=>h) ?_;refine dI ?_;refine aT ?_;refine dS 18 (by kernel_rfl) rfl (fun _=>⟨d25,d1,d2,e1,e2⟩) (fun _ _ _ _ _ h=>h) ?_;refine dI ?_;refine aT ?_;refine dS 19 (by kernel_rfl) rfl (fun _=>⟨d25,d1,d2,e1,e2⟩) (fun _ _ _ _ _ h=>h) ?_;refine dI ?_;refine aT ?_;refine bq 20 (fun K hK=>?_);go_simp;refine hK.out _ _ (fun _=>⟨d25,d1,d2,e1,e2⟩) ?_;clear hK K;refine bq 21 (fun K hK=>?_);go_simp;refine hK.out _ _ (fun e=>absurd rfl e) ?_;clear hK K;refine lG ?_;go_wp2_with fail;go_end0;refine ⟨rfl,?_⟩;rw [HG.out];refine dY.ax (x:=⟨.slice ra a.aZ.length rc,wv,bv,kv,cv,.slice (some ⟨b3',o3,none⟩) a.bu.length Aq,gv,ev,av,sv,nv,hv',ch⟩) ?_;refine dY.dropLast (T:=dJ w.heap.size (bW x (.slice pa pn pc))) ?_;exact nH.out
 ·have HG:=aQ (show a.raise x=a by
   unfold δ.raise;rw [if_neg (show ¬a.has x.cls from hc)])
  have HQ:=aQ (uC (p:=p) (w:=w2) x.cls ra rc (n:=a.aZ.length) (by omega) c1);clear hc;go_wp2_with (go_at_call 70;refine HQ.out.mono ?_;rintro e w' ⟨rfl,rfl⟩);go_end0;refine ⟨rfl,?_⟩;rw [HG.out];exact H2.out.dropLast.ax
end

section
variable {F Z:BS} {W w:World} {ts:List Th} {p N:Nat} {a:δ}
theorem OP (x:Pt) (pa:Option Addr) (pn pc:Nat) (hk:x.kind=3#8) (hs:a.cS.state=2) (hv:(a.cS.cM:Int)=x.value) (hok:a.Ok N) (hN:N<=1000000000) (h:dY F Z W (gJ p a::ts) w) :
  Calls Vs 75 #[.pointer (some ⟨p,0,none⟩),dH x (.slice pa pn pc)] w fun e w'=>e=.returned (.tuple #[])/\dY F Z W (gJ p (a.bQ x)::ts) w':=by
 obtain ⟨y,hst⟩:=h.rp;have hn:=(hst.new (bW x (.slice pa pn pc)));have H1:=aQ (show dY F Z W (gJ p a::(ts++[dJ w.heap.size (bW x (.slice pa pn pc))])) (w.alloc (bW x (.slice pa pn pc))) from (show dY F Z W (ω p a y++(ts++[dJ w.heap.size (bW x (.slice pa pn pc))])) (w.alloc (bW x (.slice pa pn pc))) by rw [<-VE];exact hn).ax);have hrow:=hn.blk 0 rfl;have c7:(w.alloc (bW x (.slice pa pn pc))).cell? ⟨p,7,none⟩=some (.int .i64 (a.cS.cM:Int)):=aJ hrow rfl;have c9:(w.alloc (bW x (.slice pa pn pc))).cell? ⟨p,9,none⟩=some (.int .i64 (a.cS.state:Int)):=aJ hrow rfl;obtain ⟨k0,k1,k2,k3,_⟩:=dx (heap_alloc_new w (bW x (.slice pa pn pc)));have b1:((U x.kind:Int) == 1)=false:=by rw [hk];rfl
 have b2:((U x.kind:Int) == 2)=false:=by rw [hk];rfl
 have b3:((U x.kind:Int) == 3)=true:=by rw [hk];rfl
 have b5:((a.cS.state:Int) != 2)=false:=by rw [hs];rfl
 have b6:(x.value != (a.cS.cM:Int))=false:=by rw [hv];simp
 have bz:=aQ hok;have n4:=hok.n4;obtain ⟨k,Rn⟩:∃k,k=(a.snd.nJ x.number).1:=⟨_,rfl⟩;have hkl:=D7 hok.snd x.number;have hkk:=hok.xH;have hkm:=hok.snd.cT;have hw2:=hok.snd.w2;rw [<-hkk] at hkl hkm;rw [<-Rn] at hkl;have HK:=aQ Rn;have htot:a.snd.aG+a.snd.cT.length < 1000000000000:=by have:=hok.tot;unfold bg.total at this;omega
 clear hst hn hrow h hs hv hok hk hkk Rn;go_enter Tryz.func75,Tryz.ntmps75;go_wp2_with fail;generalize w.alloc (bW x (.slice pa pn pc))=w1 at *;go_quiet (fail);generalize hw2:XE w1 _=w2;have hb2:Below w1.heap.size w1 w2:=by rw [<-hw2];exact bS w1 _
 have H2:=aQ (H1.out.own hb2);have k2:w2.cell? ⟨w.heap.size,2,none⟩=some (.int .i64 x.number):=by rw [<-hw2];exact k2
 have k0:w2.cell? ⟨w.heap.size,0,none⟩=some (.int .u8 (U x.kind)):=by rw [<-hw2];exact k0
 clear hw2 hb2 H1 c7 c9 k3 b5 b6 k1;go_wp2_with fail;refine wp_region_still_tail 5 (by kernel_rfl) (by kernel_rfl) ?_;simp only [Vy,VI,Vz,VH];change wpStill _ _ (V3 _) (fun a'=>wpList _ _ _ _ a' (V3 _)) _ _
 repeat still_step
 refine wpStill_nil ?_;go_wp2_with fail;refine (R9 x.number bz.out.snd htot H2.out.drew).mono ?_;rintro e w3 ⟨rfl,hh⟩;rw [<-HK.out];obtain ⟨y2,hst⟩:=hh.rp;obtain ⟨rv,wv,bv,kv,cv,tv,gv,ev,av,sv,nv,hv,ch⟩:=y2;obtain ⟨_,_,hkp⟩:=hst.get 5 rfl;obtain ⟨ka,kc,e5,q1,q2,q3⟩:=Sq.le (show Sq dK 3 w3 _ _ cv (a.cT.map (·.1)) from hkp);subst e5;obtain ⟨_,_,hac⟩:=hst.get 10 rfl;obtain ⟨ab,ao,ac,e6,r1,r2⟩:=bR (show Sq dK 3 w3 _ _ sv a.aG from hac) (by rw [bz.out.al];exact bz.out.n1);subst e6;have HH:=aQ (show dY F Z W (ω p { a with snd:=(a.snd.nJ x.number).2 } ⟨rv,wv,bv,kv,.slice ka (a.cT.map (·.1)).length kc,tv,gv,ev,av,.slice (some ⟨ab,ao,none⟩) a.aG.length ac,nv,hv,ch⟩++(ts++[dJ w.heap.size (bW x (.slice pa pn pc))])) w3 from hst);have JC:=aQ (show (a.cT.map (·.1)).length=a.cT.length from VL ..);rw [JC.out] at q1 q3;unfold maxLen at q2;clear hkp hac hh hst H2 k0 k2;go_wp2_with fail;go_loopw [6] (fun i wr=>∃j:Nat,j<=k/\i=.int .i64 (j:Int)/\Hid (dY F Z W (ω p { a with snd:=(a.snd.nJ x.number).2,aG:=tally a.aG (a.cT.take j) } ⟨rv,wv,bv,kv,.slice ka (a.cT.map (·.1)).length kc,tv,gv,ev,av,.slice (some ⟨ab,ao,none⟩) a.aG.length ac,nv,hv,ch⟩++(ts++[dJ w.heap.size (bW x (.slice pa pn pc))])) wr)) (fun i _=>k - (intOf i).toNat)
 case atStart=>exact ⟨0,VJ _,rfl,HH⟩
 case round=>
  clear HH;obtain ⟨j,hj,rfl,HJ⟩:=hrel;by_cases hlt:j < k
  ·obtain ⟨⟨fc,fd⟩,hx⟩:∃f,a.cT[j]? = some f:=⟨_,Vw (by omega)⟩
   have hcl:=bz.out.yF _ (VD hx);have TT:(a.cT.map (·.1))[j]? = some fc:=by rw [VG,hx];rfl
   obtain ⟨_,_,hkp⟩:=HJ.out.get 5 rfl;obtain ⟨kb,ko,TP,e5,_,_⟩:=bR (show Sq dK 3 wr _ _ (.slice ka (a.cT.map (·.1)).length kc) (a.cT.map (·.1)) from hkp) (by rw [JC.out];omega);obtain ⟨rfl,rfl⟩:ka=some ⟨kb,ko,none⟩/\kc=TP:=by simpa using e5
   have hkc:=dP hkp TT;obtain ⟨_,_,hac⟩:=HJ.out.get 10 rfl;have DN:=show Sq dK 3 wr _ _ (.slice (some ⟨ab,ao,none⟩) a.aG.length ac) (tally a.aG (a.cT.take j)) from hac;have haf:=(Sq.free DN).2.2.2;have hal:(tally a.aG (a.cT.take j)).length=a.aZ.length:=by rw [nC,bz.out.al]
   dsimp only at hcl;have hz:=bT (d:=0) (show fc < (tally a.aG (a.cT.take j)).length by rw [hal];exact hcl);have hzb:=ve (a.cT.take j) bz.out.Ak _ (VD hz);rw [VW] at hzb;have hzc:=dP DN hz;have hrow:=HJ.out.blk 0 rfl;have c23:wr.cell? ⟨p,23,none⟩=some (.slice (some ⟨kb,ko,none⟩) (a.cT.map (·.1)).length kc):=aJ hrow rfl;have c30:wr.cell? ⟨p,30,none⟩=some (.slice (some ⟨ab,ao,none⟩) a.aG.length ac):=aJ hrow rfl;rw [bz.out.al] at c30 r1;rw [JC.out] at c23;have hs:=(HJ.out.yM (xs:=tally a.aG (a.cT.take j)) 10 rfl (c:=fc) (y:=(tally a.aG (a.cT.take j)).getD fc 0+1) (u:=((tally a.aG (a.cT.take j)).getD fc 0:Int)+1) (by rw [hal];exact hcl) (by omega)).drew;have e9:=vS a.aG hx;dsimp only at e9;rw [<-e9] at hs;have HS:=aQ hs;obtain ⟨z,hzz⟩:∃z,z=(tally a.aG (a.cT.take j)).getD fc 0:=⟨_,rfl⟩;rw [<-hzz] at hzb hzc HS;have hjl:j < a.cT.length:=by omega
   clear hkp e5 hx TT hac DN hz hzz hrow hs e9 hal;have hw1:IntKind.i64.wrap ((z:Int)+1)=(z:Int)+1:=IntWalk.i64_in _ (by omega);go_wp2_with fail;refine wp_region_still_tail 15 (by kernel_rfl) (by kernel_rfl) ?_;simp only [Vy,VI,Vz,VH];change wpStill _ _ (V3 _) (fun a'=>wpList _ _ _ _ a' (V3 _)) _ _
   repeat still_step
   refine wpStill_nil ?_;go_wp2_with fail;go_roundw
   case rel=>exact ⟨j+1,by omega,by go_num,HS⟩
   case measure=>first|(simp [intOf];done)|(simp [intOf];omega)
  ·obtain rfl:k=j:=by omega
   have HG:=aQ (show a.bQ x={ a with snd:=(a.snd.nJ x.number).2,aG:=tally a.aG (a.cT.take k),cT:=a.cT.drop k } by
    unfold δ.bQ;rw [<-HK.out])
   have hrow:=HJ.out.blk 0 rfl;have c23:wr.cell? ⟨p,23,none⟩=some (.slice ka (a.cT.map (·.1)).length kc):=aJ hrow rfl;rw [JC.out] at c23;have cf:=fun i=>aD hrow i
   have θ:=aQ hrow
   have yV:=aQ (fun (Td:Value) (hnv:∀G Y,Sq dK 3 wr G Y (.slice ka (a.cT.map (·.1)).length kc) (a.cT.map (·.1))->Sq dK 3 wr G Y Td ((a.cT.drop k).map (·.1)))=>
    show dY F Z W (ω p { a with snd:=(a.snd.nJ x.number).2,aG:=tally a.aG (a.cT.take k),cT:=a.cT.drop k } ⟨rv,wv,bv,kv,Td,tv,gv,ev,av,.slice (some ⟨ab,ao,none⟩) a.aG.length ac,nv,hv,ch⟩++(ts++[dJ w.heap.size (bW x (.slice pa pn pc))])) (wr.setCell ⟨p,23,none⟩ Td) from by
     have h1:=HJ.out.upd 5 rfl (T':=ζ dK 3 Td (List.map (fun f:Nat × dV=>f.1) (a.cT.drop k))) (w':=wr) fun G Y hon _=>⟨hnv G Y hon,Fr.refl _ _⟩
     exact h1.set 0 rfl (iX { a with snd:=(a.snd.nJ x.number).2,aG:=tally a.aG (a.cT.take k),cT:=a.cT.drop k } ⟨rv,wv,bv,kv,Td,tv,gv,ev,av,.slice (some ⟨ab,ao,none⟩) a.aG.length ac,nv,hv,ch⟩) (w':=wr.setCell ⟨p,23,none⟩ Td) (by exact eZ) (by have hr:=θ.out;(refine aS (Ξ hr) ?_);rfl))
   clear hrow;have hki:(k:Int)<=(a.cT.length:Int):=by omega
   have abI:(a.cT.length:Int)<=(kc:Int):=by omega
   cases ka with
   |none=>
    obtain ⟨z1,z2⟩:=q3 rfl;have hk0:k=0:=by omega
    subst hk0;subst z2;rw [z1] at c23
    have HS:=aQ (yV.out (.slice none 0 0) fun G Y _=>by
     rw [VH,Wh z1];exact Sq.nil _ _ _ _ _)
    clear q3 yV;go_wp2_with fail;go_end0;refine ⟨rfl,?_⟩;rw [HG.out];exact HS.out.dropLast.ax
   |some TQ=>
    obtain ⟨kb,ko,rfl⟩:∃kb ko,TQ=⟨kb,ko,none⟩:=by
     obtain ⟨_,_,K,D,us,_,_,_,⟨_,⟨h,_⟩|⟨g,off,cap,cur,e,_⟩⟩,_⟩:=HJ.out.get 5 rfl
     ·cases h
     ·obtain ⟨rfl,_⟩:TQ=⟨g,off,none⟩/\kc=cap:=by simpa using e
      exact ⟨g,off,rfl⟩
    have HS:=aQ (yV.out (.slice (if kc=k then some ⟨kb,ko,none⟩ else some ⟨kb,ko+k,none⟩) (a.cT.length - k) (kc - k)) fun G Y h=>by
     have:=DV h (show k<=(a.cT.map (·.1)).length by rw [JC.out];exact hkl);rw [JC.out,show k*(dK).size=k from Xi k,<-List.map_drop] at this;exact this)
    obtain ⟨na,hna⟩:∃na,(if kc=k then some (⟨kb,ko,none⟩:Addr) else some ⟨kb,ko+k,none⟩)=na:=⟨_,rfl⟩;rw [hna] at HS;clear q3 yV;go_wp2_with fail;go_end0;refine ⟨rfl,?_⟩;rw [HG.out];exact HS.out.dropLast.ax
end

end Go.Proofs.YtjnbanjjoomecaaGreatDoor
