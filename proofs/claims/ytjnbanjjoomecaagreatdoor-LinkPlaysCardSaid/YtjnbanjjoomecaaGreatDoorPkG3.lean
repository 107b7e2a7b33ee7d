/- Lemmas; no condition on the program. -/
import Derived.Test.YtjnbanjjoomecaaGreatDoorPkA1
import Derived.Test.YtjnbanjjoomecaaGreatDoorPkG1
import Derived.Test.YtjnbanjjoomecaaGreatDoorPkG2
import Derived.Great.BuildSlice
namespace Go.Proofs.YtjnbanjjoomecaaGreatDoor
open Go.RowKit
open List renaming replicate→Vr, getElem?_map→VG, length_map→VL, append_nil→Wp, mem_replicate→Wu, mem_map→Wx, mem_erase_of_ne→WB, not_mem_nil→WE, mem_cons_self→WG, foldl_cons→WM, mem_cons→WN, mem_cons_of_mem→Xe
open _root_.Go.Proofs.Tryz renaming prog→Vs
open World renaming cell?_of_block→Vt, block_lt_of_cell?→Vv
open Nat renaming le_refl→Vu, zero_le→VJ, lt_of_lt_of_le→VX
open Act renaming put→VF
open Option.some renaming inj→VM
open _root_.Go.RowKit.Below renaming refl→VQ, heap_alloc→WA
open Value renaming int→VS
open Region renaming Mode→Xc
open Decidable renaming byContradiction→Yi
open _root_.Array renaming getD_eq_getD_getElem?→YD
open False renaming elim→YV
open List.Nodup renaming not_mem_erase→ZT
set_option maxRecDepth 100000
set_option maxHeartbeats 64000000
section
variable {P:Program} {ops:Array Oper} {Q:Exit->Act->World->Prop} {md:Xc} {S:World->Prop}
def readies (md:Xc) (ops:Array Oper):Nat->List Nat->Array Bool->Bool
 |0,_,_=>true
 |m+1,js,listed=>decide (Region.ready md ops listed=js) && js.all fun j=>readies md ops m (js.erase j) (listed.setIfInBounds j true)
theorem qm {α β : Type} {f g : β -> α -> β}:∀ {l:List α} {b : β},(∀x ∈ l,∀c,f c x=g c x)->l.foldl f b=l.foldl g b
 |[],_,_=>rfl
 |x::l,b,h=>by
  rw [WM,WM,h x WG b];exact qm fun y hy c=>h y (Xe _ hy) c
theorem ni {α β : Type} {f : β -> α -> β} (hf:∀c x y,f (f c x) y=f (f c y) x) {l l':List α} (h:l.Perm l'):∀b,l.foldl f b=l'.foldl f b:=by
 induction h with
 |nil=>intro b;rfl
 |cons x _ ih=>intro b;exact ih (f b x)
 |swap x y l=>intro b;simp only [WM,hf b y x]
 |trans _ _ h1 h2=>intro b;rw [h1 b,h2 b]
theorem eval_put {a:Act} {d x:Nat} {v:Value} (h:d≠x):(a.put (some d) v).eval (.tmp x)=a.eval (.tmp x):=by
 unfold Act.eval VF;dsimp only;rw [YD,YD,Array.getElem?_setIfInBounds_ne h]
def Mks (P:Program) (ops:Array Oper) (n:Nat) (D:Nat->Nat) (Ty:Nat->TypeId) (Zv:Nat->Value) (js:List Nat) (a:Act) (j:Nat):Prop:=
 ∃o t x bytes,ops[j]? = some o/\o.guard=none/\o.dst=some (D j)/\o.op=Op.makeSlice t (.tmp x) (.tmp x)/\(∀i ∈ js,D i≠x)/\a.eval (.tmp x)=.int .i64 (n:Int)/\o8 P t (Ty j) (Zv j) 1 bytes/\(Zv j).cells = #[Zv j]/\bytes*n<=281474976710656
theorem zC (n:Nat) (hn:n<=maxLen) (D:Nat->Nat) (hD:∀i j,D i=D j->i=j) (Ty:Nat->TypeId) (Zv:Nat->Value) (fuel:Nat) :
  ∀(m:Nat) (js:List Nat) (listed:Array Bool) (a:Act) (w:World),js.length=m->js.Nodup->readies md ops m js listed=true->(∀w',Below w.heap.size w w'->S w')->(∀j ∈ js,Mks P ops n D Ty Zv js a j) ->
   (∀(B:Nat->Nat) (w':World),Below w.heap.size w w'->(∀j ∈ js,w.heap.size<=B j/\Sl w' (fun k=>k=B j) (Ty j) 1 (.slice (some ⟨B j,0,none⟩) n n) n (Vr n (Zv j)))->(∀i ∈ js,∀j ∈ js,B i=B j->i=j) ->
    wpAnyH P md ops Q S fuel (js.foldl (fun l j=>l.setIfInBounds j true) listed) (js.foldl (fun a j=>a.put (some (D j)) (.slice (some ⟨B j,0,none⟩) n n)) a) w') ->
   wpAnyH P md ops Q S (fuel+m) listed a w:=by
 intro m
 induction m with
 |zero=>
  intro js listed a w hl _ _ _ _ H;obtain rfl:=List.length_eq_zero_iff.1 hl;exact H (fun _=>0) w (VQ _ _) (fun j hj=>by cases hj) fun i hi=>by cases hi
 |succ m ih=>
  intro js listed a w hl hnd hok hS hops H;simp only [readies,Bool.and_eq_true,decide_eq_true_eq,List.all_eq_true] at hok;refine wpAnyH_all hok.1 (fun e=>by rw [e] at hl;cases hl) fun k hk=>?_
  obtain ⟨o,t,x,bytes,h1,h2,h3,h4,h5,h6,h7,h8,h9⟩:=hops k hk;obtain ⟨i,hi,hz,hsz,hby⟩:=h7.info;obtain ⟨w1,hrun,hown,hgr⟩:=run_make_full (P:=P) (w:=w) w.heap.size t (Ty k) i (Zv k) 1 h7.under hi hz hsz .i64 .i64 n (by rw [hby];exact h9) hn (Vu _);have hb1:Below w.heap.size w w1:=(VQ w.heap.size w).grown hgr (Vu _) (fun k e=>by cases e);rw [h8,Nat.mul_one,toList_madeCells_one] at hown
  have hsl:Sl w1 (fun k=>k=w.heap.size) (Ty k) 1 (.slice (some ⟨w.heap.size,0,none⟩) n n) n (Vr n (Zv k)):=by
   obtain ⟨hl,⟨h,_⟩|⟨g,cap,cur,e,hb,hg,h10,h11,h12,Uc⟩⟩:=hown
   ·cases h
   ·obtain ⟨rfl,rfl⟩:w.heap.size=g/\n=cap:=by simpa using e
    exact ⟨hl,.inr ⟨_,0,_,cur,rfl,rfl,hg,h10,h11,by omega,by simpa using Uc⟩⟩
  have hkl:w.heap.size < w1.heap.size:=by
   obtain ⟨_,⟨h,_⟩|⟨g,off,cap,cur,e,rfl,hg,_⟩⟩:=hsl
   ·cases h
   ·exact lt_of_block hg
  refine wpOp_step h1 fun K hK=>?_
  refine nX (v:=.slice (some ⟨w.heap.size,0,none⟩) n n) (w':=w1) (by simp [Region.wanted,h2]) (by simp [execOp,h4,h6,hrun,Result.andThen]) ?_;refine hK _ _ ⟨hS w1 hb1,?_⟩;rw [h3];have hmem:∀j,j ∈ js.erase k->j ∈ js/\j≠k:=fun j hj=>⟨List.mem_of_mem_erase hj,fun e=>by subst e;exact (ZT hnd) hj⟩
  refine ih (js.erase k) _ _ w1 (by rw [List.length_erase_of_mem hk,hl];rfl) (hnd.erase k) (hok.2 k hk) (fun w' hb=>hS w' (hb1.trans (hb.mono hb1.size))) (fun j hj=>?_) fun B' w' hb' hall hinj=>?_
  ·obtain ⟨o',t',x',bytes',q1,q2,q3,q4,q5,q6,q7⟩:=hops j (hmem j hj).1
   exact ⟨o',t',x',bytes',q1,q2,q3,q4,fun i hi=>q5 i (hmem i hi).1,by rw [eval_put (q5 k hk)];exact q6,q7⟩
  ·have hperm:js.Perm (k::js.erase k):=List.perm_cons_erase hk
   have:=H (fun j=>if j=k then w.heap.size else B' j) w' (hb1.trans (hb'.mono hb1.size)) (fun j hj=>?_) (fun i hi j hj e=>?_)
   ·have e1:js.foldl (fun (l:Array Bool) j=>l.setIfInBounds j true) listed=(js.erase k).foldl (fun (l:Array Bool) j=>l.setIfInBounds j true) (listed.setIfInBounds k true):=
     ni (f:=fun (l:Array Bool) j=>l.setIfInBounds j true) (fun c x y=>by
      by_cases hxy:x=y
      ·subst hxy;rfl
      ·exact Array.setIfInBounds_comm _ _ hxy) hperm listed
    have e2:js.foldl (fun (a:Act) j=>a.put (some (D j)) (.slice (some ⟨if j=k then w.heap.size else B' j,0,none⟩) n n)) a=(js.erase k).foldl (fun (a:Act) j=>a.put (some (D j)) (.slice (some ⟨B' j,0,none⟩) n n)) (a.put (some (D k)) (.slice (some ⟨w.heap.size,0,none⟩) n n)):=by
     rw [ni (f:=fun (a:Act) j=>a.put (some (D j)) (.slice (some ⟨if j=k then w.heap.size else B' j,0,none⟩) n n)) (fun c x y=>?_) hperm a]
     ·rw [WM,if_pos rfl]
      exact qm fun j hj c=>by rw [if_neg (hmem j hj).2]
     ·by_cases hxy:x=y
      ·subst hxy;rfl
      ·exact Act.put_comm c _ _ fun d e e'=>hxy (hD _ _ (by cases e;exact (VM e').symm))
    rw [e1,e2] at this;exact this
   ·by_cases hjk:j=k
    ·subst hjk
     rw [if_pos rfl];exact ⟨Vu _,hsl.keep fun x hx hl=>hb'.block x hl⟩
    ·rw [if_neg hjk]
     have hj':j ∈ js.erase k:=(WB hjk).2 hj;exact ⟨Nat.le_trans hb1.size (hall j hj').1,(hall j hj').2⟩
   ·by_cases hik:i=k
    ·by_cases hjk:j=k
     ·rw [hik,hjk]
     ·rw [if_pos hik,if_neg hjk] at e
      have:=(hall j ((WB hjk).2 hj)).1;omega
    ·by_cases hjk:j=k
     ·rw [if_neg hik,if_pos hjk] at e
      have:=(hall i ((WB hik).2 hi)).1;omega
     ·rw [if_neg hik,if_neg hjk] at e
      exact hinj i ((WB hik).2 hi) j ((WB hjk).2 hj) e
end

abbrev qd (inc:Int) (ra:Option Addr) (n rc:Nat) (wi ti de:Int):Value:=.agg #[.int .i64 inc,.slice ra n rc,.int .i64 wi,.int .i64 ti,.int .i64 de]
def wU (w:World) (ra:Option Addr) (aZ:List Int):Prop:=∀(k:Nat) (x:Int),aZ[k]? = some x->∃b o,ra=some ⟨b,o,none⟩/\w.cell? ⟨b,o+k,none⟩=some (.int .i64 x)
theorem wU.below {w w':World} {ra:Option Addr} {aZ:List Int} (h:wU w ra aZ) (hb:Below w.heap.size w w'):wU w' ra aZ:=fun k x hk=>by
 obtain ⟨b,o,e,hc⟩:=h k x hk;exact ⟨b,o,e,(Vt (hb.block b (Vv w _ hc))).trans hc⟩
structure xJ (inc:Int) (aZ:List Int) (wi ti de:Int):Prop where
 n1:1<=aZ.length
 n4:aZ.length<=4
 rm:∀x ∈ aZ,1<=x/\x<=64
 i1:1<=inc
 i2:inc<=1099511627775
 w1:1<=wi
 w2:wi<=128
 t1:1<=ti
 t2:ti<=1000
 d1:1<=de
 d2:de<=1000
theorem GX {inc wi ti de:Int} {aZ:List Int} {ra:Option Addr} {rc:Nat} (w:World) (hok:xJ inc aZ wi ti de) (hr:wU w ra aZ) :
  Calls Vs 86 #[qd inc ra aZ.length rc wi ti de] w fun e w'=>e=.returned (.bool true)/\Below w.heap.size w w':=by
 obtain ⟨n1,n4,rm,i1,i2,w1,w2,t1,t2,d1,d2⟩:=hok;have HR:=aQ hr;have HM:=aQ rm;clear hr rm;go_enter Tryz.func86,Tryz.ntmps86;go_wp2_with fail;generalize hwx:w.alloc _=wx;have HB:=aQ (show Below w.heap.size w wx by rw [<-hwx];exact aK w _);have hrow:wx.heap[w.heap.size]? = some (.cells #[.int .i64 inc,.slice ra aZ.length rc,.int .i64 wi,.int .i64 ti,.int .i64 de] 24):=by rw [<-hwx];exact heap_alloc_new w _
 have c0:=aJ (i:=0) hrow rfl;have c1:=aJ (i:=1) hrow rfl;have c2:=aJ (i:=2) hrow rfl;have c3:=aJ (i:=3) hrow rfl;have c4:=aJ (i:=4) hrow rfl;clear hwx hrow
 go_loop [18,4] (fun i _=>∃k:Nat,k<=aZ.length/\i=.int .i64 (k:Int)) (fun i _=>aZ.length - (intOf i).toNat)
 case atStart=>exact ⟨0,VJ _,rfl⟩
 case round=>
  obtain ⟨k,hk,rfl⟩:=hrel;by_cases hlt:k < aZ.length
  ·have hx:aZ[k]? = some (aZ.getD k 0):=bT hlt
   obtain ⟨b,o,e,hc⟩:=HR.out.below HB.out k _ hx;subst e;obtain ⟨m1,m2⟩:=HM.out _ (List.mem_of_getElem? hx);generalize aZ.getD k 0=x at hc m1 m2 hx;clear hx;go_wp2_with fail
   go_round
   case rel=>exact ⟨k+1,by omega,by go_num⟩
   case measure=>simp [intOf];omega
  ·obtain rfl:aZ.length=k:=by omega
   go_wp2_with fail;go_ret;exact ⟨rfl,HB.out⟩
theorem Lt {inc wi ti de:Int} {aZ:List Int} {ra:Option Addr} {rc:Nat} (w:World) (hl:aZ.length<=1000000) (hok:¬xJ inc aZ wi ti de) (hr:wU w ra aZ) :
  Calls Vs 86 #[qd inc ra aZ.length rc wi ti de] w fun e w'=>e=.returned (.bool false)/\Below w.heap.size w w':=by
 by_cases hn:aZ.length < 1\/(1<=aZ.length/\4 < aZ.length)
 ·clear hok hr
  rcases hn with h1|⟨h1,h2⟩
  all_goals
   go_enter Tryz.func86,Tryz.ntmps86;go_wp2_with fail;go_ret;exact ⟨rfl,by exact dC⟩
 ·have n1:1<=aZ.length:=by omega
  have n4:aZ.length<=4:=by omega
  have HR:=aQ hr
  have HBAD:=aQ (fun (hm:∀x ∈ aZ,1<=x/\x<=64)=>show inc < 1\/(1<=inc/\1099511627775 < inc)\/(1<=inc/\inc<=1099511627775/\wi < 1)\/(1<=inc/\inc<=1099511627775/\1<=wi/\128 < wi)\/(1<=inc/\inc<=1099511627775/\1<=wi/\wi<=128/\ti < 1) \/
    (1<=inc/\inc<=1099511627775/\1<=wi/\wi<=128/\1<=ti/\1000 < ti)\/(1<=inc/\inc<=1099511627775/\1<=wi/\wi<=128/\1<=ti/\ti<=1000/\de < 1)\/(1<=inc/\inc<=1099511627775/\1<=wi/\wi<=128/\1<=ti/\ti<=1000/\1<=de/\1000 < de) from
   Yi fun hc=>hok ⟨n1,n4,hm,by omega,by omega,by omega,by omega,by omega,by omega,by omega,by omega⟩)
  clear hr hn hok;go_enter Tryz.func86,Tryz.ntmps86;go_wp2_with fail;generalize hwx:w.alloc _=wx;have HB:=aQ (show Below w.heap.size w wx by rw [<-hwx];exact aK w _);have hrow:wx.heap[w.heap.size]? = some (.cells #[.int .i64 inc,.slice ra aZ.length rc,.int .i64 wi,.int .i64 ti,.int .i64 de] 24):=by rw [<-hwx];exact heap_alloc_new w _
  have c0:=aJ (i:=0) hrow rfl;have c1:=aJ (i:=1) hrow rfl;have c2:=aJ (i:=2) hrow rfl;have c3:=aJ (i:=3) hrow rfl;have c4:=aJ (i:=4) hrow rfl;clear hwx hrow
  go_loop [18,4] (fun i _=>∃k:Nat,k<=aZ.length/\i=.int .i64 (k:Int)/\Hid (∀x ∈ aZ.take k,1<=x/\x<=64)) (fun i _=>aZ.length - (intOf i).toNat)
  case atStart=>exact ⟨0,VJ _,rfl,aQ (by simp)⟩
  case round=>
   obtain ⟨k,hk,rfl,HM⟩:=hrel;by_cases hlt:k < aZ.length
   ·have hx:aZ[k]? = some (aZ.getD k 0):=bT hlt
    obtain ⟨b,o,e,hc⟩:=HR.out.below HB.out k _ hx;subst e;have HX:=aQ (show aZ.take (k+1)=aZ.take k++[aZ.getD k 0] by rw [List.take_add_one,hx];rfl);generalize aZ.getD k 0=x at hc hx HX;clear hx;by_cases hb:x < 1\/(1<=x/\64 < x)
    ·rcases hb with m1|⟨m1,m2⟩
     all_goals
      go_wp2_with fail;go_ret;exact ⟨rfl,HB.out⟩
    ·have m1:1<=x:=by omega
     have m2:x<=64:=by omega
     clear hb;go_wp2_with fail
     go_round
     case rel=>exact ⟨k+1,by omega,by go_num,aQ fun y hy=>by
       rw [HX.out] at hy
       rcases List.mem_append.1 hy with hy|hy
       ·exact HM.out y hy
       ·obtain rfl:=List.mem_singleton.1 hy;exact ⟨m1,m2⟩⟩
     case measure=>simp [intOf];omega
   ·obtain rfl:aZ.length=k:=by omega
    have hbad:=HBAD.out (by have:=HM.out;rwa [List.take_length] at this)
    rcases hbad with h|⟨h,h2⟩|⟨h,h2,h3⟩|⟨h,h2,h3,h4⟩|⟨h,h2,h3,h4,h5⟩|⟨h,h2,h3,h4,h5,h6⟩|⟨h,h2,h3,h4,h5,h6,h7⟩|⟨h,h2,h3,h4,h5,h6,h7,h8⟩
    all_goals
     go_wp2_with fail;go_ret;exact ⟨by first|rfl|simp;try omega,HB.out⟩

theorem E_ {w:World} {ra:Option Addr} {rc:Nat} {aZ:List Nat} (h0:1<=aZ.length) (h4:aZ.length<=4) (hrc:aZ.length<=rc) (hrm:rc<=maxLen) (hr:∀(k x:Nat),aZ[k]? = some x->∃b o,ra=some ⟨b,o,none⟩/\w.cell? ⟨b,o+k,none⟩=some (.int .i64 (x:Int))) :
  Calls Vs 87 #[.slice ra aZ.length rc] w fun e w'=>∃v',e=.returned v'/\Sq dK 3 w' (fun k=>w.heap.size<=k) (fun _=>False) v' aZ/\Below w.heap.size w w':=by
 obtain ⟨b,o,rfl⟩:∃b o,ra=some ⟨b,o,none⟩:=by
  obtain ⟨b,o,e,_⟩:=hr 0 _ (List.getElem?_eq_getElem h0);exact ⟨b,o,e⟩
 have hsn:=fun a n c n' c'=>Lib.run_eql_slice_nil (P:=Vs) w 22 3 a n c n' c' Tryz.underlying22
 have Dq:=aQ (show Rd w 1 (.slice (some ⟨b,o,none⟩) aZ.length rc) aZ.length (aZ.map fun (x:Nat)=>VS .i64 (x:Int)) from ⟨by simp,_,rc,rfl,hrc,hrm,(fun e=>by cases e),fun b' hb j u hj=>by
  obtain rfl:=VM hb;rw [VG] at hj
  cases hx:aZ[j]? with
  |none=>rw [hx] at hj;cases hj
  |some x=>
   rw [hx] at hj;obtain rfl:=VM hj;obtain ⟨b',o',e,hc⟩:=hr j x hx;obtain ⟨rfl,rfl⟩:b=b'/\o=o':=by simpa using e
   exact ⟨rfl,hc⟩⟩)
 clear hr;go_enter Tryz.func87,Tryz.ntmps87;go_wp2_with (at_builtin;refine gQ kI rfl _ _ rfl w.heap.size _ 0 [] rfl (World.ownsRow_made _ _ 0 (Vu _) (VJ _) rfl) _ aZ.length (aZ.map fun (x:Nat)=>VS .i64 (x:Int)) rfl (Dq.out.keep fun k _ hk=>WA _ _ k hk) (by intro u hu;obtain ⟨x,_,rfl⟩:=Wx.1 hu;rfl) (by unfold maxLen;omega) (by omega) (by simp) ?_;intro v2 w2 hown2 hg2 hiff;clear hiff;have HB2:=aQ (((VQ w.heap.size w).alloc (Vu _) _).grown hg2 (by simp) (fun k e=>by cases e;exact Vu _));have Di:=aQ hown2;clear hown2 hg2);go_ret;have ho:=Di.out;rw [Nat.zero_add,List.nil_append] at ho;refine ⟨_,rfl,⟨fun k=>w.heap.size<=k/\k < w2.heap.size,fun _=>False,_,fun k hk=>hk.elim (·.1) YV,fun _ _ f=>f,fun k hk=>hk.2,(Sl.mQ ho fun _ h=>h).bound,?_⟩,HB2.out⟩;have:=jG.of (w:=w2) (Z:=fun _=>False) (fun _=>False) aZ;rw [List.map_eq_flatMap];exact this
theorem o_:o8 Vs 50 51 (.slice none 0 0) 1 24:=⟨Tryz.underlying50,info_parts (by kernel_rfl),rfl,by decide⟩
theorem OV {inc wi ti de:Int} {aZ:List Int} {ra:Option Addr} {rc:Nat} (w:World) (hl:aZ.length<=1000000) (hok:¬xJ inc aZ wi ti de) (hr:wU w ra aZ) :
  Calls Vs 49 #[qd inc ra aZ.length rc wi ti de] w fun e w'=>e=.returned (.tuple #[.pointer none,.int .i64 2])/\Below w.heap.size w w':=by
 have hb0:=aK w (.cells #[.int .i64 inc,.slice ra aZ.length rc,.int .i64 wi,.int .i64 ti,.int .i64 de] 24);have HQ:=aQ (Lt (rc:=rc) (w.alloc (.cells #[.int .i64 inc,.slice ra aZ.length rc,.int .i64 wi,.int .i64 ti,.int .i64 de] 24)) hl hok (hr.below hb0));have HB0:=aQ hb0;clear hok hr hb0;go_enter Tryz.func49,Tryz.ntmps49;go_wp2_with fail;refine HQ.out.mono ?_;rintro e w' ⟨rfl,hb⟩;have HB:=aQ (HB0.out.trans (hb.mono HB0.out.size));clear hb;go_wp2_with fail;go_ret2;exact ⟨rfl,HB.out⟩
theorem zn {w:World} {Z:BS}:∀(l:List (Nat × Th)),(l.map (·.1)).Nodup->(∀x ∈ l,x.2.on w (fun k=>k=x.1) Z)->Star (l.map (·.2)) w (fun k=>k ∈ l.map (·.1)) Z
 |[],_,_=>Star.nil w _ Z
 |x::l,hn,h=>by
  rw [List.map_cons,List.nodup_cons] at hn;refine Star.cons (h x WG) (zn l hn.2 fun y hy=>h y (Xe _ hy)) (fun k a b=>?_) (fun k hk=>?_) fun k hk=>Xe _ hk
  ·have hk:k=x.1:=a
   subst hk;exact hn.1 b
  ·have hk':k=x.1:=hk
   subst hk';exact WG
theorem j6 {α : Type} {E:El α} {T:TypeId} {w:World} {b n:Nat} {z:Value} {a0 : α} (hsz:E.size=1) (he:∀w Z,E.rd w (fun _=>False) Z [z] a0) (h:Sl w (fun k=>k=b) T 1 (.slice (some ⟨b,0,none⟩) n n) n (Vr n z)) (hb:b < w.heap.size) :
  Sq E T w (fun k=>k=b) (fun _=>False) (.slice (some ⟨b,0,none⟩) n n) (Vr n a0):=by
 refine ⟨fun k=>k=b,fun _=>False,Vr n z,fun k hk=>hk.elim id YV,fun _ _ f=>f,fun k hk=>by subst hk;exact hb,by rw [List.length_replicate,hsz];exact h,?_⟩;have:=fK.zero (E:=E) (Z:=fun _=>False) (he w _) n;rwa [show (Vr n [z]).flatten=Vr n z by rw [List.flatten_replicate_singleton]] at this
theorem vG {inc wi ti de:Nat} {aZ:List Nat} {rb ro rc:Nat} (w:World) (hok:xJ (inc:Int) (aZ.map fun (x:Nat)=>(x:Int)) wi ti de) (hrc:aZ.length<=rc) (hrm:rc<=maxLen) (hr:∀(k x:Nat),aZ[k]? = some x->w.cell? ⟨rb,ro+k,none⟩=some (.int .i64 (x:Int))) :
  Calls Vs 49 #[qd inc (some ⟨rb,ro,none⟩) aZ.length rc wi ti de] w fun e w'=>∃p,e=.returned (.tuple #[.pointer (some ⟨p,0,none⟩),.int .i64 0])/\Made w (bP p (dG inc aZ wi ti de)) w':=by
 have hN:wU w (some ⟨rb,ro,none⟩) (aZ.map fun (x:Nat)=>(x:Int)):=fun k x hk=>by
  rw [VG] at hk
  cases hx:aZ[k]? with
  |none=>rw [hx] at hk;cases hk
  |some y=>
   rw [hx] at hk;obtain rfl:=VM hk;exact ⟨rb,ro,rfl,hr k y hx⟩
 have hb0:=aK w (.cells #[.int .i64 (inc:Int),.slice (some ⟨rb,ro,none⟩) aZ.length rc,.int .i64 (wi:Int),.int .i64 (ti:Int),.int .i64 (de:Int)] 24);have hq:=GX (rc:=rc) (w.alloc (.cells #[.int .i64 (inc:Int),.slice (some ⟨rb,ro,none⟩) aZ.length rc,.int .i64 (wi:Int),.int .i64 (ti:Int),.int .i64 (de:Int)] 24)) hok (hN.below hb0);rw [VL] at hq;have HQ:=aQ hq;have HB0:=aQ hb0;have HR:=aQ hr;have bz:=aQ hok;have n1:1<=aZ.length:=by have:=hok.n1;rwa [VL] at this
 have n4:aZ.length<=4:=by have:=hok.n4;rwa [VL] at this
 clear hok hr hb0 hq hN;go_enter Tryz.func49,Tryz.ntmps49;go_wp2_with fail;refine HQ.out.mono ?_;rintro e w2 ⟨rfl,hb⟩;have hr2:=(hb.block _ (lt_of_block (heap_alloc_new w _))).trans (heap_alloc_new w (.cells #[.int .i64 (inc:Int),.slice (some ⟨rb,ro,none⟩) aZ.length rc,.int .i64 (wi:Int),.int .i64 (ti:Int),.int .i64 (de:Int)] 24));have HB2:=aQ (HB0.out.trans (hb.mono HB0.out.size));have H2:=aQ (((dY.mO (fun _=>False) (fun _=>False) (fun _ f=>f.elim) w).new (.cells #[.int .i64 (inc:Int),.slice (some ⟨rb,ro,none⟩) aZ.length rc,.int .i64 (wi:Int),.int .i64 (ti:Int),.int .i64 (de:Int)] 24)).own hb);have c1:=aJ (i:=1) hr2 rfl;clear hb hr2;go_wp2_with fail;refine (E_ (w:=w2) (aZ:=aZ) n1 n4 hrc hrm fun k x hk=>⟨rb,ro,rfl,(Vt (HB2.out.block rb (Vv w _ (HR.out k x hk)))).trans (HR.out k x hk)⟩).mono ?_;rintro e w3 ⟨rv,rfl,eD,hb⟩;obtain ⟨b1,o1,k1,rfl,m1,nG⟩:=bR eD n1;have H3:=aQ (H2.out.add hb (T:=ζ dK 3 (.slice (some ⟨b1,o1,none⟩) aZ.length k1) aZ) eD);have hr3:=H3.out.blk 0 rfl;have d1:=aJ (i:=1) hr3 rfl;have cf:=fun i=>aD hr3 i
 have h4:=H3.out.set 0 rfl (.cells #[.int .i64 (inc:Int),.slice (some ⟨b1,o1,none⟩) aZ.length k1,.int .i64 (wi:Int),.int .i64 (ti:Int),.int .i64 (de:Int)] 24) (w':=w3.setCell ⟨w.heap.size,1,none⟩ (.slice (some ⟨b1,o1,none⟩) aZ.length k1)) (by exact eZ) (by (refine aS (Ξ hr3) ?_);rfl);clear hb eD hr3 c1 H2;go_upto_region 4 with fail
 generalize w3.setCell ⟨w.heap.size,1,none⟩ (.slice (some ⟨b1,o1,none⟩) aZ.length k1)=w4 at h4 ⊢;have H4:=aQ (show dY (fun _=>False) (fun _=>False) w [dJ w.heap.size (.cells #[.int .i64 (inc:Int),.slice (some ⟨b1,o1,none⟩) aZ.length k1,.int .i64 (wi:Int),.int .i64 (ti:Int),.int .i64 (de:Int)] 24),ζ dK 3 (.slice (some ⟨b1,o1,none⟩) aZ.length k1) aZ] w4 from h4);clear h4 H3 cf d1;have θ:=aQ (H4.out.blk 0 rfl);have d1:=aJ (i:=1) θ.out rfl;have hwl:w.heap.size < w4.heap.size:=lt_of_block θ.out;go_upto_region 5 with fail
 clear d1;refine wp_region_held_drew (S:=fun w'=>w'.heap[w.heap.size]? = some (.cells #[.int .i64 (inc:Int),.slice (some ⟨b1,o1,none⟩) aZ.length k1,.int .i64 (wi:Int),.int .i64 (ti:Int),.int .i64 (de:Int)] 24)) (by kernel_rfl) θ.out (fun hS0=>?_);refine Φ 0 2 hS0 ?_
 (refine aR (v:=?_) (by rfl) ?_ ?_;rotate_left 1;(focus ((intro w' hS';have l0:=aJ (i:=0) hS' rfl;have l1:=aJ (i:=1) hS' rfl;have l2:=aJ (i:=2) hS' rfl;have l3:=aJ (i:=3) hS' rfl;have l4:=aJ (i:=4) hS' rfl;clear hS';go_simp);try with_reducible rfl));simp only [VF,ag,Ψ,ae])
 refine dI ?_;refine aT ?_;refine Φ 3 1 hS0 ?_;refine dI ?_;refine aT ?_;refine Φ 5 1 hS0 ?_;refine dI ?_;refine aT ?_;refine Φ 7 1 hS0 ?_;refine dI ?_;refine aT ?_;refine Φ 9 1 hS0 ?_;refine dI ?_;refine aT ?_;refine Φ 11 1 hS0 ?_;refine dI ?_;refine aT ?_;change wpAnyH _ _ _ _ _ (3+6) _ _ _;refine zC aZ.length (by unfold maxLen;omega) (fun j=>j+16) (fun i j h=>by omega) (fun j=>if j<=4 then 51 else 3) (fun j=>if j<=4 then .slice none 0 0 else .int .i64 0) 3 6 [2,4,6,8,10,12] _ _ _ rfl (by decide) (by kernel_rfl) (fun w' hb=>(hb.block _ hwl).trans θ.out) (fun j hj=>?_) (fun B w5 hb hall hinj=>?_)
 ·simp only [WN,WE,or_false] at hj
  rcases hj with rfl|rfl|rfl|rfl|rfl|rfl
  ·exact ⟨_,_,_,_,rfl,rfl,rfl,rfl,by decide,rfl,o_,rfl,by omega⟩
  ·exact ⟨_,_,_,_,rfl,rfl,rfl,rfl,by decide,rfl,o_,rfl,by omega⟩
  ·exact ⟨_,_,_,_,rfl,rfl,rfl,rfl,by decide,rfl,kI,rfl,by omega⟩
  ·exact ⟨_,_,_,_,rfl,rfl,rfl,rfl,by decide,rfl,kI,rfl,by omega⟩
  ·exact ⟨_,_,_,_,rfl,rfl,rfl,rfl,by decide,rfl,kI,rfl,by omega⟩
  ·exact ⟨_,_,_,_,rfl,rfl,rfl,rfl,by decide,rfl,kI,rfl,by omega⟩
 ·simp only [WM,List.foldl_nil,VF,ag,Nat.reduceAdd,Ψ,ae]
  have hS5:=(hb.block _ hwl).trans θ.out;refine Φ 13 1 hS5 ?_;refine aR (v:=.agg #[.int .i64 (inc:Int),.slice (some ⟨b1,o1,none⟩) aZ.length k1,.int .i64 (wi:Int),.int .i64 (ti:Int),.int .i64 (de:Int),.pointer none,.pointer none,.slice (some ⟨B 2,0,none⟩) aZ.length aZ.length,.slice (some ⟨B 4,0,none⟩) aZ.length aZ.length,.int .i64 0,.pointer none,.pointer none,.pointer none,.pointer none,.slice (some ⟨B 6,0,none⟩) aZ.length aZ.length,.slice none 0 0,.slice (some ⟨B 8,0,none⟩) aZ.length aZ.length,.slice (some ⟨B 10,0,none⟩) aZ.length aZ.length,.slice (some ⟨B 12,0,none⟩) aZ.length aZ.length,.int .i64 0]) (by rfl) (fun w' _=>by kernel_rfl) ?_;simp only [VF,ag,Ψ,ae];refine aT ?_;refine ah 14 (fun K hK=>?_);refine nX (v:=.pointer (some ⟨w5.heap.size,0,none⟩)) (w':=w5.alloc (.cells #[.int .i64 (inc:Int),.slice (some ⟨b1,o1,none⟩) aZ.length k1,.int .i64 (wi:Int),.int .i64 (ti:Int),.int .i64 (de:Int),.pointer none,.pointer none,.slice (some ⟨B 2,0,none⟩) aZ.length aZ.length,.slice (some ⟨B 4,0,none⟩) aZ.length aZ.length,.int .i64 0,.pointer none,.pointer none,.pointer none,.pointer none,.slice (some ⟨B 6,0,none⟩) aZ.length aZ.length,.slice none 0 0,.slice (some ⟨B 8,0,none⟩) aZ.length aZ.length,.slice (some ⟨B 10,0,none⟩) aZ.length aZ.length,.slice (some ⟨B 12,0,none⟩) aZ.length aZ.length,.int .i64 0] 130)) (by rfl) (by kernel_rfl) ?_;simp only [VF,ag,Ψ,ae];refine hK.out _ _ ((WA _ _ _ (VX hwl hb.size)).trans hS5) ?_;clear hK K;refine ah 15 (fun K hK=>?_);go_simp;refine hK.out _ _ ((WA _ _ _ (VX hwl hb.size)).trans hS5) ?_;clear hK K;refine fZ ?_
  have hB:∀j ∈ [2,4,6,8,10,12],B j < w5.heap.size:=fun j hj=>by
   have:=(hall j hj).2;exact this.free.2.1
  have hnd:([2,4,6,8,10,12].map B).Nodup:=by
   rw [List.Nodup,List.pairwise_map];exact (show ([2,4,6,8,10,12]:List Nat).Nodup by decide).imp_of_mem fun hi hj hne e=>hne (hinj _ hi _ hj e)
  have hstar:=zn (w:=w5) (Z:=fun _=>False) [(B 2,ζ (df ψ 40) 51 (.slice (some ⟨B 2,0,none⟩) aZ.length aZ.length) (Vr aZ.length ([]:List dV))),(B 4,ζ (df ψ 40) 51 (.slice (some ⟨B 4,0,none⟩) aZ.length aZ.length) (Vr aZ.length ([]:List dV))),(B 6,ζ dK 3 (.slice (some ⟨B 6,0,none⟩) aZ.length aZ.length) (Vr aZ.length 0)),(B 8,ζ dK 3 (.slice (some ⟨B 8,0,none⟩) aZ.length aZ.length) (Vr aZ.length 0)),(B 10,ζ dK 3 (.slice (some ⟨B 10,0,none⟩) aZ.length aZ.length) (Vr aZ.length 0)),(B 12,ζ dK 3 (.slice (some ⟨B 12,0,none⟩) aZ.length aZ.length) (Vr aZ.length 0))] hnd (fun x hx=>by
   simp only [WN,WE,or_false] at hx
   rcases hx with rfl|rfl|rfl|rfl|rfl|rfl
   ·exact j6 rfl (fun w Z=>⟨_,rfl,Sq.nil _ _ _ _ _⟩) (hall 2 (by decide)).2 (hB 2 (by decide))
   ·exact j6 rfl (fun w Z=>⟨_,rfl,Sq.nil _ _ _ _ _⟩) (hall 4 (by decide)).2 (hB 4 (by decide))
   ·exact j6 rfl (fun _ _=>rfl) (hall 6 (by decide)).2 (hB 6 (by decide))
   ·exact j6 rfl (fun _ _=>rfl) (hall 8 (by decide)).2 (hB 8 (by decide))
   ·exact j6 rfl (fun _ _=>rfl) (hall 10 (by decide)).2 (hB 10 (by decide))
   ·exact j6 rfl (fun _ _=>rfl) (hall 12 (by decide)).2 (hB 12 (by decide)))
  have h5:=H4.out.drew.adds (rest:=[ζ (df ψ 40) 51 (.slice (some ⟨B 2,0,none⟩) aZ.length aZ.length) (Vr aZ.length ([]:List dV)),ζ (df ψ 40) 51 (.slice (some ⟨B 4,0,none⟩) aZ.length aZ.length) (Vr aZ.length ([]:List dV)),ζ dK 3 (.slice (some ⟨B 6,0,none⟩) aZ.length aZ.length) (Vr aZ.length 0),ζ dK 3 (.slice (some ⟨B 8,0,none⟩) aZ.length aZ.length) (Vr aZ.length 0),ζ dK 3 (.slice (some ⟨B 10,0,none⟩) aZ.length aZ.length) (Vr aZ.length 0),ζ dK 3 (.slice (some ⟨B 12,0,none⟩) aZ.length aZ.length) (Vr aZ.length 0)]) (lS.news (Z:=fun k=>k < w.heap.size/\False/\¬False) hb (hstar.mono (fun k hk=>by
   obtain ⟨x,hx,rfl⟩:=Wx.1 hk;simp only [WN,WE,or_false] at hx
   rcases hx with rfl|rfl|rfl|rfl|rfl|rfl
   ·exact (hall 2 (by decide)).1
   ·exact (hall 4 (by decide)).1
   ·exact (hall 6 (by decide)).1
   ·exact (hall 8 (by decide)).1
   ·exact (hall 10 (by decide)).1
   ·exact (hall 12 (by decide)).1) fun _ f=>f.elim) fun k h=>h.2.1.elim)
  have h6:=(h5.new (.cells #[.int .i64 (inc:Int),.slice (some ⟨b1,o1,none⟩) aZ.length k1,.int .i64 (wi:Int),.int .i64 (ti:Int),.int .i64 (de:Int),.pointer none,.pointer none,.slice (some ⟨B 2,0,none⟩) aZ.length aZ.length,.slice (some ⟨B 4,0,none⟩) aZ.length aZ.length,.int .i64 0,.pointer none,.pointer none,.pointer none,.pointer none,.slice (some ⟨B 6,0,none⟩) aZ.length aZ.length,.slice none 0 0,.slice (some ⟨B 8,0,none⟩) aZ.length aZ.length,.slice (some ⟨B 10,0,none⟩) aZ.length aZ.length,.slice (some ⟨B 12,0,none⟩) aZ.length aZ.length,.int .i64 0] 130)).front;clear hstar hnd hall hinj hB h5;generalize w5.alloc (.cells #[.int .i64 (inc:Int),.slice (some ⟨b1,o1,none⟩) aZ.length k1,.int .i64 (wi:Int),.int .i64 (ti:Int),.int .i64 (de:Int),.pointer none,.pointer none,.slice (some ⟨B 2,0,none⟩) aZ.length aZ.length,.slice (some ⟨B 4,0,none⟩) aZ.length aZ.length,.int .i64 0,.pointer none,.pointer none,.pointer none,.pointer none,.slice (some ⟨B 6,0,none⟩) aZ.length aZ.length,.slice none 0 0,.slice (some ⟨B 8,0,none⟩) aZ.length aZ.length,.slice (some ⟨B 10,0,none⟩) aZ.length aZ.length,.slice (some ⟨B 12,0,none⟩) aZ.length aZ.length,.int .i64 0] 130)=w6 at h6 ⊢;generalize w5.heap.size=p at h6 ⊢;have H6:=aQ (show dY (fun _=>False) (fun _=>False) w [dJ p (.cells #[.int .i64 (inc:Int),.slice (some ⟨b1,o1,none⟩) aZ.length k1,.int .i64 (wi:Int),.int .i64 (ti:Int),.int .i64 (de:Int),.pointer none,.pointer none,.slice (some ⟨B 2,0,none⟩) aZ.length aZ.length,.slice (some ⟨B 4,0,none⟩) aZ.length aZ.length,.int .i64 0,.pointer none,.pointer none,.pointer none,.pointer none,.slice (some ⟨B 6,0,none⟩) aZ.length aZ.length,.slice none 0 0,.slice (some ⟨B 8,0,none⟩) aZ.length aZ.length,.slice (some ⟨B 10,0,none⟩) aZ.length aZ.length,.slice (some ⟨B 12,0,none⟩) aZ.length aZ.length,.int .i64 0] 130),dJ w.heap.size (.cells #[.int .i64 (inc:Int),.slice (some ⟨b1,o1,none⟩) aZ.length k1,.int .i64 (wi:Int),.int .i64 (ti:Int),.int .i64 (de:Int)] 24),ζ dK 3 (.slice (some ⟨b1,o1,none⟩) aZ.length k1) aZ,ζ (df ψ 40) 51 (.slice (some ⟨B 2,0,none⟩) aZ.length aZ.length) (Vr aZ.length ([]:List dV)),ζ (df ψ 40) 51 (.slice (some ⟨B 4,0,none⟩) aZ.length aZ.length) (Vr aZ.length ([]:List dV)),ζ dK 3 (.slice (some ⟨B 6,0,none⟩) aZ.length aZ.length) (Vr aZ.length 0),ζ dK 3 (.slice (some ⟨B 8,0,none⟩) aZ.length aZ.length) (Vr aZ.length 0),ζ dK 3 (.slice (some ⟨B 10,0,none⟩) aZ.length aZ.length) (Vr aZ.length 0),ζ dK 3 (.slice (some ⟨B 12,0,none⟩) aZ.length aZ.length) (Vr aZ.length 0)] w6 from h6);clear h6 hb H4 θ hwl hS5;go_upto_region 6 with fail
  have hrow:=H6.out.blk 1 rfl;have d0:=aJ (i:=0) hrow rfl;have d4:=aJ (i:=4) hrow rfl;clear hrow;have hok:=bz.out;obtain ⟨_,_,_,i1,i2,_,_,_,_,e1,e2⟩:=hok;go_wp2_with fail;refine (CV inc de w6 (by omega) (by omega) (by omega) (by omega)).mono ?_;rintro e w7 ⟨rfl,hside,rJ⟩;have H7:=aQ (H6.out.add rJ (T:=o9 w6.heap.size (gP inc de)) ⟨Vu _,hside⟩).front;have hrow:=H7.out.blk 1 rfl;have c5:=aJ (i:=5) hrow rfl;have cf:=fun i=>aD hrow i
  generalize w6.heap.size=sq at H7 ⊢;have h8:=H7.out.set 1 rfl (.cells #[.int .i64 (inc:Int),.slice (some ⟨b1,o1,none⟩) aZ.length k1,.int .i64 (wi:Int),.int .i64 (ti:Int),.int .i64 (de:Int),.pointer (some ⟨sq,0,none⟩),.pointer none,.slice (some ⟨B 2,0,none⟩) aZ.length aZ.length,.slice (some ⟨B 4,0,none⟩) aZ.length aZ.length,.int .i64 0,.pointer none,.pointer none,.pointer none,.pointer none,.slice (some ⟨B 6,0,none⟩) aZ.length aZ.length,.slice none 0 0,.slice (some ⟨B 8,0,none⟩) aZ.length aZ.length,.slice (some ⟨B 10,0,none⟩) aZ.length aZ.length,.slice (some ⟨B 12,0,none⟩) aZ.length aZ.length,.int .i64 0] 130) (w':=w7.setCell ⟨p,5,none⟩ (.pointer (some ⟨sq,0,none⟩))) (by exact eZ) (by (refine aS (Ξ hrow) ?_);rfl);clear hrow hside rJ H6 d0 d4 i1 i2 e1 e2;go_upto_region 7 with fail
  generalize w7.setCell ⟨p,5,none⟩ (.pointer (some ⟨sq,0,none⟩))=w8 at h8 ⊢;have H8:=aQ (show dY (fun _=>False) (fun _=>False) w [o9 sq (gP inc de),dJ p (.cells #[.int .i64 (inc:Int),.slice (some ⟨b1,o1,none⟩) aZ.length k1,.int .i64 (wi:Int),.int .i64 (ti:Int),.int .i64 (de:Int),.pointer (some ⟨sq,0,none⟩),.pointer none,.slice (some ⟨B 2,0,none⟩) aZ.length aZ.length,.slice (some ⟨B 4,0,none⟩) aZ.length aZ.length,.int .i64 0,.pointer none,.pointer none,.pointer none,.pointer none,.slice (some ⟨B 6,0,none⟩) aZ.length aZ.length,.slice none 0 0,.slice (some ⟨B 8,0,none⟩) aZ.length aZ.length,.slice (some ⟨B 10,0,none⟩) aZ.length aZ.length,.slice (some ⟨B 12,0,none⟩) aZ.length aZ.length,.int .i64 0] 130),dJ w.heap.size (.cells #[.int .i64 (inc:Int),.slice (some ⟨b1,o1,none⟩) aZ.length k1,.int .i64 (wi:Int),.int .i64 (ti:Int),.int .i64 (de:Int)] 24),ζ dK 3 (.slice (some ⟨b1,o1,none⟩) aZ.length k1) aZ,ζ (df ψ 40) 51 (.slice (some ⟨B 2,0,none⟩) aZ.length aZ.length) (Vr aZ.length ([]:List dV)),ζ (df ψ 40) 51 (.slice (some ⟨B 4,0,none⟩) aZ.length aZ.length) (Vr aZ.length ([]:List dV)),ζ dK 3 (.slice (some ⟨B 6,0,none⟩) aZ.length aZ.length) (Vr aZ.length 0),ζ dK 3 (.slice (some ⟨B 8,0,none⟩) aZ.length aZ.length) (Vr aZ.length 0),ζ dK 3 (.slice (some ⟨B 10,0,none⟩) aZ.length aZ.length) (Vr aZ.length 0),ζ dK 3 (.slice (some ⟨B 12,0,none⟩) aZ.length aZ.length) (Vr aZ.length 0)] w8 from h8);clear h8 H7 c5 cf;go_wp2_with fail;refine (EO aZ.length w8 n1 (by omega)).mono ?_;rintro e w9 ⟨aq,rfl,hm⟩;have H9:=aQ (H8.out.made hm).front;have hrow:=H9.out.blk 2 rfl;have c6:=aJ (i:=6) hrow rfl;have cf:=fun i=>aD hrow i
  have h10:=H9.out.set 2 rfl (jH ⟨inc,aZ,wi,ti,de,gP inc de,ji aZ.length,Vr aZ.length [],Vr aZ.length [],0,eH wi ti,0,[],[],Vr aZ.length 0,[],Vr aZ.length 0,Vr aZ.length 0,Vr aZ.length 0,0⟩ ⟨.slice (some ⟨b1,o1,none⟩) aZ.length k1,sq,aq,.slice (some ⟨B 2,0,none⟩) aZ.length aZ.length,.slice (some ⟨B 4,0,none⟩) aZ.length aZ.length,0,0,0,0,.slice (some ⟨B 6,0,none⟩) aZ.length aZ.length,.slice none 0 0,.slice (some ⟨B 8,0,none⟩) aZ.length aZ.length,.slice (some ⟨B 10,0,none⟩) aZ.length aZ.length,.slice (some ⟨B 12,0,none⟩) aZ.length aZ.length⟩ (.pointer none) (.pointer none) (.pointer none) (.pointer none)) (w':=w9.setCell ⟨p,6,none⟩ (.pointer (some ⟨aq,0,none⟩))) (by exact eZ) (by (refine aS (Ξ hrow) ?_);rfl);clear hrow hm H8;go_upto_region 8 with fail
  generalize w9.setCell ⟨p,6,none⟩ (.pointer (some ⟨aq,0,none⟩))=PL at h10 ⊢;have Nl:=aQ (h10.add (VQ _ _) (T:=ζ jg 225 (.slice none 0 0) []) (Sq.nil _ _ _ _ _));clear h10 H9 c6 cf
  have H11:=aQ (show dY (fun _=>False) (fun _=>False) w (g_ p ⟨inc,aZ,wi,ti,de,gP inc de,ji aZ.length,Vr aZ.length [],Vr aZ.length [],0,eH wi ti,0,[],[],Vr aZ.length 0,[],Vr aZ.length 0,Vr aZ.length 0,Vr aZ.length 0,0⟩ ⟨.slice (some ⟨b1,o1,none⟩) aZ.length k1,sq,aq,.slice (some ⟨B 2,0,none⟩) aZ.length aZ.length,.slice (some ⟨B 4,0,none⟩) aZ.length aZ.length,0,0,0,0,.slice (some ⟨B 6,0,none⟩) aZ.length aZ.length,.slice none 0 0,.slice (some ⟨B 8,0,none⟩) aZ.length aZ.length,.slice (some ⟨B 10,0,none⟩) aZ.length aZ.length,.slice (some ⟨B 12,0,none⟩) aZ.length aZ.length⟩ (.pointer none) (.pointer none) (.pointer none) (.pointer none)++[o9 sq (gP inc de),Dv aq (ji aZ.length),ζ dK 3 (.slice (some ⟨B 8,0,none⟩) aZ.length aZ.length) (Vr aZ.length 0),ζ dK 3 (.slice (some ⟨B 10,0,none⟩) aZ.length aZ.length) (Vr aZ.length 0),ζ dK 3 (.slice (some ⟨B 12,0,none⟩) aZ.length aZ.length) (Vr aZ.length 0)]) PL from
   Nl.out.pick [2,4,5,6,7,11,1,0,8,9,10] _ (by decide) (by simp))
  go_wp2_with fail;refine (Gn (N:=0) ?_ (by omega) 0 H11.out).mono ?_
  ·have hok:=bz.out
   exact ⟨n1,n4,fun x hx=>by have:=hok.rm _ (Wx.2 ⟨x,hx,rfl⟩);omega,by have:=hok.w1;dsimp only;omega,by have:=hok.w2;dsimp only;omega,by have:=hok.t1;dsimp only;omega,by have:=hok.t2;dsimp only;omega,
    by simp,by simp,by simp,by simp,fun l hl=>by rw [(Wu.1 hl).2];exact Vu _,fun l hl=>by rw [(Wu.1 hl).2];exact Vu _⟩
  rintro e w12 ⟨rfl,fu,eO,fq,fw,hh⟩;have HH:=aQ hh;clear hh H11 Nl;go_wp2_with fail;go_ret2;refine ⟨p,rfl,Made.of ?_⟩
  exact dY.shut (f:=bX p (dG inc aZ wi ti de)) (i:=⟨.slice (some ⟨b1,o1,none⟩) aZ.length k1,sq,aq,.slice (some ⟨B 2,0,none⟩) aZ.length aZ.length,.slice (some ⟨B 4,0,none⟩) aZ.length aZ.length,fu,eO,fq,fw,.slice (some ⟨B 6,0,none⟩) aZ.length aZ.length,.slice none 0 0,.slice (some ⟨B 8,0,none⟩) aZ.length aZ.length,.slice (some ⟨B 10,0,none⟩) aZ.length aZ.length,.slice (some ⟨B 12,0,none⟩) aZ.length aZ.length⟩) (ts:=[]) (by
   rw [Wp];exact HH.out.pick [0,1,10,11,2,3,6,7,8,9,4,5,12,13,14] _ (by decide) rfl)


section
variable {F Z:BS} {W w:World} {ts:List Th} {p N:Nat} {a:δ}
theorem kM {w:World} {F Z:BS} {T:TypeId} {a:Option Addr} {n c:Nat} {l:List Nat} (h:Sq dK T w F Z (.slice a n c) l) {i:Nat} {x:Nat} (hi:l[i]? = some x):∃b off,a=some ⟨b,off,none⟩/\w.cell? ⟨b,off+i,none⟩=some (.int .i64 (x:Int)):=by
 obtain ⟨b,off,cs,A,e,_,hr,_,hc⟩:=h.at (by decide) hi;have h1:cs=[.int .i64 (x:Int)]:=hr;subst h1;refine ⟨b,off,e,?_⟩;have:=hc 0 _ rfl;rw [show off+i*dK.size+0=off+i by show off+i*1+0=_;omega] at this;exact this
theorem kR {T:TypeId} {w:World} {F Z:BS} {b off n cap:Nat} {l:List Nat} (h:Sq dK T w F Z (.slice (some ⟨b,off,none⟩) n cap) l):∀(k x:Nat),l[k]? = some x->w.cell? ⟨b,off+k,none⟩=some (.int .i64 (x:Int)):=fun k x hk=>by
 obtain ⟨b',off',e,hc⟩:=kM h hk;obtain ⟨rfl,rfl⟩:b=b'/\off=off':=by simpa using e
 exact hc
theorem δ.Ok.cfg (h:a.Ok N) {c:Int} (h1:(a.inc:Int) < c) (h2:c<=1099511627775):xJ c (a.aZ.map fun (x:Nat)=>(x:Int)) a.cA a.aN a.dead:=by
 have i1:=h.i1;have w1:=h.w1;have w2:=h.w2;have t1:=h.t1;have t2:=h.t2;have d1:=h.d1;have d2:=h.d2;refine ⟨by rw [VL];exact h.n1,by rw [VL];exact h.n4,fun x hx=>?_,by omega,h2,by omega,by omega,by omega,by omega,by omega,by omega⟩;obtain ⟨y,hy,rfl⟩:=Wx.1 hx;have:=h.rm y hy;omega
theorem Cv (h : dY F Z W ts w) (i : Nat) (hi : ts[i]? = some (bP p a)) (hok : a.Ok N) (c : Nat) (h1 : a.inc < c) (h2 : c ≤ 1099511627775) :
    Calls Vs 94 #[.pointer (some ⟨p, 0, none⟩), .int .i64 (c : Int)] w fun e w' => e = .returned (.int .i64 0) ∧ dY F Z W (ts.set i (bP p (dG c a.aZ a.cA a.aN a.dead))) w' := by
  have HCF := aQ (hok.cfg (c := (c : Int)) (by omega) (by omega));obtain ⟨G, Y, hon, hd, _, _, hback⟩ := h.use i hi
  suffices hs : Calls Vs 94 #[.pointer (some ⟨p, 0, none⟩), .int .i64 (c : Int)] w fun e w' => e = .returned (.int .i64 0) ∧ dY G Y w [bP p (dG c a.aZ a.cA a.aN a.dead)] w' by
    refine hs.mono fun e w' ⟨he, hh⟩ => ⟨he, ?_⟩
    have := hback w' _ [] hh.did;rwa [Wp] at this
  clear hback h;obtain ⟨x, hst⟩ := dY.port hon hd;obtain ⟨rv, sp, ap, wv, bv, fu, eO, fq, fw, ig, kv, fM, rev, fD⟩ := x;have n1 := hok.n1;obtain ⟨_, _, hr⟩ := hst.get 1 rfl;obtain ⟨rb, ro, rc, rfl, m1, nG⟩ := bR (show Sq dK 3 w _ _ rv a.aZ from hr) n1;have hrow := hst.blk 0 rfl;obtain ⟨c0, c1, c2, c3, c4, _⟩ := aB hrow;dsimp only at c0 c1 c2 c3 c4;have HN := aQ (kR (show Sq dK 3 w _ _ (.slice (some ⟨rb, ro, none⟩) a.aZ.length rc) a.aZ from hr));have HST := aQ (hst.new (.cells #[.int .i64 (c : Int), .slice (some ⟨rb, ro, none⟩) a.aZ.length rc, .int .i64 (a.cA : Int), .int .i64 (a.aN : Int), .int .i64 (a.dead : Int)] 24));clear hst hrow hr hon hd hi hok;go_enter Tryz.func94, Tryz.ntmps94;go_wp2_with fail;refine (vG (inc := c) (aZ := a.aZ) (wi := a.cA) (ti := a.aN) (de := a.dead) (rb := rb) (ro := ro) (rc := rc) _ HCF.out m1 nG (fun k x hk => ?_)).mono ?_
  · have := HN.out k x hk
    exact (Vt ((aK w _).block rb (Vv w _ this))).trans this
  rintro e w2 ⟨fp, rfl, hm⟩;obtain ⟨q, hq⟩ : ∃ q, q = dG c a.aZ a.cA a.aN a.dead := ⟨_, rfl⟩;have HQ := aQ hq;rw [← hq] at hm;clear hq;obtain ⟨y, h2⟩ := ((HST.out.made hm).pick [16, 0] [bP fp q, dJ p (ky a ⟨.slice (some ⟨rb, ro, none⟩) a.aZ.length rc, sp, ap, wv, bv, fu, eO, fq, fw, ig, kv, fM, rev, fD⟩)] (by decide) rfl).qF;obtain ⟨rv', sp', PT, wv', Nw, AA, AJ, Az, AU, yR, Ns, yU, yL, yK⟩ := y;obtain ⟨_, _, g1⟩ := h2.get 1 rfl;obtain ⟨_, _, g2⟩ := h2.get 4 rfl;obtain ⟨_, _, g3⟩ := h2.get 5 rfl;obtain ⟨_, _, g4⟩ := h2.get 10 rfl;obtain ⟨_, _, g5⟩ := h2.get 11 rfl;obtain ⟨_, _, g6⟩ := h2.get 12 rfl;obtain ⟨_, _, g7⟩ := h2.get 13 rfl;obtain ⟨_, _, g8⟩ := h2.get 14 rfl;obtain ⟨u1, k1, e1⟩ := Sq.shape (show Sq dK 3 _ _ _ rv' q.aZ from g1);obtain ⟨u2, k2, e2⟩ := Sq.shape (show Sq (df ψ 40) 51 _ _ _ wv' q.aX from g2);obtain ⟨u3, k3, e3⟩ := Sq.shape (show Sq (df ψ 40) 51 _ _ _ Nw q.aY from g3);obtain ⟨u4, k4, e4⟩ := Sq.shape (show Sq dK 3 _ _ _ yR q.base from g4);obtain ⟨u5, k5, e5⟩ := Sq.shape (show Sq jg 225 _ _ _ Ns q.cT from g5);obtain ⟨u6, k6, e6⟩ := Sq.shape (show Sq dK 3 _ _ _ yU q.aG from g6);obtain ⟨u7, k7, e7⟩ := Sq.shape (show Sq dK 3 _ _ _ yL q.aW from g7);obtain ⟨u8, k8, e8⟩ := Sq.shape (show Sq dK 3 _ _ _ yK q.cF from g8)
  have HC1 := aQ (show #[VS .i64 (q.inc : Int), rv', .int .i64 (q.cA : Int), .int .i64 (q.aN : Int), .int .i64 (q.dead : Int), .pointer (some ⟨sp', 0, none⟩), .pointer (some ⟨PT, 0, none⟩), wv', Nw, .int .i64 (q.cM : Int),
        .pointer (some ⟨AA, 0, none⟩), .pointer (some ⟨AJ, 0, none⟩), .pointer (some ⟨Az, 0, none⟩), .pointer (some ⟨AU, 0, none⟩), yR, Ns, yU, yL, yK, .int .i64 (q.bL : Int)].all (·.oneCell') = true by
    rw [e1, e2, e3, e4, e5, e6, e7, e8]; simp [Value.oneCell'])
  clear g1 g2 g3 g4 g5 g6 g7 g8 e1 e2 e3 e4 e5 e6 e7 e8;have hrow := h2.blk 0 rfl;have hrow2 := h2.blk 15 rfl;have H2 := aQ h2;have HF := aQ hrow;have HR := aQ hrow2;clear HST HN HCF hm h2 hrow hrow2 c0 c1 c2 c3 c4
  go_wp2_with (first
    | (refine wpList_load_row rfl 130 _ rfl fp (by rfl) 130 _ (0, 0) _ HF.out Tryz.underlying130 rfl (by kernel_rfl) ?_)
    | (refine wpList_store_rowTo rfl 130 _ _ rfl rfl p #[.int .i64 (q.inc : Int), rv', .int .i64 (q.cA : Int), .int .i64 (q.aN : Int), .int .i64 (q.dead : Int), .pointer (some ⟨sp', 0, none⟩), .pointer (some ⟨PT, 0, none⟩), wv', Nw, .int .i64 (q.cM : Int),
        .pointer (some ⟨AA, 0, none⟩), .pointer (some ⟨AJ, 0, none⟩), .pointer (some ⟨Az, 0, none⟩), .pointer (some ⟨AU, 0, none⟩), yR, Ns, yU, yL, yK, .int .i64 (q.bL : Int)] (by rfl) (by rfl) 130 _ HR.out (by kernel_rfl) (by rfl) HC1.out ?_))
  go_ret;refine ⟨rfl, ?_⟩
  have hfr : Fr (fun k => k = p) w2 (w2.setRow p #[.int .i64 (q.inc : Int), rv', .int .i64 (q.cA : Int), .int .i64 (q.aN : Int), .int .i64 (q.dead : Int), .pointer (some ⟨sp', 0, none⟩), .pointer (some ⟨PT, 0, none⟩), wv', Nw, .int .i64 (q.cM : Int),
        .pointer (some ⟨AA, 0, none⟩), .pointer (some ⟨AJ, 0, none⟩), .pointer (some ⟨Az, 0, none⟩), .pointer (some ⟨AU, 0, none⟩), yR, Ns, yU, yL, yK, .int .i64 (q.bL : Int)]) := ⟨rfl, rfl, rfl, by simp, fun k _ hk => setRow_other w2 p k _ hk⟩
  have h3 := H2.out.set 15 rfl (ky q ⟨rv', sp', PT, wv', Nw, AA, AJ, Az, AU, yR, Ns, yU, yL, yK⟩) hfr (setRow_heap w2 p _ _ _ _ HR.out);rw [← HQ.out];exact dY.shut (f := bX p q) (ts := []) (h3.pick [15, 1, 2, 3, 4, 5, 6, 7, 8, 9, 10, 11, 12, 13, 14] (bX p q ⟨rv', sp', PT, wv', Nw, AA, AJ, Az, AU, yR, Ns, yU, yL, yK⟩) (by decide) rfl)
end

end Go.Proofs.YtjnbanjjoomecaaGreatDoor
