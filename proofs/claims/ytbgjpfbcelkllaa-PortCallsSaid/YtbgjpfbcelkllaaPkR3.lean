/- Lemmas of this proof (texts RpQ RpS Tkk RpU LsA BEq). -/
import Derived.Test.YtbgjpfbcelkllaaPkR1
import Derived.Test.YtbgjpfbcelkllaaPkG3
import Derived.Test.YtbgjpfbcelkllaaPkR2
import Derived.Test.YtbgjpfbcelkllaaPkG1
import Derived.Test.YtbgjpfbcelkllaaPkA1
import Derived.WalkKit
import Derived.WalkSpells
import Derived.WalkLawsBesides
import Derived.Lib.Hide
import Derived.Laws.BytesArg
namespace Go.Proofs.Ytbgjpfbcelkllaa
set_option maxHeartbeats 64000000
section
open Go.RowKit
set_option maxRecDepth 100000
abbrev rcfV (inc:Int) (rv:Value) (wi ti de:Int):Value:=.agg #[.int .i64 inc,rv,.int .i64 wi,.int .i64 ti,.int .i64 de]
abbrev newRow (inc:Nat) (rv:Value) (wi ti de:Nat) (wv bv av sv nv hv:Value):Obj:=.cells #[.int .i64 (inc:Int),rv,.int .i64 (wi:Int),.int .i64 (ti:Int),.int .i64 (de:Int),
 .int .i64 (inc:Int),.int .i64 (de:Int),.int .i64 0,.int .i64 0,.int .i64 0,.int .i64 0,.int .i64 0,
 wv,bv,.int .i64 0,
 .int .i64 0,.int .i64 0,.slice none 0 0,.int .i64 0,.int .i64 0,.int .i64 0,.int .i64 0,.int .i64 0,
 .slice none 0 0,.int .i64 0,.slice none 0 0,.slice none 0 0,.slice none 0 0,.int .i64 0,av,sv,nv,hv,.int .i64 0] 64
abbrev rawPrt (inc:Nat) (aZ:List Nat) (wi ti de:Nat):Prt:=
 ⟨inc,aZ,wi,ti,de,newSide inc de,newArb aZ.length,List.replicate aZ.length [],List.replicate aZ.length [],0,⟨0,0,[],0,0,0,0⟩,0,[],[],[],[],List.replicate aZ.length 0,List.replicate aZ.length 0,List.replicate aZ.length 0,0⟩
theorem raw_row (inc:Nat) (aZ:List Nat) (wi ti de:Nat) (rv wv bv av sv nv hv:Value):newRow inc rv wi ti de wv bv av sv nv hv=rpRow (rawPrt inc aZ wi ti de) ⟨rv,wv,bv,.slice none 0 0,.slice none 0 0,.slice none 0 0,.slice none 0 0,.slice none 0 0,av,sv,nv,hv,0⟩:=by
 simp [newSide,newArb]
section
variable {F Z:BS} {W w:World} {ts:List Th} {p N:Nat} {a:Prt}
theorem dY.nils {α : Type} {E:El α} {T:TypeId} (h:dY F Z W ts w):dY F Z W (ts++[tSq E T (.slice none 0 0) []]) w:=h.add (Below.refl _ _) (T:=tSq E T (.slice none 0 0) []) (Sq.nil _ _ _ _ _)
theorem rnew_c {inc wi ti de:Nat} {aZ:List Nat} {rv:Value} (n1:1<=aZ.length) (n4:aZ.length<=4) (h:dY F Z W ts w) (j:Nat) (hj:ts[j]? = some (tRd dK rv aZ)) :
  Calls Try.prog 7 #[rcfV inc rv wi ti de] w fun e w'=>∃p,e=.returned (.pointer (some ⟨p,0,none⟩))/\dY F Z W (tRp p (dG inc aZ wi ti de)::ts) w':=by
 obtain ⟨_,_,hrd⟩:=h.get j hj
 obtain ⟨ra,rc,rfl,q1,q2⟩:=RdS.shape (show RdS dK w _ rv aZ from hrd)
 have h1:=(h.weak j hj (T:=tRd dK (.slice ra aZ.length rc) aZ) fun G Y hon=>hon).front
 have h2:=h1.new (.cells #[.int .i64 (inc:Int),.slice ra aZ.length rc,.int .i64 (wi:Int),.int .i64 (ti:Int),.int .i64 (de:Int)] 37)
 have HR1:=aQ (heap_alloc_new w (.cells #[.int .i64 (inc:Int),.slice ra aZ.length rc,.int .i64 (wi:Int),.int .i64 (ti:Int),.int .i64 (de:Int)] 37))
 have H2:=aQ (h1.own (aK w (.cells #[.int .i64 (inc:Int),.slice ra aZ.length rc,.int .i64 (wi:Int),.int .i64 (ti:Int),.int .i64 (de:Int)] 37)))
 clear hrd h h1 h2
 go_enter Try.func7,Try.ntmps7
 have c0:(w.alloc (.cells #[.int .i64 (inc:Int),.slice ra aZ.length rc,.int .i64 (wi:Int),.int .i64 (ti:Int),.int .i64 (de:Int)] 37)).cell? ⟨w.heap.size,0,none⟩=some (.int .i64 (inc:Int)):=aJ HR1.out rfl
 have c1:(w.alloc (.cells #[.int .i64 (inc:Int),.slice ra aZ.length rc,.int .i64 (wi:Int),.int .i64 (ti:Int),.int .i64 (de:Int)] 37)).cell? ⟨w.heap.size,1,none⟩=some (.slice ra aZ.length rc):=aJ HR1.out rfl
 have c2:(w.alloc (.cells #[.int .i64 (inc:Int),.slice ra aZ.length rc,.int .i64 (wi:Int),.int .i64 (ti:Int),.int .i64 (de:Int)] 37)).cell? ⟨w.heap.size,2,none⟩=some (.int .i64 (wi:Int)):=aJ HR1.out rfl
 have c3:(w.alloc (.cells #[.int .i64 (inc:Int),.slice ra aZ.length rc,.int .i64 (wi:Int),.int .i64 (ti:Int),.int .i64 (de:Int)] 37)).cell? ⟨w.heap.size,3,none⟩=some (.int .i64 (ti:Int)):=aJ HR1.out rfl
 have c4:(w.alloc (.cells #[.int .i64 (inc:Int),.slice ra aZ.length rc,.int .i64 (wi:Int),.int .i64 (ti:Int),.int .i64 (de:Int)] 37)).cell? ⟨w.heap.size,4,none⟩=some (.int .i64 (de:Int)):=aJ HR1.out rfl
 go_wp2_with fail
 have hsz:(w.alloc (.cells #[.int .i64 (inc:Int),.slice ra aZ.length rc,.int .i64 (wi:Int),.int .i64 (ti:Int),.int .i64 (de:Int)] 37)).heap.size=w.heap.size+1:=World.size_alloc ..
 have h3:=(((((((H2.out.no.front).no.front).no.front).no.front).no.front).no.front).new (newRow inc (.slice ra aZ.length rc) wi ti de (.slice none 0 0) (.slice none 0 0) (.slice none 0 0) (.slice none 0 0) (.slice none 0 0) (.slice none 0 0))).front
 rw [hsz] at h3
 change dY F Z W _ (World.alloc (w.alloc (.cells #[.int .i64 (inc:Int),.slice ra aZ.length rc,.int .i64 (wi:Int),.int .i64 (ti:Int),.int .i64 (de:Int)] 37)) (newRow inc (.slice ra aZ.length rc) wi ti de (.slice none 0 0) (.slice none 0 0) (.slice none 0 0) (.slice none 0 0) (.slice none 0 0) (.slice none 0 0))) at h3
 generalize World.alloc (w.alloc (.cells #[.int .i64 (inc:Int),.slice ra aZ.length rc,.int .i64 (wi:Int),.int .i64 (ti:Int),.int .i64 (de:Int)] 37)) _=w1 at h3 ⊢
 generalize w.heap.size+1=p at h3 ⊢
 have H3:=aQ (show dY F Z W (dJ p (newRow inc (.slice ra aZ.length rc) wi ti de (.slice none 0 0) (.slice none 0 0) (.slice none 0 0) (.slice none 0 0) (.slice none 0 0) (.slice none 0 0))::tNo::tNo::tNo::tNo::tNo::tNo::tRd dK (.slice ra aZ.length rc) aZ::ts) w1 from h3)
 clear h3 hsz c0 c1 c2 c3 c4 H2 HR1
 go_cut [] from 16 to 25 (fun wc=>∃(vw vb:Option Addr),Hid (dY F Z W (dJ p (newRow inc (.slice ra aZ.length rc) wi ti de (.slice vw aZ.length aZ.length) (.slice vb aZ.length aZ.length) (.slice none 0 0) (.slice none 0 0) (.slice none 0 0) (.slice none 0 0))::tSq (eSq eBy 27) 54 (.slice vw aZ.length aZ.length) (List.replicate aZ.length [])::tSq (eSq eBy 27) 54 (.slice vb aZ.length aZ.length) (List.replicate aZ.length [])::tNo::tNo::tNo::tNo::tRd dK (.slice ra aZ.length rc) aZ::ts) wc))
 case first=>
  have HX:=H3
  refine wp_region_held_drew (S:=fun _=>True) (by kernel_rfl) trivial (fun _=>?_)
  have HX:=aQ HX.out.drew
  clear H3
  change wpAnyH _ _ _ _ _ (9+3) _ _ _
  refine aH 0 3 (by kernel_rfl) trivial (fun _ _ _ _ _ h=>h) ?_
  simp only [List.drop_zero,List.take_succ_cons,List.take_zero]
  iterate 3 (refine aR (v:=?_) (by rfl) ?_ ?_;rotate_left 1;(focus ((intro w' hS';go_simp);try with_reducible rfl));simp only [Act.put,List.setIfInBounds_toArray,List.set_cons_zero,List.set_cons_succ])
  refine aT ?_
  change wpAnyH _ _ _ _ _ (8+1) _ _ _
  (refine aH 4 1 (by kernel_rfl) trivial (fun _ _ _ _ _ h=>h) ?_;simp only [List.drop_succ_cons,List.drop_zero,List.take_succ_cons,List.take_zero];(refine aR (v:=?_) (by rfl) ?_ ?_;rotate_left 1;(focus ((intro w' hS';go_simp);try with_reducible rfl));simp only [Act.put,List.setIfInBounds_toArray,List.set_cons_zero,List.set_cons_succ]);refine aT ?_)
  repeat' (first
   |(refine aH 6 1 (by decide +kernel) trivial (fun _ _ _ _ _ h=>h) ?_;simp only [List.drop_succ_cons,List.drop_zero,List.take_succ_cons,List.take_zero];(refine aR (v:=?_) (by rfl) ?_ ?_;rotate_left 1;(focus ((intro w' hS';go_simp);try with_reducible rfl));simp only [Act.put,List.setIfInBounds_toArray,List.set_cons_zero,List.set_cons_succ]);refine aT ?_)
   |(refine aH 7 1 (by decide +kernel) trivial (fun _ _ _ _ _ h=>h) ?_;simp only [List.drop_succ_cons,List.drop_zero,List.take_succ_cons,List.take_zero];(refine aR (v:=?_) (by rfl) ?_ ?_;rotate_left 1;(focus ((intro w' hS';go_simp);try with_reducible rfl));simp only [Act.put,List.setIfInBounds_toArray,List.set_cons_zero,List.set_cons_succ]);refine aT ?_)
   |(refine aH 9 1 (by decide +kernel) trivial (fun _ _ _ _ _ h=>h) ?_;simp only [List.drop_succ_cons,List.drop_zero,List.take_succ_cons,List.take_zero];(refine aR (v:=?_) (by rfl) ?_ ?_;rotate_left 1;(focus ((intro w' hS';go_simp);try with_reducible rfl));simp only [Act.put,List.setIfInBounds_toArray,List.set_cons_zero,List.set_cons_succ]);refine aT ?_)
   |(refine aH 10 1 (by decide +kernel) trivial (fun _ _ _ _ _ h=>h) ?_;simp only [List.drop_succ_cons,List.drop_zero,List.take_succ_cons,List.take_zero];(refine aR (v:=?_) (by rfl) ?_ ?_;rotate_left 1;(focus ((intro w' hS';go_simp);try with_reducible rfl));simp only [Act.put,List.setIfInBounds_toArray,List.set_cons_zero,List.set_cons_succ]);refine aT ?_)
   |refine anyH2 3 5 (by decide +kernel) ?_ ?_
   |refine anyH2 5 8 (by decide +kernel) ?_ ?_
   |refine anyH1 3 (by decide +kernel) ?_
   |refine anyH1 5 (by decide +kernel) ?_
   |refine anyH1 8 (by decide +kernel) ?_
   |refine anyH1 11 (by decide +kernel) ?_
   |(refine pickH 3 rfl (fun K hK=>?_);refine step_mkH (E:=eSq eBy 27) slBBB rfl rfl (a0:=([]:List dV)) (fun _ _=>⟨_,rfl,Sq.nil _ _ _ _ _⟩) rfl _ rfl aZ.length rfl (by omega) (by unfold maxLen;omega) HX.out 1 rfl ?_;intro bw wx hbx hx;have HX:=aQ hx;clear hbx hx;refine hK.out _ _ trivial ?_;clear hK K;simp only [Act.put,List.setIfInBounds_toArray,List.set_cons_zero,List.set_cons_succ])
   |(refine pickH 5 rfl (fun K hK=>?_);refine step_mkH (E:=eSq eBy 27) slBBB rfl rfl (a0:=([]:List dV)) (fun _ _=>⟨_,rfl,Sq.nil _ _ _ _ _⟩) rfl _ rfl aZ.length rfl (by omega) (by unfold maxLen;omega) HX.out 2 rfl ?_;intro bb wx hbx hx;have HX:=aQ hx;clear hbx hx;refine hK.out _ _ trivial ?_;clear hK K;simp only [Act.put,List.setIfInBounds_toArray,List.set_cons_zero,List.set_cons_succ])
   |(refine pickH 8 rfl (fun K hK=>?_);have hrow:=HX.out.blk 0 rfl;have cX:World.cell? _ ⟨p,12,none⟩=some (.slice none 0 0):=aJ hrow rfl;have cf:=fun i=>aD hrow i;have hs:=fun w' hf hr=>HX.out.set 0 rfl (newRow inc (.slice ra aZ.length rc) wi ti de (.slice (some ⟨bw,0,none⟩) aZ.length aZ.length) (.slice none 0 0) (.slice none 0 0) (.slice none 0 0) (.slice none 0 0) (.slice none 0 0)) (w':=w') hf hr;go_simp;refine hK.out _ _ trivial ?_;clear hK K;generalize hwz:World.setCell _ _ _=wz;have HX:=aQ (hs wz (by rw [<-hwz];(repeat (first|(with_reducible (first|exact Fr.refl _ _|refine Fr.setCell ?_ ?_ _|refine Fr.drewN ?_ _|refine Fr.drew ?_))|exact Or.inl rfl))) (by rw [<-hwz];(apply aS;focus (with_reducible (repeat (first|exact hrow|apply aU|apply aP|apply aF))));rfl));clear hwz hs hrow cX cf)
   |(refine pickH 11 rfl (fun K hK=>?_);have hrow:=HX.out.blk 0 rfl;have cX:World.cell? _ ⟨p,13,none⟩=some (.slice none 0 0):=aJ hrow rfl;have cf:=fun i=>aD hrow i;have hs:=fun w' hf hr=>HX.out.set 0 rfl (newRow inc (.slice ra aZ.length rc) wi ti de (.slice (some ⟨bw,0,none⟩) aZ.length aZ.length) (.slice (some ⟨bb,0,none⟩) aZ.length aZ.length) (.slice none 0 0) (.slice none 0 0) (.slice none 0 0) (.slice none 0 0)) (w':=w') hf hr;go_simp;refine hK.out _ _ trivial ?_;clear hK K;generalize hwz:World.setCell _ _ _=wz;have HX:=aQ (hs wz (by rw [<-hwz];(repeat (first|(with_reducible (first|exact Fr.refl _ _|refine Fr.setCell ?_ ?_ _|refine Fr.drewN ?_ _|refine Fr.drew ?_))|exact Or.inl rfl))) (by rw [<-hwz];(apply aS;focus (with_reducible (repeat (first|exact hrow|apply aU|apply aP|apply aF))));rfl));clear hwz hs hrow cX cf))
  all_goals
   refine wpAnyH_done (by kernel_rfl) ?_ _
   go_wp2_with fail
   go_meet
   exact ⟨some ⟨bw,0,none⟩,some ⟨bb,0,none⟩,aQ HX.out⟩
 case rest=>
  clear H3
  obtain ⟨vw,vb,HX⟩:=hcut
  have HX:=aQ (show dY F Z W (dJ p (newRow inc (.slice ra aZ.length rc) wi ti de (.slice vw aZ.length aZ.length) (.slice vb aZ.length aZ.length) (.slice none 0 0) (.slice none 0 0) (.slice none 0 0) (.slice none 0 0))::tSq (eSq eBy 27) 54 (.slice vw aZ.length aZ.length) (List.replicate aZ.length [])::tSq (eSq eBy 27) 54 (.slice vb aZ.length aZ.length) (List.replicate aZ.length [])::tNo::tNo::tNo::tNo::tRd dK (.slice ra aZ.length rc) aZ::ts) wc from HX.out)
  go_wp2_with (at_make;refine wpList_mkH (E:=dK) slInt rfl (a0:=0) (fun _ _=>rfl) rfl _ _ rfl aZ.length rfl rfl (by omega) (by unfold maxLen;omega) ?_;intro w6 hb6 hs6;obtain ⟨ba,hba⟩:∃ba,ba=wc.heap.size:=⟨_,rfl⟩;have HY:=aQ (HX.out.grow (w':=w6) 3 rfl (T':=tSq dK 3 (.slice (some ⟨ba,0,none⟩) aZ.length aZ.length) (List.replicate aZ.length 0)) fun G Y _ hd=>⟨fun k=>wc.heap.size<=k,fun _=>False,fun k hk=>.inr hk,fun _ f=>f.elim,fun _ _ f=>f,by rw [hba];exact hs6,Fr.of_below (Fr.refl _ _) hb6⟩);rw [<-hba];clear hb6 hs6 hba;have hrow:=HY.out.blk 0 rfl;have c28:w6.cell? ⟨p,28,none⟩=some (.int .i64 0):=aJ hrow rfl;have c29:w6.cell? ⟨p,29,none⟩=some (.slice none 0 0):=aJ hrow rfl;have cf:=fun i=>aD hrow i)
  have hs:=HY.out.set 0 rfl (newRow inc (.slice ra aZ.length rc) wi ti de (.slice vw aZ.length aZ.length) (.slice vb aZ.length aZ.length) (.slice (some ⟨ba,0,none⟩) aZ.length aZ.length) (.slice none 0 0) (.slice none 0 0) (.slice none 0 0)) (w':=(w6.setCell ⟨p,28,none⟩ (.int .i64 0)).setCell ⟨p,29,none⟩ (.slice (some ⟨ba,0,none⟩) aZ.length aZ.length)) (by (repeat (first|(with_reducible (first|exact Fr.refl _ _|refine Fr.setCell ?_ ?_ _|refine Fr.drewN ?_ _|refine Fr.drew ?_))|exact Or.inl rfl))) (by (apply aS;focus (with_reducible (repeat (first|exact hrow|apply aU|apply aP|apply aF))));rfl)
  clear HX HY c28 c29 cf hrow
  generalize World.setCell (World.setCell w6 _ _) _ _=w7 at hs ⊢
  obtain ⟨va,hva⟩:∃va:Option Addr,va=some ⟨ba,0,none⟩:=⟨_,rfl⟩
  have H4:=aQ (show dY F Z W (dJ p (newRow inc (.slice ra aZ.length rc) wi ti de (.slice vw aZ.length aZ.length) (.slice vb aZ.length aZ.length) (.slice va aZ.length aZ.length) (.slice none 0 0) (.slice none 0 0) (.slice none 0 0))::tSq (eSq eBy 27) 54 (.slice vw aZ.length aZ.length) (List.replicate aZ.length [])::tSq (eSq eBy 27) 54 (.slice vb aZ.length aZ.length) (List.replicate aZ.length [])::tSq dK 3 (.slice va aZ.length aZ.length) (List.replicate aZ.length 0)::tNo::tNo::tNo::tRd dK (.slice ra aZ.length rc) aZ::ts) w7 by rw [hva];exact hs)
  rw [<-hva]
  clear hs hva
  go_cut [] from 32 to 46 (fun wc=>∃(vs vn vh:Option Addr),Hid (dY F Z W (dJ p (newRow inc (.slice ra aZ.length rc) wi ti de (.slice vw aZ.length aZ.length) (.slice vb aZ.length aZ.length) (.slice va aZ.length aZ.length) (.slice vs aZ.length aZ.length) (.slice vn aZ.length aZ.length) (.slice vh aZ.length aZ.length))::tSq (eSq eBy 27) 54 (.slice vw aZ.length aZ.length) (List.replicate aZ.length [])::tSq (eSq eBy 27) 54 (.slice vb aZ.length aZ.length) (List.replicate aZ.length [])::tSq dK 3 (.slice va aZ.length aZ.length) (List.replicate aZ.length 0)::tSq dK 3 (.slice vs aZ.length aZ.length) (List.replicate aZ.length 0)::tSq dK 3 (.slice vn aZ.length aZ.length) (List.replicate aZ.length 0)::tSq dK 3 (.slice vh aZ.length aZ.length) (List.replicate aZ.length 0)::tRd dK (.slice ra aZ.length rc) aZ::ts) wc))
  case first=>
   have HX:=H4
   refine wp_region_held_drew (S:=fun _=>True) (by kernel_rfl) trivial (fun _=>?_)
   have HX:=aQ HX.out.drew
   clear H4
   change wpAnyH _ _ _ _ _ (14+4) _ _ _
   refine aH 0 4 (by kernel_rfl) trivial (fun _ _ _ _ _ h=>h) ?_
   simp only [List.drop_zero,List.take_succ_cons,List.take_zero]
   iterate 4 (refine aR (v:=?_) (by rfl) ?_ ?_;rotate_left 1;(focus ((intro w' hS';go_simp);try with_reducible rfl));simp only [Act.put,List.setIfInBounds_toArray,List.set_cons_zero,List.set_cons_succ])
   refine aT ?_
   change wpAnyH _ _ _ _ _ (13+1) _ _ _
   (refine aH 5 1 (by decide +kernel) trivial (fun _ _ _ _ _ h=>h) ?_;simp only [List.drop_succ_cons,List.drop_zero,List.take_succ_cons,List.take_zero];(refine aR (v:=?_) (by rfl) ?_ ?_;rotate_left 1;(focus ((intro w' hS';go_simp);try with_reducible rfl));simp only [Act.put,List.setIfInBounds_toArray,List.set_cons_zero,List.set_cons_succ]);refine aT ?_)
   change wpAnyH _ _ _ _ _ (12+1) _ _ _
   (refine aH 7 1 (by decide +kernel) trivial (fun _ _ _ _ _ h=>h) ?_;simp only [List.drop_succ_cons,List.drop_zero,List.take_succ_cons,List.take_zero];(refine aR (v:=?_) (by rfl) ?_ ?_;rotate_left 1;(focus ((intro w' hS';go_simp);try with_reducible rfl));simp only [Act.put,List.setIfInBounds_toArray,List.set_cons_zero,List.set_cons_succ]);refine aT ?_)
   repeat' (first
    |(refine aH 9 1 (by decide +kernel) trivial (fun _ _ _ _ _ h=>h) ?_;simp only [List.drop_succ_cons,List.drop_zero,List.take_succ_cons,List.take_zero];(refine aR (v:=?_) (by rfl) ?_ ?_;rotate_left 1;(focus ((intro w' hS';go_simp);try with_reducible rfl));simp only [Act.put,List.setIfInBounds_toArray,List.set_cons_zero,List.set_cons_succ]);refine aT ?_)
    |(refine aH 10 1 (by decide +kernel) trivial (fun _ _ _ _ _ h=>h) ?_;simp only [List.drop_succ_cons,List.drop_zero,List.take_succ_cons,List.take_zero];(refine aR (v:=?_) (by rfl) ?_ ?_;rotate_left 1;(focus ((intro w' hS';go_simp);try with_reducible rfl));simp only [Act.put,List.setIfInBounds_toArray,List.set_cons_zero,List.set_cons_succ]);refine aT ?_)
    |(refine aH 12 1 (by decide +kernel) trivial (fun _ _ _ _ _ h=>h) ?_;simp only [List.drop_succ_cons,List.drop_zero,List.take_succ_cons,List.take_zero];(refine aR (v:=?_) (by rfl) ?_ ?_;rotate_left 1;(focus ((intro w' hS';go_simp);try with_reducible rfl));simp only [Act.put,List.setIfInBounds_toArray,List.set_cons_zero,List.set_cons_succ]);refine aT ?_)
    |(refine aH 13 1 (by decide +kernel) trivial (fun _ _ _ _ _ h=>h) ?_;simp only [List.drop_succ_cons,List.drop_zero,List.take_succ_cons,List.take_zero];(refine aR (v:=?_) (by rfl) ?_ ?_;rotate_left 1;(focus ((intro w' hS';go_simp);try with_reducible rfl));simp only [Act.put,List.setIfInBounds_toArray,List.set_cons_zero,List.set_cons_succ]);refine aT ?_)
    |(refine aH 15 1 (by decide +kernel) trivial (fun _ _ _ _ _ h=>h) ?_;simp only [List.drop_succ_cons,List.drop_zero,List.take_succ_cons,List.take_zero];(refine aR (v:=?_) (by rfl) ?_ ?_;rotate_left 1;(focus ((intro w' hS';go_simp);try with_reducible rfl));simp only [Act.put,List.setIfInBounds_toArray,List.set_cons_zero,List.set_cons_succ]);refine aT ?_)
    |(refine aH 16 1 (by decide +kernel) trivial (fun _ _ _ _ _ h=>h) ?_;simp only [List.drop_succ_cons,List.drop_zero,List.take_succ_cons,List.take_zero];(refine aR (v:=?_) (by rfl) ?_ ?_;rotate_left 1;(focus ((intro w' hS';go_simp);try with_reducible rfl));simp only [Act.put,List.setIfInBounds_toArray,List.set_cons_zero,List.set_cons_succ]);refine aT ?_)
    |refine anyH3 4 6 8 (by decide +kernel) ?_ ?_ ?_
    |refine anyH3 6 8 11 (by decide +kernel) ?_ ?_ ?_
    |refine anyH2 4 6 (by decide +kernel) ?_ ?_
    |refine anyH2 4 8 (by decide +kernel) ?_ ?_
    |refine anyH2 6 8 (by decide +kernel) ?_ ?_
    |refine anyH2 6 11 (by decide +kernel) ?_ ?_
    |refine anyH2 8 11 (by decide +kernel) ?_ ?_
    |refine anyH2 8 14 (by decide +kernel) ?_ ?_
    |refine anyH1 4 (by decide +kernel) ?_
    |refine anyH1 6 (by decide +kernel) ?_
    |refine anyH1 8 (by decide +kernel) ?_
    |refine anyH1 11 (by decide +kernel) ?_
    |refine anyH1 14 (by decide +kernel) ?_
    |refine anyH1 17 (by decide +kernel) ?_
    |(refine pickH 4 rfl (fun K hK=>?_);refine step_mkH (E:=dK) slInt rfl rfl (a0:=(0:Nat)) (fun _ _=>rfl) rfl _ rfl aZ.length rfl (by omega) (by unfold maxLen;omega) HX.out 4 rfl ?_;intro bs wx hbx hx;have HX:=aQ hx;clear hbx hx;refine hK.out _ _ trivial ?_;clear hK K;simp only [Act.put,List.setIfInBounds_toArray,List.set_cons_zero,List.set_cons_succ])
    |(refine pickH 6 rfl (fun K hK=>?_);refine step_mkH (E:=dK) slInt rfl rfl (a0:=(0:Nat)) (fun _ _=>rfl) rfl _ rfl aZ.length rfl (by omega) (by unfold maxLen;omega) HX.out 5 rfl ?_;intro bn wx hbx hx;have HX:=aQ hx;clear hbx hx;refine hK.out _ _ trivial ?_;clear hK K;simp only [Act.put,List.setIfInBounds_toArray,List.set_cons_zero,List.set_cons_succ])
    |(refine pickH 8 rfl (fun K hK=>?_);refine step_mkH (E:=dK) slInt rfl rfl (a0:=(0:Nat)) (fun _ _=>rfl) rfl _ rfl aZ.length rfl (by omega) (by unfold maxLen;omega) HX.out 6 rfl ?_;intro bh wx hbx hx;have HX:=aQ hx;clear hbx hx;refine hK.out _ _ trivial ?_;clear hK K;simp only [Act.put,List.setIfInBounds_toArray,List.set_cons_zero,List.set_cons_succ])
    |(refine pickH 11 rfl (fun K hK=>?_);have hrow:=HX.out.blk 0 rfl;have cX:World.cell? _ ⟨p,30,none⟩=some (.slice none 0 0):=aJ hrow rfl;have cf:=fun i=>aD hrow i;have hs:=fun w' hf hr=>HX.out.set 0 rfl (newRow inc (.slice ra aZ.length rc) wi ti de (.slice vw aZ.length aZ.length) (.slice vb aZ.length aZ.length) (.slice va aZ.length aZ.length) (.slice (some ⟨bs,0,none⟩) aZ.length aZ.length) (.slice none 0 0) (.slice none 0 0)) (w':=w') hf hr;go_simp;refine hK.out _ _ trivial ?_;clear hK K;generalize hwz:World.setCell _ _ _=wz;have HX:=aQ (hs wz (by rw [<-hwz];(repeat (first|(with_reducible (first|exact Fr.refl _ _|refine Fr.setCell ?_ ?_ _|refine Fr.drewN ?_ _|refine Fr.drew ?_))|exact Or.inl rfl))) (by rw [<-hwz];(apply aS;focus (with_reducible (repeat (first|exact hrow|apply aU|apply aP|apply aF))));rfl));clear hwz hs hrow cX cf)
    |(refine pickH 14 rfl (fun K hK=>?_);have hrow:=HX.out.blk 0 rfl;have cX:World.cell? _ ⟨p,31,none⟩=some (.slice none 0 0):=aJ hrow rfl;have cf:=fun i=>aD hrow i;have hs:=fun w' hf hr=>HX.out.set 0 rfl (newRow inc (.slice ra aZ.length rc) wi ti de (.slice vw aZ.length aZ.length) (.slice vb aZ.length aZ.length) (.slice va aZ.length aZ.length) (.slice (some ⟨bs,0,none⟩) aZ.length aZ.length) (.slice (some ⟨bn,0,none⟩) aZ.length aZ.length) (.slice none 0 0)) (w':=w') hf hr;go_simp;refine hK.out _ _ trivial ?_;clear hK K;generalize hwz:World.setCell _ _ _=wz;have HX:=aQ (hs wz (by rw [<-hwz];(repeat (first|(with_reducible (first|exact Fr.refl _ _|refine Fr.setCell ?_ ?_ _|refine Fr.drewN ?_ _|refine Fr.drew ?_))|exact Or.inl rfl))) (by rw [<-hwz];(apply aS;focus (with_reducible (repeat (first|exact hrow|apply aU|apply aP|apply aF))));rfl));clear hwz hs hrow cX cf)
    |(refine pickH 17 rfl (fun K hK=>?_);have hrow:=HX.out.blk 0 rfl;have cX:World.cell? _ ⟨p,32,none⟩=some (.slice none 0 0):=aJ hrow rfl;have cf:=fun i=>aD hrow i;have hs:=fun w' hf hr=>HX.out.set 0 rfl (newRow inc (.slice ra aZ.length rc) wi ti de (.slice vw aZ.length aZ.length) (.slice vb aZ.length aZ.length) (.slice va aZ.length aZ.length) (.slice (some ⟨bs,0,none⟩) aZ.length aZ.length) (.slice (some ⟨bn,0,none⟩) aZ.length aZ.length) (.slice (some ⟨bh,0,none⟩) aZ.length aZ.length)) (w':=w') hf hr;go_simp;refine hK.out _ _ trivial ?_;clear hK K;generalize hwz:World.setCell _ _ _=wz;have HX:=aQ (hs wz (by rw [<-hwz];(repeat (first|(with_reducible (first|exact Fr.refl _ _|refine Fr.setCell ?_ ?_ _|refine Fr.drewN ?_ _|refine Fr.drew ?_))|exact Or.inl rfl))) (by rw [<-hwz];(apply aS;focus (with_reducible (repeat (first|exact hrow|apply aU|apply aP|apply aF))));rfl));clear hwz hs hrow cX cf))
   all_goals
    refine wpAnyH_done (by kernel_rfl) ?_ _
    go_wp2_with fail
    go_meet
    exact ⟨some ⟨bs,0,none⟩,some ⟨bn,0,none⟩,some ⟨bh,0,none⟩,aQ HX.out⟩
  case rest=>
   clear H4
   obtain ⟨vs,vn,vh,HX⟩:=hcut
   have h5:=(((((HX.out.nils (E:=eBy) (T := 27)).front.nils (E:=dK) (T := 3)).front.nils (E:=eTk) (T := 102)).front.nils (E:=eGv) (T := 100)).front.nils (E:=dK) (T := 3)).front
   have e:=raw_row inc aZ wi ti de (.slice ra aZ.length rc) (.slice vw aZ.length aZ.length) (.slice vb aZ.length aZ.length) (.slice va aZ.length aZ.length) (.slice vs aZ.length aZ.length) (.slice vn aZ.length aZ.length) (.slice vh aZ.length aZ.length)
   rw [e] at h5
   have h6:=dY.pickL (us:=[tSq dK 3 (.slice none 0 0) [],tSq eGv 100 (.slice none 0 0) [],tSq eTk 102 (.slice none 0 0) [],tSq dK 3 (.slice none 0 0) [],tSq eBy 27 (.slice none 0 0) [],dJ p (rpRow (rawPrt inc aZ wi ti de) ⟨.slice ra aZ.length rc,.slice vw aZ.length aZ.length,.slice vb aZ.length aZ.length,.slice none 0 0,.slice none 0 0,.slice none 0 0,.slice none 0 0,.slice none 0 0,.slice va aZ.length aZ.length,.slice vs aZ.length aZ.length,.slice vn aZ.length aZ.length,.slice vh aZ.length aZ.length,0⟩),tSq (eSq eBy 27) 54 (.slice vw aZ.length aZ.length) (List.replicate aZ.length []),tSq (eSq eBy 27) 54 (.slice vb aZ.length aZ.length) (List.replicate aZ.length []),tSq dK 3 (.slice va aZ.length aZ.length) (List.replicate aZ.length 0),tSq dK 3 (.slice vs aZ.length aZ.length) (List.replicate aZ.length 0),tSq dK 3 (.slice vn aZ.length aZ.length) (List.replicate aZ.length 0),tSq dK 3 (.slice vh aZ.length aZ.length) (List.replicate aZ.length 0),tRd dK (.slice ra aZ.length rc) aZ]) (vs:=rpThs p (rawPrt inc aZ wi ti de) ⟨.slice ra aZ.length rc,.slice vw aZ.length aZ.length,.slice vb aZ.length aZ.length,.slice none 0 0,.slice none 0 0,.slice none 0 0,.slice none 0 0,.slice none 0 0,.slice va aZ.length aZ.length,.slice vs aZ.length aZ.length,.slice vn aZ.length aZ.length,.slice vh aZ.length aZ.length,0⟩) h5 [5,12,6,7,4,3,2,1,0,8,9,10,11] (by decide) rfl
   have H6:=aQ (dY.rp_shut h6)
   clear HX h5 e h6
   go_wp2_with fail
   refine (rbegin_c (a:=rawPrt inc aZ wi ti de) (N:=0) ⟨n1,n4,List.length_replicate,List.length_replicate,Nat.zero_le _,fun l hl=>by rw [(List.mem_replicate.1 hl).2];exact Nat.le_refl _,fun l hl=>by rw [(List.mem_replicate.1 hl).2];exact Nat.le_refl _⟩ (by omega) rfl (fun f hf=>by cases hf) (fun c=>by
    show ((List.replicate aZ.length ([]:List dV)).getD c []).length<=_
    rw [List.getD_eq_getElem?_getD,List.getElem?_replicate]
    split <;> exact Nat.zero_le _) H6.out).mono ?_
   rintro e w8 ⟨rfl,hh⟩
   have HH:=aQ hh
   clear hh H6
   go_wp2_with fail
   go_ret
   exact ⟨p,rfl,HH.out⟩
end
end

section
open Go.RowKit
set_option maxRecDepth 100000
section
variable {F Z:BS} {W w:World} {ts:List Th} {p N:Nat} {a:Prt}
theorem rrestart_low (c:Int) (hc:c<=(a.inc:Int)\/1099511627775 < c) (h:dY F Z W (tRp p a::ts) w) :
  Calls Try.prog 18 #[.pointer (some ⟨p,0,none⟩),.int .i64 c] w fun e w'=>e=.returned (.tuple #[.pointer (some ⟨p,0,none⟩),.int .i64 2])/\w=w':=by
 obtain ⟨x,hst⟩:=h.rp
 have c0:w.cell? ⟨p,0,none⟩=some (.int .i64 (a.inc:Int)):=aJ (hst.blk 0 rfl) rfl
 have hq:c<=(a.inc:Int)\/(¬c<=(a.inc:Int)/\1099511627775 < c):=by omega
 clear hst h hc
 rcases hq with h0|⟨h0,h1⟩
 ·go_enter Try.func18,Try.ntmps18
  go_wp2_with fail
  go_ret2
  exact ⟨rfl,rfl⟩
 ·have h2:(a.inc:Int) < c:=by omega
  have h3:decide (c<=(a.inc:Int))=false:=by simp;omega
  go_enter Try.func18,Try.ntmps18
  go_wp2_with fail
  go_ret2
  exact ⟨rfl,rfl⟩
theorem rrestart_yes (c:Nat) (h1:a.inc < c) (h2:c<=1099511627775) (n1:1<=a.aZ.length) (n4:a.aZ.length<=4) (h:dY F Z W (tRp p a::ts) w) :
  Calls Try.prog 18 #[.pointer (some ⟨p,0,none⟩),.int .i64 (c:Int)] w fun e w'=>∃q,e=.returned (.tuple #[.pointer (some ⟨q,0,none⟩),.int .i64 0])/\dY F Z W (tRp q (dG c a.aZ a.cA a.aN a.dead)::ts) w':=by
 obtain ⟨x,hst⟩:=h.rp
 obtain ⟨rv,wv,bv,kv,cv,tv,gv,ev,av,sv,nv,hv,ch⟩:=x
 have hrow:=hst.blk 0 rfl
 have c0:w.cell? ⟨p,0,none⟩=some (.int .i64 (a.inc:Int)):=aJ hrow rfl
 have c1:w.cell? ⟨p,1,none⟩=some rv:=aJ hrow rfl
 have c2:w.cell? ⟨p,2,none⟩=some (.int .i64 (a.cA:Int)):=aJ hrow rfl
 have c3:w.cell? ⟨p,3,none⟩=some (.int .i64 (a.aN:Int)):=aJ hrow rfl
 have c4:w.cell? ⟨p,4,none⟩=some (.int .i64 (a.dead:Int)):=aJ hrow rfl
 obtain ⟨_,_,hr⟩:=hst.get 1 rfl
 obtain ⟨ra,rc,e1,_⟩:=RdS.shape (show RdS dK w _ rv a.aZ from hr)
 subst e1
 have HST:=aQ hst
 have hci:(a.inc:Int) < (c:Int):=by omega
 have hcn:decide ((c:Int)<=(a.inc:Int))=false:=by simp;omega
 have hcm:(c:Int)<=1099511627775:=by omega
 clear hst hrow hr h h1 h2
 go_enter Try.func18,Try.ntmps18
 go_wp2_with fail
 have HW:=aQ (fun (w':World) (hb:Below w.heap.size w w')=>rnew_c (inc:=c) (wi:=a.cA) (ti:=a.aN) (de:=a.dead) n1 n4 (HST.out.own hb) 1 rfl)
 refine (HW.out _ (by (repeat (first|(with_reducible exact Below.refl _ _)|(with_reducible refine Bw.alloc ?_ _)|(with_reducible refine Bw.drewN ?_ _)|(with_reducible refine Bw.drew ?_)|(with_reducible refine Below.setCell ?_ (by simp <;> omega) _))))).mono ?_
 rintro e w' ⟨q,rfl,hh⟩
 have HH:=aQ hh
 clear hh HW HST
 go_wp2_with fail
 go_ret2
 refine ⟨q,rfl,?_⟩
 exact dY.pickL (us:=tRp q (dG c a.aZ a.cA a.aN a.dead)::rpThs p a ⟨.slice ra a.aZ.length rc,wv,bv,kv,cv,tv,gv,ev,av,sv,nv,hv,ch⟩) (vs:=[tRp q (dG c a.aZ a.cA a.aN a.dead)]) HH.out [0] (by decide) rfl
end
end

section
theorem choose_side (p:Prt):p.choose.cS=p.cS/\p.choose.inc=p.inc/\p.choose.aZ=p.aZ:=by
 unfold Prt.choose
 split
 ·exact ⟨rfl,rfl,rfl⟩
 ·split <;> exact ⟨rfl,rfl,rfl⟩
theorem handle_rooms (p:Prt) (y:Pt):(p.cU y).aZ=p.aZ/\(p.cU y).inc=p.inc:=by
 unfold Prt.cU
 split
 ·unfold Prt.greet;dsimp only;split <;> exact ⟨rfl,rfl⟩
 ·split
  ·exact ⟨rfl,rfl⟩
  ·split
   ·unfold Prt.cO;split
    ·exact ⟨rfl,rfl⟩
    ·dsimp only;split <;> exact ⟨rfl,rfl⟩
   ·split
    ·exact ⟨rfl,rfl⟩
    ·split
     ·unfold Prt.raise;split <;> exact ⟨rfl,rfl⟩
     ·exact ⟨rfl,rfl⟩
theorem cH:∀(l:List Pt) (p:Prt),(l.foldl Prt.cU p).aZ=p.aZ/\(l.foldl Prt.cU p).inc=p.inc
 |[],_=>⟨rfl,rfl⟩
 |y::l,p=>by
  rw [List.foldl_cons,(cH l _).1,(cH l _).2]
  exact handle_rooms p y
theorem tick_keeps (p:Prt) (l:List Pt):(p.cR l).2.aZ=p.aZ/\(p.cR l).2.inc=p.inc/\(p.Min->(p.cR l).2.Min):=by
 obtain ⟨h1,h2⟩:=cH l p
 have h3:=fun h:p.Min=>h.handles l
 obtain ⟨a,ha⟩:∃a,a=l.foldl Prt.cU p:=⟨_,rfl⟩
 by_cases hs:a.cS.cR.state=2
 ·rw [Prt.tick_up ha hs]
  rw [<-ha] at h1 h2 h3
  obtain ⟨c1,c2,c3⟩:=choose_side { a with cS:=a.cS.cR }
  have c4:p.Min->(Prt.choose { a with cS:=a.cS.cR }).cS.mine=(Prt.choose { a with cS:=a.cS.cR }).inc:=fun h=>by
   rw [c1,c2]
   show a.cS.cR.mine=a.inc
   rw [sideTick_mine];exact h3 h
  split
  ·exact ⟨c3.trans h1,c2.trans h2,c4⟩
  ·exact ⟨c3.trans h1,c2.trans h2,c4⟩
 ·rw [Prt.cX ha hs]
  rw [<-ha] at h1 h2 h3
  refine ⟨h1,h2,fun h=>?_⟩
  show a.cS.cR.mine=a.inc
  rw [sideTick_mine];exact h3 h
end

section
open Go.RowKit
set_option maxRecDepth 100000
def Pc.Small (x:Pc):Prop:=x.arr.length<=10/\x.data.length<=200/\∀y ∈ x.arr,y.pay.length<=200
def Pc.act (x:Pc) (a:Prt):Prt:=
 if x.kind=0 then (a.dQ x.cls x.data).2 else if x.kind=1 then (a.cR x.arr).2 else if x.kind=2 then (a.take x.cls).2 else if x.kind=3 then (a.restart x.num).2 else a
structure PcI (n k:Nat) (a:Prt):Prop where
 ok:a.Ok (200+3000*k)
 min:a.Min
 fit:a.Fit
 len:a.aZ.length=n
theorem newPrt_min (inc:Nat) (aZ:List Nat) (wi ti de:Nat):(dG inc aZ wi ti de).Min:=rfl
theorem PcI.new {inc wi ti de:Nat} {aZ:List Nat} (h:CfgOk (inc:Int) (aZ.map fun (x:Nat)=>(x:Int)) wi ti de):PcI aZ.length 0 (dG inc aZ wi ti de):=by
 have n1:=h.n1;have n4:=h.n4;have i1:=h.i1;have i2:=h.i2;have w1:=h.w1;have w2:=h.w2;have t1:=h.t1;have t2:=h.t2;have d1:=h.d1;have d2:=h.d2
 rw [List.length_map] at n1 n4
 exact ⟨newPrt_ok n1 n4 (fun x hx=>by have:=h.rm x (List.mem_map.2 ⟨x,hx,rfl⟩);omega) (by omega) (by omega) (by omega) (by omega) (by omega) (by omega) (by omega) (by omega),newPrt_min _ _ _ _ _,newPrt_fit _ _ _ _ _,rfl⟩
theorem PcI.restart {n k:Nat} {a:Prt} (h:PcI n k a) (c:Int):PcI n (k+1) (a.restart c).2:=by
 unfold Prt.restart
 split
 ·exact ⟨h.ok.mono (by omega),h.min,h.fit,h.len⟩
 ·rename_i hc
  have o:=h.ok
  obtain ⟨m,rfl⟩:∃m:Nat,c=(m:Int):=⟨c.toNat,by omega⟩
  rw [Int.toNat_natCast]
  exact ⟨(newPrt_ok o.n1 o.n4 o.rm (by have:=o.i1;omega) (by omega) o.w1 o.w2 o.t1 o.t2 o.d1 o.d2).mono (by omega),newPrt_min _ _ _ _ _,newPrt_fit _ _ _ _ _,h.len⟩
theorem PcI.act {n k:Nat} {a:Prt} (h:PcI n k a) {x:Pc} (hx:x.Small):PcI n (k+1) (x.act a):=by
 obtain ⟨s1,_,s3⟩:=hx
 unfold Pc.act
 split
 ·refine ⟨(h.ok.dQ _ _).mono (by omega),?_,h.fit.dQ _ _,?_⟩
  ·unfold Prt.dQ;split;exact h.min;split <;> exact h.min
  ·unfold Prt.dQ;split;exact h.len;split <;> exact h.len
 ·split
  ·obtain ⟨k1,_,k3⟩:=tick_keeps a x.arr
   exact ⟨(h.ok.cR fun y hy=>by have:=s3 y hy;omega).mono (by omega),k3 h.min,h.fit.cR h.ok _ fun y hy=>by have:=s3 y hy;omega,by rw [k1];exact h.len⟩
  ·split
   ·refine ⟨(h.ok.take _).mono (by omega),?_,h.fit.take h.ok _,?_⟩
    ·unfold Prt.take;split <;> exact h.min
    ·unfold Prt.take;split <;> exact h.len
   ·split
    ·exact h.restart _
    ·exact ⟨h.ok.mono (by omega),h.min,h.fit,h.len⟩
section
variable {F Z:BS} {W w:World} {ts:List Th} {p q N:Nat} {a b:Prt} {A B:Th}
theorem dY.flip (h:dY F Z W (A::B::ts) w):dY F Z W (B::A::ts) w:=dY.pickL (us:=[A,B]) (vs:=[B,A]) h [1,0] (by decide) rfl
theorem poffer_c (h:dY F Z W (bP p a::ts) w) (hok:a.Ok N) (hN:N<=1000000000) (c:Int) (dv:Value) (d:dV) (j:Nat) (hj:ts[j]? = some (tBy dv d)) :
  Calls Try.prog 8 #[.pointer (some ⟨p,0,none⟩),.int .i64 c,dv] w fun e w'=>e=.returned (.int .i64 ((a.dQ c d).1:Int))/\dY F Z W (bP p (a.dQ c d).2::ts) w':=by
 obtain ⟨_,_,hby⟩:=h.get (j+1) (T:=tBy dv d) (by simpa using hj)
 obtain ⟨da,dc,rfl⟩:=ByZ.slice hby
 have hdl:=(By.cases hby.1).1
 have n4:=hok.n4
 by_cases hr:c < 0\/(a.aZ.length:Int)<=c\/64 < d.length
 ·obtain ⟨x,hst⟩:=h.port'
  have hrow:=hst.blk 0 rfl
  have c1:=(aB hrow).2.1
  obtain ⟨_,_,hq⟩:=hst.get 1 rfl
  obtain ⟨u,kc,e⟩:=Sq.shape (show Sq dK 3 _ _ _ x.rv a.aZ from hq)
  rw [e] at c1
  refine (poffer_range c da d.length dc u kc n4 hdl hr c1).mono fun e w' ⟨h1,h2⟩=>?_
  subst h2
  have hf:a.dQ c d=(2,a):=if_pos (by
   rcases hr with hr|hr|hr
   ·exact .inl fun hh=>by have h:0<=c/\c < (a.aZ.length:Int):=hh;omega
   ·exact .inl fun hh=>by have h:0<=c/\c < (a.aZ.length:Int):=hh;omega
   ·exact .inr hr)
  rw [hf]
  exact ⟨h1,h⟩
 ·obtain ⟨m,rfl⟩:∃m:Nat,c=(m:Int):=⟨c.toNat,by omega⟩
  have hm:m < a.aZ.length:=by omega
  have hf:a.dQ (m:Int) d=if 64<=(a.aX.getD m []).length then (5,a) else (0,{ a with aX:=a.aX.set m (a.aX.getD m []++[d]) }):=
   if_neg fun hh=>hh.elim (fun g=>g (show 0<=(m:Int)/\(m:Int) < (a.aZ.length:Int) by omega)) (by omega)
  by_cases hq:64<=(a.aX.getD m []).length
  ·rw [if_pos hq] at hf
   rw [hf]
   refine (poffer_full h 0 rfl hok hN m hm da d.length dc (by omega) hq).mono fun e w' ⟨h1,h2⟩=>?_
   subst h2
   exact ⟨h1,h⟩
  ·rw [if_neg hq] at hf
   rw [hf]
   exact (poffer_yesT h 0 (j+1) rfl hok hN m hm _ d (reads_by _ d) (by simpa using hj) (by omega) (by omega) (by omega)).mono fun e w' h1=>h1
theorem rp_room (h:dY F Z W (tRp p a::ts) w):∃ra rc,w.cell? ⟨p,1,none⟩=some (.slice ra a.aZ.length rc):=by
 obtain ⟨x,hst⟩:=h.rp
 have c1:w.cell? ⟨p,1,none⟩=some x.rv:=aJ (hst.blk 0 rfl) rfl
 obtain ⟨_,_,hq⟩:=hst.get 1 rfl
 obtain ⟨u,kc,e,_⟩:=RdS.shape (show RdS dK _ _ x.rv a.aZ from hq)
 exact ⟨u,kc,by rw [c1,e]⟩
theorem roffer_c (h:dY F Z W (tRp p a::ts) w) (hok:a.Ok N) (hN:N<=1000000) (c:Int) (dv:Value) (d:dV) (j:Nat) (hj:ts[j]? = some (tBy dv d)) :
  Calls Try.prog 9 #[.pointer (some ⟨p,0,none⟩),.int .i64 c,dv] w fun e w'=>e=.returned (.int .i64 ((a.dQ c d).1:Int))/\dY F Z W (tRp p (a.dQ c d).2::ts) w':=by
 obtain ⟨_,_,hby⟩:=h.get (j+1) (T:=tBy dv d) (by simpa using hj)
 obtain ⟨da,dc,rfl⟩:=ByZ.slice hby
 have hdl:=(By.cases hby.1).1
 have n4:=hok.n4
 obtain ⟨ra,rc,c1⟩:=rp_room h
 by_cases hr:c < 0\/(a.aZ.length:Int)<=c\/64 < d.length
 ·refine (roffer_range c da d.length dc ra rc n4 hdl hr c1).mono fun e w' ⟨h1,h2⟩=>?_
  subst h2
  have hf:a.dQ c d=(2,a):=if_pos (by
   rcases hr with hr|hr|hr
   ·exact .inl fun hh=>by have h:0<=c/\c < (a.aZ.length:Int):=hh;omega
   ·exact .inl fun hh=>by have h:0<=c/\c < (a.aZ.length:Int):=hh;omega
   ·exact .inr hr)
  rw [hf]
  exact ⟨h1,h⟩
 ·obtain ⟨m,rfl⟩:∃m:Nat,c=(m:Int):=⟨c.toNat,by omega⟩
  have hm:m < a.aZ.length:=by omega
  have hf:a.dQ (m:Int) d=if 64<=(a.aX.getD m []).length then (5,a) else (0,{ a with aX:=a.aX.set m (a.aX.getD m []++[d]) }):=
   if_neg fun hh=>hh.elim (fun g=>g (show 0<=(m:Int)/\(m:Int) < (a.aZ.length:Int) by omega)) (by omega)
  by_cases hq:64<=(a.aX.getD m []).length
  ·rw [if_pos hq] at hf
   rw [hf]
   obtain ⟨x,hst⟩:=h.rp
   have c12:w.cell? ⟨p,12,none⟩=some x.wv:=aJ (hst.blk 0 rfl) rfl
   obtain ⟨_,_,hs⟩:=hst.get 2 rfl
   have hwl:=hok.wl
   obtain ⟨b1,o1,k1,e1,_⟩:=bR (show Sq (eSq eBy 27) 54 w _ _ x.wv a.aX from hs) (by have:=hok.n1;omega)
   rw [e1] at hs
   obtain ⟨v,A,hc,hsv,_⟩:=sqsq_at (show Sq (eSq eBy 27) 54 w _ _ (.slice (some ⟨b1,o1,none⟩) a.aX.length k1) a.aX from hs) (bT (d:=[]) (show m < a.aX.length by omega))
   obtain ⟨va,k2,ev⟩:=Sq.shape hsv
   rw [e1,hwl] at c12
   rw [ev] at hc
   have hln:=hok.wln _ (List.mem_of_getElem? (bT (d:=[]) (show m < a.aX.length by omega)))
   refine (roffer_full (p:=p) (w:=w) m a.aZ.length d.length dc _ k2 da ra va hm n4 (by omega) b1 o1 k1 rc c1 c12 hq (by omega) hc).mono fun e w' ⟨h1,h2⟩=>?_
   subst h2
   exact ⟨h1,h⟩
  ·rw [if_neg hq] at hf
   rw [hf]
   exact (roffer_yes h j hok m hm _ d (reads_by _ d) hj (by omega) (by omega)).mono fun e w' h1=>h1
theorem rtake_nil (h:dY F Z W (tRp p a::ts) w) (hok:a.Ok N) (c:Int) (hc:a.peek c=none) :
  Calls Try.prog 15 #[.pointer (some ⟨p,0,none⟩),.int .i64 c] w fun e w'=>e=.returned (.tuple #[.slice none 0 0,.bool false])/\w=w':=by
 obtain ⟨ra,rc,c1⟩:=rp_room h
 by_cases hr:c < 0\/(a.aZ.length:Int)<=c
 ·exact rtake_no c ra rc hr c1
 ·obtain ⟨m,rfl⟩:∃m:Nat,c=(m:Int):=⟨c.toNat,by omega⟩
  have hm:m < a.aZ.length:=by omega
  have hnil:a.aY.getD m []=[]:=by
   unfold Prt.peek at hc
   have hh:a.has (m:Int):=show 0<=(m:Int)/\(m:Int) < (a.aZ.length:Int) by omega
   rw [if_pos hh,Int.toNat_natCast] at hc
   cases hb:a.aY.getD m [] with
   |nil=>rfl
   |cons _ _=>rw [hb] at hc;cases hc
  obtain ⟨x,hst⟩:=h.rp
  have c13:w.cell? ⟨p,13,none⟩=some x.bv:=aJ (hst.blk 0 rfl) rfl
  obtain ⟨_,_,hs⟩:=hst.get 3 rfl
  have hbl:=hok.bl
  obtain ⟨b1,o1,k1,e1,_⟩:=bR (show Sq (eSq eBy 27) 54 w _ _ x.bv a.aY from hs) (by have:=hok.n1;omega)
  rw [e1] at hs
  obtain ⟨v,A,hcc,hsv,_⟩:=sqsq_at (show Sq (eSq eBy 27) 54 w _ _ (.slice (some ⟨b1,o1,none⟩) a.aY.length k1) a.aY from hs) (bT (d:=[]) (show m < a.aY.length by omega))
  rw [hnil] at hsv
  obtain ⟨va,k2,ev⟩:=Sq.shape hsv
  rw [e1,hbl] at c13
  rw [ev] at hcc
  exact rtake_none (p:=p) (w:=w) m a.aZ.length k2 ra va hm hok.n4 b1 o1 k1 rc c1 c13 hcc
theorem prestart_c (h:dY F Z W (bP p a::ts) w) (hok:a.Ok N) (c:Int) :
  Calls Try.prog 17 #[.pointer (some ⟨p,0,none⟩),.int .i64 c] w fun e w'=>e=.returned (.int .i64 ((a.restart c).1:Int))/\dY F Z W (bP p (a.restart c).2::ts) w':=by
 by_cases h1:c<=(a.inc:Int)
 ·have hf:a.restart c=(2,a):=if_pos (.inl h1)
  rw [hf]
  refine (restart_low h 0 rfl c h1).mono fun e w' ⟨h1,h2⟩=>?_
  subst h2
  exact ⟨h1,h⟩
 ·by_cases h2:1099511627775 < c
  ·have hf:a.restart c=(2,a):=if_pos (.inr h2)
   rw [hf]
   exact restart_high h 0 rfl hok c h2
  ·obtain ⟨m,rfl⟩:∃m:Nat,c=(m:Int):=⟨c.toNat,by omega⟩
   have hf:a.restart (m:Int)=(0,dG m a.aZ a.cA a.aN a.dead):=by
    unfold Prt.restart
    rw [if_neg (by omega),Int.toNat_natCast]
   rw [hf]
   exact restart_yes h 0 rfl hok m (by omega) (by omega)
theorem rrestart_c (h:dY F Z W (tRp p a::ts) w) (hok:a.Ok N) (c:Int) :
  Calls Try.prog 18 #[.pointer (some ⟨p,0,none⟩),.int .i64 c] w fun e w'=>∃q,e=.returned (.tuple #[.pointer (some ⟨q,0,none⟩),.int .i64 ((a.restart c).1:Int)])/\dY F Z W (tRp q (a.restart c).2::ts) w':=by
 by_cases h1:c<=(a.inc:Int)\/1099511627775 < c
 ·have hf:a.restart c=(2,a):=if_pos h1
  rw [hf]
  refine (rrestart_low c h1 h).mono fun e w' ⟨h1,h2⟩=>?_
  subst h2
  exact ⟨p,h1,h⟩
 ·obtain ⟨m,rfl⟩:∃m:Nat,c=(m:Int):=⟨c.toNat,by omega⟩
  have hf:a.restart (m:Int)=(0,dG m a.aZ a.cA a.aN a.dead):=by
   unfold Prt.restart
   rw [if_neg h1,Int.toNat_natCast]
  rw [hf]
  exact rrestart_yes m (by omega) (by omega) hok.n1 hok.n4 h
theorem rp_counts (h:dY F Z W (tRp p a::ts) w) (hok:a.Ok N) {m:Nat} (hm:m < a.aZ.length) :
  ∃b1 o1 k1 b2 o2 k2 b3 o3 k3,w.cell? ⟨p,30,none⟩=some (.slice (some ⟨b1,o1,none⟩) a.aZ.length k1)/\w.cell? ⟨p,31,none⟩=some (.slice (some ⟨b2,o2,none⟩) a.aZ.length k2)/\w.cell? ⟨p,32,none⟩=some (.slice (some ⟨b3,o3,none⟩) a.aZ.length k3) /\
   w.cell? ⟨b1,o1+m,none⟩=some (.int .i64 ((a.aG.getD m 0:Nat):Int))/\w.cell? ⟨b2,o2+m,none⟩=some (.int .i64 ((a.aW.getD m 0:Nat):Int))/\w.cell? ⟨b3,o3+m,none⟩=some (.int .i64 ((a.cF.getD m 0:Nat):Int)):=by
 have al:=hok.al;have rl:=hok.rl;have kl:=hok.kl
 obtain ⟨x,hst⟩:=h.rp
 have c1:w.cell? ⟨p,30,none⟩=some x.sv:=aJ (hst.blk 0 rfl) rfl
 have c2:w.cell? ⟨p,31,none⟩=some x.nv:=aJ (hst.blk 0 rfl) rfl
 have c3:w.cell? ⟨p,32,none⟩=some x.hv:=aJ (hst.blk 0 rfl) rfl
 obtain ⟨_,_,h1⟩:=hst.get 10 rfl
 obtain ⟨_,_,h2⟩:=hst.get 11 rfl
 obtain ⟨_,_,h3⟩:=hst.get 12 rfl
 obtain ⟨b1,o1,k1,e1,_⟩:=bR (show Sq dK 3 w _ _ x.sv a.aG from h1) (by omega)
 obtain ⟨b2,o2,k2,e2,_⟩:=bR (show Sq dK 3 w _ _ x.nv a.aW from h2) (by omega)
 obtain ⟨b3,o3,k3,e3,_⟩:=bR (show Sq dK 3 w _ _ x.hv a.cF from h3) (by omega)
 rw [e1] at c1 h1
 rw [e2] at c2 h2
 rw [e3] at c3 h3
 refine ⟨b1,o1,k1,b2,o2,k2,b3,o3,k3,by rw [c1,al],by rw [c2,rl],by rw [c3,kl],?_,?_,?_⟩
 ·exact rooms_nums (show Sq dK 3 w _ _ _ _ from h1) _ _ (bT (by omega))
 ·exact rooms_nums (show Sq dK 3 w _ _ _ _ from h2) _ _ (bT (by omega))
 ·exact rooms_nums (show Sq dK 3 w _ _ _ _ from h3) _ _ (bT (by omega))
end
end

section
open Go.RowKit
set_option maxRecDepth 100000
theorem five_cells {w:World} {b:Nat} {u0 u1 u2 u3 u4:Value} {T:TypeId} (h:w.heap[b]? = some (.cells #[u0,u1,u2,u3,u4] T)):w.cell? ⟨b,0,none⟩=some u0/\w.cell? ⟨b,1,none⟩=some u1/\w.cell? ⟨b,2,none⟩=some u2/\w.cell? ⟨b,3,none⟩=some u3/\w.cell? ⟨b,4,none⟩=some u4:=
 ⟨aJ h rfl,aJ h rfl,aJ h rfl,aJ h rfl,aJ h rfl⟩
def V8 (i d:Int):Prop:=1<=i/\i<=1099511627775/\1<=d/\d<=1000
instance (i d:Int):Decidable (V8 i d):=by unfold V8;infer_instance
def V7 (aZ:List Int):Prop:=1<=aZ.length/\aZ.length<=4/\∀x ∈ aZ,1<=x/\x<=64
instance (l:List Int):Decidable (V7 l):=by unfold V7;infer_instance
def V11 (i:Int) (aZ:List Int) (wi ti de:Int):Prop:=V8 i de/\V7 aZ/\1<=wi/\wi<=128/\1<=ti/\ti<=1000
instance (i:Int) (l:List Int) (a b c:Int):Decidable (V11 i l a b c):=by unfold V11;infer_instance
theorem V11.ok {i:Int} {l:List Int} {a b c:Int} (h:V11 i l a b c):CfgOk i l a b c:=by
 obtain ⟨⟨h1,h2,h3,h4⟩,⟨h5,h6,h7⟩,h8,h9,h10,h11⟩:=h
 exact ⟨h5,h6,h7,h1,h2,h8,h9,h10,h11,h3,h4⟩
theorem V11.of {i:Int} {l:List Int} {a b c:Int} (h:CfgOk i l a b c):V11 i l a b c:=⟨⟨h.i1,h.i2,h.d1,h.d2⟩,⟨h.n1,h.n4,h.rm⟩,h.w1,h.w2,h.t1,h.t2⟩
theorem valid08_c (i d:Int) (w:World):Calls Try.prog 28 #[.int .i64 i,.int .i64 d] w fun e w'=>e=.returned (.bool (decide (V8 i d)))/\w=w':=by
 have hc:i < 1\/(1<=i/\1099511627776<=i)\/(1<=i/\i < 1099511627776/\d < 1)\/(1<=i/\i < 1099511627776/\1<=d/\1000 < d)\/(1<=i/\i < 1099511627776/\1<=d/\d<=1000):=by omega
 rcases hc with h1|⟨h1,h2⟩|⟨h1,h2,h3⟩|⟨h1,h2,h3,h4⟩|⟨h1,h2,h3,h4⟩
 iterate 3
  focus
   have HD:=aQ (show decide (V8 i d)=false from decide_eq_false (by unfold V8;omega))
   go_enter Try.func28,Try.ntmps28
   go_wp2_with fail
   go_ret
   exact ⟨by rw [HD.out];rfl,rfl⟩
 focus
  have HD:=aQ (show decide (V8 i d)=false from decide_eq_false (by unfold V8;omega))
  have HE:=aQ (show decide (d<=1000)=false from decide_eq_false (by omega))
  go_enter Try.func28,Try.ntmps28
  go_wp2_with fail
  go_ret
  exact ⟨by rw [HD.out,HE.out];rfl,rfl⟩
 have HD:=aQ (show decide (V8 i d)=true from decide_eq_true (by unfold V8;omega))
 go_enter Try.func28,Try.ntmps28
 go_wp2_with fail
 go_ret
 exact ⟨by rw [HD.out];rfl,rfl⟩
theorem rooms07_c {aZ:List Int} {ra:Option Addr} {rc:Nat} (w:World) (hl:aZ.length<=9223372036854775807) (hr:Nums w ra aZ) :
  Calls Try.prog 29 #[.slice ra aZ.length rc] w fun e w'=>e=.returned (.bool (decide (V7 aZ)))/\w=w':=by
 by_cases hn:aZ.length < 1\/(1<=aZ.length/\4 < aZ.length)
 ·have HD:=aQ (show decide (V7 aZ)=false from decide_eq_false fun h=>by have:=h.1;have:=h.2.1;omega)
  clear hr
  rcases hn with h1|⟨h1,h2⟩
  all_goals
   go_enter Try.func29,Try.ntmps29
   go_wp2_with fail
   go_ret
   exact ⟨by rw [HD.out];rfl,rfl⟩
 ·have n1:1<=aZ.length:=by omega
  have n4:aZ.length<=4:=by omega
  have HR:=aQ hr
  clear hr hn
  go_enter Try.func29,Try.ntmps29
  go_wp2_with fail
  go_loop [3] (fun i=>∃k:Nat,k<=aZ.length/\i=.int .i64 (k:Int)/\Hid (∀x ∈ aZ.take k,1<=x/\x<=64)) (fun i=>aZ.length - (intOf i).toNat)
  case atStart=>exact ⟨0,Nat.zero_le _,rfl,aQ (by simp)⟩
  case round=>
   obtain ⟨k,hk,rfl,HK⟩:=hrel
   by_cases hlt:k < aZ.length
   ·have hx:aZ[k]? = some (aZ.getD k 0):=bT hlt
    obtain ⟨b,o,e,hc⟩:=HR.out k _ hx
    subst e
    have HM:=aQ (List.mem_of_getElem? hx)
    have HS:=aQ (show aZ.take (k+1)=aZ.take k++[aZ.getD k 0] by rw [List.take_add_one,hx];rfl)
    generalize aZ.getD k 0=x at *
    clear hx
    have hcc:x < 1\/(1<=x/\64 < x)\/(1<=x/\x<=64):=by omega
    rcases hcc with q|⟨q,q2⟩|⟨q,q2⟩
    iterate 2
     focus
      have HD:=aQ (show decide (V7 aZ)=false from decide_eq_false fun h=>by have:=h.2.2 x HM.out;omega)
      go_wp2_with fail
      go_ret
      exact ⟨by rw [HD.out];rfl,rfl⟩
    go_wp2_with fail
    go_round
    case rel=>exact ⟨k+1,by omega,by go_num,aQ (by
     rw [HS.out]
     intro y hy
     rcases List.mem_append.1 hy with hy|hy
     ·exact HK.out y hy
     ·obtain rfl:=List.mem_singleton.1 hy;exact ⟨q,q2⟩)⟩
    case measure=>simp [intOf];omega
   ·obtain rfl:aZ.length=k:=by omega
    have HD:=aQ (show decide (V7 aZ)=true from decide_eq_true ⟨n1,n4,by have:=HK.out;rwa [List.take_length] at this⟩)
    go_wp2_with fail
    go_ret
    exact ⟨by rw [HD.out];rfl,rfl⟩
theorem valid11_c {inc wi ti de:Int} {aZ:List Int} {ra:Option Addr} {rc:Nat} (w:World) (hl:aZ.length<=9223372036854775807) (hr:Nums w ra aZ) :
  Calls Try.prog 6 #[cfgV inc ra aZ.length rc wi ti de] w fun e w'=>e=.returned (.bool (decide (V11 inc aZ wi ti de)))/\Below w.heap.size w w':=by
 have hrow:=heap_alloc_new w (.cells #[.int .i64 inc,.slice ra aZ.length rc,.int .i64 wi,.int .i64 ti,.int .i64 de] 37)
 have HR:=aQ (rooms07_c (rc:=rc) (w.alloc (.cells #[.int .i64 inc,.slice ra aZ.length rc,.int .i64 wi,.int .i64 ti,.int .i64 de] 37)) hl (hr.below (aK w _)))
 have HB:=aQ (aK w (.cells #[.int .i64 inc,.slice ra aZ.length rc,.int .i64 wi,.int .i64 ti,.int .i64 de] 37))
 clear hr
 obtain ⟨c0,c1,c2,c3,c4⟩:=five_cells hrow
 clear hrow
 have hcc:¬V8 inc de\/(V8 inc de/\¬V7 aZ)\/(V8 inc de/\V7 aZ/\wi < 1)\/(V8 inc de/\V7 aZ/\1<=wi/\128 < wi)\/(V8 inc de/\V7 aZ/\1<=wi/\wi<=128/\ti < 1)\/(V8 inc de/\V7 aZ/\1<=wi/\wi<=128/\1<=ti/\1000 < ti)\/(V8 inc de/\V7 aZ/\1<=wi/\wi<=128/\1<=ti/\ti<=1000):=by
  by_cases a:V8 inc de
  ·by_cases b:V7 aZ
   ·have:wi < 1\/(1<=wi/\128 < wi)\/(1<=wi/\wi<=128/\ti < 1)\/(1<=wi/\wi<=128/\1<=ti/\1000 < ti)\/(1<=wi/\wi<=128/\1<=ti/\ti<=1000):=by omega
    rcases this with h|h|h|h|h
    ·exact .inr (.inr (.inl ⟨a,b,h⟩))
    ·exact .inr (.inr (.inr (.inl ⟨a,b,h⟩)))
    ·exact .inr (.inr (.inr (.inr (.inl ⟨a,b,h⟩))))
    ·exact .inr (.inr (.inr (.inr (.inr (.inl ⟨a,b,h⟩)))))
    ·exact .inr (.inr (.inr (.inr (.inr (.inr ⟨a,b,h⟩)))))
   ·exact .inr (.inl ⟨a,b⟩)
  ·exact .inl a
 have HV8:=aQ (valid08_c inc de (w.alloc (.cells #[.int .i64 inc,.slice ra aZ.length rc,.int .i64 wi,.int .i64 ti,.int .i64 de] 37)))
 have HD:Hid (∀(h:¬V11 inc aZ wi ti de),decide (V11 inc aZ wi ti de)=false):=aQ fun h=>decide_eq_false h
 rcases hcc with h8|⟨h8,h7⟩|⟨h8,h7,h1⟩|⟨h8,h7,h1,h2⟩|⟨h8,h7,h1,h2,h3⟩|⟨h8,h7,h1,h2,h3,h4⟩|⟨h8,h7,h1,h2,h3,h4⟩
 focus
  rw [decide_eq_false (fun (h:V11 inc aZ wi ti de)=>h8 h.1)]
  rw [decide_eq_false h8] at HV8
  clear h8 HD HR
  go_enter Try.func6,Try.ntmps6
  go_wp2_with (go_at_call 28;refine HV8.out.mono ?_;rintro e w1 ⟨rfl,rfl⟩)
  go_ret
  exact ⟨rfl,HB.out⟩
 focus
  rw [decide_eq_false (fun (h:V11 inc aZ wi ti de)=>h7 h.2.1)]
  rw [decide_eq_true h8] at HV8
  rw [decide_eq_false h7] at HR
  clear h8 h7 HD
  go_enter Try.func6,Try.ntmps6
  go_wp2_with (first|(go_at_call 28;refine HV8.out.mono ?_;rintro e w1 ⟨rfl,rfl⟩)|(go_at_call 29;refine HR.out.mono ?_;rintro e w1 ⟨rfl,rfl⟩))
  go_ret
  exact ⟨rfl,HB.out⟩
 iterate 4
  focus
   rw [decide_eq_false (fun (h:V11 inc aZ wi ti de)=>by have:=h.2.2;omega)]
   rw [decide_eq_true h8] at HV8
   rw [decide_eq_true h7] at HR
   have HE:Hid (1000 < ti->decide (ti<=1000)=false):=aQ fun _=>decide_eq_false (by omega)
   clear h8 h7 HD
   go_enter Try.func6,Try.ntmps6
   go_wp2_with (first|(go_at_call 28;refine HV8.out.mono ?_;rintro e w1 ⟨rfl,rfl⟩)|(go_at_call 29;refine HR.out.mono ?_;rintro e w1 ⟨rfl,rfl⟩))
   go_ret
   first
    |exact ⟨rfl,HB.out⟩
    |exact ⟨by rw [HE.out h4];rfl,HB.out⟩
 rw [decide_eq_true (show V11 inc aZ wi ti de from ⟨h8,h7,h1,h2,h3,h4⟩)]
 rw [decide_eq_true h8] at HV8
 rw [decide_eq_true h7] at HR
 clear h8 h7 HD
 go_enter Try.func6,Try.ntmps6
 go_wp2_with (first|(go_at_call 28;refine HV8.out.mono ?_;rintro e w1 ⟨rfl,rfl⟩)|(go_at_call 29;refine HR.out.mono ?_;rintro e w1 ⟨rfl,rfl⟩))
 go_ret
 exact ⟨rfl,HB.out⟩
end

section
open Go.RowKit
def strB (bs:List (BitVec 8)):ByteArray:=strOfNums (bs.map fun x=>U x)
theorem run_convert_by {w:World} {a:Option Addr} {n c:Nat} {bs:List (BitVec 8)} (h:By w (.slice a n c) bs):(convert 27 9 (.slice a n c)).run Try.prog w=.ok (.string (strB bs)) w:=by
 obtain ⟨_,⟨rfl,a',c',e,h1,h2⟩|⟨b,off,c',e,h0,h1,h2,h3⟩⟩:=h.cases
 ·obtain ⟨rfl,rfl,rfl⟩:a=a'/\n=0/\c=c':=by simpa using e
  cases a with
  |none=>exact run_convert_bytes_nil w _ _ Try.underlying27 Try.underlying5 _ _ _ Try.underlying9
  |some a=>
   rw [run_convert_bytes_string w _ _ _ _ _ _ Try.underlying27 Try.underlying5 Try.underlying9]
   have hl:(loadCells a 0).run Try.prog w=.ok (([]:List Int).map (Value.int .u8)).toArray w:=by
    simpa using run_loadCells_list (P:=Try.prog) w a [] (fun j v hj=>by simp at hj)
   rw [run_bytesToString w a 0 c [] hl]
   rfl
 ·obtain ⟨rfl,rfl,rfl⟩:a=some ⟨b,off,none⟩/\n=bs.length/\c=c':=by simpa using e
  refine run_convert_bytes_arg w _ _ Try.underlying27 Try.underlying5 b off _ _ (bs.map fun x=>U x) (by simp) (fun i hi=>?_) _ Try.underlying9
  rw [h3 i hi]
  simp [List.getD,List.getElem?_map,List.getElem?_eq_getElem hi]
set_option maxRecDepth 100000 in
theorem bytesEqual_refl {u v:Value} {bs:List (BitVec 8)} {w:World} (hu:By w u bs) (hv:By w v bs) :
  Calls Try.prog 16 #[u,v] w fun e w'=>e=.returned (.bool true)/\w=w':=by
 obtain ⟨a,ca,rfl⟩:∃a cap,u=.slice a bs.length cap:=by obtain ⟨_,a,cap,e,_⟩:=hu;exact ⟨a,cap,e⟩
 obtain ⟨b,cb,rfl⟩:∃a cap,v=.slice a bs.length cap:=by obtain ⟨_,a,cap,e,_⟩:=hv;exact ⟨a,cap,e⟩
 have h1:=run_convert_by hu
 have h2:=run_convert_by hv
 generalize strB bs=s at h1 h2
 have h3:(s.toList == s.toList)=true:=by simp
 clear hu hv
 go_enter Try.func16,Try.ntmps16
 go_wp2_with fail
 go_ret
 exact ⟨by simp,rfl⟩
end

end Go.Proofs.Ytbgjpfbcelkllaa
