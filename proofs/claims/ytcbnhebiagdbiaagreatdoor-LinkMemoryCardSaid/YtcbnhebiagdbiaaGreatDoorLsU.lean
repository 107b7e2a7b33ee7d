/- dV of one's own that are written. -/
import Derived.Test.YtcbnhebiagdbiaaGreatDoorPkI1
import Derived.Test.YtcbnhebiagdbiaaGreatDoorPkC1
namespace Go.Proofs.YtcbnhebiagdbiaaGreatDoor
set_option maxHeartbeats 64000000
section
open Go.RowKit
set_option maxRecDepth 100000
theorem wrap_inc (y:BitVec 8):IntKind.u8.wrap (U y+1)=U (y+1#8):=by
 rw [IntKind.wrap_u8]
 unfold U
 have h:=BitVec.toNat_add y 1#8
 rw [show (1#8).toNat=1 from rfl,show 2 ^ 8=256 from rfl] at h
 rw [h]
 omega
section
variable {F Z:BS} {W w:World} {ts:List Th}
theorem Sl.putU8 {K:BS} {g off n c:Nat} {bs:List (BitVec 8)} (h:Sl w K 5 1 (.slice (some ⟨g,off,none⟩) n c) bs.length (cu bs)) {j:Nat} (y:BitVec 8) :
  Sl (w.setCell ⟨g,off+j,none⟩ (.int .u8 (U y))) K 5 1 (.slice (some ⟨g,off,none⟩) n c) (bs.set j y).length (cu (bs.set j y))/\K g/\∃cur,w.heap[g]? = some (.cells cur 5 (0,0)):=by
 obtain ⟨_,⟨e,_⟩|⟨g',off',cap,cur,e,hF,hg,h1,h2,h3,h4⟩⟩:=h
 ·cases e
 ·obtain ⟨⟨rfl,rfl⟩,rfl,rfl⟩:(g=g'/\off=off')/\n=bs.length/\c=cap:=by simpa using e
  refine ⟨⟨by rw [cu_length,List.length_set,Nat.mul_one],.inr ⟨g,off,c,cur.setIfInBounds (off+j) (.int .u8 (U y)),by rw [List.length_set],hF,heap_setCell_same w g (off+j) cur _ _ hg,by rw [List.length_set];exact h1,h2,by rw [Array.size_setIfInBounds];exact h3,?_⟩⟩,hF,cur,hg⟩
  rw [List.length_set]
  rw [Nat.mul_one] at h4 ⊢
  have e1:(cur.setIfInBounds (off+j) (.int .u8 (U y))).toList.drop off=(cur.toList.drop off).set j (.int .u8 (U y)):=by
   rw [Array.toList_setIfInBounds,List.drop_set,if_neg (by omega)]
   congr 1
   omega
  rw [e1,List.take_set,h4]
  unfold cu
  rw [List.map_set]
theorem dY.putU8 (h:dY F Z W ts w) (i:Nat) {g off n c:Nat} {bs:List (BitVec 8)} (hi:ts[i]? = some (tSq eU8 5 (.slice (some ⟨g,off,none⟩) n c) bs)) (j:Nat) (y:BitVec 8) :
  dY F Z W (ts.set i (tSq eU8 5 (.slice (some ⟨g,off,none⟩) n c) (bs.set j y))) (w.setCell ⟨g,off+j,none⟩ (.int .u8 (U y))):=
 h.upd i hi fun G Y hon hd=>by
  obtain ⟨K,D,us,h1,h2,hK,h3,h4⟩:=(show Sq eU8 5 w G Y (.slice (some ⟨g,off,none⟩) n c) bs from hon)
  obtain rfl:=els_u8 h4
  obtain ⟨p1,p2,cur,p3⟩:=Sl.putU8 (j:=j) h3 y
  refine ⟨⟨K,fun _=>False,cu (bs.set j y),fun k hk=>h1 k (hk.imp id False.elim),fun _ _ f=>f,fun k hk=>?_,p1,els_cu _⟩,(Fr.refl G w).setCell (.inl (h1 g (.inl p2))) _⟩
  have:=hK k hk
  rw [World.size_setCell];exact this
theorem own_cells (h:dY F Z W ts w) (i:Nat) {v:Value} {bs:List (BitVec 8)} (hi:ts[i]? = some (tSq eU8 5 v bs)) {j:Nat} (hj:j < bs.length) :
  ∃g off c,v=.slice (some ⟨g,off,none⟩) bs.length c/\w.cell? ⟨g,off+j,none⟩=some (.int .u8 (U (bs.getD j 0)))/\(∀k,w.frozen? ⟨g,k,none⟩=false)/\bs.length<=c:=by
 obtain ⟨G,Y,hon⟩:=h.get i hi
 have hsq:=(show Sq eU8 5 w G Y v bs from hon)
 have hby:=sq_by8 hsq
 obtain ⟨K,D,us,h1,h2,hK,h3,h4⟩:=hsq
 obtain ⟨g,off,cap,e,_⟩:=h3.head (by omega)
 subst e
 obtain rfl:=els_u8 h4
 obtain ⟨_,_,cur,p3⟩:=Sl.putU8 (j:=j) h3 (0#8)
 obtain ⟨_,⟨hn,_⟩|⟨g',off',c',e,hc1,_,_,hc⟩⟩:=hby.cases
 ·rw [hn] at hj;simp at hj
 ·obtain ⟨⟨rfl,rfl⟩,rfl⟩:(g=g'/\off=off')/\cap=c':=by simpa using e
  exact ⟨g,off,cap,rfl,hc j hj,fun k=>aD p3 k,by omega⟩
end
end
end Go.Proofs.YtcbnhebiagdbiaaGreatDoor
