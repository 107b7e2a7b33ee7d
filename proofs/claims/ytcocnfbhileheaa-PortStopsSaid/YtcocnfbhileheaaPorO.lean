/- A port in memory: Take. -/
import Derived.Test.YtcocnfbhileheaaPorN
namespace Go.Proofs.Ytcocnfbhileheaa
open Go.RowKit

theorem Held.putN {F Z : BS} {W w : World} {ts : List Th} {T : TypeId} {b off n cap : Nat} {xs : List Nat} (h : Held F Z W ts w) (i : Nat) (hi : ts[i]? = some (tSq eNat T (.slice (some ⟨b, off, none⟩) n cap) xs)) {c y : Nat} (hc : c < xs.length) {u : Int} (hu : u = (y : Int)) :
    Held F Z W (ts.set i (tSq eNat T (.slice (some ⟨b, off, none⟩) n cap) (xs.set c y))) (w.setCell ⟨b, off + c, none⟩ (.int .i64 u)) := by
  subst hu
  have := h.put pure_nat i hi (c := c) (j := 0) (a := xs.getD c 0) (a' := y) (u := .int .i64 (y : Int)) (getD_of hc) (by decide) rfl
  simpa [eNat] using this
section
variable {w : World} {F Z : BS} {W : World} {ts : List Th} {p : Nat} {a : Prt}
theorem take_no {N : Nat} (h : Held F Z W ts w) (i : Nat) (hi : ts[i]? = some (tPort p a)) (hok : a.Ok N) (c : Int) (hc : a.peek c = none) :
    Calls Try.prog 30 #[.pointer (some ⟨p, 0, none⟩), .int .i64 c] w fun e w' => e = .returned (.tuple #[.slice none 0 0, .bool false]) ∧ w = w' := by
  have HQ := Lib.hid (peek_no h i hi hok c hc)
  clear hc hi h hok
  go_enter Try.func30, Try.ntmps30
  go_wp2_with (go_at_call 29; refine HQ.out.mono ?_; rintro e w' ⟨rfl, rfl⟩)
  go_ret2
  exact ⟨rfl, rfl⟩
theorem take_nil (c : Int) : Calls Try.prog 30 #[.pointer none, .int .i64 c] w fun e w' => e = .returned (.tuple #[.slice none 0 0, .bool false]) ∧ w = w' := by
  have HQ := Lib.hid (peek_nil (w := w) c)
  go_enter Try.func30, Try.ntmps30
  go_wp2_with (go_at_call 29; refine HQ.out.mono ?_; rintro e w' ⟨rfl, rfl⟩)
  go_ret2
  exact ⟨rfl, rfl⟩
set_option maxRecDepth 100000 in
set_option maxHeartbeats 8000000 in
theorem take_yes {N : Nat} (h : Held F Z W ts w) (i : Nat) (hi : ts[i]? = some (tPort p a)) (hok : a.Ok N) (hN : N ≤ 1000000000) (m : Nat) (hm : m < a.rooms.length) (d : Bytes) (l : List Bytes) (hl : a.buffer.getD m [] = d :: l) :
    Calls Try.prog 30 #[.pointer (some ⟨p, 0, none⟩), .int .i64 (m : Int)] w fun e w' => ∃ v, e = .returned (.tuple #[v, .bool true]) ∧ Held F Z W (ts.set i (tPort p (a.take m).2) ++ [tBy v d]) w' := by
  obtain ⟨G, Y, hon, hd, _, _, hback⟩ := h.use i hi
  suffices hs : Calls Try.prog 30 #[.pointer (some ⟨p, 0, none⟩), .int .i64 (m : Int)] w fun e w' => ∃ v, e = .returned (.tuple #[v, .bool true]) ∧ Held G Y w [tPort p (a.take m).2, tBy v d] w' from
    hs.mono fun e w' ⟨v, he, hh⟩ => ⟨v, he, hback w' _ [tBy v d] hh.did⟩
  clear hback h hi
  have hP := Held.start1 hon hd
  have HQ := Lib.hid (peek_yes hP 0 rfl hok hN m hm d l hl)
  have HOK := Lib.hid hok
  have HL := Lib.hid hl
  have HTK := Lib.hid (show (a.take m).2 = { a with buffer := a.buffer.set m l, giv := a.giv.set m (a.giv.getD m ⟨0, 0, 0⟩).free, taken := a.taken.set m (a.taken.getD m 0 + 1) } by
    unfold Prt.take Prt.peek
    rw [if_pos (show a.has (m : Int) from ⟨by omega, by omega⟩)]
    simp only [Int.toNat_natCast, hl]; rfl)
  clear hP hd hon hok hl
  go_enter Try.func30, Try.ntmps30
  go_wp2_with fail
  refine HQ.out.mono ?_
  rintro e w1 ⟨v1, rfl, hh⟩
  obtain ⟨x, hst⟩ := Held.opens (show Held G Y w (tEx (portThs p a) :: [tBy v1 d]) w1 from hh)
  clear hh
  obtain ⟨rv, sp, ap, wv, bv, snp, rcp, tkp, gvp, bsv, kv, acv, rev, tav⟩ := x
  have hrow := hst.blk 0 rfl
  obtain ⟨_, _, _, _, _, _, _, _, c8, _⟩ := port_cells hrow
  have bl := HOK.out.bl; have n4 := HOK.out.n4; have kl := HOK.out.kl; have gl := HOK.out.gl
  obtain ⟨_, _, hb⟩ := hst.get 5 rfl
  obtain ⟨b1, o1, k1, e1, m1, m1'⟩ := sq_some (show Sq (eSq eBy 31) 48 w1 _ _ bv a.buffer from hb) (by omega)
  subst e1
  have hx := getD_of (d := []) (show m < a.buffer.length by omega)
  rw [HL.out] at hx
  have hbf := (Sq.free (show Sq (eSq eBy 31) 48 w1 _ _ (.slice (some ⟨b1, o1, none⟩) a.buffer.length k1) a.buffer from hb)).2.2.2
  obtain ⟨vc, hvc, ⟨_, _, hsq⟩, hinner⟩ := hst.inner 5 rfl hx
  obtain ⟨b2, o2, k2, rfl, m2, m2'⟩ := sq_some hsq (by simp)
  have HBACK := Lib.hid hinner
  clear hb hsq hinner hrow hst hx
  rw [show (d :: l).length = l.length + 1 from rfl] at hvc m2
  rw [bl] at c8 m1
  dsimp only at c8
  have h1l : (1 : Int) ≤ (l.length : Int) + 1 := by omega
  have HS2 := Lib.hid (HBACK.out (.slice (if k2 = 1 then some ⟨b2, o2, none⟩ else some ⟨b2, o2 + 1, none⟩) l.length (k2 - 1)) l fun G Y h => by
      obtain ⟨g, off, e, _, _, h'⟩ := h.drop (k := 1) (by decide) (by simp)
      obtain ⟨rfl, rfl⟩ : b2 = g ∧ o2 = off := by simpa using e
      simpa [eBy] using h')
  clear HBACK
  obtain ⟨na, hna⟩ : ∃ na, (if k2 = 1 then some (⟨b2, o2, none⟩ : Addr) else some ⟨b2, o2 + 1, none⟩) = na := ⟨_, rfl⟩
  have hsl1 : l.length + 1 - 1 = l.length := rfl
  have hm2 : ((l.length : Int) + 1) ≤ (k2 : Int) := by omega
  rw [hna] at HS2
  clear m2 hsl1
  go_wp2_with fail
  refine wp_region_still_tail 14 (by kernel_rfl) (by kernel_rfl) ?_
  simp only [List.take_succ_cons, List.take_zero, List.drop_succ_cons, List.drop_zero]
  change wpStill _ _ (World.drew _) (fun a' => wpList _ _ _ _ a' (World.drew _)) _ _
  repeat still_step
  refine wpStill_nil ?_
  clear hna
  go_upto_region 4 with fail
  have hs3 := HS2.out.drew
  generalize hw2 : World.drew _ = w2 at hs3 ⊢
  clear hw2 HS2 c8 hbf hvc h1l hm2 m2'
  have hrow := hs3.blk 0 rfl
  have c13 := (port_cells hrow).2.2.2.2.2.2.2.2.2.2.2.2.2.1
  have hg := getD_of (d := (⟨0, 0, 0⟩ : Giv)) (show m < a.giv.length by omega)
  have HQ2 := Lib.hid (freeG_h hs3 9 rfl (by omega) hg (by have := (HOK.out.giv _ (List.mem_of_getElem? hg)).2.2; omega))
  clear hrow hs3 hg
  go_wp2_with fail
  refine HQ2.out.mono ?_
  rintro e w3 ⟨⟨_, rfl⟩, hs4⟩
  clear HQ2 c13
  have HS4 := Lib.hid (show Held G Y w (portThs p { a with buffer := a.buffer.set m l, giv := a.giv.set m (a.giv.getD m ⟨0, 0, 0⟩).free } ⟨rv, sp, ap, wv, .slice (some ⟨b1, o1, none⟩) a.buffer.length k1, snp, rcp, tkp, gvp, bsv, kv, acv, rev, tav⟩ ++ [tBy v1 d]) w3 from hs4)
  clear hs4
  have hrow := HS4.out.blk 0 rfl
  have c18 := (port_cells hrow).2.2.2.2.2.2.2.2.2.2.2.2.2.2.2.2.2.2.1
  dsimp only at c18
  obtain ⟨_, _, hb⟩ := HS4.out.get 14 rfl
  obtain ⟨b3, o3, k3, e3, m3, m3'⟩ := sq_some (show Sq eNat 3 w3 _ _ tav a.taken from hb) (by omega)
  subst e3
  have hx3 := getD_of (d := 0) (show m < a.taken.length by omega)
  have ht3 := HOK.out.tan _ (List.mem_of_getElem? hx3)
  have hc3 := nat_cell hb hx3
  have hf3 := (Sq.free hb).2.2.2
  have HS5 := Lib.hid (HS4.out.putN (xs := a.taken) 14 rfl (c := m) (y := a.taken.getD m 0 + 1) (u := (a.taken.getD m 0 : Int) + 1) (by omega) (by omega))
  obtain ⟨z, hz⟩ : ∃ z, z = a.taken.getD m 0 := ⟨_, rfl⟩
  have HZ := Lib.hid hz
  rw [← hz] at ht3 hc3
  rw [kl] at c18
  clear hrow hb hx3 hz
  go_wp2_with fail
  go_ret2
  refine ⟨v1, rfl, ?_⟩
  rw [HTK.out]
  refine Held.shut (f := portThs p _) (i := ⟨rv, sp, ap, wv, .slice (some ⟨b1, o1, none⟩) a.buffer.length k1, snp, rcp, tkp, gvp, bsv, kv, acv, rev, .slice (some ⟨b3, o3, none⟩) a.taken.length k3⟩) (ts := [tBy v1 d]) ?_
  have hz := HZ.out
  subst hz
  exact HS5.out
end
end Go.Proofs.Ytcocnfbhileheaa
