/- A port in memory: the sender that is held; acknowledge. -/
import Derived.Test.YtcocnfbhileheaaPorW
namespace Go.Proofs.Ytcocnfbhileheaa
open Go.RowKit

section
variable {F Z : BS} {W w : World} {ts : List Th} {p : Nat} {s : Snd}
theorem sack_h (h : Held F Z W ts w) (i : Nat) (hi : ts[i]? = some (tSnd p s)) (hok : s.Ok) (ht : s.total < 1000000000000) (n : Int) :
    Calls Try.prog 99 #[.pointer (some ⟨p, 0, none⟩), .int .i64 n] w fun e w' => e = .returned (.int .i64 ((s.ack n).1 : Int)) ∧ Held F Z W (ts.set i (tSnd p (s.ack n).2)) w' :=
  h.act i hi fun _ _ hd hon => (ack_o hon hok ht n).mono fun _ _ ⟨he, h1, h2⟩ => ⟨he, Did.same h2 (T := tSnd p (s.ack n).2) ((SnO.thing _ _).mono h1 fun _ h => h.1) hd⟩
theorem soffer_h (h : Held F Z W ts w) (i : Nat) (hi : ts[i]? = some (tSnd p s)) (hok : s.Ok) (v : Value) (d : Bytes) (hv : By w v d) :
    Calls Try.prog 85 #[.pointer (some ⟨p, 0, none⟩), v] w fun e w' => e = .returned (.int .i64 ((s.offer d).1 : Int)) ∧ Held F Z W (ts.set i (tSnd p (s.offer d).2)) w' :=
  h.act i hi fun _ _ _ hon => (offer_o hon hok v d hv).mono fun _ _ ⟨he, h1, h2⟩ => ⟨he, Did.one0 (T := tSnd p (s.offer d).2) h2 h1⟩
theorem stick_h (h : Held F Z W ts w) (i : Nat) (hi : ts[i]? = some (tSnd p s)) (hok : s.Ok) (ht : s.total < 1000000000000) :
    Calls Try.prog 51 #[.pointer (some ⟨p, 0, none⟩)] w fun e w' => ∃ v, e = .returned (.tuple #[.int .i64 ((s.tick.1.elim 0 (·.1) : Nat) : Int), v, .bool s.tick.1.isSome]) ∧ Held F Z W (ts.set i (tSnd p s.tick.2) ++ [tBy v (s.tick.1.elim [] (·.2))]) w' := by
  obtain ⟨G, Y, hon, hd, _, _, hb⟩ := h.use i hi
  refine (tick_o hon hok ht).mono fun e w' ⟨v, he, h1, h2, h3⟩ => ⟨v, he, hb w' _ [_] ⟨h3, fun k => (Y k ∧ k < w.heap.size) ∨ w.heap.size ≤ k, fun k hk => hk.imp (·.1) .inr, Star.two (G := fun k => G k ∧ k < w.heap.size) (H := fun _ => False) h2 ?_ (fun _ _ f => f) (fun k hk => ⟨.inl hk.1, ?_⟩) fun _ f => f.elim⟩⟩
  · exact ⟨h1.1, fun _ b hb => .inr (h1.2 b hb)⟩
  · rintro (⟨y, _⟩ | hl)
    · exact hd k hk.1 y
    · omega
theorem skept_h (h : Held F Z W ts w) (i : Nat) (hi : ts[i]? = some (tSnd p s)) :
    Calls Try.prog 81 #[.pointer (some ⟨p, 0, none⟩)] w fun e w' => e = .returned (.int .i64 (s.kept.length : Int)) ∧ w = w' := by
  obtain ⟨G, Y, hon⟩ := h.get i hi
  exact kept_o hon
theorem stotal_h (h : Held F Z W ts w) (i : Nat) (hi : ts[i]? = some (tSnd p s)) (hok : s.Ok) (ht : s.total < 1000000000000) :
    Calls Try.prog 86 #[.pointer (some ⟨p, 0, none⟩)] w fun e w' => e = .returned (.tuple #[.int .i64 ((s.acked : Int) + (s.kept.length : Int)), .int .i64 (s.acked : Int)]) ∧ Held F Z W ts w' := by
  obtain ⟨G, Y, hon⟩ := h.get i hi
  exact (total_o hon hok ht).mono fun e w' ⟨he, n, hn⟩ => ⟨he, by subst hn; exact h.drewN n⟩
end
theorem tally_length (l : List Nat) (ks : List (Nat × Bytes)) : (tally l ks).length = l.length := by
  unfold tally
  induction ks generalizing l with
  | nil => rfl
  | cons f ks ih => rw [List.foldl_cons, ih, List.length_set]
theorem tally_snoc (l : List Nat) {ks : List (Nat × Bytes)} {j : Nat} {f : Nat × Bytes} (hj : ks[j]? = some f) : tally l (ks.take (j + 1)) = (tally l (ks.take j)).set f.1 ((tally l (ks.take j)).getD f.1 0 + 1) := by
  unfold tally
  rw [List.take_add_one, hj, List.foldl_append]; rfl
theorem tally_le (ks : List (Nat × Bytes)) : ∀ {l : List Nat} {M : Nat}, (∀ x ∈ l, x ≤ M) → ∀ x ∈ tally l ks, x ≤ M + ks.length := by
  unfold tally
  induction ks with
  | nil => intro l M h x hx; exact h x hx
  | cons f ks ih =>
    intro l M h x hx
    rw [List.foldl_cons] at hx
    have := ih (l := l.set f.1 (l.getD f.1 0 + 1)) (M := M + 1) (fun y hy => by
      rcases List.mem_or_eq_of_mem_set hy with hy | rfl
      · have := h y hy; omega
      · rw [List.getD]
        cases hg : l[f.1]? with
        | none => simp
        | some z => have := h z (List.mem_of_getElem? hg); simp; omega) x hx
    rw [List.length_cons]; omega
theorem ack_le {s : Snd} (hok : s.Ok) (n : Int) : (s.ack n).1 ≤ s.kept.length := by
  unfold Snd.ack Snd.accept
  cases hc : s.count n with
  | none => exact Nat.zero_le _
  | some k => exact Nat.le_trans (count_le hc) hok.sent
theorem Prt.Ok.keptl {N : Nat} {p : Prt} (h : p.Ok N) : p.kept.length = p.snd.kept.length := by
  have h1 := congrArg List.length h.kept
  rwa [List.length_map] at h1
theorem sq_cut {α : Type} {E : El α} {T : TypeId} {w : World} {F Z : BS} {g off n c : Nat} {xs : List α} (h : Sq E T w F Z (.slice (some ⟨g, off, none⟩) n c) xs) {k : Nat} (hk : k ≤ xs.length) :
    Sq E T w F Z (.slice (if c = k then some ⟨g, off, none⟩ else some ⟨g, off + k * E.size, none⟩) (n - k) (c - k)) (xs.drop k) := by
  by_cases h0 : k = 0
  · subst h0
    simpa using h
  · obtain ⟨g', off', e, hn, _, h'⟩ := h.drop (by omega) hk
    obtain ⟨rfl, rfl⟩ : g = g' ∧ off = off' := by simpa using e
    rw [hn]; exact h'
set_option maxRecDepth 100000 in
set_option maxHeartbeats 16000000 in
theorem acknowledge_c {F Z : BS} {W w : World} {ts : List Th} {p N : Nat} {a : Prt} (x : Pt) (pa : Option Addr) (pn pc : Nat) (hok : a.Ok N) (hN : N ≤ 1000000000) (h : Held F Z W (tPort p a :: ts) w) :
    Calls Try.prog 75 #[.pointer (some ⟨p, 0, none⟩), ptV x (.slice pa pn pc)] w fun e w' => e = .returned (.tuple #[]) ∧ Held F Z W (tPort p (a.acknowledge x) :: ts) w' := by
  obtain ⟨y, hst⟩ := h.port'
  have h1 := (hst.new (ptCells x (.slice pa pn pc)))
  obtain ⟨rv, sp, ap, wv, bv, snp, rcp, tkp, gvp, bsv, kv, acv, rev, tav⟩ := y
  have H1 := Lib.hid (show Held F Z W (portThs p a ⟨rv, sp, ap, wv, bv, snp, rcp, tkp, gvp, bsv, kv, acv, rev, tav⟩ ++ (ts ++ [tBlk w.heap.size (ptCells x (.slice pa pn pc))])) (w.alloc (ptCells x (.slice pa pn pc))) by rw [← List.append_assoc]; exact h1)
  have hrow := h1.blk 0 rfl
  obtain ⟨_, _, _, _, _, _, _, _, _, _, c10, _⟩ := port_cells hrow
  obtain ⟨k0, k1, k2, k3, _⟩ := pt_cells (heap_alloc_new w (ptCells x (.slice pa pn pc)))
  have HOK := Lib.hid hok
  have n4 := hok.n4
  dsimp only at c10
  have HR := Lib.hid (sack_h H1.out.drew 6 rfl hok.snd (by have := hok.tot; omega) x.number)
  obtain ⟨k, hk⟩ : ∃ k, k = (a.snd.ack x.number).1 := ⟨_, rfl⟩
  have hkl := ack_le hok.snd x.number
  have hkk := hok.keptl
  have hkm := hok.snd.kept
  have hw2 := hok.snd.w2
  rw [← hkk] at hkl hkm
  rw [← hk] at HR hkl
  have HK := Lib.hid hk
  clear hst h1 hrow h hok hk hkk
  go_enter Try.func75, Try.ntmps75
  go_wp2_with fail
  generalize w.alloc (ptCells x (.slice pa pn pc)) = w1 at *
  refine wp_region_still_tail 6 (by kernel_rfl) (by kernel_rfl) ?_
  simp only [List.take_succ_cons, List.take_zero, List.drop_succ_cons, List.drop_zero]
  change wpStill _ _ (World.drew _) (fun a' => wpList _ _ _ _ a' (World.drew _)) _ _
  repeat still_step
  refine wpStill_nil ?_
  go_wp2_with fail
  refine HR.out.mono ?_
  rintro e w2 ⟨rfl, hh⟩
  obtain ⟨_, _, hkp⟩ := hh.get 11 rfl
  obtain ⟨ka, kc, e5, q1, q2, q3⟩ := Sq.le (show Sq eKept 134 w2 _ _ kv a.kept from hkp)
  subst e5
  obtain ⟨_, _, hac⟩ := hh.get 12 rfl
  obtain ⟨ab, ao, ac, e6, r1, r2⟩ := sq_some (show Sq eNat 3 w2 _ _ acv a.acked from hac) (by rw [HOK.out.al]; exact HOK.out.n1)
  subst e6
  have HH := Lib.hid (show Held F Z W (portThs p { a with snd := (a.snd.ack x.number).2 } ⟨rv, sp, ap, wv, bv, snp, rcp, tkp, gvp, bsv, .slice ka a.kept.length kc, .slice (some ⟨ab, ao, none⟩) a.acked.length ac, rev, tav⟩ ++ (ts ++ [tBlk w.heap.size (ptCells x (.slice pa pn pc))])) w2 from hh)
  have hrow := HH.out.blk 0 rfl
  have c15 := (port_cells hrow).2.2.2.2.2.2.2.2.2.2.2.2.2.2.2.1
  dsimp only at c15
  unfold maxLen at q2
  clear hkp hac hh HR H1 c10 k0 k1 k2 k3 hrow
  go_wp2_with fail
  go_loopw [21, 6] (fun i _ wr => ∃ j : Nat, j ≤ k ∧ i = .int .i64 (j : Int) ∧ Hid (Held F Z W (portThs p { a with snd := (a.snd.ack x.number).2, acked := tally a.acked (a.kept.take j), kept := a.kept } ⟨rv, sp, ap, wv, bv, snp, rcp, tkp, gvp, bsv, .slice ka a.kept.length kc, .slice (some ⟨ab, ao, none⟩) a.acked.length ac, rev, tav⟩ ++ (ts ++ [tBlk w.heap.size (ptCells x (.slice pa pn pc))])) wr)) (fun i _ _ => k - (intOf i).toNat)
  case atStart => exact ⟨0, Nat.zero_le _, rfl, HH⟩
  case round =>
    clear HH c15
    obtain ⟨j, hj, rfl, HJ⟩ := hrel
    by_cases hlt : j < k
    · obtain ⟨⟨fc, fd⟩, hx⟩ : ∃ f, a.kept[j]? = some f := ⟨_, List.getElem?_eq_getElem (by omega)⟩
      have hcl := HOK.out.kcl _ (List.mem_of_getElem? hx)
      obtain ⟨_, _, hkp⟩ := HJ.out.get 11 rfl
      obtain ⟨kb, ko, kcc, e5, _, _⟩ := sq_some (show Sq eKept 134 wr _ _ (.slice ka a.kept.length kc) a.kept from hkp) (by omega)
      obtain ⟨rfl, rfl⟩ : ka = some ⟨kb, ko, none⟩ ∧ kc = kcc := by simpa using e5
      obtain ⟨v, k0, k1, hby⟩ := kept_at hkp hx
      obtain ⟨va, vc, rfl⟩ := hby.slice
      obtain ⟨_, _, hac⟩ := HJ.out.get 12 rfl
      have hac' := show Sq eNat 3 wr _ _ (.slice (some ⟨ab, ao, none⟩) a.acked.length ac) (tally a.acked (a.kept.take j)) from hac
      have haf := (Sq.free hac').2.2.2
      have hal : (tally a.acked (a.kept.take j)).length = a.rooms.length := by rw [tally_length, HOK.out.al]
      dsimp only at hcl
      have hz := getD_of (d := 0) (show fc < (tally a.acked (a.kept.take j)).length by rw [hal]; exact hcl)
      have hzb := tally_le (a.kept.take j) HOK.out.acn _ (List.mem_of_getElem? hz)
      rw [List.length_take] at hzb
      have hzc := nat_cell hac' hz
      have hrow := HJ.out.blk 0 rfl
      have c16 := (port_cells hrow).2.2.2.2.2.2.2.2.2.2.2.2.2.2.2.2.1
      dsimp only at c16
      rw [HOK.out.al] at c16 r1
      have hbox := below_alloc wr (.cells #[.int .i64 (fc : Int), .slice va fd.length vc] 134)
      have hs := ((HJ.out.putN (xs := tally a.acked (a.kept.take j)) 12 rfl (c := fc) (y := (tally a.acked (a.kept.take j)).getD fc 0 + 1) (u := ((tally a.acked (a.kept.take j)).getD fc 0 : Int) + 1) (by rw [hal]; exact hcl) (by omega)).alloc (.cells #[.int .i64 (fc : Int), .slice va fd.length vc] 134)).drew
      have e9 := tally_snoc a.acked hx
      dsimp only at e9
      rw [← e9] at hs
      have HS := Lib.hid hs
      obtain ⟨z, hzz⟩ : ∃ z, z = (tally a.acked (a.kept.take j)).getD fc 0 := ⟨_, rfl⟩
      rw [← hzz] at hzb hzc HS
      have hp1 := lt_of_block hrow
      have ha1 := World.block_lt_of_cell? wr _ hzc
      dsimp only at ha1
      clear hkp hby e5 hx hac hac' hz hzz hrow hbox hs e9 hal
      have hw1 : IntKind.i64.wrap ((z : Int) + 1) = (z : Int) + 1 := IntWalk.i64_in _ (by omega)
      go_wp2_with fail
      refine wp_region_still_tail 10 (by kernel_rfl) (by kernel_rfl) ?_
      simp only [List.take_succ_cons, List.take_zero, List.drop_succ_cons, List.drop_zero]
      change wpStill _ _ (World.drew _) (fun a' => wpList _ _ _ _ a' (World.drew _)) _ _
      repeat still_step
      refine wpStill_nil ?_
      go_wp2_with fail
      go_roundw
      case rel => exact ⟨j + 1, by omega, by go_num, HS⟩
      case measure => simp [intOf]; omega
    · obtain rfl : k = j := by omega
      have HG := Lib.hid (show a.acknowledge x = { a with snd := (a.snd.ack x.number).2, acked := tally a.acked (a.kept.take k), kept := a.kept.drop k } by
        unfold Prt.acknowledge; rw [← HK.out])
      have hrow := HJ.out.blk 0 rfl
      have c15 := (port_cells hrow).2.2.2.2.2.2.2.2.2.2.2.2.2.2.2.1
      have cf := fun i => blk_free hrow i
      dsimp only at c15
      have HROW := Lib.hid hrow
      have HCUT := Lib.hid (fun (nv : Value) (hnv : ∀ G Y, Sq eKept 134 wr G Y (.slice ka a.kept.length kc) a.kept → Sq eKept 134 wr G Y nv (a.kept.drop k)) =>
        show Held F Z W (portThs p { a with snd := (a.snd.ack x.number).2, acked := tally a.acked (a.kept.take k), kept := a.kept.drop k } ⟨rv, sp, ap, wv, bv, snp, rcp, tkp, gvp, bsv, nv, .slice (some ⟨ab, ao, none⟩) a.acked.length ac, rev, tav⟩ ++ (ts ++ [tBlk w.heap.size (ptCells x (.slice pa pn pc))])) (wr.setCell ⟨p, 15, none⟩ nv) from by
          have h1 := HJ.out.upd 11 rfl (T' := tSq eKept 134 nv (a.kept.drop k)) (w' := wr) fun G Y hon _ => ⟨hnv G Y hon, Fr.refl _ _⟩
          exact h1.set 0 rfl (portRow { a with snd := (a.snd.ack x.number).2, acked := tally a.acked (a.kept.take k), kept := a.kept.drop k } ⟨rv, sp, ap, wv, bv, snp, rcp, tkp, gvp, bsv, nv, .slice (some ⟨ab, ao, none⟩) a.acked.length ac, rev, tav⟩) (w' := wr.setCell ⟨p, 15, none⟩ nv) (by (repeat (first | (with_reducible exact Fr.refl _ _) | exact Or.inl rfl | (with_reducible refine Fr.setCell ?_ ?_ _) | (with_reducible refine Fr.drewN ?_ _) | (with_reducible refine Fr.drew ?_)))) (by have hr := HROW.out; (apply row_trans; focus (repeat (first | (with_reducible exact hr) | (with_reducible apply row_set) | (with_reducible apply row_drewN) | (with_reducible apply row_drew)))); rfl))
      clear hrow
      have hki : (k : Int) ≤ (a.kept.length : Int) := by omega
      cases ka with
      | none =>
        obtain ⟨z1, z2⟩ := q3 rfl
        have hk0 : k = 0 := by omega
        subst hk0
        subst z2
        rw [z1] at c15
        have HS := Lib.hid (HCUT.out (.slice none 0 0) fun G Y _ => by
          rw [List.drop_zero, List.eq_nil_of_length_eq_zero z1]
          exact Sq.nil _ _ _ _ _)
        clear q3 HCUT
        go_wp2_with fail
        go_end0
        refine ⟨rfl, ?_⟩
        rw [HG.out]
        exact HS.out.dropLast.port_shut
      | some kad =>
        obtain ⟨kb, ko, rfl⟩ : ∃ kb ko, kad = ⟨kb, ko, none⟩ := by
          obtain ⟨_, _, K, D, us, _, _, _, ⟨_, ⟨h, _⟩ | ⟨g, off, cap, cur, e, _⟩⟩, _⟩ := HJ.out.get 11 rfl
          · cases h
          · obtain ⟨rfl, _⟩ : kad = ⟨g, off, none⟩ ∧ kc = cap := by simpa using e
            exact ⟨g, off, rfl⟩
        have HS := Lib.hid (HCUT.out (.slice (if kc = k then some ⟨kb, ko, none⟩ else some ⟨kb, ko + k * 2, none⟩) (a.kept.length - k) (kc - k)) fun G Y h => sq_cut h hkl)
        obtain ⟨na, hna⟩ : ∃ na, (if kc = k then some (⟨kb, ko, none⟩ : Addr) else some ⟨kb, ko + k * 2, none⟩) = na := ⟨_, rfl⟩
        rw [hna] at HS
        clear q3 HCUT
        go_wp2_with fail
        go_end0
        refine ⟨rfl, ?_⟩
        rw [HG.out]
        exact HS.out.dropLast.port_shut
end Go.Proofs.Ytcocnfbhileheaa
