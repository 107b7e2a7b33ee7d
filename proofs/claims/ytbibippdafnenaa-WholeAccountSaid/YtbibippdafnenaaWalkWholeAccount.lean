/- The walk of WholeAccount. -/
import Derived.Test.YtbibippdafnenaaWbH
import Derived.Test.YtbibippdafnenaaWbF
import Derived.Test.YtbibippdafnenaaWbG
import Derived.Test.YtbibippdafnenaaAwk
import Derived.Test.YtbibippdafnenaaHpf
import Derived.Test.YtbibippdafnenaaV16
import Derived.Test.YtbibippdafnenaaIntU
import Derived.Test.YtbibippdafnenaaWbI
import Derived.Test.YtbibippdafnenaaWbJ
import Derived.Test.YtbibippdafnenaaRgm
import Derived.Test.YtbibippdafnenaaStj
import Derived.Test.YtbibippdafnenaaWbD
import Derived.Test.YtbibippdafnenaaWbE
import Derived.Test.YtbibippdafnenaaWaY
import Derived.Test.YtbibippdafnenaaBig
import Derived.Deep.CutBlock
namespace Go.Proofs.Ytbibippdafnenaa
open Go.RowKit
set_option maxRecDepth 100000

abbrev rowZ (a b : Value) : Obj := .cells #[a, b, .slice none 0 0, .slice none 0 0, .slice none 0 0, .slice none 0 0, .slice none 0 0, .int .i64 0, .int .i64 0] 35
theorem rowZ_cells {w : World} {p : Nat} {a b : Value} (h : w.heap[p]? = some (rowZ a b)) : w.cell? ⟨p, 0, none⟩ = some a ∧ w.cell? ⟨p, 1, none⟩ = some b := ⟨blk_cell h rfl, blk_cell h rfl⟩
def lnsT (l : List (Nat × Ln)) : List Th := l.map fun q => tLn q.1 q.2
/-- what the law holds besides its lines -/
abbrev acThs (fa : Option Addr) (fc : Nat) (fs : List Nat) (b8 lp : Nat) (L : Led) (ar n : Nat) (l : List (Nat × Ln)) : List Th :=
  [tRd eU16 (.slice fa fs.length fc) fs, tBlk b8 (bxL lp), tLed lp L, tSq ePo 27 (.slice (some ⟨ar, 0, none⟩) n n) (l.map (fun q : Nat × Ln => some q.1) ++ List.replicate (n - l.length) none)]
/-- the slots that the law's second loop keeps, and those of a round -/
def SlB (f : Nat → Value) (n b8 ar fb fo m fc tk : Nat) : Prop := f 7 = .int .i64 (n : Int) ∧ f 8 = .pointer (some ⟨b8, 0, none⟩) ∧ f 9 = .slice (some ⟨ar, 0, none⟩) n n ∧ f 100 = .slice (some ⟨fb, fo, none⟩) m fc ∧ f 101 = .int .i64 (m : Int) ∧ f 102 = .int .i64 (tk : Int)
def SlC (f : Nat → Value) (bt bc p : Nat) : Prop := f 12 = .pointer (some ⟨bt, 0, none⟩) ∧ f 14 = .pointer (some ⟨bc, 0, none⟩) ∧ f 15 = .pointer (some ⟨p, 0, none⟩)
def SlD (f : Nat → Value) (kk b8 bt bc r : Nat) : Prop := f 16 = .int .i64 (kk : Int) ∧ f 17 = .func (Fn.func 8) #[] #[.pointer (some ⟨b8, 0, none⟩), .pointer (some ⟨bt, 0, none⟩), .pointer (some ⟨bc, 0, none⟩)] ∧ f 121 = .int .u16 (r : Int)
abbrev akO (a b : Nat) : Obj := .cells #[.int .i64 (a : Int), .int .i64 (b : Int)] 58
abbrev blO (b : Bool) : Obj := .cells #[.bool b] 4
/-- what a step leaves as it is -/
abbrev kpThs (fa : Option Addr) (fc : Nat) (fs : List Nat) (ar n : Nat) (l l1 l2 : List (Nat × Ln)) : List Th :=
  tRd eU16 (.slice fa fs.length fc) fs :: tSq ePo 27 (.slice (some ⟨ar, 0, none⟩) n n) (l.map (fun q => some q.1) ++ List.replicate (n - l.length) none) :: (lnsT l1 ++ lnsT l2)
theorem split_at {α : Type} : ∀ {l : List α} {c : Nat} {q : α}, l[c]? = some q → ∃ l1 l2, l = l1 ++ q :: l2 ∧ l1.length = c
  | [], _, _, h => by simp at h
  | x :: l, 0, q, h => ⟨[], l, by simpa using h, rfl⟩
  | x :: l, c + 1, q, h => by
    obtain ⟨l1, l2, e, h1⟩ := split_at (l := l) (c := c) (by simpa using h)
    exact ⟨x :: l1, l2, by rw [e]; rfl, by rw [List.length_cons, h1]⟩
theorem toFront {F Z : BS} {W w : World} {P Q : Th} {fa : Option Addr} {fc : Nat} {fs : List Nat} {b8 lp ar n p : Nat} {L : Led} {x : Ln} {l1 l2 : List (Nat × Ln)}
    (h : Held F Z W (P :: Q :: (acThs fa fc fs b8 lp L ar n (l1 ++ (p, x) :: l2) ++ lnsT (l1 ++ (p, x) :: l2))) w) : Held F Z W (tLn p x :: tLed lp L :: tBlk b8 (bxL lp) :: Q :: P :: kpThs fa fc fs ar n (l1 ++ (p, x) :: l2) l1 l2) w := by
  unfold lnsT at h
  rw [List.map_append, List.map_cons] at h
  have h1 := Held.lift (A := P :: Q :: (acThs fa fc fs b8 lp L ar n (l1 ++ (p, x) :: l2) ++ lnsT l1)) (T := tLn p x) (B := lnsT l2) (by rw [List.cons_append, List.cons_append, List.append_assoc]; exact h)
  exact Held.pickL (us := [_, _, _, _, _, _, _]) (vs := [_, _, _, _, _, _, _]) (ts := lnsT l1 ++ lnsT l2) h1 [0, 5, 4, 2, 1, 3, 6] (by decide) rfl
theorem fromFront {F Z : BS} {W w : World} {P Q : Th} {fa : Option Addr} {fc : Nat} {fs : List Nat} {b8 lp ar n p : Nat} {L : Led} {x : Ln} (y : Ln) {l1 l2 : List (Nat × Ln)}
    (h : Held F Z W (tLn p y :: tLed lp L :: tBlk b8 (bxL lp) :: Q :: P :: kpThs fa fc fs ar n (l1 ++ (p, x) :: l2) l1 l2) w) : Held F Z W (acThs fa fc fs b8 lp L ar n (l1 ++ (p, y) :: l2) ++ lnsT (l1 ++ (p, y) :: l2)) w := by
  have h1 := Held.pickL (us := [_, _, _, _, _, _, _]) (vs := tLn p y :: acThs fa fc fs b8 lp L ar n (l1 ++ (p, x) :: l2)) (ts := lnsT l1 ++ lnsT l2) h [0, 5, 2, 1, 6] (by decide) rfl
  have h2 := Held.sink (A := acThs fa fc fs b8 lp L ar n (l1 ++ (p, x) :: l2) ++ lnsT l1) (B := lnsT l2) (by rw [List.append_assoc]; exact h1)
  unfold lnsT at h2 ⊢
  rw [List.map_append, List.map_cons, ← List.append_assoc]
  have e1 : (l1 ++ (p, y) :: l2).map (fun q => some q.1) = (l1 ++ (p, x) :: l2).map (fun q => some q.1) := by simp
  have e2 : (l1 ++ (p, y) :: l2).length = (l1 ++ (p, x) :: l2).length := by simp
  unfold acThs at h2 ⊢
  rw [e1, e2]; exact h2
set_option maxHeartbeats 64000000 in
theorem walkWholeAccount (W : World) (v0 v1 v2 : Value) (o0 : IsInt .u8 v0) (o1 : IsInt .u8 v1) (o2 : IsSl r16 W v2) :
    Calls Try.prog 3 #[v0, v1, v2] W fun e w' => e = .returned (.bool true) ∧ Below W.heap.size W w' := by
  obtain ⟨st, rfl, hst⟩ := int_u8' o0
  obtain ⟨wi, rfl, hwi⟩ := int_u8' o1
  obtain ⟨fs, hf⟩ := u16s_of o2
  obtain ⟨fa, fc, rfl, hfc, hfm⟩ := hf.shape
  have hmax2 : fs.length ≤ maxLen := Nat.le_trans hfc hfm
  have HS := Lib.hid ((Held.start0 (fun _ => False) (Old W) (fun _ f _ => f) W).addOld (T := tRd eU16 (.slice fa fs.length fc) fs) (RdS.mono hf fun k h => ⟨h, id⟩))
  clear hf hfc hfm
  go_enter Try.func3, Try.ntmps3
  go_upto_region 3 with (go_at_call 4; refine (awakeT_c _).mono ?_; rintro e w1 ⟨rfl, hb⟩; have H1 := Lib.hid (HS.out.own hb); clear hb HS)
  by_cases hbig : 150 < fs.length
  · go_wp2_with fail
    go_ret
    exact ⟨rfl, H1.out.below⟩
  have hbig' : fs.length ≤ 150 := by omega
  clear hbig
  go_upto_region 6 with fail
  obtain ⟨n, hn⟩ : ∃ n : Nat, n = 1 + st % 4 := ⟨_, rfl⟩
  have hn4 : 1 ≤ n ∧ n ≤ 4 := by omega
  rw [show (1 : Int) + (st : Int) % 4 = (n : Int) by omega]
  clear hn hst o0 o1 o2
  go_upto_region 7 with (go_at_call 5; refine (newA_c w1).mono ?_; rintro e w2 ⟨lp, rfl, hm⟩; have H2 := Lib.hid ((H1.out.made hm).new (bxL lp)); clear hm H1)
  go_upto_region 8 with (at_make; refine wpList_mkH (E := ePo) slPo rfl (u := .pointer none) (a0 := none) (fun _ _ => rfl) rfl _ _ rfl n rfl rfl (by omega) (by unfold maxLen; omega) ?_; intro w3 hb3 hs3; have H3 := Lib.hid (H2.out.add hb3 (T := tSq ePo 27 (.slice (some ⟨_, 0, none⟩) n n) (List.replicate n none)) hs3); clear hb3 hs3)
  obtain ⟨b8, hb8⟩ : ∃ b8, b8 = w2.heap.size := ⟨_, rfl⟩
  obtain ⟨ar, har⟩ : ∃ ar, ar = w2.heap.size + 1 := ⟨_, rfl⟩
  have H4 := Lib.hid (show Held (fun _ => False) (Old W) W (acThs fa fc fs b8 lp Led.new ar n [] ++ lnsT []) w3 from (by have h := H3.out; rw [World.size_alloc, ← har, ← hb8] at h; exact h.pick [0, 2, 1, 3] _ (by simp) (by simp [acThs, lnsT])))
  rw [← har, ← hb8]
  clear H2 H3 hb8 har
  go_wp2_with fail
  obtain ⟨A, hA⟩ : ∃ A : Nat, A = 1 + wi % 16 := ⟨_, rfl⟩
  obtain ⟨B, hB⟩ : ∃ B : Nat, B = 1 + wi / 16 % 16 := ⟨_, rfl⟩
  have HA := Lib.hid hA
  have HB := Lib.hid hB
  clear hA hB
  go_loopw [55] (fun u wr => ∃ (i : Nat) (l : List (Nat × Ln)), l.length = i ∧ i ≤ n ∧ Hid (∀ q ∈ l, q.2 = Ln.new A B) ∧ u = .int .i64 (i : Int) ∧ Hid (Held (fun _ => False) (Old W) W (acThs fa fc fs b8 lp Led.new ar n l ++ lnsT l) wr)) (fun u _ => n - (intOf u).toNat)
  case atStart => exact ⟨0, [], rfl, Nat.zero_le _, Lib.hid (fun q hq => by cases hq), rfl, H4⟩
  case round =>
    clear H4
    obtain ⟨i, l, hl, hi, HQ, rfl, HK⟩ := hrel
    have HL := Lib.hid hl
    clear hl
    by_cases hin : i < n
    · go_upto_region 12 with fail
      have HK1 := Lib.hid (HK.out.new (rowZ (.pointer none) (.pointer none))).front
      have e1 : (1 : Int) + (wi : Int) % 16 = (A : Int) := by have := HA.out; omega
      have e2 : (1 : Int) + (wi : Int) / 16 % 16 = (B : Int) := by have := HB.out; omega
      have ha1 : 1 ≤ A ∧ A ≤ 16 := by have := HA.out; omega
      have hb1 : 1 ≤ B ∧ B ≤ 16 := by have := HB.out; omega
      go_upto_region 13 with (go_at_call 6; refine (newW_c A ha1.1 (by omega) _).mono ?_; rintro e w4 ⟨wp, rfl, hm⟩; have H4 := Lib.hid (HK1.out.made hm).front; clear hm HK HK1; have hrow := H4.out.blk 1 rfl; have hup := blk_free hrow; obtain ⟨c0, c1⟩ := rowZ_cells hrow)
      have H5 := Lib.hid (H4.out.set 1 rfl (rowZ (.pointer (some ⟨wp, 0, none⟩)) (.pointer none)) ((Fr.refl (fun k => k = wr.heap.size) w4).setCell (p := ⟨wr.heap.size, 0, none⟩) (.inl rfl) (.pointer (some ⟨wp, 0, none⟩))) (by (apply row_trans; focus (repeat (first | (with_reducible exact hrow) | (with_reducible apply row_set) | (with_reducible apply row_drewN) | (with_reducible apply row_drew) | (with_reducible apply row_alloc) | (apply row_set_other (by first | omega | (simp <;> omega)))))); rfl))
      clear H4 hrow hup c0 c1
      go_upto_region 14 with (go_at_call 7; refine (newR_c B hb1.1 (by omega) _).mono ?_; rintro e w6 ⟨rp, rfl, hm⟩; have H6 := Lib.hid (H5.out.made hm).front; clear hm H5; have hrow := H6.out.blk 2 rfl; have hup := blk_free hrow; obtain ⟨c0, c1⟩ := rowZ_cells hrow)
      have H7 := Lib.hid (H6.out.set 2 rfl (rowZ (.pointer (some ⟨wp, 0, none⟩)) (.pointer (some ⟨rp, 0, none⟩))) ((Fr.refl (fun k => k = wr.heap.size) w6).setCell (p := ⟨wr.heap.size, 1, none⟩) (.inl rfl) (.pointer (some ⟨rp, 0, none⟩))) (by (apply row_trans; focus (repeat (first | (with_reducible exact hrow) | (with_reducible apply row_set) | (with_reducible apply row_drewN) | (with_reducible apply row_drew) | (with_reducible apply row_alloc) | (apply row_set_other (by first | omega | (simp <;> omega)))))); rfl))
      clear H6 hrow hup c0 c1
      generalize w6.setCell ⟨wr.heap.size, 1, none⟩ (.pointer (some ⟨rp, 0, none⟩)) = w7 at H7 ⊢
      obtain ⟨p, hp⟩ : ∃ p, p = wr.heap.size := ⟨_, rfl⟩
      rw [← hp] at H7 ⊢
      clear hp
      obtain ⟨c0, c1⟩ := rowZ_cells (H7.out.blk 2 rfl)
      go_upto_region 16 with fail
      clear c0 c1
      have nl : ∀ {α : Type} (E : El α) (T : TypeId) {ts : List Th}, Held (fun _ => False) (Old W) W ts w7 → Held (fun _ => False) (Old W) W (tSq E T (.slice none 0 0) [] :: ts) w7 := fun E T _ h => (h.add (Below.refl _ _) (T := tSq E T (.slice none 0 0) []) (Sq.nil _ _ _ _ _)).front
      have H8 := Lib.hid (show Held (fun _ => False) (Old W) W (tLn p (Ln.new A B) :: (acThs fa fc fs b8 lp Led.new ar n l ++ lnsT l)) w7 from
        Held.shut (f := lnThs p (Ln.new A B)) (i := ⟨wp, rp, .slice none 0 0, .slice none 0 0, .slice none 0 0, .slice none 0 0, .slice none 0 0⟩)
          (Held.lift (A := [_, _, _, _, _, _, _]) (Held.lift (A := [_, _, _, _, _, _]) (Held.lift (A := [_, _, _, _, _]) (nl _ _ (nl _ _ (nl _ _ (nl _ _ (nl _ _ H7.out)))))))))
      clear H7 nl
      obtain ⟨_, _, hsq⟩ := H8.out.get 4 rfl
      obtain ⟨-, -, -, hup⟩ := Sq.free hsq
      have hget : (l.map (fun q : Nat × Ln => some q.1) ++ List.replicate (n - l.length) none)[i]? = some none := by
        have := HL.out
        rw [List.getElem?_append_right (by rw [List.length_map]; omega), List.length_map, List.getElem?_replicate, if_pos (by omega)]
      have ci : w7.cell? ⟨ar, i, none⟩ = some (.pointer none) := by have := po_cell hsq hget; rwa [Nat.zero_add] at this
      have hup := hup i
      clear hsq hget e1 e2
      have H9 := Lib.hid (H8.out.putP 4 rfl (c := i) (some p) (by have := HL.out; rw [List.length_append, List.length_map, List.length_replicate]; omega))
      have hset : (l.map (fun q : Nat × Ln => some q.1) ++ List.replicate (n - l.length) none).set i (some p) = (l ++ [(p, Ln.new A B)]).map (fun q : Nat × Ln => some q.1) ++ List.replicate (n - (l ++ [(p, Ln.new A B)]).length) none := by
        have h1 : i = (l.map (fun q : Nat × Ln => some q.1)).length := by rw [List.length_map]; exact HL.out.symm
        obtain ⟨m, hm⟩ : ∃ m, n - l.length = m + 1 := ⟨n - l.length - 1, by have := HL.out; omega⟩
        have hm2 : n - (l ++ [(p, Ln.new A B)]).length = m := by rw [List.length_append, List.length_singleton]; omega
        rw [hm, hm2, List.replicate_succ, h1, List.set_append_right _ _ (Nat.le_refl _), Nat.sub_self, List.set_cons_zero, List.map_append, List.map_singleton, List.append_assoc]; rfl
      have H10 := Lib.hid (show Held (fun _ => False) (Old W) W (acThs fa fc fs b8 lp Led.new ar n (l ++ [(p, Ln.new A B)]) ++ lnsT (l ++ [(p, Ln.new A B)])) (w7.setCell ⟨ar, 0 + i, none⟩ (.pointer (some ⟨p, 0, none⟩))) from by
        have h := H9.out
        rw [hset] at h
        have h2 := Held.sink (A := acThs fa fc fs b8 lp Led.new ar n (l ++ [(p, Ln.new A B)]) ++ lnsT l) (B := []) (by rw [List.append_nil]; exact h)
        unfold lnsT at h2 ⊢
        rw [List.map_append, ← List.append_assoc]; exact h2)
      clear H9 H8 hset ha1 hb1
      rw [Nat.zero_add] at H10
      go_wp2_with fail
      go_roundw
      case rel => exact ⟨i + 1, l ++ [(p, Ln.new A B)], by have := HL.out; simp; omega, by omega, Lib.hid (fun q hq => (List.mem_append.1 hq).elim (HQ.out q) fun h => by rw [List.mem_singleton.1 h]), by go_num, H10⟩
      case measure => simp [intOf]; omega
    · obtain rfl : n = i := by omega
      have HA0 := Lib.hid (show Acc (l.map (·.2)) [] 0 from by
        have h1 : l.map (·.2) = List.replicate n (Ln.new A B) := List.eq_replicate_iff.2 ⟨by rw [List.length_map]; exact HL.out, fun b hb => by obtain ⟨q, hq, rfl⟩ := List.mem_map.1 hb; exact HQ.out q hq⟩
        have := HA.out; have := HB.out
        rw [h1]; exact Acc.new n A B (by omega) (by omega))
      go_upto_region 19 with fail
      refine wp_loop_ghost_k (fun g a' w' => ∃ f : Nat → Value, a' = ⟨(frB f).toArray, []⟩ ∧ f 7 = .int .i64 (n : Int) ∧ f 8 = .pointer (some ⟨b8, 0, none⟩) ∧ f 9 = .slice (some ⟨ar, 0, none⟩) n n ∧ f 100 = .slice fa fs.length fc ∧ f 101 = .int .i64 (fs.length : Int) ∧
        ∃ (tk : Nat) (l : List (Nat × Ln)) (es : List Ent), tk + g = fs.length ∧ f 102 = .int .i64 (tk : Int) ∧ Hid (l.length = n) ∧ Hid (Acc (l.map (·.2)) es tk) ∧ Hid (Held (fun _ => False) (Old W) W (acThs fa fc fs b8 lp (Led.run es) ar n l ++ lnsT l) w')) fs.length ?_ ?_
      · exact ⟨_, frB_of (by kernel_rfl), rfl, rfl, rfl, rfl, rfl, 0, l, [], Nat.zero_add _, rfl, HL, HA0, HK⟩
      · clear HA0 HK HQ HL
        intro gk a' wr hI J KK hJ hK
        obtain ⟨f, rfl, e7, e8, e9, e100, e101, tk, l, es, htk, e102, HL, HC, HK⟩ := hI
        simp only [frB, e7, e8, e9, e100, e101, e102]
        clear e7 e8 e9 e100 e101 e102
        have HTK := Lib.hid htk
        clear htk
        by_cases hlt : tk < fs.length
        · obtain ⟨a, ha⟩ : ∃ a, fs[tk]? = some a := ⟨fs[tk], List.getElem?_eq_getElem hlt⟩
          obtain ⟨_, _, hrd⟩ := HK.out.get 0 rfl
          obtain ⟨fb, fo, _, rfl, _, ⟨rfl, hl16⟩, q1⟩ := RdS.at (show RdS eU16 wr _ (.slice fa fs.length fc) fs from hrd) (by decide) ha
          replace q1 := q1 0 _ rfl
          simp only [eU16, Nat.mul_one, Nat.add_zero] at q1
          clear hrd ha
          go_upto_region 21 with fail
          have H1 := Lib.hid (HK.out.new (bxI tk)).front
          obtain ⟨c, hc⟩ : ∃ c, c = a % n := ⟨_, rfl⟩
          have hcn : c < n := by rw [hc]; exact Nat.mod_lt _ (by omega)
          have e1 : (a : Int).tmod (n : Int) = (c : Int) := by rw [hc, Int.tmod_eq_emod_of_nonneg (by omega)]; rfl
          have e2 : (a : Int) % (n : Int) = (c : Int) := by rw [hc]; rfl
          clear hc q1
          go_upto_region 22 with fail
          have H2 := Lib.hid (H1.out.new (bxI c)).front
          clear H1 HK
          rw [World.size_alloc] at H2
          obtain ⟨bt, hbt⟩ : ∃ bt, bt = wr.heap.size := ⟨_, rfl⟩
          obtain ⟨bc, hbc⟩ : ∃ bc, bc = wr.heap.size + 1 := ⟨_, rfl⟩
          obtain ⟨w2, hw2⟩ : ∃ w2, w2 = (wr.alloc (bxI tk)).alloc (bxI c) := ⟨_, rfl⟩
          rw [← hbc, ← hbt, ← hw2] at H2
          rw [← hbc, ← hbt, ← hw2]
          clear hbc hbt hw2 e1 e2
          obtain ⟨⟨p, x⟩, hq⟩ : ∃ q, l[c]? = some q := ⟨l[c]'(by have := HL.out; omega), List.getElem?_eq_getElem _⟩
          obtain ⟨l1, l2, rfl, hl1⟩ := split_at hq
          have HL1 := Lib.hid hl1
          clear hl1 hq
          obtain ⟨ts, hts⟩ : ∃ ts, ts = kpThs (some ⟨fb, fo, none⟩) fc fs ar n (l1 ++ (p, x) :: l2) l1 l2 := ⟨_, rfl⟩
          have HTS := Lib.hid hts
          have H3 := Lib.hid (show Held (fun _ => False) (Old W) W (tLn p x :: tLed lp (Led.run es) :: tBlk b8 (bxL lp) :: tBlk bt (bxI tk) :: tBlk bc (bxI c) :: ts) w2 from by
            rw [hts]; exact toFront H2.out)
          have hcar : w2.cell? ⟨ar, c, none⟩ = some (.pointer (some ⟨p, 0, none⟩)) := by
            obtain ⟨_, _, hsq⟩ := H2.out.get 5 rfl
            have := po_cell hsq (i := c) (x := some p) (by rw [List.getElem?_append_left (by simp; have := HL1.out; omega), List.getElem?_map, List.getElem?_append_right (by have := HL1.out; omega), HL1.out, Nat.sub_self]; rfl)
            rwa [Nat.zero_add] at this
          clear hts H2
          have cbc := blk_cell (i := 0) (H3.out.blk 4 rfl) rfl
          go_upto_block 4 with fail
          obtain ⟨r, hr⟩ : ∃ r, r = a / 4 % 8 := ⟨_, rfl⟩
          obtain ⟨kk, hkk⟩ : ∃ kk, kk = a / 32 := ⟨_, rfl⟩
          have er : bits .and .u16 ((a : Int) / 4) 7 = (r : Int) := by rw [show (a : Int) / 4 = ((a / 4 : Nat) : Int) by omega, and7 _ (by omega), hr]
          have ek : (a : Int) / 32 = (kk : Int) := by omega
          have hk11 : kk < 2048 := by omega
          have hr8 : r < 8 := by omega
          rw [er, ek]
          clear er ek hr hkk cbc hcar
          have HX := Lib.hid (HC.out.ok c x (by rw [List.getElem?_map, List.getElem?_append_right (by rw [HL1.out]; exact Nat.le_refl _), HL1.out, Nat.sub_self]; rfl))
          have HCX := Lib.hid (fun (y : Ln) (frm m : Nat) (hs : Step x y tk frm m) => show m = 0 ∨ (Led.run es).Can ⟨tk, c, frm, m⟩ from (Nat.eq_zero_or_pos m).imp id fun h => HC.out.can (by omega) (x := x) (y := y) (by rw [List.getElem?_map, List.getElem?_append_right (by rw [HL1.out]; exact Nat.le_refl _), HL1.out, Nat.sub_self]; rfl) (by omega) hs (by omega))
          have htk : tk < 150 := by omega
          have H3' := Lib.hid H3.out.opens
          refine wp_cut (fun a' w' => ∃ f : Nat → Value, a' = ⟨(frB f).toArray, []⟩ ∧ SlB f n b8 ar fb fo fs.length fc tk ∧ SlC f bt bc p ∧ ∃ (y : Ln) (frm m : Nat), Hid (Step x y tk frm m) ∧ Hid (Held (fun _ => False) (Old W) W (tLn p y :: tLed lp ((Led.run es).acc ⟨tk, c, frm, m⟩) :: tBlk b8 (bxL lp) :: tBlk bt (bxI tk) :: tBlk bc (bxI c) :: ts) w')) ?_ ?_
          · intro a' wc hR
            obtain ⟨g, rfl, ⟨e7, e8, e9, e100, e101, e102⟩, ⟨e12, e14, e15⟩, y, frm, m, HS, HH⟩ := hR
            simp only [frB, e7, e8, e9, e12, e14, e15, e100, e101, e102]
            clear e7 e8 e9 e12 e14 e15 e100 e101 e102
            have HN := Lib.hid (show Acc ((l1 ++ (p, y) :: l2).map (·.2)) (accs es ⟨tk, c, frm, m⟩) (tk + 1) from by
              have h := HC.out.step (by omega) (x := x) (y := y) (by rw [List.getElem?_map, List.getElem?_append_right (by rw [HL1.out]; exact Nat.le_refl _), HL1.out, Nat.sub_self]; rfl) (by omega) HS.out
              rwa [show ((l1 ++ (p, x) :: l2).map (·.2)).set c y = (l1 ++ (p, y) :: l2).map (·.2) by rw [List.map_append, List.map_append, List.set_append_right _ _ (by rw [List.length_map, HL1.out]; exact Nat.le_refl _), List.length_map, HL1.out, Nat.sub_self]; rfl] at h)
            have hled : (Led.run es).acc ⟨tk, c, frm, m⟩ = Led.run (accs es ⟨tk, c, frm, m⟩) := by
              unfold Led.acc accs
              split
              · rfl
              · rw [Led.run_snoc]
            rw [hled] at HH
            obtain ⟨es', hes⟩ : ∃ es', es' = accs es ⟨tk, c, frm, m⟩ := ⟨_, rfl⟩
            rw [← hes] at HH HN
            have HY := Lib.hid (HN.out.ok c y (by rw [List.getElem?_map, List.getElem?_append_right (by rw [HL1.out]; exact Nat.le_refl _), HL1.out, Nat.sub_self]; rfl))
            clear hled hes HX HCX HS HC H3 H3' hr8 hk11
            obtain ⟨⟨wp, rp, wv, rv, sv, av, dv⟩, h4⟩ := HH.out.opens
            obtain ⟨_, _, hsq⟩ := h4.get 3 rfl
            obtain ⟨wa, wk, q1, -, -, -⟩ := Sq.le (show Sq eU8 5 _ _ _ wv y.w.all from hsq)
            obtain ⟨_, _, hsr⟩ := h4.get 4 rfl
            obtain ⟨ra, rk, q2, -, -, -⟩ := Sq.le (show Sq eU8 5 _ _ _ rv y.rd from hsr)
            subst q1
            subst q2
            have c0 := (ln_cells (h4.blk 0 rfl)).1.1
            have H4 := Lib.hid (Held.lift (A := [_]) h4)
            obtain ⟨T, hT⟩ : ∃ T, T = y.w.all.length := ⟨_, rfl⟩
            obtain ⟨tp, htp⟩ : ∃ tp, tp = y.w.top := ⟨_, rfl⟩
            obtain ⟨bs, hbs⟩ : ∃ bs, bs = y.w.base := ⟨_, rfl⟩
            obtain ⟨nx, hnx⟩ : ∃ nx, nx = y.r.next := ⟨_, rfl⟩
            obtain ⟨rl, hrl⟩ : ∃ rl, rl = y.rd.length := ⟨_, rfl⟩
            have hT6 : T ≤ 620 := by rw [hT]; have := HY.out.2.1; omega
            have htt : tp ≤ T := by rw [hT, htp]; exact HY.out.1.w.tt
            have hbt : bs ≤ tp := by rw [hbs, htp]; exact Nat.le_trans HY.out.1.w.bn HY.out.1.w.nt
            have hbn : bs ≤ nx := by rw [hbs, hnx]; exact HY.out.1.base
            have HRL := Lib.hid (show y.r.off = rl by rw [hrl]; exact HY.out.1.rdlen.1.symm)
            have HT := Lib.hid hT; have HTP := Lib.hid htp; have HBS := Lib.hid hbs; have HNX := Lib.hid hnx; have HRR := Lib.hid hrl
            clear h4 hsq hsr hT htp hbs hnx hrl
            go_upto_region 64 with (go_at_call 17; refine (countsW_c H4.out).mono ?_; rintro e w5 ⟨rfl, h5⟩; have H5 := Lib.hid (Held.lift (A := [_, _]) (Held.sink (A := [_]) h5)); clear h5)
            rw [← HT.out, ← HBS.out]
            clear c0 H4
            have c1 := (ln_cells (H5.out.blk 1 rfl)).1.2.1
            go_upto_region 65 with (go_at_call 14; refine (ackR_c H5.out (Ln.low HY.out.1 HY.out.2.1 HY.out.2.2.1 HY.out.2.2.2.2.2.2 (by omega)) HY.out.1.r.room).mono ?_; rintro e w6 ⟨rfl, h6⟩; have H6 := Lib.hid h6; clear h6)
            rw [← HNX.out]
            clear c1 H5
            refine wp_cut (fun a' w' => ∃ f : Nat → Value, a' = ⟨(frB f).toArray, []⟩ ∧ SlB f n b8 ar fb fo fs.length fc tk ∧ SlC f bt bc p ∧ (f 33 = .int .i64 (T : Int) ∧ f 34 = .int .i64 (bs : Int) ∧ f 36 = .int .i64 (nx : Int) ∧ f 466 = .bool false) ∧ Hid (Held (fun _ => False) (Old W) W (tLed lp (Led.run es') :: tRdr rp y.r :: tBlk p (lnRow y ⟨wp, rp, .slice wa y.w.all.length wk, .slice ra y.rd.length rk, sv, av, dv⟩ y.w.top y.w.base) :: tWr wp y.w :: tSq eU8 5 (.slice wa y.w.all.length wk) y.w.all :: tSq eU8 5 (.slice ra y.rd.length rk) y.rd :: tSq eSeg 50 sv y.segs :: tSq eAk 58 av y.acks :: tSq eBool 4 dv y.dones :: tBlk b8 (bxL lp) :: tBlk bt (bxI tk) :: tBlk bc (bxI c) :: ts) w')) ?_ ?_
            · rintro a' w7 ⟨g, rfl, ⟨e7, e8, e9, e100, e101, e102⟩, ⟨e12, e14, e15⟩, ⟨e33, e34, e36, e466⟩, H7⟩
              simp only [frB, e7, e8, e9, e12, e14, e15, e33, e34, e36, e100, e101, e102, e466]
              clear e7 e8 e9 e12 e14 e15 e33 e34 e36 e100 e101 e102 e466 H6
              go_upto_region 67 with fail
              obtain ⟨wd, hwd⟩ : ∃ wd, wd = w7.drew := ⟨_, rfl⟩
              have H8 := Lib.hid (show Held (fun _ => False) (Old W) W (tLed lp (Led.run es') :: tRdr rp y.r :: tBlk p (lnRow y ⟨wp, rp, .slice wa y.w.all.length wk, .slice ra y.rd.length rk, sv, av, dv⟩ y.w.top y.w.base) :: tWr wp y.w :: tSq eU8 5 (.slice wa y.w.all.length wk) y.w.all :: tSq eU8 5 (.slice ra y.rd.length rk) y.rd :: tSq eSeg 50 sv y.segs :: tSq eAk 58 av y.acks :: tSq eBool 4 dv y.dones :: tBlk b8 (bxL lp) :: tBlk bt (bxI tk) :: tBlk bc (bxI c) :: ts) wd from by rw [hwd]; exact H7.out.drew)
              have HC1 := Lib.hid ((countR_c (Held.lift (A := [_]) H8.out)).mono fun e w' h => (⟨by rw [h.1, HRL.out], h.2.symm⟩ : e = .returned (.int .i64 (rl : Int)) ∧ w' = wd))
              obtain ⟨_, _, hu⟩ := H8.out.get 4 rfl
              obtain ⟨_, _, hv⟩ := H8.out.get 5 rfl
              have hu : By wd (.slice wa T wk) y.w.all := by rw [HT.out]; exact sq_by8 (show Sq eU8 5 wd _ _ (.slice wa y.w.all.length wk) y.w.all from hu)
              have hv : By wd (.slice ra rl rk) y.rd := by rw [HRR.out]; exact sq_by8 (show Sq eU8 5 wd _ _ (.slice ra y.rd.length rk) y.rd from hv)
              have HC2 := Lib.hid ((hasPrefix_c hu hv HY.out.1.rdlen.2).mono fun e w' h => (⟨h.1, h.2.symm⟩ : e = .returned (.bool true) ∧ w' = wd))
              obtain ⟨SS, hSS⟩ : ∃ SS : World → Prop, SS = fun w' => w'.cell? ⟨p, 1, none⟩ = some (.pointer (some ⟨rp, 0, none⟩)) ∧ w'.cell? ⟨p, 2, none⟩ = some (.slice wa T wk) ∧ w'.cell? ⟨p, 3, none⟩ = some (.slice ra rl rk) := ⟨_, rfl⟩
              have HF := Lib.hid (show ∀ w', SS w' → w'.cell? ⟨p, 1, none⟩ = some (.pointer (some ⟨rp, 0, none⟩)) ∧ w'.cell? ⟨p, 2, none⟩ = some (.slice wa T wk) ∧ w'.cell? ⟨p, 3, none⟩ = some (.slice ra rl rk) by rw [hSS]; exact fun _ h => h)
              have HSd := Lib.hid (show SS wd by rw [hSS, HT.out, HRR.out]; exact ⟨(ln_cells (H8.out.blk 2 rfl)).1.2.1, (ln_cells (H8.out.blk 2 rfl)).1.2.2.1, (ln_cells (H8.out.blk 2 rfl)).1.2.2.2.1⟩)
              have hq : ((bs : Int) > (nx : Int)) = False := eq_false (by omega)
              clear hSS hu hv H7
              refine wp_region_still_lit (by kernel_rfl) (by kernel_rfl) ?_
              change wpStill _ _ (World.drew w7) (fun a' => Exit.then _ _ .normal a' (World.drew w7)) _ _
              rw [← hwd]
              clear hwd
              refine hs_out ?_
              iterate 8 (first | (refine hs_un (by rfl) ?_; simp only [Act.put, List.setIfInBounds_toArray, List.set_cons_zero, List.set_cons_succ]) | (refine hs_val HSd.out (v := ?_) (by rfl) ?_ ?_; rotate_left 1; (focus ((intro w' hS'; obtain ⟨e0, e1, e2⟩ := HF.out w' hS'; go_simp); try with_reducible rfl)); simp only [Act.put, List.setIfInBounds_toArray, List.set_cons_zero, List.set_cons_succ]))
              refine hs_call (f := 19) (args := #[.pointer (some ⟨rp, 0, none⟩)]) (by rfl) (by go_simp) HC1.out ?_
              simp only [Act.put, List.setIfInBounds_toArray, List.set_cons_zero, List.set_cons_succ]
              iterate 16 (first | (refine hs_un (by rfl) ?_; simp only [Act.put, List.setIfInBounds_toArray, List.set_cons_zero, List.set_cons_succ]) | (refine hs_val HSd.out (v := ?_) (by rfl) ?_ ?_; rotate_left 1; (focus ((intro w' hS'; obtain ⟨e0, e1, e2⟩ := HF.out w' hS'; go_simp); try with_reducible rfl)); simp only [Act.put, List.setIfInBounds_toArray, List.set_cons_zero, List.set_cons_succ]))
              refine hs_call (f := 20) (args := #[.slice wa T wk, .slice ra rl rk]) (by rfl) (by go_simp) HC2.out ?_
              simp only [Act.put, List.setIfInBounds_toArray, List.set_cons_zero, List.set_cons_succ]
              iterate 11 (first | (refine hs_un (by rfl) ?_; simp only [Act.put, List.setIfInBounds_toArray, List.set_cons_zero, List.set_cons_succ]) | (refine hs_val HSd.out (v := ?_) (by rfl) ?_ ?_; rotate_left 1; (focus ((intro w' hS'; obtain ⟨e0, e1, e2⟩ := HF.out w' hS'; go_simp); try with_reducible rfl)); simp only [Act.put, List.setIfInBounds_toArray, List.set_cons_zero, List.set_cons_succ]))
              refine hs_nil ?_
              clear HF HSd HC1 HC2
              go_wp2_with fail
              refine Handed.intro (gk - 1) (by have := HTK.out; omega) ?_
              rw [frB_of (by kernel_rfl)]
              refine hJ _ _ _ ⟨_, rfl, rfl, rfl, rfl, rfl, rfl, tk + 1, l1 ++ (p, y) :: l2, es', by have := HTK.out; omega, ?_, Lib.hid (by have := HL.out; simpa using this), HN, Lib.hid ?_⟩
              · show Value.int .i64 ((tk : Int) + 1) = _
                simp
              · refine fromFront y (x := x) (P := tBlk bc (bxI c)) (Q := tBlk bt (bxI tk)) ?_
                have h := H8.out
                rw [HTS.out] at h
                exact Held.shut (f := lnThs p y) (i := ⟨wp, rp, .slice wa y.w.all.length wk, .slice ra y.rd.length rk, sv, av, dv⟩) (Held.pickL (us := [_, _, _, _, _, _, _, _, _, _, _, _]) (vs := [_, _, _, _, _, _, _, _, _, _, _, _]) h [2, 3, 1, 4, 5, 6, 7, 8, 0, 9, 10, 11] (by decide) rfl)
            · intro J3 K4 hJ3 hK4
              as_aux_lemma =>
                have H7 := Lib.hid (Held.lift (A := [_, _, _, _, _, _, _, _]) H6.out)
                clear H6
                obtain ⟨wd, hwd⟩ : ∃ wd, wd = w6.drew := ⟨_, rfl⟩
                have H8 := Lib.hid (show Held (fun _ => False) (Old W) W (tLed lp (Led.run es') :: tRdr rp y.r :: tBlk p (lnRow y ⟨wp, rp, .slice wa y.w.all.length wk, .slice ra y.rd.length rk, sv, av, dv⟩ y.w.top y.w.base) :: tWr wp y.w :: tSq eU8 5 (.slice wa y.w.all.length wk) y.w.all :: tSq eU8 5 (.slice ra y.rd.length rk) y.rd :: tSq eSeg 50 sv y.segs :: tSq eAk 58 av y.acks :: tSq eBool 4 dv y.dones :: tBlk b8 (bxL lp) :: tBlk bt (bxI tk) :: tBlk bc (bxI c) :: ts) wd from by rw [hwd]; exact H7.out.drew)
                have hb : ∀ (k : Nat) (kk v : Int), k < 5 → kk = (k : Int) → y.bal.get k = v → Calls Try.prog 18 #[.pointer (some ⟨lp, 0, none⟩), .int .i64 (c : Int), .int .i64 kk] wd fun e w' => e = .returned (.int .i64 v) ∧ w' = wd := fun k kk v hk hkk hv =>
                  (balance_c H8.out c k (by omega) hk kk hkk).mono fun e w' ⟨h1, h2⟩ => ⟨by rw [h1, HY.out.2.2.2.1, hv], h2.symm⟩
                have HB0 := Lib.hid (hb 0 0 (-(T : Int)) (by decide) rfl (by rw [HT.out]; rfl))
                have HB1 := Lib.hid (hb 1 1 ((T : Int) - (tp : Int)) (by decide) rfl (by rw [HT.out, HTP.out]; rfl))
                have HB2 := Lib.hid (hb 2 2 ((tp : Int) - (bs : Int)) (by decide) rfl (by rw [HTP.out, HBS.out]; rfl))
                have HB3 := Lib.hid (hb 3 3 (bs : Int) (by decide) rfl (by rw [HBS.out]; rfl))
                have HB4 := Lib.hid (hb 4 4 0 (by decide) rfl rfl)
                have hw0 : IntKind.i64.wrap (-(T : Int)) = -(T : Int) := by rw [IntKind.wrap_i64]; omega
                have hw1 : IntKind.i64.wrap ((T : Int) - (tp : Int)) = (T : Int) - (tp : Int) := by rw [IntKind.wrap_i64]; omega
                have hw2 : IntKind.i64.wrap ((tp : Int) - (bs : Int)) = (tp : Int) - (bs : Int) := by rw [IntKind.wrap_i64]; omega
                obtain ⟨SS, hSS⟩ : ∃ SS : World → Prop, SS = fun w' => w'.cell? ⟨b8, 0, none⟩ = some (.pointer (some ⟨lp, 0, none⟩)) ∧ w'.cell? ⟨bc, 0, none⟩ = some (.int .i64 (c : Int)) ∧ w'.cell? ⟨p, 7, none⟩ = some (.int .i64 (tp : Int)) := ⟨_, rfl⟩
                have HF := Lib.hid (show ∀ w', SS w' → w'.cell? ⟨b8, 0, none⟩ = some (.pointer (some ⟨lp, 0, none⟩)) ∧ w'.cell? ⟨bc, 0, none⟩ = some (.int .i64 (c : Int)) ∧ w'.cell? ⟨p, 7, none⟩ = some (.int .i64 (tp : Int)) by rw [hSS]; exact fun _ h => h)
                have HSd := Lib.hid (show SS wd by rw [hSS]; exact ⟨blk_cell (i := 0) (H8.out.blk 9 rfl) rfl, blk_cell (i := 0) (H8.out.blk 11 rfl) rfl, by rw [HTP.out]; exact (ln_cells (H8.out.blk 2 rfl)).2.2.2.1⟩)
                clear hSS hb H7
                refine wp_region_still_lit (by kernel_rfl) (by kernel_rfl) ?_
                change wpStill _ _ (World.drew w6) (fun a' => Exit.then _ _ .normal a' (World.drew w6)) _ _
                rw [← hwd]
                clear hwd
                refine hs_out ?_
                iterate 2 (first | (refine hs_un (by rfl) ?_; simp only [Act.put, List.setIfInBounds_toArray, List.set_cons_zero, List.set_cons_succ]) | (refine hs_val HSd.out (v := ?_) (by rfl) ?_ ?_; rotate_left 1; (focus ((intro w' hS'; obtain ⟨e0, e1, e2⟩ := HF.out w' hS'; go_simp); try with_reducible rfl)); simp only [Act.put, List.setIfInBounds_toArray, List.set_cons_zero, List.set_cons_succ]))
                refine hs_call (f := 18) (args := #[.pointer (some ⟨lp, 0, none⟩), .int .i64 (c : Int), .int .i64 0]) (by rfl) (by go_simp) HB0.out ?_
                simp only [Act.put, List.setIfInBounds_toArray, List.set_cons_zero, List.set_cons_succ]
                iterate 6 (first | (refine hs_un (by rfl) ?_; simp only [Act.put, List.setIfInBounds_toArray, List.set_cons_zero, List.set_cons_succ]) | (refine hs_val HSd.out (v := ?_) (by rfl) ?_ ?_; rotate_left 1; (focus ((intro w' hS'; obtain ⟨e0, e1, e2⟩ := HF.out w' hS'; go_simp); try with_reducible rfl)); simp only [Act.put, List.setIfInBounds_toArray, List.set_cons_zero, List.set_cons_succ]))
                refine hs_call (f := 18) (args := #[.pointer (some ⟨lp, 0, none⟩), .int .i64 (c : Int), .int .i64 1]) (by rfl) (by go_simp) HB1.out ?_
                simp only [Act.put, List.setIfInBounds_toArray, List.set_cons_zero, List.set_cons_succ]
                iterate 11 (first | (refine hs_un (by rfl) ?_; simp only [Act.put, List.setIfInBounds_toArray, List.set_cons_zero, List.set_cons_succ]) | (refine hs_val HSd.out (v := ?_) (by rfl) ?_ ?_; rotate_left 1; (focus ((intro w' hS'; obtain ⟨e0, e1, e2⟩ := HF.out w' hS'; go_simp); try with_reducible rfl)); simp only [Act.put, List.setIfInBounds_toArray, List.set_cons_zero, List.set_cons_succ]))
                refine hs_call (f := 18) (args := #[.pointer (some ⟨lp, 0, none⟩), .int .i64 (c : Int), .int .i64 2]) (by rfl) (by go_simp) HB2.out ?_
                simp only [Act.put, List.setIfInBounds_toArray, List.set_cons_zero, List.set_cons_succ]
                iterate 11 (first | (refine hs_un (by rfl) ?_; simp only [Act.put, List.setIfInBounds_toArray, List.set_cons_zero, List.set_cons_succ]) | (refine hs_val HSd.out (v := ?_) (by rfl) ?_ ?_; rotate_left 1; (focus ((intro w' hS'; obtain ⟨e0, e1, e2⟩ := HF.out w' hS'; go_simp); try with_reducible rfl)); simp only [Act.put, List.setIfInBounds_toArray, List.set_cons_zero, List.set_cons_succ]))
                refine hs_call (f := 18) (args := #[.pointer (some ⟨lp, 0, none⟩), .int .i64 (c : Int), .int .i64 3]) (by rfl) (by go_simp) HB3.out ?_
                simp only [Act.put, List.setIfInBounds_toArray, List.set_cons_zero, List.set_cons_succ]
                iterate 6 (first | (refine hs_un (by rfl) ?_; simp only [Act.put, List.setIfInBounds_toArray, List.set_cons_zero, List.set_cons_succ]) | (refine hs_val HSd.out (v := ?_) (by rfl) ?_ ?_; rotate_left 1; (focus ((intro w' hS'; obtain ⟨e0, e1, e2⟩ := HF.out w' hS'; go_simp); try with_reducible rfl)); simp only [Act.put, List.setIfInBounds_toArray, List.set_cons_zero, List.set_cons_succ]))
                refine hs_call (f := 18) (args := #[.pointer (some ⟨lp, 0, none⟩), .int .i64 (c : Int), .int .i64 4]) (by rfl) (by go_simp) HB4.out ?_
                simp only [Act.put, List.setIfInBounds_toArray, List.set_cons_zero, List.set_cons_succ]
                iterate 2 (first | (refine hs_un (by rfl) ?_; simp only [Act.put, List.setIfInBounds_toArray, List.set_cons_zero, List.set_cons_succ]) | (refine hs_val HSd.out (v := ?_) (by rfl) ?_ ?_; rotate_left 1; (focus ((intro w' hS'; obtain ⟨e0, e1, e2⟩ := HF.out w' hS'; go_simp); try with_reducible rfl)); simp only [Act.put, List.setIfInBounds_toArray, List.set_cons_zero, List.set_cons_succ]))
                refine hs_nil ?_
                refine hK4 _ _ ?_
                rw [frB_of (by kernel_rfl)]
                exact Met.intro (hJ3 _ _ ⟨_, rfl, ⟨rfl, rfl, rfl, rfl, rfl, rfl⟩, ⟨rfl, rfl, rfl⟩, ⟨rfl, rfl, rfl, rfl⟩, H8⟩)
          · intro J1 K1 hJ1 hK1
            have HM := Lib.hid (show ∀ (f : Nat → Value) (w' : World), SlB f n b8 ar fb fo fs.length fc tk → SlC f bt bc p → ∀ (y : Ln) (frm m : Nat), Step x y tk frm m → Held (fun _ => False) (Old W) W (tLn p y :: tLed lp ((Led.run es).acc ⟨tk, c, frm, m⟩) :: tBlk b8 (bxL lp) :: tBlk bt (bxI tk) :: tBlk bc (bxI c) :: ts) w' → Met J1 ⟨(frB f).toArray, []⟩ w' from fun f w' h1 h2 y frm m h3 h4 => Met.intro (hJ1 _ _ ⟨f, rfl, h1, h2, y, frm, m, Lib.hid h3, Lib.hid h4⟩))
            apply wp_block
            apply wp_seq_k
            intro K2 hK2
            refine wp_cut (fun a' w' => w' = w2 ∧ ∃ f : Nat → Value, a' = ⟨(frB f).toArray, []⟩ ∧ SlB f n b8 ar fb fo fs.length fc tk ∧ SlC f bt bc p ∧ SlD f kk b8 bt bc r ∧ f 122 = .bool (decide (r < 2))) ?_ ?_
            · rintro a' wc ⟨rfl, g, rfl, ⟨e7, e8, e9, e100, e101, e102⟩, ⟨e12, e14, e15⟩, ⟨e16, e17, e121⟩, e122⟩
              by_cases h01 : r < 2
              · simp only [frB, e7, e8, e9, e12, e14, e15, e16, e17, e100, e101, e102, e121, e122, decide_eq_true h01]
                clear e7 e8 e9 e12 e14 e15 e16 e17 e100 e101 e102 e121 e122
                as_aux_lemma =>
                  have cbt := blk_cell (i := 0) (H3.out.blk 3 rfl) rfl
                  have cbc := blk_cell (i := 0) (H3.out.blk 4 rfl) rfl
                  go_upto_region 28 with fail
                  obtain ⟨d0, e0⟩ : ∃ d : Byte, IntKind.u8.wrap (kk : Int) = U d := ⟨_, wrap_byte kk⟩
                  obtain ⟨d1, e1⟩ : ∃ d : Byte, IntKind.u8.wrap (tk : Int) = U d := ⟨_, wrap_byte tk⟩
                  obtain ⟨d2, e2⟩ : ∃ d : Byte, IntKind.u8.wrap (c : Int) = U d := ⟨_, wrap_byte c⟩
                  obtain ⟨d3, e3⟩ : ∃ d : Byte, IntKind.u8.wrap ((kk : Int) / 16) = U d := ⟨_, by rw [show (kk : Int) / 16 = ((kk / 16 : Nat) : Int) by omega]; exact wrap_byte _⟩
                  obtain ⟨z, hz⟩ : ∃ z, z = kk % 4 + 1 := ⟨_, rfl⟩
                  have mz : 1 + (kk : Int) % 4 = (z : Int) := by omega
                  have hz4 : 1 ≤ z ∧ z ≤ 4 := by omega
                  go_upto_region 29 with fail
                  rw [← hz]
                  obtain ⟨⟨wp, rp, wv, rv, sv, av, dv⟩, h4⟩ := H3'.out
                  obtain ⟨_, _, hsq⟩ := h4.get 3 rfl
                  obtain ⟨ka, kc, e1, hle1, hle2, -⟩ := Sq.le (show Sq eU8 5 wc _ _ wv x.w.all from hsq)
                  subst e1
                  have h5 := (Held.takeB (a := some ⟨wc.heap.size, 0, none⟩) (n := 4) (c := 4) (bs := [d0, d1, d2, d3]) (h4.lit_by [d0, d1, d2, d3] (0, 0) (show 4 ≤ 1000 by decide)) hz4.2)
                  obtain ⟨dt, hdt⟩ : ∃ dt, dt = [d0, d1, d2, d3].take z := ⟨_, rfl⟩
                  have hdl : dt.length = z := by rw [hdt, List.length_take]; exact Nat.min_eq_left hz4.2
                  obtain ⟨wa, hwa⟩ : ∃ wa, wa = wc.alloc (.cells #[.int .u8 (U d0), .int .u8 (U d1), .int .u8 (U d2), .int .u8 (U d3)] 5) := ⟨_, rfl⟩
                  rw [← hdt] at h5
                  replace h5 := show Held (fun _ => False) (Old W) W (tBy (.slice (some ⟨wc.heap.size, 0, none⟩) z 4) dt :: (lnThs p x ⟨wp, rp, .slice ka x.w.all.length kc, rv, sv, av, dv⟩ ++ tLed lp (Led.run es) :: tBlk b8 (bxL lp) :: tBlk bt (bxI tk) :: tBlk bc (bxI c) :: ts)) wa from by rw [hwa]; exact h5
                  rw [← hwa]
                  clear hwa hz
                  have HDL := Lib.hid hdl
                  have HST := Lib.hid (Step.write HX.out.1 HX.out.2.1 HX.out.2.2.1 dt (by omega) (by omega))
                  obtain ⟨m, hm⟩ : ∃ m, m = x.w.takes dt.length := ⟨_, rfl⟩
                  have hmz : m ≤ z := by rw [hm, ← hdl]; exact (x.w.takes_le _).1
                  have HMM := Lib.hid hm
                  have c0 := blk_cell (i := 0) (h5.blk 1 rfl) rfl
                  have H5 := Lib.hid (Held.pickL (us := [_, _, _, _, _, _, _, _, _, _, _, _, _]) (vs := [_, _, _, _, _, _, _, _, _, _, _, _, _]) h5 [2, 0, 9, 10, 11, 12, 1, 3, 4, 5, 6, 7, 8] (by decide) rfl)
                  clear cbt cbc hsq h4 h5 hdt hdl hm e0 e1 e2 e3 mz H3 H3'
                  go_upto_region 30 with (go_at_call 10; refine (writeW_c H5.out HX.out.1.w 0 rfl HDL.out.symm (by omega)).mono ?_; rintro e w5 ⟨k, hk, rfl, h6⟩; have HKE := Lib.hid hk; have H6 := Lib.hid h6; clear hk h6)
                  rw [← HMM.out]
                  have HST' := Lib.hid (show Step x (x.write dt) tk 0 m by rw [HMM.out]; exact HST.out)
                  have HAC := Lib.hid (acc_c ⟨tk, c, 0, m⟩ (show m ≤ 1048576 by omega) (HCX.out _ _ _ HST'.out) (Held.pickL (us := [_, _, _, _, _, _, _, _, _, _, _, _, _]) (vs := [_, _, _, _, _, _, _, _, _, _, _, _, _]) H6.out [2, 3, 4, 5, 1, 6, 0, 7, 8, 9, 10, 11, 12] (by decide) rfl))
                  clear c0 H5 H6 HST
                  obtain ⟨bd, hbd⟩ : ∃ bd, bd = wc.heap.size := ⟨_, rfl⟩
                  rw [← hbd] at HAC ⊢
                  clear hbd
                  refine wp_cut (fun a' w' => ∃ f : Nat → Value, a' = ⟨(frB f).toArray, []⟩ ∧ SlB f n b8 ar fb fo fs.length fc tk ∧ SlC f bt bc p ∧ (f 18 = .slice (some ⟨bd, 0, none⟩) z 4 ∧ f 19 = .int .i64 (m : Int) ∧ f 169 = .bool false) ∧ Hid (Held (fun _ => False) (Old W) W (tLed lp ((Led.run es).acc ⟨tk, c, 0, m⟩) :: tBlk b8 (bxL lp) :: tBlk bt (bxI tk) :: tBlk bc (bxI c) :: tBy (.slice (some ⟨bd, 0, none⟩) z 4) dt :: tBlk p (lnRow x ⟨wp, rp, .slice ka x.w.all.length kc, rv, sv, av, dv⟩ x.w.top x.w.base) :: tWr wp (x.w.write dt) :: tRdr rp x.r :: tSq eU8 5 (.slice ka x.w.all.length kc) x.w.all :: tSq eU8 5 rv x.rd :: tSq eSeg 50 sv x.segs :: tSq eAk 58 av x.acks :: tSq eBool 4 dv x.dones :: ts) w')) ?_ ?_
                  · rintro a' w7 ⟨g, rfl, ⟨e7, e8, e9, e100, e101, e102⟩, ⟨e12, e14, e15⟩, ⟨e18, e19, e169⟩, H7⟩
                    simp only [frB, e7, e8, e9, e12, e14, e15, e18, e19, e100, e101, e102, e169]
                    clear e7 e8 e9 e12 e14 e15 e18 e19 e100 e101 e102 e169 HAC
                    go_upto_region 32 with fail
                    have H8 := Lib.hid (Held.lift (A := [_, _, _, _, _, _, _, _]) H7.out)
                    clear H7
                    obtain ⟨R, hR⟩ : ∃ R, R = tLed lp ((Led.run es).acc ⟨tk, c, 0, m⟩) :: tBlk b8 (bxL lp) :: tBlk bt (bxI tk) :: tBlk bc (bxI c) :: tBy (.slice (some ⟨bd, 0, none⟩) z 4) dt :: tBlk p (lnRow x ⟨wp, rp, .slice ka x.w.all.length kc, rv, sv, av, dv⟩ x.w.top x.w.base) :: tWr wp (x.w.write dt) :: tRdr rp x.r :: tSq eU8 5 rv x.rd :: tSq eSeg 50 sv x.segs :: tSq eAk 58 av x.acks :: tSq eBool 4 dv x.dones :: ts := ⟨_, rfl⟩
                    have HR := Lib.hid hR
                    have H9 := Lib.hid (show Held (fun _ => False) (Old W) W (tSq eU8 5 (.slice ka x.w.all.length kc) x.w.all :: R) w7 from by rw [hR]; exact H8.out)
                    have HF := Lib.hid (show ∀ w', Held (fun _ => False) (Old W) W R w' → w'.cell? ⟨p, 2, none⟩ = some (.slice ka x.w.all.length kc) from fun w' hw' => by rw [hR] at hw'; exact (ln_cells (hw'.blk 5 rfl)).1.2.2.1)
                    have HBT := Lib.hid (show ∀ w', Held (fun _ => False) (Old W) W R w' → By w' (.slice (some ⟨bd, 0, none⟩) m 4) (dt.take m) from fun w' hw' => by
                      rw [hR] at hw'
                      obtain ⟨_, _, hby⟩ := hw'.get 4 rfl
                      exact By.take (show ByZ w' _ (.slice (some ⟨bd, 0, none⟩) z 4) dt from hby).1 hmz)
                    have hdm : (dt.take m).length = m := by rw [List.length_take, HDL.out]; omega
                    have HDM := Lib.hid hdm
                    have hal : x.w.all.length ≤ 1000 := by have := HX.out.2.1; omega
                    have HAL := Lib.hid hal
                    have hm4 : (m : Int) ≤ 4 := by omega
                    have HA := Lib.hid (show x.w.all ++ dt.take m = (x.write dt).w.all from by rw [HMM.out]; rfl)
                    clear hR H8 hdm hal
                    refine wp_region_lag 11 (S := Held (fun _ => False) (Old W) W R) (by kernel_rfl) H9.out.tail.drew (fun hS0 => ?_)
                    change wpAnyL _ _ _ _ _ _ (4 + 8) _ _ _
                    refine wpAnyL_take_n 0 8 (by kernel_rfl) hS0 (fun _ _ _ _ _ h => h) ?_
                    simp only [List.drop_zero, List.take_succ_cons, List.take_zero]
                    iterate 8 (refine wpFirst_val (v := ?_) (by rfl) ?_ ?_; rotate_left 1; (focus ((intro w' hS'; obtain e0 := HF.out w' hS'; go_simp); try with_reducible rfl)); simp only [Act.put, List.setIfInBounds_toArray, List.set_cons_zero, List.set_cons_succ])
                    refine wpFirst_nil ?_
                    refine wpAnyL_one 8 (by kernel_rfl) rfl (fun K hK => ?_)
                    refine step_appE (E := eU8) slB (by decide) rfl _ _ rfl H9.out.drew 0 rfl (by have := HAL.out; omega) rfl (.slice (some ⟨bd, 0, none⟩) m 4) (dt.take m) (by rw [HDM.out]; omega) (cu (dt.take m)) rfl (HBT.out _ hS0) cu_one (fun Y _ => ⟨fun _ => False, fun _ f => f.elim, els_cu _⟩) ?_
                    intro a' c' w8 h8
                    rw [HA.out] at h8
                    rw [HA.out]
                    obtain ⟨y, hy⟩ : ∃ y, y = x.write dt := ⟨_, rfl⟩
                    have H10 := Lib.hid (show Held (fun _ => False) (Old W) W (tSq eU8 5 (.slice a' y.w.all.length c') y.w.all :: R) w8 from by rw [hy]; exact h8)
                    rw [← hy]
                    have HY := Lib.hid hy
                    clear h8 hS0 H9 hy
                    refine hK.out _ _ (fun _ => H10.out.tail) ?_
                    clear hK K
                    refine wpAnyL_one 9 (by kernel_rfl) rfl (fun K hK => ?_)
                    go_simp
                    refine hK.out _ _ (fun _ => H10.out.tail) ?_
                    clear hK K
                    refine wpAnyL_one 10 (by kernel_rfl) rfl (fun K hK => ?_)
                    go_simp
                    refine hK.out _ _ (fun _ => H10.out.tail) ?_
                    clear hK K
                    refine wpAnyL_one 11 (by kernel_rfl) rfl (fun K hK => ?_)
                    have h11 := H10.out
                    rw [HR.out] at h11
                    have H11 := Lib.hid h11
                    clear h11
                    have c2 := (ln_cells (H11.out.blk 6 rfl)).1.2.2.1
                    have hup := blk_free (H11.out.blk 6 rfl)
                    go_simp
                    refine hK.out _ _ (fun h => absurd rfl h) ?_
                    clear hK K
                    refine wpAnyL_done (by kernel_rfl) ?_ _
                    have H12 := Lib.hid (H11.out.set 6 rfl (lnRow y ⟨wp, rp, .slice a' y.w.all.length c', rv, sv, av, dv⟩ x.w.top x.w.base) ((Fr.refl (fun k => k = p) w8).setCell (p := ⟨p, 2, none⟩) (.inl rfl) (.slice a' y.w.all.length c')) (by have hr := H11.out.blk 6 rfl; (apply row_trans; focus (repeat (first | (with_reducible exact hr) | (with_reducible apply row_set) | (with_reducible apply row_drewN) | (with_reducible apply row_drew) | (with_reducible apply row_alloc) | (apply row_set_other (by first | omega | (simp <;> omega)))))); rfl))
                    clear H10 H11 c2 hup
                    go_wp2_with fail
                    rw [frB_of (by kernel_rfl)]
                    refine HM.out _ _ ⟨rfl, rfl, rfl, rfl, rfl, rfl⟩ ⟨rfl, rfl, rfl⟩ (x.write dt) 0 m HST'.out ?_
                    have h := H12.out
                    simp only [List.set_cons_succ, List.set_cons_zero, HY.out] at h
                    rw [HY.out]
                    exact Held.shut (f := lnThs p (x.write dt)) (i := ⟨wp, rp, .slice a' (x.write dt).w.all.length c', rv, sv, av, dv⟩) (Held.pickL (us := [_, _, _, _, _, _, _, _, _, _, _, _, _]) (vs := [_, _, _, _, _, _, _, _, _, _, _, _]) h [6, 7, 8, 0, 9, 10, 11, 12, 1, 2, 3, 4] (by decide) rfl)
                  · intro J3 K4 hJ3 hK4
                    have hm0 : ((m : Int) < 0) = False := eq_false (by omega)
                    have hm1 : ((m : Int) > (z : Int)) = False := eq_false (by omega)
                    rcases HKE.out with rfl | rfl
                    all_goals
                      go_wp2_with fail
                      refine HAC.out.mono ?_
                      rintro e w7 ⟨rfl, h7⟩
                      have H7 := Lib.hid h7
                      clear h7
                      go_wp2_with fail
                      exact Met.intro (hJ3 _ _ ⟨_, frB_of (by kernel_rfl), ⟨rfl, rfl, rfl, rfl, rfl, rfl⟩, ⟨rfl, rfl, rfl⟩, ⟨rfl, rfl, rfl⟩, H7⟩)
              · have bf := decide_eq_false h01
                simp only [frB, e7, e8, e9, e12, e14, e15, e16, e17, e100, e101, e102, e121, e122, bf]
                clear e7 e8 e9 e12 e14 e15 e16 e17 e100 e101 e102 e121 e122 bf
                go_upto_if 181 with fail
                refine wp_cut (fun a' w' => w' = wc ∧ ∃ f : Nat → Value, a' = ⟨(frB f).toArray, []⟩ ∧ SlB f n b8 ar fb fo fs.length fc tk ∧ SlC f bt bc p ∧ SlD f kk b8 bt bc r ∧ f 181 = .bool (decide (r < 4))) ?_ ?_
                · rintro a' wd ⟨rfl, g, rfl, ⟨e7, e8, e9, e100, e101, e102⟩, ⟨e12, e14, e15⟩, ⟨e16, e17, e121⟩, e181⟩
                  by_cases h3 : r < 4
                  · simp only [frB, e7, e8, e9, e12, e14, e15, e16, e17, e100, e101, e102, e121, e181, decide_eq_true h3]
                    clear e7 e8 e9 e12 e14 e15 e16 e17 e100 e101 e102 e121 e181
                    as_aux_lemma =>
                      have cbt := blk_cell (i := 0) (H3.out.blk 3 rfl) rfl
                      have cbc := blk_cell (i := 0) (H3.out.blk 4 rfl) rfl
                      obtain ⟨⟨wp, rp, wv, rv, sv, av, dv⟩, h4⟩ := H3'.out
                      have c0 := blk_cell (i := 0) (h4.blk 0 rfl) rfl
                      obtain ⟨q, hq⟩ : ∃ q, q = kk % 6 + 1 := ⟨_, rfl⟩
                      have mq : 1 + (kk : Int) % 6 = (q : Int) := by omega
                      have mq' : (kk : Int) % 6 + 1 = (q : Int) := by omega
                      have hq6 : 1 ≤ q ∧ q ≤ 6 := by omega
                      have H4 := Lib.hid (Held.lift (A := [_]) h4)
                      obtain ⟨wu, hwu⟩ : ∃ wu, wu = x.w.tick q := ⟨_, rfl⟩
                      have HT := Lib.hid (tickW_c H4.out HX.out.1.w q hq6.1 (by omega))
                      rw [← hwu] at HT
                      have HWU := Lib.hid hwu
                      clear h4 hq hwu
                      go_wp2_with fail
                      refine HT.out.mono ?_
                      obtain ⟨y1, os⟩ := wu
                      have HOK := Lib.hid (HX.out.1.tick hq6.1)
                      have HTP := Lib.hid (Wr.tick_top HX.out.1.w (most := q))
                      rw [← HWU.out] at HTP
                      cases os with
                      | none =>
                        rintro e w5 ⟨rfl, h5⟩
                        have H5 := Lib.hid h5
                        clear h5 HT
                        go_wp2_with fail
                        rw [frB_of (by kernel_rfl)]
                        have hy : x.tick q = { x with w := y1 } := by unfold Ln.tick; rw [← HWU.out]
                        have hok := HOK.out
                        rw [hy] at hok
                        have e1 : y1.all = x.w.all := HTP.out.1
                        have e2 : y1.top = x.w.top := HTP.out.2.2
                        have e3 : y1.base = x.w.base := HTP.out.2.1
                        refine HM.out _ _ ⟨rfl, rfl, rfl, rfl, rfl, rfl⟩ ⟨rfl, rfl, rfl⟩ { x with w := y1 } 1 0 (Step.top HX.out.2.1 HX.out.2.2.1 hok ⟨Nat.le_succ _, Nat.le_succ _⟩ rfl e1 e2 e3 (by omega)) ?_
                        refine Held.shut (f := lnThs p { x with w := y1 }) (i := ⟨wp, rp, wv, rv, sv, av, dv⟩) (show Held (fun _ => False) (Old W) W ([tBlk p (lnRow x ⟨wp, rp, wv, rv, sv, av, dv⟩ y1.top y1.base)] ++ (tWr wp y1 :: tRdr rp x.r :: tSq eU8 5 wv y1.all :: tSq eU8 5 rv x.rd :: tSq eSeg 50 sv x.segs :: tSq eAk 58 av x.acks :: tSq eBool 4 dv x.dones :: tLed lp (Led.run es) :: tBlk b8 (bxL lp) :: tBlk bt (bxI tk) :: tBlk bc (bxI c) :: ts)) _ from ?_)
                        rw [e1, e2, e3]
                        exact (Held.sink (A := [_]) H5.out).alloc _
                      | some s =>
                        rintro e w5 ⟨a', c', rfl, h5⟩
                        obtain ⟨_, _, hsq⟩ := h5.get 5 rfl
                        obtain ⟨sa, sc, e1, -, -, -⟩ := Sq.le (show Sq eSeg 50 w5 _ _ sv x.segs from hsq)
                        subst e1
                        obtain ⟨D, hD⟩ : ∃ D, D = s.data.length := ⟨_, rfl⟩
                        have HD := Lib.hid hD
                        have h6 := (h5.front2.new (segO s.off a' D c' s.last)).front
                        rw [← hD] at h6 ⊢
                        obtain ⟨R, hR⟩ : ∃ R, R = tBlk w5.heap.size (segO s.off a' D c' s.last) :: tBy (.slice a' D c') s.data :: tWr wp y1 :: tBlk p (lnRow x ⟨wp, rp, wv, rv, .slice sa x.segs.length sc, av, dv⟩ x.w.top x.w.base) :: tRdr rp x.r :: tSq eU8 5 wv x.w.all :: tSq eU8 5 rv x.rd :: tSq eAk 58 av x.acks :: tSq eBool 4 dv x.dones :: tLed lp (Led.run es) :: tBlk b8 (bxL lp) :: tBlk bt (bxI tk) :: tBlk bc (bxI c) :: ts := ⟨_, rfl⟩
                        have HR := Lib.hid hR
                        obtain ⟨w6, hw6⟩ : ∃ w6, w6 = w5.alloc (segO s.off a' D c' s.last) := ⟨_, rfl⟩
                        have H7 := Lib.hid (show Held (fun _ => False) (Old W) W (tSq eSeg 50 (.slice sa x.segs.length sc) x.segs :: R) w6 from by rw [hR, hw6]; exact Held.pickL (us := [_, _, _, _, _, _, _, _, _, _, _, _, _, _]) (vs := [_, _, _, _, _, _, _, _, _, _, _, _, _, _]) h6 [7, 0, 1, 2, 3, 4, 5, 6, 8, 9, 10, 11, 12, 13] (by decide) rfl)
                        have HF := Lib.hid (show ∀ w', Held (fun _ => False) (Old W) W R w' → w'.cell? ⟨p, 4, none⟩ = some (.slice sa x.segs.length sc) ∧ w'.cell? ⟨w5.heap.size, 0, none⟩ = some (.int .i64 (s.off : Int)) ∧ w'.cell? ⟨w5.heap.size, 1, none⟩ = some (.slice a' D c') ∧ w'.cell? ⟨w5.heap.size, 2, none⟩ = some (.bool s.last) from fun w' hw' => by
                          rw [hR] at hw'
                          exact ⟨(ln_cells (hw'.blk 3 rfl)).1.2.2.2.2, blk_cell (i := 0) (hw'.blk 0 rfl) rfl, blk_cell (i := 1) (hw'.blk 0 rfl) rfl, blk_cell (i := 2) (hw'.blk 0 rfl) rfl⟩)
                        clear h5 HT hsq hD h6 H4 c0 cbt cbc mq mq' hR
                        go_upto_region 37 with fail
                        rw [← hw6]
                        clear hw6
                        generalize w5.heap.size = sb at HR HF ⊢
                        clear H3 H3'
                        have HSL := Lib.hid (show x.segs.length ≤ 150 by have := HX.out.2.2.2.2.1; omega)
                        refine wp_region_lag 10 (S := Held (fun _ => False) (Old W) W R) (by kernel_rfl) H7.out.tail.drew (fun hS0 => ?_)
                        change wpAnyL _ _ _ _ _ _ (5 + 6) _ _ _
                        refine wpAnyL_take_n 0 6 (by kernel_rfl) hS0 (fun _ _ _ _ _ h => h) ?_
                        simp only [List.drop_zero, List.take_succ_cons, List.take_zero]
                        iterate 6 (refine wpFirst_val (v := ?_) (by rfl) ?_ ?_; rotate_left 1; (focus ((intro w' hS'; obtain ⟨e0, e1, e2, e3⟩ := HF.out w' hS'; go_simp); try with_reducible rfl)); simp only [Act.put, List.setIfInBounds_toArray, List.set_cons_zero, List.set_cons_succ])
                        refine wpFirst_nil ?_
                        refine wpAnyL_one 6 (by kernel_rfl) rfl (fun K hK => ?_)
                        go_simp
                        rw [show (w6.alloc (.cells #[.int .i64 (s.off : Int), .slice a' D c', .bool s.last] 50)).drew = w6.drew.alloc (.cells #[.int .i64 (s.off : Int), .slice a' D c', .bool s.last] 50) from rfl]
                        refine hK.out _ _ (fun _ => hS0.alloc _) ?_
                        clear hK K
                        refine wpAnyL_one 7 (by kernel_rfl) rfl (fun K hK => ?_)
                        refine step_appE (E := eSeg) slSeg (by decide) rfl _ _ rfl (H7.out.drew.alloc _) 0 rfl (by have := HSL.out; omega) rfl _ [s] (by show 1 ≤ 100000; decide) [.int .i64 (s.off : Int), .slice a' D c', .bool s.last] rfl (rd_lit _ _ 3 1 _ _ _ rfl rfl (by decide)) (by intro u hu; simp at hu; rcases hu with rfl | rfl | rfl <;> rfl) (fun Y ho => by obtain ⟨_, _, hby⟩ := ho 2 (tBy (.slice a' D c') s.data) (by decide) (by rw [HR.out]; rfl); exact ⟨Y, fun _ h => .inl h, Els.single (E := eSeg) ⟨_, rfl, hby⟩⟩) ?_
                        intro a2 c2 w8 h8
                        have H8 := Lib.hid (show Held (fun _ => False) (Old W) W (tSq eSeg 50 (.slice a2 (x.segs ++ [s]).length c2) (x.segs ++ [s]) :: R) w8 from h8)
                        obtain ⟨ns, hns⟩ : ∃ ns, ns = (x.segs ++ [s]).length := ⟨_, rfl⟩
                        rw [← hns] at H8 ⊢
                        have HNS := Lib.hid hns
                        clear h8 hS0 H7 HF hns
                        refine hK.out _ _ (fun _ => H8.out.tail) ?_
                        clear hK K
                        refine wpAnyL_one 8 (by kernel_rfl) rfl (fun K hK => ?_)
                        go_simp
                        refine hK.out _ _ (fun _ => H8.out.tail) ?_
                        clear hK K
                        refine wpAnyL_one 9 (by kernel_rfl) rfl (fun K hK => ?_)
                        go_simp
                        refine hK.out _ _ (fun _ => H8.out.tail) ?_
                        clear hK K
                        refine wpAnyL_one 10 (by kernel_rfl) rfl (fun K hK => ?_)
                        have h11 := H8.out
                        rw [HR.out] at h11
                        have H11 := Lib.hid h11
                        clear h11 H8
                        have c4 := (ln_cells (H11.out.blk 4 rfl)).1.2.2.2.2
                        have hup := blk_free (H11.out.blk 4 rfl)
                        go_simp
                        refine hK.out _ _ (fun h => absurd rfl h) ?_
                        clear hK K
                        refine wpAnyL_done (by kernel_rfl) ?_ _
                        have H12 := Lib.hid (H11.out.set 4 rfl (lnRow x ⟨wp, rp, wv, rv, .slice a2 ns c2, av, dv⟩ x.w.top x.w.base) ((Fr.refl (fun k => k = p) w8).setCell (p := ⟨p, 4, none⟩) (.inl rfl) (.slice a2 ns c2)) (by have hr := H11.out.blk 4 rfl; (apply row_trans; focus (repeat (first | (with_reducible exact hr) | (with_reducible apply row_set) | (with_reducible apply row_drewN) | (with_reducible apply row_drew) | (with_reducible apply row_alloc) | (apply row_set_other (by first | omega | (simp <;> omega)))))); rfl))
                        clear H11 c4 hup HR
                        generalize w8.setCell ⟨p, 4, none⟩ (.slice a2 ns c2) = w9 at H12 ⊢
                        have g0 := blk_cell (i := 0) (H12.out.blk 1 rfl) rfl
                        have g1 := blk_cell (i := 1) (H12.out.blk 1 rfl) rfl
                        have hoff : s.off + D ≤ y1.top ∧ y1.top ≤ x.w.all.length := by
                          have hy : x.tick q = { x with w := y1, segs := x.segs ++ [s] } := by unfold Ln.tick; rw [← HWU.out]
                          have hok := HOK.out
                          rw [hy] at hok
                          have h1 := (hok.segs s (List.mem_append_right _ (List.mem_singleton.2 rfl))).1
                          have h2 := hok.w.tt
                          rw [HD.out]
                          exact ⟨h1, by rw [← HTP.out.1]; exact h2⟩
                        have hall := HX.out.2.1
                        obtain ⟨m, hm⟩ : ∃ m, m = s.off + D - x.w.top := ⟨_, rfl⟩
                        obtain ⟨en, hen⟩ : ∃ en, en = s.off + D := ⟨_, rfl⟩
                        have e1 : (s.off : Int) + (D : Int) = (en : Int) := by omega
                        obtain ⟨tp, htp⟩ : ∃ tp, tp = x.w.top := ⟨_, rfl⟩
                        have htop : tp ≤ x.w.all.length := by rw [htp]; exact HX.out.1.w.tt
                        have c7 := (ln_cells (H12.out.blk 4 rfl)).2.2.2.1
                        rw [← htp] at c7 hm
                        rw [← hen] at hm hoff
                        have hso : s.off ≤ 600 ∧ D ≤ 600 ∧ en ≤ 600 ∧ tp ≤ 600 := by omega
                        have hmm : m ≤ 600 := by omega
                        have hsub : max ((en : Int) - (tp : Int)) 0 = (m : Int) := by omega
                        have hmx : max (tp : Int) (en : Int) = ((tp + m : Nat) : Int) := by omega
                        have HTT := Lib.hid (show y1.top = x.w.top + m by rw [HTP.out.2.2, ← HD.out, ← hen, ← htp]; omega)
                        have HTPE := Lib.hid htp
                        clear hen hm htp hoff hall htop
                        obtain ⟨tn, htn⟩ : ∃ tn, tn = tp + m := ⟨_, rfl⟩
                        rw [← htn] at hmx
                        have HTN := Lib.hid htn
                        clear htn
                        have hok := HOK.out
                        rw [show x.tick q = { x with w := y1, segs := x.segs ++ [s] } by unfold Ln.tick; rw [← HWU.out]] at hok
                        have HST := Lib.hid (Step.top HX.out.2.1 HX.out.2.2.1 hok ⟨by simp, Nat.le_succ _⟩ rfl HTP.out.1 HTT.out HTP.out.2.1 (by omega) (n := m))
                        have HAC := Lib.hid (acc_c ⟨tk, c, 1, m⟩ (show m ≤ 1048576 by omega) (HCX.out _ _ _ HST.out) (Held.pickL (us := [_, _, _, _, _, _, _, _, _, _, _, _, _, _]) (vs := [_, _, _, _, _, _, _, _, _, _, _, _, _, _]) H12.out [10, 11, 12, 13, 0, 1, 2, 3, 4, 5, 6, 7, 8, 9] (by decide) rfl))
                        clear hok H12 HOK HX HCX HWU
                        go_wp2_with fail
                        refine HAC.out.mono ?_
                        rintro e w10 ⟨rfl, h10⟩
                        have H10 := Lib.hid h10
                        clear h10 HAC g0 g1 c7
                        have c7 := (ln_cells (H10.out.blk 8 rfl)).2.2.2.1
                        rw [← HTPE.out] at c7
                        have hup := blk_free (H10.out.blk 8 rfl)
                        have hlt := lt_of_block (H10.out.blk 8 rfl)
                        go_wp2_with fail
                        rw [frB_of (by kernel_rfl)]
                        refine HM.out _ _ ⟨rfl, rfl, rfl, rfl, rfl, rfl⟩ ⟨rfl, rfl, rfl⟩ { x with w := y1, segs := x.segs ++ [s] } 1 m HST.out ?_
                        have H11 := Lib.hid (H10.out.set 8 rfl (lnRow x ⟨wp, rp, wv, rv, .slice a2 ns c2, av, dv⟩ tn x.w.base) ((Fr.refl (fun k => k = p) w10).setCell (p := ⟨p, 7, none⟩) (.inl rfl) (.int .i64 (tn : Int))) (by have hr := H10.out.blk 8 rfl; rw [← HTPE.out] at hr; (apply row_trans; focus (repeat (first | (with_reducible exact hr) | (with_reducible apply row_set) | (with_reducible apply row_drewN) | (with_reducible apply row_drew) | (with_reducible apply row_alloc) | (apply row_set_other (by first | omega | (simp <;> omega)))))); rfl))
                        generalize w10.setCell ⟨p, 7, none⟩ (.int .i64 (tn : Int)) = w11 at H11 ⊢
                        refine Held.shut (f := lnThs p { x with w := y1, segs := x.segs ++ [s] }) (i := ⟨wp, rp, wv, rv, .slice a2 ns c2, av, dv⟩) (show Held (fun _ => False) (Old W) W (tBlk p (lnRow x ⟨wp, rp, wv, rv, .slice a2 ns c2, av, dv⟩ y1.top y1.base) :: tWr wp y1 :: tRdr rp x.r :: tSq eU8 5 wv y1.all :: tSq eU8 5 rv x.rd :: tSq eSeg 50 (.slice a2 ns c2) (x.segs ++ [s]) :: tSq eAk 58 av x.acks :: tSq eBool 4 dv x.dones :: tLed lp ((Led.run es).acc ⟨tk, c, 1, m⟩) :: tBlk b8 (bxL lp) :: tBlk bt (bxI tk) :: tBlk bc (bxI c) :: ts) _ from ?_)
                        rw [HTP.out.1, HTP.out.2.1, HTT.out, ← HTPE.out, ← HTN.out]
                        exact Held.pickL (us := [_, _, _, _, _, _, _, _, _, _, _, _, _, _]) (vs := [_, _, _, _, _, _, _, _, _, _, _, _]) H11.out [8, 7, 9, 10, 11, 4, 12, 13, 0, 1, 2, 3] (by decide) rfl
                  · have bf := decide_eq_false h3
                    simp only [frB, e7, e8, e9, e12, e14, e15, e16, e17, e100, e101, e102, e121, e181, bf]
                    clear e7 e8 e9 e12 e14 e15 e16 e17 e100 e101 e102 e121 e181 bf
                    go_upto_if 231 with fail
                    refine wp_cut (fun a' w' => w' = wd ∧ ∃ f : Nat → Value, a' = ⟨(frB f).toArray, []⟩ ∧ SlB f n b8 ar fb fo fs.length fc tk ∧ SlC f bt bc p ∧ SlD f kk b8 bt bc r ∧ f 231 = .bool (decide (r < 6))) ?_ ?_
                    · rintro a' we ⟨rfl, g, rfl, ⟨e7, e8, e9, e100, e101, e102⟩, ⟨e12, e14, e15⟩, ⟨e16, e17, e121⟩, e231⟩
                      by_cases h5 : r < 6
                      · simp only [frB, e7, e8, e9, e12, e14, e15, e16, e17, e100, e101, e102, e121, e231, decide_eq_true h5]
                        clear e7 e8 e9 e12 e14 e15 e16 e17 e100 e101 e102 e121 e231
                        as_aux_lemma =>
                          obtain ⟨⟨wp, rp, wv, rv, sv, av, dv⟩, h4⟩ := H3'.out
                          obtain ⟨_, _, hsq⟩ := h4.get 5 rfl
                          obtain ⟨sa, sc, e1, -, -, -⟩ := Sq.le (show Sq eSeg 50 _ _ _ sv x.segs from hsq)
                          obtain ⟨_, _, hsr⟩ := h4.get 4 rfl
                          obtain ⟨ra, rc, e2, -, -, -⟩ := Sq.le (show Sq eU8 5 _ _ _ rv x.rd from hsr)
                          subst e1
                          subst e2
                          have HLO := Lib.hid (Ln.low HX.out.1 HX.out.2.1 HX.out.2.2.1 HX.out.2.2.2.2.2.2 (by omega))
                          have H4 := Lib.hid (Held.lift (A := [_, _]) h4)
                          clear hsq hsr
                          go_upto_region 44 with fail
                          refine wp_cut (fun a' w' => ∃ f : Nat → Value, a' = ⟨(frB f).toArray, []⟩ ∧ SlB f n b8 ar fb fo fs.length fc tk ∧ SlC f bt bc p ∧ (f 16 = .int .i64 (kk : Int) ∧ f 260 = .bool false) ∧ ∃ S : St, Hid (({ x with r := S } : Ln).Ok ∧ S.n ≤ 16 * (tk + 1) ∧ S.fin ≤ 1000) ∧ Hid (Held (fun _ => False) (Old W) W (tRdr rp S :: tBlk p (lnRow x ⟨wp, rp, wv, .slice ra x.rd.length rc, .slice sa x.segs.length sc, av, dv⟩ x.w.top x.w.base) :: tWr wp x.w :: tSq eU8 5 wv x.w.all :: tSq eU8 5 (.slice ra x.rd.length rc) x.rd :: tSq eSeg 50 (.slice sa x.segs.length sc) x.segs :: tSq eAk 58 av x.acks :: tSq eBool 4 dv x.dones :: tLed lp (Led.run es) :: tBlk b8 (bxL lp) :: tBlk bt (bxI tk) :: tBlk bc (bxI c) :: ts) w')) ?_ ?_
                          · rintro a' wf ⟨g, rfl, ⟨e7, e8, e9, e100, e101, e102⟩, ⟨e12, e14, e15⟩, ⟨e16, e260⟩, S, HS, H5⟩
                            simp only [frB, e7, e8, e9, e12, e14, e15, e16, e100, e101, e102, e260]
                            clear e7 e8 e9 e12 e14 e15 e16 e100 e101 e102 e260 h4 H4 H3 H3'
                            obtain ⟨z, hz⟩ : ∃ z, z = kk % 3 := ⟨_, rfl⟩
                            have mz : (kk : Int) % 3 = (z : Int) := by omega
                            have mz' : (kk : Int).tmod 3 = (z : Int) := by rw [hz, Int.tmod_eq_emod_of_nonneg (by omega)]; rfl
                            clear hz
                            by_cases hz0 : z = 0
                            · subst hz0
                              obtain ⟨q, hq⟩ : ∃ q, q = kk % 5 + 1 := ⟨_, rfl⟩
                              have mq : 1 + (kk : Int) % 5 = (q : Int) := by omega
                              have mq' : (kk : Int) % 5 + 1 = (q : Int) := by omega
                              have hq6 : 1 ≤ q ∧ q ≤ 5 := by omega
                              clear hq
                              have hS := HS.out.1.r
                              have hS' : S.Ok x.w := hS
                              obtain ⟨n', hn'⟩ : ∃ n', n' = min q (S.next - S.off) := ⟨_, rfl⟩
                              have hle : S.off + n' ≤ S.next := by have := hS'.le; omega
                              have hlen : S.next ≤ x.w.all.length := Nat.le_trans hS'.top HX.out.1.w.tt
                              obtain ⟨d, hd⟩ : ∃ d, d = (x.w.all.drop S.off).take n' := ⟨_, rfl⟩
                              have hdl : d.length = n' := by rw [hd, List.length_take, List.length_drop]; omega
                              have hdb : ∀ i b, d[i]? = some b → S.m ((S.off + i : Nat) : Int) = some b := fun i b hi => by
                                have hil : i < n' := by rw [← hdl]; exact lt_of_get hi
                                obtain ⟨b', h1, h2⟩ := hS'.got (i := i) (by omega)
                                rw [hd, List.getElem?_take, if_pos hil, List.getElem?_drop, h2] at hi
                                rw [h1]; exact hi
                              have HRD := Lib.hid (readR_c H5.out (Ln.low (k := tk + 1) HS.out.1 (by have := HX.out.2.1; show x.w.all.length ≤ _; omega) HS.out.2.1 HS.out.2.2 (by omega)) hS'.le q hq6.1 (by omega) n' hn' d hdl hdb)
                              have HDD := Lib.hid (show d = (x.w.all.drop S.off).take n' ∧ d.length = n' ∧ S.off + n' ≤ S.next from ⟨hd, hdl, hle⟩)
                              have hd1 : d.length ≤ 100 := by omega
                              have hrl : x.rd.length ≤ 1000 := by have h1 := HX.out.1.rdlen.1; have h2 := HX.out.1.r.le; have h3 := HX.out.1.r.top; have h4 := HX.out.1.w.tt; have h5 := HX.out.2.1; omega
                              have c1 := (ln_cells (H5.out.blk 1 rfl)).1.2.1
                              clear hS hS' hn' hle hlen hd hdl hdb
                              go_upto_region 48 with (go_at_call 13; refine HRD.out.mono ?_; rintro e w6 ⟨a2, c2, q2, rfl, h6⟩; have H6 := Lib.hid h6.front2; clear h6)
                              clear c1 mq mq' mz mz' HRD
                              have c3 := (ln_cells (H6.out.blk 2 rfl)).1.2.2.2.1
                              have HRL := Lib.hid hrl
                              have HD1 := Lib.hid hd1
                              go_wp2_with (at_builtin; refine wpList_appE (E := eU8) slB (by decide) rfl _ _ rfl H6.out 5 rfl (by have := HRL.out; omega) rfl (.slice a2 d.length c2) d (by have := HD1.out; omega) (cu d) rfl (by obtain ⟨_, _, hb⟩ := H6.out.get 0 rfl; exact sq_by8 (show Sq eU8 5 w6 _ _ (.slice a2 d.length c2) d from hb)) cu_one (fun Y _ => ⟨fun _ => False, fun _ f => f.elim, els_cu _⟩) ?_; intro a3 c3' w7 h7 _; obtain ⟨nr, hnr⟩ : ∃ nr, nr = (x.rd ++ d).length := ⟨_, rfl⟩; rw [← hnr] at h7 ⊢; have HNR := Lib.hid hnr; have H7 := Lib.hid h7; have c3b := (ln_cells (H7.out.blk 2 rfl)).1.2.2.2.1; have hup := blk_free (H7.out.blk 2 rfl); clear h7 hnr c3)
                              rw [frB_of (by kernel_rfl)]
                              refine HM.out _ _ ⟨rfl, rfl, rfl, rfl, rfl, rfl⟩ ⟨rfl, rfl, rfl⟩ { x with r := S.read n', rd := x.rd ++ d } 0 0 (Step.same HX.out.2.1 (by have h := HS.out.1.reads HDD.out.2.2; rw [HDD.out.1]; exact h) ⟨Nat.le_succ _, Nat.le_succ _⟩ (fun _ => HS.out.2.2) HS.out.2.1 rfl rfl rfl) ?_
                              have H8 := Lib.hid (H7.out.set 2 rfl (lnRow x ⟨wp, rp, wv, .slice a3 nr c3', .slice sa x.segs.length sc, av, dv⟩ x.w.top x.w.base) ((Fr.refl (fun k => k = p) w7).setCell (p := ⟨p, 3, none⟩) (.inl rfl) (.slice a3 nr c3')) (by have hr := H7.out.blk 2 rfl; (apply row_trans; focus (repeat (first | (with_reducible exact hr) | (with_reducible apply row_set) | (with_reducible apply row_drewN) | (with_reducible apply row_drew) | (with_reducible apply row_alloc) | (apply row_set_other (by first | omega | (simp <;> omega)))))); rfl))
                              refine Held.shut (f := lnThs p { x with r := S.read n', rd := x.rd ++ d }) (i := ⟨wp, rp, wv, .slice a3 nr c3', .slice sa x.segs.length sc, av, dv⟩) ?_
                              exact Held.pickL (us := [_, _, _, _, _, _]) (vs := [_, _, _, _, _]) H8.out [2, 3, 1, 4, 5] (by decide) rfl
                            · have b0 : ((z : Int) == 0) = false := by simp; omega
                              go_wp2_with fail
                              rw [frB_of (by kernel_rfl)]
                              refine HM.out _ _ ⟨rfl, rfl, rfl, rfl, rfl, rfl⟩ ⟨rfl, rfl, rfl⟩ { x with r := S } 0 0 (Step.same HX.out.2.1 HS.out.1 ⟨Nat.le_succ _, Nat.le_succ _⟩ (fun _ => HS.out.2.2) HS.out.2.1 rfl rfl rfl) ?_
                              refine Held.shut (f := lnThs p { x with r := S }) (i := ⟨wp, rp, wv, .slice ra x.rd.length rc, .slice sa x.segs.length sc, av, dv⟩) ?_
                              exact Held.pickL (us := [_, _, _]) (vs := [_, _, _]) H5.out [1, 2, 0] (by decide) rfl
                          · intro J3 K4 hJ3 hK4
                            have c1 := (ln_cells (h4.blk 0 rfl)).1.2.1
                            have c4 := (ln_cells (h4.blk 0 rfl)).1.2.2.2.2
                            obtain ⟨ns, hns⟩ : ∃ ns, ns = x.segs.length := ⟨_, rfl⟩
                            rw [← hns] at c4
                            have HNS := Lib.hid hns
                            have hns150 : ns ≤ 150 := by rw [hns]; have := HX.out.2.2.2.2.1; omega
                            by_cases hn0 : ns = 0
                            · subst hn0
                              obtain ⟨SS, hSS⟩ : ∃ SS : World → Prop, SS = fun w' => w'.cell? ⟨p, 4, none⟩ = some (.slice sa 0 sc) := ⟨_, rfl⟩
                              have HF := Lib.hid (show ∀ w', SS w' → w'.cell? ⟨p, 4, none⟩ = some (.slice sa 0 sc) by rw [hSS]; exact fun _ h => h)
                              have H3d := Lib.hid (show SS (World.drew _) by rw [hSS]; exact c4)
                              clear h4 hns hSS c1 c4
                              refine wp_region_still_tail 24 (by kernel_rfl) (by kernel_rfl) ?_
                              simp only [List.take_succ_cons, List.take_zero, List.drop_succ_cons, List.drop_zero]
                              change wpStill _ _ (World.drew _) (fun a' => wpList _ _ _ _ a' (World.drew _)) _ _
                              refine hs_out ?_
                              iterate 24 (first | (refine hs_un (by rfl) ?_; simp only [Act.put, List.setIfInBounds_toArray, List.set_cons_zero, List.set_cons_succ]) | (refine hs_val H3d.out (v := ?_) (by rfl) ?_ ?_; rotate_left 1; (focus ((intro w' hS'; obtain e0 := HF.out w' hS'; go_simp); try with_reducible rfl)); simp only [Act.put, List.setIfInBounds_toArray, List.set_cons_zero, List.set_cons_succ]))
                              refine hs_nil ?_
                              go_wp2_with fail
                              rw [frB_of (by kernel_rfl)]
                              refine Met.intro (hJ3 _ _ ⟨_, rfl, ⟨rfl, rfl, rfl, rfl, rfl, rfl⟩, ⟨rfl, rfl, rfl⟩, ⟨rfl, rfl⟩, x.r, Lib.hid ⟨HX.out.1, by have := HX.out.2.2.1; omega, HX.out.2.2.2.2.2.2⟩, Lib.hid H4.out.drew⟩)
                            · have hne : 0 < ns := by omega
                              obtain ⟨j, hj⟩ : ∃ j, j = kk % ns := ⟨_, rfl⟩
                              have hjn : j < ns := by rw [hj]; exact Nat.mod_lt _ hne
                              have m1 : (kk : Int).tmod (ns : Int) = (j : Int) := by rw [hj, Int.tmod_eq_emod_of_nonneg (by omega)]; rfl
                              have m2 : (kk : Int) % (ns : Int) = (j : Int) := by rw [hj]; rfl
                              obtain ⟨s, hs⟩ : ∃ s, x.segs[j]? = some s := ⟨x.segs[j]'(by omega), List.getElem?_eq_getElem _⟩
                              have hmem := List.mem_of_getElem? hs
                              have hof := HX.out.1.segs s hmem
                              have hsl : s.off + s.data.length ≤ 600 := by have h1 := hof.1; have h2 := HX.out.1.w.tt; have h3 := HX.out.2.1; omega
                              have HSF := Lib.hid (show x.r.Fits s ∧ s ∈ x.segs ∧ s.off + s.data.length ≤ 600 from ⟨HX.out.1.r.fits HX.out.1.w hof, hmem, hsl⟩)
                              obtain ⟨gb, go, va, vc, rfl, k0, k1, k2, h6⟩ := Held.segAt H4.out 5 rfl hs
                              have H7 := Lib.hid (Held.lift (A := [_]) (Held.front2 h6))
                              obtain ⟨D, hD⟩ : ∃ D, D = s.data.length := ⟨_, rfl⟩
                              rw [← hD] at k1
                              have HD := Lib.hid hD
                              obtain ⟨so, hso⟩ : ∃ so, so = s.off := ⟨_, rfl⟩
                              rw [← hso] at k0
                              have HSO := Lib.hid hso
                              obtain ⟨bo, hbo⟩ : ∃ bo, bo = go + j * 3 := ⟨_, rfl⟩
                              obtain ⟨SS, hSS⟩ : ∃ SS : World → Prop, SS = fun w' => w'.cell? ⟨p, 1, none⟩ = some (.pointer (some ⟨rp, 0, none⟩)) ∧ w'.cell? ⟨p, 4, none⟩ = some (.slice (some ⟨gb, go, none⟩) ns sc) ∧ w'.cell? ⟨gb, go + j * 3, none⟩ = some (.int .i64 (so : Int)) ∧ w'.cell? ⟨gb, go + j * 3 + 1, none⟩ = some (.slice va D vc) ∧ w'.cell? ⟨gb, go + j * 3 + 2, none⟩ = some (.bool s.last) := ⟨_, rfl⟩
                              have HF := Lib.hid (show ∀ w', SS w' → w'.cell? ⟨p, 1, none⟩ = some (.pointer (some ⟨rp, 0, none⟩)) ∧ w'.cell? ⟨p, 4, none⟩ = some (.slice (some ⟨gb, go, none⟩) ns sc) ∧ w'.cell? ⟨gb, go + j * 3, none⟩ = some (.int .i64 (so : Int)) ∧ w'.cell? ⟨gb, go + j * 3 + 1, none⟩ = some (.slice va D vc) ∧ w'.cell? ⟨gb, go + j * 3 + 2, none⟩ = some (.bool s.last) by rw [hSS]; exact fun _ h => h)
                              have H3d := Lib.hid (show SS (World.drew _) by rw [hSS]; exact ⟨c1, c4, k0, k1, k2⟩)
                              clear h4 hns hSS c1 c4 hj hs hmem hof hsl k0 k1 k2 h6 hbo hD hso
                              refine wp_region_still_tail 24 (by kernel_rfl) (by kernel_rfl) ?_
                              simp only [List.take_succ_cons, List.take_zero, List.drop_succ_cons, List.drop_zero]
                              change wpStill _ _ (World.drew _) (fun a' => wpList _ _ _ _ a' (World.drew _)) _ _
                              refine hs_out ?_
                              iterate 24 (first | (refine hs_un (by rfl) ?_; simp only [Act.put, List.setIfInBounds_toArray, List.set_cons_zero, List.set_cons_succ]) | (refine hs_val H3d.out (v := ?_) (by rfl) ?_ ?_; rotate_left 1; (focus ((intro w' hS'; obtain ⟨e0, e1, e2, e3, e4⟩ := HF.out w' hS'; go_simp); try with_reducible rfl)); simp only [Act.put, List.setIfInBounds_toArray, List.set_cons_zero, List.set_cons_succ]))
                              refine hs_nil ?_
                              have hrc := receiveR_c (s := s) H7.out.drew 0 rfl HSF.out.1 HLO.out (by have := HSF.out.2.2; omega)
                              rw [← HSO.out, ← HD.out] at hrc
                              have HRC := Lib.hid hrc
                              clear hrc m1 m2 H3 H3' H3d HF
                              go_wp2_with (go_at_call 12; refine HRC.out.mono ?_; rintro e w5 ⟨u, rfl, hu, h5⟩; have H5 := Lib.hid h5; have HU := Lib.hid hu; clear h5 hu)
                              rw [frB_of (by kernel_rfl)]
                              refine Met.intro (hJ3 _ _ ⟨_, rfl, ⟨rfl, rfl, rfl, rfl, rfl, rfl⟩, ⟨rfl, rfl, rfl⟩, ⟨rfl, rfl⟩, x.r.put s u, Lib.hid ⟨HX.out.1.recv HSF.out.2.1 HU.out, ?_, ?_⟩, Lib.hid ?_⟩)
                              · have h1 := St.put_n x.r s u HX.out.1.r.win.2
                                have h2 := HX.out.2.2.1
                                omega
                              · show (if s.last then s.off + s.data.length else x.r.fin) ≤ 1000
                                have h1 := HSF.out.2.2
                                have h2 := HX.out.2.2.2.2.2.2
                                split <;> omega
                              · exact (Held.lift (A := [_]) H5.out).tail
                      · have bf := decide_eq_false h5
                        simp only [frB, e7, e8, e9, e12, e14, e15, e16, e17, e100, e101, e102, e121, e231, bf]
                        clear e7 e8 e9 e12 e14 e15 e16 e17 e100 e101 e102 e121 e231 bf
                        by_cases h6 : r = 6
                        · have b6 : ((r : Int) == 6) = true := by simp; omega
                          go_upto_region 50 with fail
                          as_aux_lemma =>
                            obtain ⟨⟨wp, rp, wv, rv, sv, av, dv⟩, h4⟩ := H3'.out
                            obtain ⟨_, _, hsq⟩ := h4.get 6 rfl
                            obtain ⟨aa, ac, e1, -, -, -⟩ := Sq.le (show Sq eAk 58 _ _ _ av x.acks from hsq)
                            obtain ⟨_, _, hsr⟩ := h4.get 7 rfl
                            obtain ⟨da, dc, e2, -, -, -⟩ := Sq.le (show Sq eBool 4 _ _ _ dv x.dones from hsr)
                            subst e1
                            subst e2
                            have c1 := (ln_cells (h4.blk 0 rfl)).1.2.1
                            have HAK := Lib.hid (ackR_c (Held.lift (A := [_, _]) h4) (Ln.low HX.out.1 HX.out.2.1 HX.out.2.2.1 HX.out.2.2.2.2.2.2 (by omega)) HX.out.1.r.room)
                            clear hsq hsr h4
                            go_upto_region 51 with (go_at_call 14; refine HAK.out.mono ?_; rintro e w6 ⟨rfl, h6⟩; have H6 := Lib.hid h6; clear h6)
                            clear HAK c1 H3 H3'
                            refine wp_cut (fun a' w' => ∃ f : Nat → Value, a' = ⟨(frB f).toArray, []⟩ ∧ SlB f n b8 ar fb fo fs.length fc tk ∧ SlC f bt bc p ∧ f 16 = .int .i64 (kk : Int) ∧ Hid (Held (fun _ => False) (Old W) W (tLn p x.conf :: tLed lp (Led.run es) :: tBlk b8 (bxL lp) :: tBlk bt (bxI tk) :: tBlk bc (bxI c) :: ts) w')) ?_ ?_
                            · rintro a' wf ⟨g, rfl, ⟨e7, e8, e9, e100, e101, e102⟩, ⟨e12, e14, e15⟩, e16, H7⟩
                              simp only [frB, e7, e8, e9, e12, e14, e15, e16, e100, e101, e102]
                              clear e7 e8 e9 e12 e14 e15 e16 e100 e101 e102 H6
                              have hlst : x.conf.acks.length ≤ x.acks.length + 1 := by show (x.acks ++ [_]).length ≤ _; simp
                              have HLS := Lib.hid hlst
                              clear hlst
                              obtain ⟨z, hz⟩ : ∃ z, z = kk % 16 := ⟨_, rfl⟩
                              have mz : (kk : Int) % 16 = (z : Int) := by omega
                              have mz' : (kk : Int).tmod 16 = (z : Int) := by rw [hz, Int.tmod_eq_emod_of_nonneg (by omega)]; rfl
                              clear hz
                              by_cases hz0 : z = 0
                              · subst hz0
                                obtain ⟨⟨wp, rp, wv, rv, sv, av, dv⟩, h8⟩ := H7.out.opens
                                have c0 := (ln_cells (h8.blk 0 rfl)).1.1
                                have HCL := Lib.hid (closeW_c (Held.lift (A := [_]) h8))
                                clear h8
                                go_wp2_with (go_at_call 15; refine HCL.out.mono ?_; rintro e w7 ⟨q, rfl, h9⟩; have H9 := Lib.hid h9; clear h9)
                                rw [frB_of (by kernel_rfl)]
                                refine HM.out _ _ ⟨rfl, rfl, rfl, rfl, rfl, rfl⟩ ⟨rfl, rfl, rfl⟩ x.conf.close 0 0 (Step.same HX.out.2.1 HX.out.1.conf.close ⟨Nat.le_succ _, HLS.out⟩ id (by have := HX.out.2.2.1; show x.r.n ≤ _; omega) rfl rfl rfl) ?_
                                exact Held.shut (f := lnThs p x.conf.close) (i := ⟨wp, rp, wv, rv, sv, av, dv⟩) (Held.sink (A := [_]) H9.out)
                              · have b0 : ((z : Int) == 0) = false := by simp; omega
                                go_wp2_with fail
                                rw [frB_of (by kernel_rfl)]
                                exact HM.out _ _ ⟨rfl, rfl, rfl, rfl, rfl, rfl⟩ ⟨rfl, rfl, rfl⟩ x.conf 0 0 (Step.same HX.out.2.1 HX.out.1.conf ⟨Nat.le_succ _, HLS.out⟩ id (by have := HX.out.2.2.1; show x.r.n ≤ _; omega) rfl rfl rfl) H7.out
                            · intro J3 K4 hJ3 hK4
                              have HXX := HX
                              clear HX
                              have HAL := Lib.hid (show x.acks.length ≤ 150 ∧ x.dones.length ≤ 150 by have h1 := HXX.out.2.2.2.2.2.1; have h2 := HXX.out.1.len; omega)
                              obtain ⟨nx, hnx⟩ : ∃ nx, nx = x.r.next := ⟨_, rfl⟩
                              obtain ⟨rm, hrm⟩ : ∃ rm, rm = x.r.off + x.r.win - x.r.next := ⟨_, rfl⟩
                              obtain ⟨wh, hwh⟩ : ∃ wh, wh = x.r.whole := ⟨_, rfl⟩
                              rw [← hrm, ← hnx, ← hwh]
                              have HCF := Lib.hid (show x.conf = { x with acks := x.acks ++ [(nx, rm)], dones := x.dones ++ [wh] } by rw [hnx, hrm, hwh]; rfl)
                              clear hnx hrm hwh
                              obtain ⟨L, hL⟩ : ∃ L, L = tBlk p (lnRow x ⟨wp, rp, wv, rv, sv, .slice aa x.acks.length ac, .slice da x.dones.length dc⟩ x.w.top x.w.base) :: tRdr rp x.r :: tWr wp x.w :: tSq eU8 5 wv x.w.all :: tSq eU8 5 rv x.rd :: tSq eSeg 50 sv x.segs :: tLed lp (Led.run es) :: tBlk b8 (bxL lp) :: tBlk bt (bxI tk) :: tBlk bc (bxI c) :: ts := ⟨_, rfl⟩
                              have HL' := Lib.hid hL
                              have H7 := Lib.hid (show Held (fun _ => False) (Old W) W (tSq eAk 58 (.slice aa x.acks.length ac) x.acks :: tSq eBool 4 (.slice da x.dones.length dc) x.dones :: L) w6 from by rw [hL]; exact Held.pickL (us := [_, _, _, _, _, _, _, _, _, _, _, _]) (vs := [_, _, _, _, _, _, _, _, _, _, _, _]) H6.out [6, 7, 1, 0, 2, 3, 4, 5, 8, 9, 10, 11] (by decide) rfl)
                              obtain ⟨SS, hSS⟩ : ∃ SS : World → Prop, SS = fun w' => w'.cell? ⟨p, 5, none⟩ = some (.slice aa x.acks.length ac) ∧ w'.cell? ⟨p, 6, none⟩ = some (.slice da x.dones.length dc) := ⟨_, rfl⟩
                              have HF := Lib.hid (show ∀ w', SS w' → w'.cell? ⟨p, 5, none⟩ = some (.slice aa x.acks.length ac) ∧ w'.cell? ⟨p, 6, none⟩ = some (.slice da x.dones.length dc) by rw [hSS]; exact fun _ h => h)
                              have HSS := Lib.hid (show ∀ w', Held (fun _ => False) (Old W) W L w' → SS w' by rw [hSS, hL]; exact fun w' hw' => ⟨(ln_cells (hw'.blk 0 rfl)).2.1, (ln_cells (hw'.blk 0 rfl)).2.2.1⟩)
                              clear H6 hL hSS
                              refine wp_region_lag 20 (S := SS) (by kernel_rfl) (HSS.out _ H7.out.tail.tail.drew) (fun hS0 => ?_)
                              obtain ⟨wd, hwd⟩ : ∃ wd, wd = w6.drew := ⟨_, rfl⟩
                              have HX := Lib.hid (show Held (fun _ => False) (Old W) W (tSq eAk 58 (.slice aa x.acks.length ac) x.acks :: tSq eBool 4 (.slice da x.dones.length dc) x.dones :: L) wd from by rw [hwd]; exact H7.out.drew)
                              rw [← hwd] at hS0 ⊢
                              clear H7 hwd
                              change wpAnyL _ _ _ _ _ _ (23 + 1) _ _ _
                              refine wpAnyL_take_n 0 1 (by kernel_rfl) hS0 (fun _ _ _ _ _ h => h) ?_
                              simp only [List.drop_zero, List.take_succ_cons, List.take_zero]
                              (refine wpFirst_val (v := ?_) (by rfl) ?_ ?_; rotate_left 1; (focus ((intro w' hS'; obtain ⟨e0, e1⟩ := HF.out w' hS'; go_simp); try with_reducible rfl)); simp only [Act.put, List.setIfInBounds_toArray, List.set_cons_zero, List.set_cons_succ])
                              refine wpFirst_nil ?_
                              refine wpAnyL_pure 1 (by kernel_rfl) rfl (fun _ => hS0) (fun _ _ _ _ _ h => h) ?_
                              (refine wpFirst_val (v := ?_) (by rfl) ?_ ?_; rotate_left 1; (focus ((intro w' hS'; go_simp); try with_reducible rfl)); simp only [Act.put, List.setIfInBounds_toArray, List.set_cons_zero, List.set_cons_succ])
                              refine wpFirst_nil ?_
                              change wpAnyL _ _ _ _ _ _ (15 + 7) _ _ _
                              refine wpAnyL_take_n 2 7 (by kernel_rfl) hS0 (fun _ _ _ _ _ h => h) ?_
                              simp only [List.drop_succ_cons, List.drop_zero, List.take_succ_cons, List.take_zero]
                              iterate 7 (refine wpFirst_val (v := ?_) (by rfl) ?_ ?_; rotate_left 1; (focus ((intro w' hS'; obtain ⟨e0, e1⟩ := HF.out w' hS'; go_simp); try with_reducible rfl)); simp only [Act.put, List.setIfInBounds_toArray, List.set_cons_zero, List.set_cons_succ])
                              refine wpFirst_nil ?_
                              refine wpAnyL_pure 11 (by kernel_rfl) rfl (fun _ => hS0) (fun _ _ _ _ _ h => h) ?_
                              (refine wpFirst_val (v := ?_) (by rfl) ?_ ?_; rotate_left 1; (focus ((intro w' hS'; go_simp); try with_reducible rfl)); simp only [Act.put, List.setIfInBounds_toArray, List.set_cons_zero, List.set_cons_succ])
                              refine wpFirst_nil ?_
                              refine wpAnyL_pure 12 (by kernel_rfl) rfl (fun _ => hS0) (fun _ _ _ _ _ h => h) ?_
                              (refine wpFirst_val (v := ?_) (by rfl) ?_ ?_; rotate_left 1; (focus ((intro w' hS'; go_simp); try with_reducible rfl)); simp only [Act.put, List.setIfInBounds_toArray, List.set_cons_zero, List.set_cons_succ])
                              refine wpFirst_nil ?_
                              refine wpAnyL_pure 13 (by kernel_rfl) rfl (fun _ => hS0) (fun _ _ _ _ _ h => h) ?_
                              (refine wpFirst_val (v := ?_) (by rfl) ?_ ?_; rotate_left 1; (focus ((intro w' hS'; go_simp); try with_reducible rfl)); simp only [Act.put, List.setIfInBounds_toArray, List.set_cons_zero, List.set_cons_succ])
                              refine wpFirst_nil ?_
                              change wpAnyL _ _ _ _ _ _ (11 + 1) _ _ _
                              refine wpAnyL_take_n 14 1 (by kernel_rfl) hS0 (fun _ _ _ _ _ h => h) ?_
                              simp only [List.drop_succ_cons, List.drop_zero, List.take_succ_cons, List.take_zero]
                              (refine wpFirst_val (v := ?_) (by rfl) ?_ ?_; rotate_left 1; (focus ((intro w' hS'; obtain ⟨e0, e1⟩ := HF.out w' hS'; go_simp); try with_reducible rfl)); simp only [Act.put, List.setIfInBounds_toArray, List.set_cons_zero, List.set_cons_succ])
                              refine wpFirst_nil ?_
                              refine wpAnyL_pure 15 (by kernel_rfl) rfl (fun _ => hS0) (fun _ _ _ _ _ h => h) ?_
                              (refine wpFirst_val (v := ?_) (by rfl) ?_ ?_; rotate_left 1; (focus ((intro w' hS'; go_simp); try with_reducible rfl)); simp only [Act.put, List.setIfInBounds_toArray, List.set_cons_zero, List.set_cons_succ])
                              refine wpFirst_nil ?_
                              clear hS0 HF
                              refine anyL2 9 16 (by kernel_rfl) ?pa ?pc
                              case' pa =>
                                refine pickL 9 rfl (fun K hK => ?_)
                                go_simp
                                obtain ⟨ga, hga⟩ : ∃ b, b = wd.heap.size := ⟨_, rfl⟩
                                have hn := (HX.out.new (akO nx rm)).front
                                obtain ⟨v0, hv0⟩ : ∃ w', w' = wd.alloc (akO nx rm) := ⟨_, rfl⟩
                                rw [← hga, ← hv0] at hn ⊢
                                clear hga hv0 HX
                                have HX := Lib.hid hn
                                clear hn
                                refine hK.out _ _ (fun _ => HSS.out _ HX.out.tail.tail.tail) ?_
                                clear hK K
                                refine anyL2 10 16 (by kernel_rfl) ?pd ?pb
                              case' pd =>
                                refine pickL 10 rfl (fun K hK => ?_)
                                refine step_appE (E := eAk) slAk (by decide) rfl _ _ rfl HX.out 1 rfl (by have := HAL.out; omega) rfl _ [(nx, rm)] (by show 1 ≤ 100000; decide) [.int .i64 (nx : Int), .int .i64 (rm : Int)] rfl (rd_at (HX.out.blk 0 rfl) rfl (by decide)) (by intro u hu; simp at hu; rcases hu with rfl | rfl <;> rfl) (fun Y _ => ⟨fun _ => False, fun _ f => f.elim, Els.single (E := eAk) rfl⟩) ?_
                                intro a3 c3 v1 h3
                                obtain ⟨na, hn⟩ : ∃ n, n = (x.acks ++ [(nx, rm)]).length := ⟨_, rfl⟩
                                rw [← hn] at h3 ⊢
                                have HNna := Lib.hid hn
                                clear hn HX
                                have HX := Lib.hid (show Held (fun _ => False) (Old W) W (tBlk ga (akO nx rm) :: tSq eAk 58 (.slice a3 na c3) (x.acks ++ [(nx, rm)]) :: tSq eBool 4 (.slice da x.dones.length dc) x.dones :: L) v1 from h3)
                                clear h3
                                refine hK.out _ _ (fun _ => HSS.out _ HX.out.tail.tail.tail) ?_
                                clear hK K
                                refine wpAnyL_one 16 (by kernel_rfl) rfl (fun K hK => ?_)
                                go_simp
                                obtain ⟨gd, hgd⟩ : ∃ b, b = v1.heap.size := ⟨_, rfl⟩
                                have hn := (HX.out.new (blO wh)).front
                                obtain ⟨v2, hv2⟩ : ∃ w', w' = v1.alloc (blO wh) := ⟨_, rfl⟩
                                rw [← hgd, ← hv2] at hn ⊢
                                clear hgd hv2 HX
                                have HX := Lib.hid hn
                                clear hn
                                refine hK.out _ _ (fun _ => HSS.out _ HX.out.tail.tail.tail.tail) ?_
                                clear hK K
                                refine wpAnyL_one 17 (by kernel_rfl) rfl (fun K hK => ?_)
                                refine step_appE (E := eBool) slBool (by decide) rfl _ _ rfl HX.out 3 rfl (by have := HAL.out; omega) rfl _ [wh] (by show 1 ≤ 100000; decide) [.bool wh] rfl (rd_at (HX.out.blk 0 rfl) rfl (by decide)) (by intro u hu; obtain rfl := List.mem_singleton.1 hu; rfl) (fun Y _ => ⟨fun _ => False, fun _ f => f.elim, Els.single (E := eBool) rfl⟩) ?_
                                intro a4 c4 v3 h3
                                obtain ⟨nd, hn⟩ : ∃ n, n = (x.dones ++ [wh]).length := ⟨_, rfl⟩
                                rw [← hn] at h3 ⊢
                                have HNnd := Lib.hid hn
                                clear hn HX
                                have HX := Lib.hid (show Held (fun _ => False) (Old W) W (tBlk gd (blO wh) :: tBlk ga (akO nx rm) :: tSq eAk 58 (.slice a3 na c3) (x.acks ++ [(nx, rm)]) :: tSq eBool 4 (.slice a4 nd c4) (x.dones ++ [wh]) :: L) v3 from h3)
                                clear h3
                                refine hK.out _ _ (fun _ => HSS.out _ HX.out.tail.tail.tail.tail) ?_
                                clear hK K
                                have H10 := Lib.hid (show Held (fun _ => False) (Old W) W (tSq eAk 58 (.slice a3 na c3) (x.acks ++ [(nx, rm)]) :: tSq eBool 4 (.slice a4 nd c4) (x.dones ++ [wh]) :: L) v3 from Held.pickL (us := [_, _, _, _]) (vs := [_, _]) HX.out [2, 3] (by decide) rfl)
                                clear HX
                                generalize v3 = vz at H10 ⊢
                              case' pb =>
                                refine pickL 16 rfl (fun K hK => ?_)
                                go_simp
                                obtain ⟨gd, hgd⟩ : ∃ b, b = v0.heap.size := ⟨_, rfl⟩
                                have hn := (HX.out.new (blO wh)).front
                                obtain ⟨v1, hv1⟩ : ∃ w', w' = v0.alloc (blO wh) := ⟨_, rfl⟩
                                rw [← hgd, ← hv1] at hn ⊢
                                clear hgd hv1 HX
                                have HX := Lib.hid hn
                                clear hn
                                refine hK.out _ _ (fun _ => HSS.out _ HX.out.tail.tail.tail.tail) ?_
                                clear hK K
                                refine wpAnyL_one 10 (by kernel_rfl) rfl (fun K hK => ?_)
                                refine step_appE (E := eAk) slAk (by decide) rfl _ _ rfl HX.out 2 rfl (by have := HAL.out; omega) rfl _ [(nx, rm)] (by show 1 ≤ 100000; decide) [.int .i64 (nx : Int), .int .i64 (rm : Int)] rfl (rd_at (HX.out.blk 1 rfl) rfl (by decide)) (by intro u hu; simp at hu; rcases hu with rfl | rfl <;> rfl) (fun Y _ => ⟨fun _ => False, fun _ f => f.elim, Els.single (E := eAk) rfl⟩) ?_
                                intro a3 c3 v2 h3
                                obtain ⟨na, hn⟩ : ∃ n, n = (x.acks ++ [(nx, rm)]).length := ⟨_, rfl⟩
                                rw [← hn] at h3 ⊢
                                have HNna := Lib.hid hn
                                clear hn HX
                                have HX := Lib.hid (show Held (fun _ => False) (Old W) W (tBlk gd (blO wh) :: tBlk ga (akO nx rm) :: tSq eAk 58 (.slice a3 na c3) (x.acks ++ [(nx, rm)]) :: tSq eBool 4 (.slice da x.dones.length dc) x.dones :: L) v2 from h3)
                                clear h3
                                refine hK.out _ _ (fun _ => HSS.out _ HX.out.tail.tail.tail.tail) ?_
                                clear hK K
                                refine wpAnyL_one 17 (by kernel_rfl) rfl (fun K hK => ?_)
                                refine step_appE (E := eBool) slBool (by decide) rfl _ _ rfl HX.out 3 rfl (by have := HAL.out; omega) rfl _ [wh] (by show 1 ≤ 100000; decide) [.bool wh] rfl (rd_at (HX.out.blk 0 rfl) rfl (by decide)) (by intro u hu; obtain rfl := List.mem_singleton.1 hu; rfl) (fun Y _ => ⟨fun _ => False, fun _ f => f.elim, Els.single (E := eBool) rfl⟩) ?_
                                intro a4 c4 v3 h3
                                obtain ⟨nd, hn⟩ : ∃ n, n = (x.dones ++ [wh]).length := ⟨_, rfl⟩
                                rw [← hn] at h3 ⊢
                                have HNnd := Lib.hid hn
                                clear hn HX
                                have HX := Lib.hid (show Held (fun _ => False) (Old W) W (tBlk gd (blO wh) :: tBlk ga (akO nx rm) :: tSq eAk 58 (.slice a3 na c3) (x.acks ++ [(nx, rm)]) :: tSq eBool 4 (.slice a4 nd c4) (x.dones ++ [wh]) :: L) v3 from h3)
                                clear h3
                                refine hK.out _ _ (fun _ => HSS.out _ HX.out.tail.tail.tail.tail) ?_
                                clear hK K
                                have H10 := Lib.hid (show Held (fun _ => False) (Old W) W (tSq eAk 58 (.slice a3 na c3) (x.acks ++ [(nx, rm)]) :: tSq eBool 4 (.slice a4 nd c4) (x.dones ++ [wh]) :: L) v3 from Held.pickL (us := [_, _, _, _]) (vs := [_, _]) HX.out [2, 3] (by decide) rfl)
                                clear HX
                                generalize v3 = vz at H10 ⊢
                              case' pc =>
                                refine pickL 16 rfl (fun K hK => ?_)
                                go_simp
                                obtain ⟨gd, hgd⟩ : ∃ b, b = wd.heap.size := ⟨_, rfl⟩
                                have hn := (HX.out.new (blO wh)).front
                                obtain ⟨v0, hv0⟩ : ∃ w', w' = wd.alloc (blO wh) := ⟨_, rfl⟩
                                rw [← hgd, ← hv0] at hn ⊢
                                clear hgd hv0 HX
                                have HX := Lib.hid hn
                                clear hn
                                refine hK.out _ _ (fun _ => HSS.out _ HX.out.tail.tail.tail) ?_
                                clear hK K
                                refine wpAnyL_one 9 (by kernel_rfl) rfl (fun K hK => ?_)
                                go_simp
                                obtain ⟨ga, hga⟩ : ∃ b, b = v0.heap.size := ⟨_, rfl⟩
                                have hn := (HX.out.new (akO nx rm)).front
                                obtain ⟨v1, hv1⟩ : ∃ w', w' = v0.alloc (akO nx rm) := ⟨_, rfl⟩
                                rw [← hga, ← hv1] at hn ⊢
                                clear hga hv1 HX
                                have HX := Lib.hid hn
                                clear hn
                                refine hK.out _ _ (fun _ => HSS.out _ HX.out.tail.tail.tail.tail) ?_
                                clear hK K
                                refine wpAnyL_one 10 (by kernel_rfl) rfl (fun K hK => ?_)
                                refine step_appE (E := eAk) slAk (by decide) rfl _ _ rfl HX.out 2 rfl (by have := HAL.out; omega) rfl _ [(nx, rm)] (by show 1 ≤ 100000; decide) [.int .i64 (nx : Int), .int .i64 (rm : Int)] rfl (rd_at (HX.out.blk 0 rfl) rfl (by decide)) (by intro u hu; simp at hu; rcases hu with rfl | rfl <;> rfl) (fun Y _ => ⟨fun _ => False, fun _ f => f.elim, Els.single (E := eAk) rfl⟩) ?_
                                intro a3 c3 v2 h3
                                obtain ⟨na, hn⟩ : ∃ n, n = (x.acks ++ [(nx, rm)]).length := ⟨_, rfl⟩
                                rw [← hn] at h3 ⊢
                                have HNna := Lib.hid hn
                                clear hn HX
                                have HX := Lib.hid (show Held (fun _ => False) (Old W) W (tBlk ga (akO nx rm) :: tBlk gd (blO wh) :: tSq eAk 58 (.slice a3 na c3) (x.acks ++ [(nx, rm)]) :: tSq eBool 4 (.slice da x.dones.length dc) x.dones :: L) v2 from h3)
                                clear h3
                                refine hK.out _ _ (fun _ => HSS.out _ HX.out.tail.tail.tail.tail) ?_
                                clear hK K
                                refine wpAnyL_one 17 (by kernel_rfl) rfl (fun K hK => ?_)
                                refine step_appE (E := eBool) slBool (by decide) rfl _ _ rfl HX.out 3 rfl (by have := HAL.out; omega) rfl _ [wh] (by show 1 ≤ 100000; decide) [.bool wh] rfl (rd_at (HX.out.blk 1 rfl) rfl (by decide)) (by intro u hu; obtain rfl := List.mem_singleton.1 hu; rfl) (fun Y _ => ⟨fun _ => False, fun _ f => f.elim, Els.single (E := eBool) rfl⟩) ?_
                                intro a4 c4 v3 h3
                                obtain ⟨nd, hn⟩ : ∃ n, n = (x.dones ++ [wh]).length := ⟨_, rfl⟩
                                rw [← hn] at h3 ⊢
                                have HNnd := Lib.hid hn
                                clear hn HX
                                have HX := Lib.hid (show Held (fun _ => False) (Old W) W (tBlk ga (akO nx rm) :: tBlk gd (blO wh) :: tSq eAk 58 (.slice a3 na c3) (x.acks ++ [(nx, rm)]) :: tSq eBool 4 (.slice a4 nd c4) (x.dones ++ [wh]) :: L) v3 from h3)
                                clear h3
                                refine hK.out _ _ (fun _ => HSS.out _ HX.out.tail.tail.tail.tail) ?_
                                clear hK K
                                have H10 := Lib.hid (show Held (fun _ => False) (Old W) W (tSq eAk 58 (.slice a3 na c3) (x.acks ++ [(nx, rm)]) :: tSq eBool 4 (.slice a4 nd c4) (x.dones ++ [wh]) :: L) v3 from Held.pickL (us := [_, _, _, _]) (vs := [_, _]) HX.out [2, 3] (by decide) rfl)
                                clear HX
                                generalize v3 = vz at H10 ⊢
                              all_goals
                                simp only [Act.put, List.setIfInBounds_toArray, List.set_cons_zero, List.set_cons_succ]
                                refine wpAnyL_one 18 (by kernel_rfl) rfl (fun K hK => ?_)
                                go_simp
                                refine hK.out _ _ (fun _ => HSS.out _ H10.out.tail.tail) ?_
                                clear hK K
                                refine wpAnyL_one 19 (by kernel_rfl) rfl (fun K hK => ?_)
                                go_simp
                                refine hK.out _ _ (fun _ => HSS.out _ H10.out.tail.tail) ?_
                                clear hK K
                                refine wpAnyL_one 20 (by kernel_rfl) rfl (fun K hK => ?_)
                                have h11 := H10.out
                                rw [HL'.out] at h11
                                have H11 := Lib.hid h11
                                clear h11 H10
                                have c5 := (ln_cells (H11.out.blk 2 rfl)).2.1
                                have hup := blk_free (H11.out.blk 2 rfl)
                                go_simp
                                refine hK.out _ _ (fun h => absurd rfl h) ?_
                                clear hK K
                                have H12 := Lib.hid (H11.out.set 2 rfl (lnRow x ⟨wp, rp, wv, rv, sv, .slice a3 na c3, .slice da x.dones.length dc⟩ x.w.top x.w.base) ((Fr.refl (fun k => k = p) vz).setCell (p := ⟨p, 5, none⟩) (.inl rfl) (.slice a3 na c3)) (by have hr := H11.out.blk 2 rfl; (apply row_trans; focus (repeat (first | (with_reducible exact hr) | (with_reducible apply row_set) | (with_reducible apply row_drewN) | (with_reducible apply row_drew) | (with_reducible apply row_alloc) | (apply row_set_other (by first | omega | (simp <;> omega)))))); rfl))
                                clear H11 c5 hup
                                generalize vz.setCell ⟨p, 5, none⟩ (.slice a3 na c3) = vy at H12 ⊢
                                refine wpAnyL_late 21 (by kernel_rfl) rfl (by kernel_rfl) (fun K hK => ?_)
                                go_simp
                                refine hK.out _ _ ?_
                                clear hK K
                                refine wpAnyL_late 22 (by kernel_rfl) rfl (by kernel_rfl) (fun K hK => ?_)
                                go_simp
                                refine hK.out _ _ ?_
                                clear hK K
                                refine wpAnyL_late 23 (by kernel_rfl) rfl (by kernel_rfl) (fun K hK => ?_)
                                have c6 := (ln_cells (H12.out.blk 2 rfl)).2.2.1
                                have hup := blk_free (H12.out.blk 2 rfl)
                                go_simp
                                refine hK.out _ _ ?_
                                clear hK K
                                have H13 := Lib.hid (H12.out.set 2 rfl (lnRow x ⟨wp, rp, wv, rv, sv, .slice a3 na c3, .slice a4 nd c4⟩ x.w.top x.w.base) ((Fr.refl (fun k => k = p) vy).setCell (p := ⟨p, 6, none⟩) (.inl rfl) (.slice a4 nd c4)) (by have hr := H12.out.blk 2 rfl; (apply row_trans; focus (repeat (first | (with_reducible exact hr) | (with_reducible apply row_set) | (with_reducible apply row_drewN) | (with_reducible apply row_drew) | (with_reducible apply row_alloc) | (apply row_set_other (by first | omega | (simp <;> omega)))))); rfl))
                                clear H12 c6 hup
                                generalize vy.setCell ⟨p, 6, none⟩ (.slice a4 nd c4) = vx at H13 ⊢
                                refine wpAnyL_done (by kernel_rfl) ?_ _
                                refine hK4 _ _ ?_
                                rw [frB_of (by kernel_rfl)]
                                refine Met.intro (hJ3 _ _ ⟨_, rfl, ⟨rfl, rfl, rfl, rfl, rfl, rfl⟩, ⟨rfl, rfl, rfl⟩, rfl, Lib.hid ?_⟩)
                                rw [HCF.out]
                                exact Held.shut (f := lnThs p { x with acks := x.acks ++ [(nx, rm)], dones := x.dones ++ [wh] }) (i := ⟨wp, rp, wv, rv, sv, .slice a3 na c3, .slice a4 nd c4⟩) (Held.pickL (us := [_, _, _, _, _, _, _, _]) (vs := [_, _, _, _, _, _, _, _]) H13.out [2, 4, 3, 5, 6, 7, 0, 1] (by decide) rfl)
                        · have b6 : ((r : Int) == 6) = false := by simp; omega
                          have b7 : ((r : Int) == 7) = true := by simp; omega
                          as_aux_lemma =>
                            obtain ⟨⟨wp, rp, wv, rv, sv, av, dv⟩, h4⟩ := H3'.out
                            obtain ⟨_, _, hsq⟩ := h4.get 6 rfl
                            obtain ⟨aa, ac, e1, -, -, -⟩ := Sq.le (show Sq eAk 58 _ _ _ av x.acks from hsq)
                            obtain ⟨_, _, hsr⟩ := h4.get 7 rfl
                            obtain ⟨da, dc, e2, -, -, -⟩ := Sq.le (show Sq eBool 4 _ _ _ dv x.dones from hsr)
                            subst e1
                            subst e2
                            have H4 := Lib.hid (Held.lift (A := [_]) h4)
                            obtain ⟨na, hna⟩ : ∃ na, na = x.acks.length := ⟨_, rfl⟩
                            have c5 := (ln_cells (h4.blk 0 rfl)).2.1
                            rw [← hna] at c5
                            have HNA := Lib.hid hna
                            have hna150 : na ≤ 150 := by rw [hna]; have := HX.out.2.2.2.2.2.1; omega
                            clear hsq hsr hna
                            go_upto_if 332 with fail
                            refine wp_cut (fun a' w' => ∃ f : Nat → Value, a' = ⟨(frB f).toArray, []⟩ ∧ SlB f n b8 ar fb fo fs.length fc tk ∧ SlC f bt bc p ∧ f 17 = .func (Fn.func 8) #[] #[.pointer (some ⟨b8, 0, none⟩), .pointer (some ⟨bt, 0, none⟩), .pointer (some ⟨bc, 0, none⟩)] ∧ ∃ y : Wr, Hid (({ x with w := y } : Ln).Ok ∧ y.all = x.w.all ∧ y.top = x.w.top ∧ x.w.base ≤ y.base) ∧ Hid (Held (fun _ => False) (Old W) W (tWr wp y :: tBlk p (lnRow x ⟨wp, rp, wv, rv, sv, .slice aa x.acks.length ac, .slice da x.dones.length dc⟩ x.w.top x.w.base) :: tRdr rp x.r :: tSq eU8 5 wv x.w.all :: tSq eU8 5 rv x.rd :: tSq eSeg 50 sv x.segs :: tSq eAk 58 (.slice aa x.acks.length ac) x.acks :: tSq eBool 4 (.slice da x.dones.length dc) x.dones :: tLed lp (Led.run es) :: tBlk b8 (bxL lp) :: tBlk bt (bxI tk) :: tBlk bc (bxI c) :: ts) w')) ?_ ?_
                            · rintro a' wf ⟨g, rfl, ⟨e7, e8, e9, e100, e101, e102⟩, ⟨e12, e14, e15⟩, e17, y, HY, H5⟩
                              simp only [frB, e7, e8, e9, e12, e14, e15, e17, e100, e101, e102]
                              clear e7 e8 e9 e12 e14 e15 e17 e100 e101 e102 h4 H4 H3 H3' c5
                              obtain ⟨m, hm⟩ : ∃ m, m = y.base - x.w.base := ⟨_, rfl⟩
                              obtain ⟨yb, hyb⟩ : ∃ yb, yb = y.base := ⟨_, rfl⟩
                              obtain ⟨xb, hxb⟩ : ∃ xb, xb = x.w.base := ⟨_, rfl⟩
                              have hle := HY.out.2.2.2
                              have hs : y.base ≤ 600 := by have h1 : y.base ≤ y.next := HY.out.1.w.bn; have h2 : y.next ≤ y.top := HY.out.1.w.nt; have h3 : y.top ≤ y.all.length := HY.out.1.w.tt; have h4 := HX.out.2.1; rw [← HY.out.2.1] at h4; omega
                              have HST := Lib.hid (Step.base HX.out.2.1 HX.out.2.2.1 HY.out.1 ⟨Nat.le_succ _, Nat.le_succ _⟩ rfl HY.out.2.1 HY.out.2.2.1 (show y.base = x.w.base + m by omega) (by omega))
                              have c0 := (ln_cells (H5.out.blk 1 rfl)).1.1
                              rw [← hyb, ← hxb] at hm hle
                              rw [← hyb] at hs
                              have HM1 := Lib.hid (show yb = xb + m by omega)
                              have hm6 : m ≤ 600 := by omega
                              have hsub : (yb : Int) - (xb : Int) = (m : Int) := by omega
                              have HYB := Lib.hid hyb
                              have HXB := Lib.hid hxb
                              clear hm hyb hxb
                              go_upto_region 60 with (go_at_call 17; refine (countsW_c H5.out).mono ?_; rintro e w6 ⟨rfl, h6⟩; have H6 := Lib.hid h6; clear h6)
                              rw [← HYB.out]
                              have c8 := (ln_cells (H6.out.blk 1 rfl)).2.2.2.2
                              rw [← HXB.out] at c8
                              have hq : ((yb : Int) < (xb : Int)) = False := eq_false (by omega)
                              have HAC := Lib.hid (acc_c ⟨tk, c, 2, m⟩ (show m ≤ 1048576 by omega) (HCX.out _ _ _ HST.out) (Held.pickL (us := [_, _, _, _, _, _, _, _, _, _, _, _]) (vs := [_, _, _, _, _, _, _, _, _, _, _, _]) H6.out [8, 9, 10, 11, 1, 0, 2, 3, 4, 5, 6, 7] (by decide) rfl))
                              clear c0 H6 H5
                              go_wp2_with fail
                              refine HAC.out.mono ?_
                              rintro e w7 ⟨rfl, h7⟩
                              have H7 := Lib.hid h7
                              clear h7 HAC c8
                              have c8 := (ln_cells (H7.out.blk 4 rfl)).2.2.2.2
                              have hup := blk_free (H7.out.blk 4 rfl)
                              go_wp2_with fail
                              rw [frB_of (by kernel_rfl)]
                              refine HM.out _ _ ⟨rfl, rfl, rfl, rfl, rfl, rfl⟩ ⟨rfl, rfl, rfl⟩ { x with w := y } 2 m HST.out ?_
                              have H8 := Lib.hid (H7.out.set 4 rfl (lnRow x ⟨wp, rp, wv, rv, sv, .slice aa x.acks.length ac, .slice da x.dones.length dc⟩ x.w.top yb) ((Fr.refl (fun k => k = p) w7).setCell (p := ⟨p, 8, none⟩) (.inl rfl) (.int .i64 (yb : Int))) (by have hr := H7.out.blk 4 rfl; (apply row_trans; focus (repeat (first | (with_reducible exact hr) | (with_reducible apply row_set) | (with_reducible apply row_drewN) | (with_reducible apply row_drew) | (with_reducible apply row_alloc) | (apply row_set_other (by first | omega | (simp <;> omega)))))); rfl))
                              generalize w7.setCell ⟨p, 8, none⟩ (.int .i64 (yb : Int)) = w8 at H8 ⊢
                              refine Held.shut (f := lnThs p { x with w := y }) (i := ⟨wp, rp, wv, rv, sv, .slice aa x.acks.length ac, .slice da x.dones.length dc⟩) (show Held (fun _ => False) (Old W) W (tBlk p (lnRow x ⟨wp, rp, wv, rv, sv, .slice aa x.acks.length ac, .slice da x.dones.length dc⟩ y.top y.base) :: tWr wp y :: tRdr rp x.r :: tSq eU8 5 wv y.all :: tSq eU8 5 rv x.rd :: tSq eSeg 50 sv x.segs :: tSq eAk 58 (.slice aa x.acks.length ac) x.acks :: tSq eBool 4 (.slice da x.dones.length dc) x.dones :: tLed lp ((Led.run es).acc ⟨tk, c, 2, m⟩) :: tBlk b8 (bxL lp) :: tBlk bt (bxI tk) :: tBlk bc (bxI c) :: ts) _ from ?_)
                              rw [HY.out.2.1, HY.out.2.2.1, ← HYB.out]
                              exact Held.pickL (us := [_, _, _, _, _, _, _, _, _, _, _, _]) (vs := [_, _, _, _, _, _, _, _, _, _, _, _]) H8.out [4, 5, 6, 7, 8, 9, 10, 11, 0, 1, 2, 3] (by decide) rfl
                            · intro J3 K4 hJ3 hK4
                              clear H3 H3'
                              by_cases hn0 : na = 0
                              · subst hn0
                                go_wp2_with fail
                                rw [frB_of (by kernel_rfl)]
                                exact Met.intro (hJ3 _ _ ⟨_, rfl, ⟨rfl, rfl, rfl, rfl, rfl, rfl⟩, ⟨rfl, rfl, rfl⟩, rfl, x.w, Lib.hid ⟨HX.out.1, rfl, rfl, Nat.le_refl _⟩, H4⟩)
                              · have hne : 0 < na := by omega
                                obtain ⟨jm, hjm⟩ : ∃ jm, jm = kk % na := ⟨_, rfl⟩
                                have hjl : jm < na := by rw [hjm]; exact Nat.mod_lt _ hne
                                have m1 : (kk : Int).tmod (na : Int) = (jm : Int) := by rw [hjm, Int.tmod_eq_emod_of_nonneg (by omega)]; rfl
                                have m2 : (kk : Int) % (na : Int) = (jm : Int) := by rw [hjm]; rfl
                                obtain ⟨n1, hn1⟩ : ∃ n1, n1 = na - 1 := ⟨_, rfl⟩
                                obtain ⟨j, hj⟩ : ∃ j, j = n1 - jm := ⟨_, rfl⟩
                                have hw1 : IntKind.i64.wrap ((na : Int) - 1) = (n1 : Int) := by rw [IntKind.wrap_i64]; omega
                                have hw2 : IntKind.i64.wrap ((n1 : Int) - (jm : Int)) = (j : Int) := by rw [IntKind.wrap_i64]; omega
                                have hjn : j < na := by omega
                                have HJL := Lib.hid (show j < x.acks.length ∧ j < x.dones.length by have := HX.out.1.len; have := HNA.out; omega)
                                clear hjm hn1 hj
                                go_upto_region 56 with fail
                                go_quiet (fail)
                                generalize hw4 : World.drewN _ _ = w4
                                have H5 := Lib.hid (show Held (fun _ => False) (Old W) W (tWr wp x.w :: tBlk p (lnRow x ⟨wp, rp, wv, rv, sv, .slice aa x.acks.length ac, .slice da x.dones.length dc⟩ x.w.top x.w.base) :: tRdr rp x.r :: tSq eU8 5 wv x.w.all :: tSq eU8 5 rv x.rd :: tSq eSeg 50 sv x.segs :: tSq eAk 58 (.slice aa x.acks.length ac) x.acks :: tSq eBool 4 (.slice da x.dones.length dc) x.dones :: tLed lp (Led.run es) :: tBlk b8 (bxL lp) :: tBlk bt (bxI tk) :: tBlk bc (bxI c) :: ts) w4 from by rw [← hw4]; exact H4.out.drewN _)
                                clear hw4 H4 h4 c5 hw1 hw2 m1 m2
                                go_upto_region 57 with fail
                                obtain ⟨⟨at', rm⟩, hak⟩ : ∃ q, x.acks[j]? = some q := ⟨x.acks[j]'HJL.out.1, List.getElem?_eq_getElem _⟩
                                obtain ⟨dn, hdn⟩ : ∃ d, x.dones[j]? = some d := ⟨x.dones[j]'HJL.out.2, List.getElem?_eq_getElem _⟩
                                obtain ⟨_, _, hsq⟩ := H5.out.get 6 rfl
                                obtain ⟨ab, ao, acs, _, rfl, _, hrd, _, hcs⟩ := Sq.at (show Sq eAk 58 w4 _ _ (.slice aa x.acks.length ac) x.acks from hsq) (by decide) hak
                                have k0 : w4.cell? ⟨ab, ao + j * 2, none⟩ = some (.int .i64 (at' : Int)) := hcs 0 (.int .i64 (at' : Int)) (by rw [show acs = [.int .i64 (at' : Int), .int .i64 (rm : Int)] from hrd]; rfl)
                                have k1 : w4.cell? ⟨ab, ao + j * 2 + 1, none⟩ = some (.int .i64 (rm : Int)) := hcs 1 (.int .i64 (rm : Int)) (by rw [show acs = [.int .i64 (at' : Int), .int .i64 (rm : Int)] from hrd]; rfl)
                                clear hsq hrd hcs
                                obtain ⟨_, _, hsq⟩ := H5.out.get 7 rfl
                                obtain ⟨db, dd, dcs, _, rfl, _, hrd, _, hcs⟩ := Sq.at (show Sq eBool 4 w4 _ _ (.slice da x.dones.length dc) x.dones from hsq) (by decide) hdn
                                have k2 : w4.cell? ⟨db, dd + j, none⟩ = some (.bool dn) := by have := hcs 0 (.bool dn) (by rw [show dcs = [.bool dn] from hrd]; rfl); simpa [eBool] using this
                                clear hsq hrd hcs
                                have c0 := (ln_cells (H5.out.blk 1 rfl)).1.1
                                have c5 := (ln_cells (H5.out.blk 1 rfl)).2.1
                                have c6 := (ln_cells (H5.out.blk 1 rfl)).2.2.1
                                rw [← HNA.out] at c5
                                rw [← HX.out.1.len, ← HNA.out] at c6
                                have HAC := Lib.hid (HX.out.1.acks j at' rm dn hak hdn)
                                have HOK := Lib.hid (HX.out.1.ack hak hdn)
                                have HMO := Lib.hid (x.w.ack_more at' rm dn)
                                have HDR := Lib.hid (show at' ≤ x.w.top from Nat.le_trans HAC.out.1 HX.out.1.r.top)
                                clear hak hdn
                                obtain ⟨SS, hSS⟩ : ∃ SS : World → Prop, SS = fun w' => w'.cell? ⟨p, 0, none⟩ = some (.pointer (some ⟨wp, 0, none⟩)) ∧ w'.cell? ⟨p, 5, none⟩ = some (.slice (some ⟨ab, ao, none⟩) na ac) ∧ w'.cell? ⟨p, 6, none⟩ = some (.slice (some ⟨db, dd, none⟩) na dc) ∧ w'.cell? ⟨ab, ao + j * 2, none⟩ = some (.int .i64 (at' : Int)) ∧ w'.cell? ⟨ab, ao + j * 2 + 1, none⟩ = some (.int .i64 (rm : Int)) ∧ w'.cell? ⟨db, dd + j, none⟩ = some (.bool dn) := ⟨_, rfl⟩
                                have HF := Lib.hid (show ∀ w', SS w' → w'.cell? ⟨p, 0, none⟩ = some (.pointer (some ⟨wp, 0, none⟩)) ∧ w'.cell? ⟨p, 5, none⟩ = some (.slice (some ⟨ab, ao, none⟩) na ac) ∧ w'.cell? ⟨p, 6, none⟩ = some (.slice (some ⟨db, dd, none⟩) na dc) ∧ w'.cell? ⟨ab, ao + j * 2, none⟩ = some (.int .i64 (at' : Int)) ∧ w'.cell? ⟨ab, ao + j * 2 + 1, none⟩ = some (.int .i64 (rm : Int)) ∧ w'.cell? ⟨db, dd + j, none⟩ = some (.bool dn) by rw [hSS]; exact fun _ h => h)
                                have H3d := Lib.hid (show SS (World.drew _) by rw [hSS]; exact ⟨c0, c5, c6, k0, k1, k2⟩)
                                clear hSS c0 c5 c6 k0 k1 k2
                                have HAK := Lib.hid (ackW_c H5.out.drew HX.out.1.w at' rm dn HDR.out (by have := HAC.out.2.1; omega) (fun h => ⟨(HAC.out.2.2 h).1, (HAC.out.2.2 h).2.2, (HAC.out.2.2 h).2.1⟩))
                                refine wp_region_still_tail 27 (by kernel_rfl) (by kernel_rfl) ?_
                                simp only [List.take_succ_cons, List.take_zero, List.drop_succ_cons, List.drop_zero]
                                change wpStill _ _ (World.drew _) (fun a' => wpList _ _ _ _ a' (World.drew _)) _ _
                                refine hs_out ?_
                                iterate 27 (first | (refine hs_un (by rfl) ?_; simp only [Act.put, List.setIfInBounds_toArray, List.set_cons_zero, List.set_cons_succ]) | (refine hs_val H3d.out (v := ?_) (by rfl) ?_ ?_; rotate_left 1; (focus ((intro w' hS'; obtain ⟨e0, e1, e2, e3, e4, e5⟩ := HF.out w' hS'; go_simp); try with_reducible rfl)); simp only [Act.put, List.setIfInBounds_toArray, List.set_cons_zero, List.set_cons_succ]))
                                refine hs_nil ?_
                                clear HF H3d
                                go_wp2_with (go_at_call 16; refine HAK.out.mono ?_; rintro e w5 ⟨rfl, h6⟩; have H6 := Lib.hid h6; clear h6)
                                rw [frB_of (by kernel_rfl)]
                                exact Met.intro (hJ3 _ _ ⟨_, rfl, ⟨rfl, rfl, rfl, rfl, rfl, rfl⟩, ⟨rfl, rfl, rfl⟩, rfl, x.w.ack at' rm dn, Lib.hid ⟨HOK.out, HMO.out⟩, H6⟩)
                    · intro J2 K3 hJ2 hK3
                      by_cases g0 : r = 4
                      · have b0 : ((r : Int) == 4) = true := by simp; omega
                        have bb : decide (r < 6) = true := decide_eq_true (by omega)
                        clear g0
                        go_wp2_with fail
                        rw [frB_of (by kernel_rfl)]
                        exact Met.intro (hJ2 _ _ ⟨rfl, _, rfl, ⟨rfl, rfl, rfl, rfl, rfl, rfl⟩, ⟨rfl, rfl, rfl⟩, ⟨rfl, rfl, rfl⟩, by rw [bb]; exact congrArg Value.bool b0⟩)
                      by_cases g1 : r = 5
                      · have b0 : ((r : Int) == 4) = false := by simp; omega
                        have b1 : ((r : Int) == 5) = true := by simp; omega
                        have bb : decide (r < 6) = true := decide_eq_true (by omega)
                        clear g1
                        go_wp2_with fail
                        rw [frB_of (by kernel_rfl)]
                        exact Met.intro (hJ2 _ _ ⟨rfl, _, rfl, ⟨rfl, rfl, rfl, rfl, rfl, rfl⟩, ⟨rfl, rfl, rfl⟩, ⟨rfl, rfl, rfl⟩, by rw [bb]; rfl⟩)
                      have b0 : ((r : Int) == 4) = false := by simp; omega
                      have b1 : ((r : Int) == 5) = false := by simp; omega
                      have bb : decide (r < 6) = false := decide_eq_false (by omega)
                      clear g0 g1
                      go_wp2_with fail
                      rw [frB_of (by kernel_rfl)]
                      exact Met.intro (hJ2 _ _ ⟨rfl, _, rfl, ⟨rfl, rfl, rfl, rfl, rfl, rfl⟩, ⟨rfl, rfl, rfl⟩, ⟨rfl, rfl, rfl⟩, by rw [bb]; rfl⟩)
                · intro J2 K3 hJ2 hK3
                  by_cases g0 : r = 2
                  · have b0 : ((r : Int) == 2) = true := by simp; omega
                    have bb : decide (r < 4) = true := decide_eq_true (by omega)
                    clear g0
                    go_wp2_with fail
                    rw [frB_of (by kernel_rfl)]
                    exact Met.intro (hJ2 _ _ ⟨rfl, _, rfl, ⟨rfl, rfl, rfl, rfl, rfl, rfl⟩, ⟨rfl, rfl, rfl⟩, ⟨rfl, rfl, rfl⟩, by rw [bb]; exact congrArg Value.bool b0⟩)
                  by_cases g1 : r = 3
                  · have b0 : ((r : Int) == 2) = false := by simp; omega
                    have b1 : ((r : Int) == 3) = true := by simp; omega
                    have bb : decide (r < 4) = true := decide_eq_true (by omega)
                    clear g1
                    go_wp2_with fail
                    rw [frB_of (by kernel_rfl)]
                    exact Met.intro (hJ2 _ _ ⟨rfl, _, rfl, ⟨rfl, rfl, rfl, rfl, rfl, rfl⟩, ⟨rfl, rfl, rfl⟩, ⟨rfl, rfl, rfl⟩, by rw [bb]; rfl⟩)
                  have b0 : ((r : Int) == 2) = false := by simp; omega
                  have b1 : ((r : Int) == 3) = false := by simp; omega
                  have bb : decide (r < 4) = false := decide_eq_false (by omega)
                  clear g0 g1
                  go_wp2_with fail
                  rw [frB_of (by kernel_rfl)]
                  exact Met.intro (hJ2 _ _ ⟨rfl, _, rfl, ⟨rfl, rfl, rfl, rfl, rfl, rfl⟩, ⟨rfl, rfl, rfl⟩, ⟨rfl, rfl, rfl⟩, by rw [bb]; rfl⟩)
            · intro J2 K3 hJ2 hK3
              by_cases h0 : r = 0
              · subst h0
                go_wp2_with fail
                refine Met.intro (hJ2 _ _ ⟨rfl, _, frB_of (by kernel_rfl), ⟨rfl, rfl, rfl, rfl, rfl, rfl⟩, ⟨rfl, rfl, rfl⟩, ⟨rfl, rfl, rfl⟩, rfl⟩)
              by_cases h1 : r = 1
              · subst h1
                go_wp2_with fail
                refine Met.intro (hJ2 _ _ ⟨rfl, _, frB_of (by kernel_rfl), ⟨rfl, rfl, rfl, rfl, rfl, rfl⟩, ⟨rfl, rfl, rfl⟩, ⟨rfl, rfl, rfl⟩, rfl⟩)
              have b0 : ((r : Int) == 0) = false := by simp; omega
              have b1 : ((r : Int) == 1) = false := by simp; omega
              have b2 : decide (r < 2) = false := decide_eq_false (by omega)
              clear h0 h1
              go_wp2_with fail
              refine Met.intro (hJ2 _ _ ⟨rfl, _, frB_of (by kernel_rfl), ⟨rfl, rfl, rfl, rfl, rfl, rfl⟩, ⟨rfl, rfl, rfl⟩, ⟨rfl, rfl, rfl⟩, by rw [b2]; rfl⟩)
        · obtain rfl : fs.length = tk := by have := HTK.out; omega
          have c8 := blk_cell (i := 0) (HK.out.blk 1 rfl) rfl
          have HG := Lib.hid (show Led.Good es ∧ es.length ≤ 150 from ⟨HC.out.good, Nat.le_trans HC.out.len (by omega)⟩)
          have H1 := Lib.hid (Held.lift (A := [_, _]) HK.out)
          have HE := Lib.hid (entries_c H1.out (by rw [Led.run_es]; have := HG.out.2; omega))
          clear HK HC HL
          go_wp2_with fail
          refine HE.out.mono ?_
          rintro e w2 ⟨ea, ec, rfl, h2⟩
          have H2 := Lib.hid (Held.front2 h2)
          rw [Led.run_es] at H2 ⊢
          clear h2 HE H1 c8
          go_wp2_with fail
          refine (audit_c H2.out 0 rfl rfl (by have := HG.out.2; omega) HG.out.1).mono ?_
          rintro e w3 ⟨rfl, h3⟩
          have H3 := Lib.hid h3
          clear h3 H2
          go_wp2_with fail
          go_ret
          exact ⟨by simp, H3.out.below⟩
end Go.Proofs.Ytbibippdafnenaa
