/- A store's New, has, misfits, and what it tells. -/
import Derived.Test.YtbibippdafnenaaWaR
import Derived.Test.YtbibippdafnenaaMgB
import Derived.Deep.QuietTactic
import Derived.Deep.CutBlock
import Derived.Lib.MinMax
import Derived.StillTailTactics
namespace Go.Proofs.Ytbibippdafnenaa
open Go.RowKit Go.Maps
set_option maxRecDepth 100000

theorem by_at8 {w : World} {a : Option Addr} {n c : Nat} {bs : List (BitVec 8)} (h : By w (.slice a n c) bs) {i : Nat} {x : BitVec 8} (hi : bs[i]? = some x) : ∃ b off, a = some ⟨b, off, none⟩ ∧ w.cell? ⟨b, off + i, none⟩ = some (.int .u8 (U x)) := by
  obtain ⟨_, a', cap, e, h1, h2, h3, h4⟩ := h
  obtain ⟨rfl, rfl, rfl⟩ : a = a' ∧ n = bs.length ∧ c = cap := by simpa using e
  have hil : i < bs.length := by
    rcases Nat.lt_or_ge i bs.length with h | h
    · exact h
    · rw [List.getElem?_eq_none h] at hi; cases hi
  cases a with
  | none => have := (h3 rfl).1; omega
  | some b =>
    obtain ⟨b, off, spot⟩ := b
    have := h4 _ rfl i (.int .u8 (U x)) (by rw [cu, List.getElem?_map, hi]; rfl)
    obtain ⟨rfl, h5⟩ := this
    exact ⟨b, off, rfl, h5⟩
theorem zU8 (w : World) : (zeroValue 5).run Try.prog w = .ok (.int .u8 0) w := by kernel_rfl
theorem newS_c (n : Nat) (h1 : 1 ≤ n) (h2 : n ≤ 1048576) (w : World) : Calls Try.prog 24 #[.int .i64 (n : Int)] w fun e w' => ∃ p, e = .returned (.tuple #[.pointer (some ⟨p, 0, none⟩), .int .i64 0]) ∧ Made w (tSt p (St.new n)) w' := by
  have hmm := @run_makeMap Try.prog
  have hw := w.heap.size
  go_enter Try.func24, Try.ntmps24
  go_wp2_with fail
  have H1 := (Held.start0 (fun _ => False) (fun _ => False) (fun _ f _ => f) w).mapNew (M := mU8) (q := 0) rfl
  have H2 := H1.new (stRow (St.new n) w.heap.size)
  have hs := World.size_alloc w (.map #[] 0)
  go_ret2
  exact ⟨w.heap.size + 1, rfl, Made.of (Held.shut (f := stThs (w.heap.size + 1) (St.new n)) (i := w.heap.size) (by rw [hs] at H2; exact H2.pick [1, 0] _ (by simp) rfl))⟩
section
variable {F Z : BS} {W w : World} {ts : List Th} {p : Nat} {S : St}
theorem st_cells {b : Nat} (h : w.heap[p]? = some (stRow S b)) : w.cell? ⟨p, 0, none⟩ = some (.int .i64 (S.win : Int)) ∧ w.cell? ⟨p, 1, none⟩ = some (.int .i64 (S.off : Int)) ∧ w.cell? ⟨p, 2, none⟩ = some (.int .i64 (S.next : Int)) ∧ w.cell? ⟨p, 3, none⟩ = some (.map (some b)) ∧ w.cell? ⟨p, 4, none⟩ = some (.int .i64 (S.fin : Int)) ∧ w.cell? ⟨p, 5, none⟩ = some (.bool S.known) :=
  ⟨blk_cell h rfl, blk_cell h rfl, blk_cell h rfl, blk_cell h rfl, blk_cell h rfl, blk_cell h rfl⟩
theorem hasS_c {m : Int → Option Byte} {b n : Nat} (h : Held F Z W ts w) (i : Nat) (hi : ts[i]? = some (tMap mU8 b n m)) (c3 : w.cell? ⟨p, 3, none⟩ = some (.map (some b))) (k : Int) (hk : (Lit.int .i64 k).wf = true) :
    Calls Try.prog 47 #[.pointer (some ⟨p, 0, none⟩), .int .i64 k] w fun e w' => e = .returned (.bool (m k).isSome) ∧ w = w' := by
  have q := h.mapLook i hi Try.underlying105 (zv := .int .u8 0) (z0 := 0) (zU8 w) rfl trivial hk
  clear h hi hk
  go_enter Try.func47, Try.ntmps47
  go_wp2_with fail
  go_ret
  exact ⟨rfl, rfl⟩
theorem offsetS_c {x : Value} (c1 : w.cell? ⟨p, 1, none⟩ = some x) : Calls Try.prog 31 #[.pointer (some ⟨p, 0, none⟩)] w fun e w' => e = .returned x ∧ w = w' := by
  go_enter Try.func31, Try.ntmps31
  go_wp2_with fail
  go_ret
  exact ⟨rfl, rfl⟩
theorem contiguousS_c {x : Value} (c2 : w.cell? ⟨p, 2, none⟩ = some x) : Calls Try.prog 32 #[.pointer (some ⟨p, 0, none⟩)] w fun e w' => e = .returned x ∧ w = w' := by
  go_enter Try.func32, Try.ntmps32
  go_wp2_with fail
  go_ret
  exact ⟨rfl, rfl⟩
theorem endS_c {n : Int} {k : Bool} (c4 : w.cell? ⟨p, 4, none⟩ = some (.int .i64 n)) (c5 : w.cell? ⟨p, 5, none⟩ = some (.bool k)) : Calls Try.prog 30 #[.pointer (some ⟨p, 0, none⟩)] w fun e w' => e = .returned (.tuple #[.int .i64 (if k then n else 0), .bool k]) ∧ w = w' := by
  cases k
  all_goals
    go_enter Try.func30, Try.ntmps30
    go_wp2_with fail
    go_ret2
    exact ⟨rfl, rfl⟩
/-- no segment of the stream is refused -/
theorem misfitsS_c {b : Nat} (h : Held F Z W ts w) (i : Nat) (hi : ts[i]? = some (tMap mU8 b S.n S.m)) (hrow : w.heap[p]? = some (stRow S b)) (NI : Int) (N : Nat) (hNI : NI = (N : Int)) (_hN : N ≤ 100000) (_hS : S.off ≤ 100000 ∧ S.fin ≤ 100000) (last : Bool) (h1 : S.known = true → N ≤ S.fin ∧ (last = true → N = S.fin)) (h2 : S.known = false → last = true → (∀ j x, S.m j = some x → j < (N : Int)) ∧ S.off ≤ N) :
    Calls Try.prog 46 #[.pointer (some ⟨p, 0, none⟩), .int .i64 NI, .bool last] w fun e w' => e = .returned (.bool false) ∧ Below w.heap.size w w' := by
  subst hNI
  obtain ⟨c0, c1, c2, c3, c4, c5⟩ := st_cells hrow
  cases hk : S.known
  case true =>
    obtain ⟨g1, g2⟩ := h1 hk
    rw [hk] at c5
    have g3 : (N : Int) ≤ S.fin := by omega
    have g4 : decide ((S.fin : Int) < (N : Int)) = false := by simp; omega
    have g7 : decide (S.fin < N) = false := by simp; omega
    clear h1 h2 hrow h hi
    cases last
    · go_enter Try.func46, Try.ntmps46
      go_wp2_with fail
      go_ret
      exact ⟨by rw [← g7]; rfl, Below.refl _ _⟩
    · have g5 := g2 rfl
      have g6 : (N : Int) = S.fin := by omega
      rw [← g6] at c4
      clear g1 g2 g3 g4 g5 g6
      go_enter Try.func46, Try.ntmps46
      go_wp2_with fail
      go_ret
      exact ⟨rfl, Below.refl _ _⟩
  case false =>
    rw [hk] at c5
    cases last
    · clear h1 h2 hrow h hi
      go_enter Try.func46, Try.ntmps46
      go_wp2_with fail
      go_ret
      exact ⟨rfl, Below.refl _ _⟩
    · obtain ⟨g1, g2⟩ := h2 hk rfl
      obtain ⟨G, Y, h0, D, hown, hm1, hm2, hm3⟩ := h.get i hi
      have HOWN := Lib.hid (show w.ownsMap Try.prog 3 u8Elem b S.n D from hown)
      have HM := Lib.hid (show ∀ k : Int, has D (.int .i64 k) = true → k < (N : Int) from fun k hk => by
        rw [hm2 k] at hk
        obtain ⟨x, hx⟩ := Option.isSome_iff_exists.1 hk
        exact g1 k x hx)
      have HR := Lib.hid hrow
      clear h1 h2 hrow h hi hown hm1 hm2 hm3 g1
      go_enter Try.func46, Try.ntmps46
      go_wp2_with (first | (at_range; refine wpList_range_own _ rfl _ 105 rfl 3 5 keyed Try.underlying105 u8Elem b S.n D rfl HOWN.out ?_; intro w0 hrg0 hg0 hs0) | go_in)
      go_frame
      go_loopw [7] (fun _ wr => ∃ (left : Lit → Bool) (cnt : Nat), Hid (wr.ranges Try.prog 3 u8Elem b w.heap.size S.n D left cnt) ∧ Hid (∀ kl, left kl = true → has D kl = true) ∧ Hid (Below w.heap.size w wr)) (fun _ wr => wr.rangeLeft b w.heap.size)
      case atStart => exact ⟨_, _, Lib.hid hrg0, Lib.hid fun _ h => h, Lib.hid ((Below.refl _ _).grown hg0 (Nat.le_refl _) fun k e => by cases e)⟩
      case round =>
        obtain ⟨left, cnt, hrg, HL, HB⟩ := hrel
        go_wp2_with (first
          | (at_next; refine wpList_next_ranges _ rfl _ rfl 3 keyed u8Elem (Value.int .i64) (Value.int .u8) (fun key kl hkey => by obtain ⟨x, rfl, _⟩ := Maps.keyOf_int_inv Try.underlying3 hkey; exact ⟨x, rfl⟩) u8Elem_inv b w.heap.size S.n _ _ _ rfl hrg.out ?_ ?_)
          | go_in)
        · intro _ _
          obtain ⟨c0, c1, c2, c3, c4, c5⟩ := st_cells ((HB.out.block p (lt_of_block HR.out)).trans HR.out)
          go_wp2_with fail
          have e : decide (N < S.off) = false := by simp; omega
          go_ret
          exact ⟨by rw [← e]; rfl, HB.out⟩
        · intro x c kl _ _ w1 cnt1 hkx hlx hv hat hrg1 hlt hg1 hs1 hen
          have HB1 := Lib.hid (HB.out.grown hg1 HB.out.size fun k e => by cases e; exact Nat.le_refl _)
          obtain ⟨x', ex, rfl, hwx⟩ := Maps.keyOf_int_inv Try.underlying3 hkx
          cases ex
          have hx := HM.out x (HL.out _ hlx)
          have HRG := Lib.hid hrg1
          clear hkx hlx hv hat hrg1 hg1
          go_wp2_with fail
          go_roundw
          case rel => exact ⟨_, cnt1, HRG, Lib.hid fun z hz => HL.out z (by simp only [Bool.and_eq_true] at hz; exact hz.1), HB1⟩
          case measure => rw [HRG.out.left_eq, hrg.out.left_eq]; exact hlt
end
end Go.Proofs.Ytbibippdafnenaa
