/- Operations on a cable that are read; the limits of the statements; lists of transmissions compared. -/
import Derived.Test.YtekojekgjfefkaaCabI
namespace Go.Proofs.Ytekojekgjfefkaa
open Go.ChangeShapes Go.WideShapes Go.ChangeAt Go.RowKit

structure COp where
  kind : Int
  data : Byt
def eCOp : El COp where
  size := 2
  rd w _ Z cs o := ∃ v, cs = [.int .i64 o.kind, v] ∧ ByZ w Z v o.data
  len h := by obtain ⟨v, h, _⟩ := h; rw [h]; rfl
  keep h _ hk := by obtain ⟨v, e, h⟩ := h; exact ⟨v, e, h.stay fun k hz => hk k (.inr hz)⟩
  mono h _ hZ := by obtain ⟨v, e, h⟩ := h; exact ⟨v, e, h.mono hZ⟩
  one h u hu := by
    obtain ⟨v, rfl, h⟩ := h
    obtain ⟨a, c, rfl⟩ := h.slice
    simp at hu
    rcases hu with rfl | rfl <;> rfl
def rCOp : R COp := rMap (rPair (rInt .i64) rBytes) fun a => ⟨a.1, a.2⟩
theorem eCOp_of {W : World} {cs : List Value} {o : COp} (h : rCOp.rd W cs o) : eCOp.rd W (fun _ => False) (Old W) cs o := by
  obtain ⟨⟨k, d⟩, ⟨c1, c2, rfl, ⟨rfl, _⟩, v, rfl, h3⟩, rfl⟩ := h
  exact ⟨v, rfl, byZ_of h3⟩
theorem opensCOps {H : Type} {enc : TypeId × Value → H} {W : World} : Opens enc Try.prog W 43 (rSlice rCOp) :=
  opens_slice Try.underlying43 (by kernel_rfl) (opens_map (opens_struct Try.underlying49 (by kernel_rfl)
    (.cons (opens_int Try.underlying3 (by kernel_rfl)) rfl (.one (opens_bytes Try.underlying32 (by kernel_rfl) Try.underlying5 (by kernel_rfl)) rfl))) _) (by decide)
theorem cops_of {W : World} {v : Value} {l : List COp} (h : (rSlice rCOp).rd W [v] l) : RdS eCOp W (Old W) v l := rdS_of rfl (by decide) (fun _ _ h => eCOp_of h) h
theorem opensBB {H : Type} {enc : TypeId × Value → H} {W : World} : Opens enc Try.prog W 31 (rSlice rBytes) :=
  opens_slice Try.underlying31 (by kernel_rfl) (opens_bytes Try.underlying32 (by kernel_rfl) Try.underlying5 (by kernel_rfl)) (by decide)
theorem bbs_of {W : World} {v : Value} {l : List Byt} (h : (rSlice rBytes).rd W [v] l) : RdS eBy W (Old W) v l := rdS_of rfl (by decide) (fun _ _ h => eBy_of h) h
theorem cop_at {w : World} {Z : BS} {a : Option Addr} {n c : Nat} {l : List COp} (h : RdS eCOp w Z (.slice a n c) l) {j : Nat} {o : COp} (hj : l[j]? = some o) :
    ∃ b off va vc, a = some ⟨b, off, none⟩ ∧ w.cell? ⟨b, off + j * 2, none⟩ = some (.int .i64 o.kind) ∧ w.cell? ⟨b, off + j * 2 + 1, none⟩ = some (.slice va o.data.length vc) ∧ ByZ w Z (.slice va o.data.length vc) o.data := by
  obtain ⟨b, off, cs, e, hb, ⟨v, rfl, hv⟩, hc⟩ := h.at (by decide) hj
  obtain ⟨va, vc, rfl⟩ := hv.slice
  exact ⟨b, off, va, vc, e, hc 0 _ rfl, hc 1 _ rfl, hv⟩
theorem bb_at {w : World} {Z : BS} {a : Option Addr} {n c : Nat} {l : List Byt} (h : RdS eBy w Z (.slice a n c) l) {j : Nat} {d : Byt} (hj : l[j]? = some d) :
    ∃ b off va vc, a = some ⟨b, off, none⟩ ∧ w.cell? ⟨b, off + j, none⟩ = some (.slice va d.length vc) ∧ ByZ w Z (.slice va d.length vc) d := by
  obtain ⟨b, off, cs, e, hb, ⟨v, rfl, hv⟩, hc⟩ := h.at (by decide) hj
  obtain ⟨va, vc, rfl⟩ := hv.slice
  have := hc 0 _ rfl
  rw [show off + j * eBy.size + 0 = off + j by show off + j * 1 + 0 = _; omega] at this
  exact ⟨b, off, va, vc, e, this, hv⟩
def fewB (l : List COp) (n : Nat) : Bool := l.all (fun o => decide (o.data.length ≤ 60)) && decide (l.length ≤ 150) && decide (n ≤ 150)
theorem all_take {α : Type} {l : List α} {p : α → Bool} {j : Nat} {o : α} (h : (l.take j).all p = true) (ho : l[j]? = some o) (hp : p o = true) : (l.take (j + 1)).all p = true := by
  rw [List.take_add_one, ho, List.all_append, h]; simp [hp]
theorem all_at {α : Type} {l : List α} {p : α → Bool} {j : Nat} {o : α} (ho : l[j]? = some o) (hp : p o = false) : l.all p = false :=
  List.all_eq_false.2 ⟨o, List.mem_of_getElem? ho, by simp [hp]⟩
set_option maxHeartbeats 2000000 in
theorem few_any (w : World) (Z : BS) (v : Value) (l : List COp) (h : RdS eCOp w Z v l) (fa : Option Addr) (n fc : Nat) :
    Calls Try.prog 20 #[v, .slice fa n fc] w fun e w' => e = .returned (.bool (fewB l n)) ∧ Below w.heap.size w w' := by
  obtain ⟨a, cap, rfl, hm1, hm⟩ := h.shape
  have HX := Lib.hid h
  clear h
  unfold maxLen at hm
  go_enter Try.func20, Try.ntmps20
  go_wp2_with fail
  go_loopw [9] (fun i wr => ∃ j : Nat, j ≤ l.length ∧ i = .int .i64 j ∧ Hid ((l.take j).all (fun o => decide (o.data.length ≤ 60)) = true) ∧ Hid (Below w.heap.size w wr)) (fun i _ => l.length - (intOf i).toNat)
  case atStart => exact ⟨0, by omega, rfl, Lib.hid (by simp), Lib.hid (Below.refl _ _)⟩
  case round =>
    obtain ⟨j, hj, rfl, HA, HB⟩ := hrel
    have hz := HB.out.size
    by_cases hlt : j < l.length
    · obtain ⟨o, ho⟩ : ∃ o, l[j]? = some o := ⟨l[j], List.getElem?_eq_getElem hlt⟩
      obtain ⟨b, off, va, vc, rfl, k0, k1, _⟩ := cop_at (HX.out.below HB.out) ho
      have HO := Lib.hid ho
      clear ho
      by_cases hbig : 60 < o.data.length
      · have HG := Lib.hid (all_at (p := fun o : COp => decide (o.data.length ≤ 60)) HO.out (by simpa using hbig))
        go_wp2_with fail
        go_ret
        exact ⟨by rw [fewB, HG.out]; rfl, HB.out.trans ((Below.refl wr.heap.size wr).alloc (Nat.le_refl _) _ |>.mono hz)⟩
      · have HG := Lib.hid (all_take (p := fun o : COp => decide (o.data.length ≤ 60)) HA.out HO.out (by simpa using hbig))
        go_wp2_with fail
        go_roundw
        case rel => exact ⟨j + 1, by omega, by go_num, HG, Lib.hid (HB.out.trans ((Below.refl wr.heap.size wr).alloc (Nat.le_refl _) _ |>.mono hz))⟩
        case measure => simp [intOf]; omega
    · obtain rfl : j = l.length := by omega
      have HA' := HA.out
      rw [List.take_length] at HA'
      have HA2 := Lib.hid HA'
      clear HA' HX HA
      by_cases h1 : l.length ≤ 150
      · by_cases h2 : n ≤ 150
        all_goals
          go_wp2_with fail
          go_ret
          exact ⟨by rw [fewB, HA2.out]; simp [h1, h2] <;> omega, HB.out⟩
      · go_wp2_with fail
        go_ret
        exact ⟨by rw [fewB, HA2.out]; simp [h1], HB.out⟩
set_option maxHeartbeats 4000000 in
theorem same_any (w : World) (Z Y : BS) (u v : Value) (xs ys : List Byt) (hu : RdS eBy w Z u xs) (hv : RdS eBy w Y v ys) :
    Calls Try.prog 19 #[u, v] w fun e w' => e = .returned (.bool (xs == ys)) ∧ Below w.heap.size w w' := by
  obtain ⟨a, ca, rfl, hm1, hm2⟩ := hu.shape
  obtain ⟨b, cb, rfl, hm3, hm4⟩ := hv.shape
  have HU := Lib.hid hu; have HV := Lib.hid hv
  unfold maxLen at hm2 hm4
  clear hu hv
  by_cases hlen : xs.length = ys.length
  · have hlb : ((xs.length : Int) != (ys.length : Int)) = false := by simp [hlen]
    have HL := Lib.hid hlen
    have hle : xs.length ≤ ys.length := by omega
    clear hlen
    go_enter Try.func19, Try.ntmps19
    go_wp2_with fail
    go_loopw [5] (fun i wr => ∃ j : Nat, j ≤ xs.length ∧ i = .int .i64 j ∧ Hid (∀ (k : Nat), k < j → xs[k]? = ys[k]?) ∧ Hid (Below w.heap.size w wr)) (fun i _ => xs.length - (intOf i).toNat)
    case atStart => exact ⟨0, by omega, rfl, Lib.hid (fun k h => by omega), Lib.hid (Below.refl _ _)⟩
    case round =>
      obtain ⟨j, hj, rfl, HA, HB⟩ := hrel
      have hz := HB.out.size
      by_cases hlt : j < xs.length
      · obtain ⟨x, hx⟩ : ∃ x, xs[j]? = some x := ⟨xs[j], List.getElem?_eq_getElem hlt⟩
        obtain ⟨y, hy⟩ : ∃ y, ys[j]? = some y := ⟨ys[j], List.getElem?_eq_getElem (by omega)⟩
        obtain ⟨b1, o1, va, vc, rfl, k1, hb1⟩ := bb_at (HU.out.below HB.out) hx
        obtain ⟨b2, o2, wa, wc, rfl, k2, hb2⟩ := bb_at (HV.out.below HB.out) hy
        have hs1 := fun m => run_str8 (P := Try.prog) (src := 32) (dst := 9) Try.underlying32 Try.underlying5 Try.underlying9 (By.drewN hb1.1 m)
        have hs2 := fun m => run_str8 (P := Try.prog) (src := 32) (dst := 9) Try.underlying32 Try.underlying5 Try.underlying9 (By.drewN hb2.1 m)
        have HX := Lib.hid hx; have HY := Lib.hid hy
        clear hx hy hb1 hb2
        by_cases he : x = y
        · have hb : (x == y) = true := by simpa using he
          have hb' : (x != y) = false := by simpa using he
          have HE := Lib.hid he; clear he
          go_wp2_with fail
          go_quiet (fail)
          go_wp2_with fail
          go_roundw
          case rel => exact ⟨j + 1, by omega, by go_num, Lib.hid (fun k hk => by
            rcases Nat.lt_or_ge k j with h | h
            · exact HA.out k h
            · obtain rfl : k = j := by omega
              rw [HX.out, HY.out, HE.out]), Lib.hid (HB.out.trans ((below_drew _ _).mono hz))⟩
          case measure => simp [intOf]; omega
        · have hb : (x == y) = false := by simpa using he
          have hb' : (x != y) = true := by simpa using he
          have HN : Hid ((xs == ys) = false) := Lib.hid (by
            rw [beq_eq_false_iff_ne]
            intro e
            have h1 : ys[j]? = some x := by rw [← e]; exact HX.out
            exact he (Option.some.inj (h1.symm.trans HY.out)))
          clear he
          go_wp2_with fail
          go_quiet (fail)
          go_wp2_with fail
          go_ret
          exact ⟨by rw [HN.out]; rfl, HB.out.trans ((below_drew _ _).mono hz)⟩
      · obtain rfl : j = xs.length := by omega
        have HE : Hid ((xs == ys) = true) := Lib.hid (by
          rw [beq_iff_eq]
          apply List.ext_getElem?
          intro k
          rcases Nat.lt_or_ge k xs.length with h | h
          · exact HA.out k h
          · rw [List.getElem?_eq_none h, List.getElem?_eq_none (by have := HL.out; omega)])
        go_wp2_with fail
        go_ret
        exact ⟨by rw [HE.out]; rfl, HB.out⟩
  · have hlb : ((xs.length : Int) != (ys.length : Int)) = true := by simp; omega
    have HN : Hid ((xs == ys) = false) := Lib.hid (by
      rw [beq_eq_false_iff_ne]
      intro e; exact hlen (by rw [e]))
    clear hlen
    go_enter Try.func19, Try.ntmps19
    go_wp2_with fail
    go_ret
    exact ⟨by rw [HN.out]; rfl, Below.refl _ _⟩
theorem eBy_cold {w : World} {A B : BS} {cs : List Value} {a : Byt} (h : eBy.rd w A B cs a) : eBy.rd w (fun _ => False) (fun k => A k ∨ B k) cs a := by
  obtain ⟨v, e, h⟩ := h; exact ⟨v, e, h.mono fun k h => .inr h⟩
end Go.Proofs.Ytekojekgjfefkaa
