/- cable.New, and the small methods. -/
import Derived.Test.YtekojekgjfefkaaCabD
namespace Go.Proofs.Ytekojekgjfefkaa
open Go.RowKit

theorem slFlt : SlT Try.prog 22 39 (.agg #[.int .i64 0, .int .i64 0, .int .i64 0]) 3 24 := ⟨Try.underlying22, info_parts (by kernel_rfl), rfl, by decide⟩
/-- an owned row, as data that is read -/
theorem rdS_own {α : Type} {E : El α} {w1 : World} {base : Nat} {e : TypeId} {v : Value} {us : List Value} {xs : List α} {Z : BS} (h : w1.ownsRow base e E.size v xs.length us) (hel : Els E w1 (fun _ => False) Z us xs) : RdS E w1 (fun k => Z k ∨ base ≤ k) v xs :=
  ⟨us, Rd.of_own h, hel.mono (fun _ h => h) fun _ h => .inl h, fun h0 b hb => by
    obtain ⟨_, ⟨rfl, _⟩ | ⟨g, cap, cur, rfl, h1, _⟩⟩ := h
    · cases hb
    · obtain rfl : g = b := by simpa [Value.ownBlock] using hb
      exact .inr h1⟩
theorem els_flt {w w' : World} {Z Y : BS} : ∀ {us : List Value} {fs : List Flt}, Els eFlt w (fun _ => False) Z us fs → Els eFlt w' (fun _ => False) Y us fs
  | _, [], h => h
  | _, _ :: _, ⟨cs, rest, _, _, e, _, g2, _, h1, h2⟩ => ⟨cs, rest, fun _ => False, fun _ => False, e, fun _ f => f, fun _ f => f, fun _ f => f.elim, h1, els_flt (Els.mono h2 (fun k b => (g2 k b).elim) fun _ h => h)⟩
set_option maxHeartbeats 1000000 in
theorem cloneF_any (w : World) (Z : BS) (v : Value) (fs : List Flt) (h : RdS eFlt w Z v fs) (hl : fs.length ≤ 1000000) :
    Calls Try.prog 26 #[v] w fun e w' => ∃ v', e = .returned v' ∧ RdS eFlt w' (fun k => w.heap.size ≤ k) v' fs ∧ Below w.heap.size w w' := by
  obtain ⟨us, hr, he, _⟩ := h
  obtain ⟨a, c, rfl, h3⟩ : ∃ a c, v = .slice a fs.length c ∧ (a = none → fs.length = 0 ∧ c = 0) := by obtain ⟨_, a, c, e, _, _, h3, _⟩ := hr; exact ⟨a, c, e, h3⟩
  have HR := Lib.hid hr
  have HE := Lib.hid he
  have hn := fun a n c n' c' => Lib.run_eql_slice_nil (P := Try.prog) w 22 39 a n c n' c' Try.underlying22
  clear hr he
  cases a with
  | none =>
    obtain ⟨h4, h5⟩ := h3 rfl
    have h6 : fs = [] := List.eq_nil_of_length_eq_zero h4
    subst h6
    clear h3 h4
    go_enter Try.func26, Try.ntmps26
    go_wp2
    go_ret
    exact ⟨_, rfl, RdS.nil _ _ _, Below.refl _ _⟩
  | some ad =>
    clear h3
    have HONE := Lib.hid HE.out.one
    go_enter Try.func26, Try.ntmps26
    go_wp2_with (at_builtin; refine wpList_app slFlt rfl _ _ rfl w.heap.size _ 0 [] rfl (World.ownsRow_made _ _ 0 (Nat.le_refl _) (Nat.zero_le _) rfl) _ fs.length us rfl (HR.out.keep fun k _ hk => Below.heap_alloc _ _ k hk) HONE.out (by unfold maxLen; omega) (by omega) (by simp) ?_; intro v2 w2 hown2 hg2 hiff; clear hiff; have HB2 := Lib.hid (((Below.refl w.heap.size w).alloc (Nat.le_refl _) _).grown hg2 (by simp) (fun k e => by cases e; exact Nat.le_refl _)); have HO2 := Lib.hid hown2; clear hown2 hg2)
    go_ret
    have ho := HO2.out
    rw [Nat.zero_add, List.nil_append] at ho
    exact ⟨_, rfl, (rdS_own (Z := fun _ => False) ho (els_flt (w := w) (Z := Z) HE.out)).mono fun k h => h.resolve_left id, HB2.out⟩
theorem new_range (w : World) (d : Int) (a : Option Addr) (n c : Nat) (h : d < 1 ∨ 100 < d) :
    Calls Try.prog 12 #[.int .i64 d, .slice a n c] w fun e w' => e = .returned (.tuple #[.pointer none, .int .i64 2]) ∧ w = w' := by
  rcases h with h | h
  all_goals
    go_enter Try.func12, Try.ntmps12
    go_wp2_with fail
    go_ret2
    exact ⟨rfl, rfl⟩
def NewPost (w : World) (d : Nat) (fs : List Flt) (e : Ending) (w' : World) : Prop :=
  (okF (-1) fs = false ∧ e = .returned (.tuple #[.pointer none, .int .i64 1]) ∧ Below w.heap.size w w') ∨ (okF (-1) fs = true ∧ ∃ p, e = .returned (.tuple #[.pointer (some ⟨p, 0, none⟩), .int .i64 0]) ∧ Made w (tCab p (Cab.new d fs)) w')
set_option maxHeartbeats 4000000 in
theorem new_any (w : World) (Z : BS) (v : Value) (fs : List Flt) (h : RdS eFlt w Z v fs) (hl : fs.length ≤ 1000000) (d : Nat) (h1 : 1 ≤ d) (h2 : d ≤ 100) :
    Calls Try.prog 12 #[.int .i64 (d : Int), v] w (NewPost w d fs) := by
  obtain ⟨a, c, rfl, hc1, hc2⟩ := h.shape
  have H := Lib.hid h
  have b1 : decide ((d : Int) < 1) = false := by simp; omega
  have b2 : decide (100 < (d : Int)) = false := by simp; omega
  clear h
  go_enter Try.func12, Try.ntmps12
  go_wp2_with fail
  go_loopw [17, 6] (fun i l wr => ∃ (j : Nat) (last : Int), j ≤ fs.length ∧ i = .int .i64 j ∧ l = .int .i64 last ∧ Hid (okF last (fs.drop j) = okF (-1) fs) ∧ Hid (Below w.heap.size w wr)) (fun i _ _ => fs.length - (intOf i).toNat)
  case atStart => exact ⟨0, -1, by omega, rfl, rfl, Lib.hid rfl, Lib.hid (Below.refl _ _)⟩
  case round =>
    obtain ⟨j, last, hj, rfl, rfl, HOK, HB⟩ := hrel
    have hz := HB.out.size
    by_cases hlt : j < fs.length
    · obtain ⟨f, hf⟩ : ∃ f, fs[j]? = some f := ⟨fs[j], List.getElem?_eq_getElem hlt⟩
      obtain ⟨b, off, rfl, c0, c1, c2, w0, w1, w2⟩ := flt_at (H.out.below HB.out) hf
      have hd : fs.drop j = f :: fs.drop (j + 1) := by
        have := List.getElem?_eq_getElem hlt
        rw [this] at hf
        obtain rfl := Option.some.inj hf
        exact List.drop_eq_getElem_cons hlt
      have HB1 := Lib.hid (HB.out.trans ((below_alloc wr (.cells #[.int .i64 f.at', .int .i64 f.kind, .int .i64 f.arg] 39)).mono hz))
      have HOK1 : Hid (okF (-1) fs = (decide (last < f.at') && decide (1 ≤ f.kind) && decide (f.kind ≤ 3) && decide (0 ≤ f.arg) && okF f.at' (fs.drop (j + 1)))) := Lib.hid (by rw [← HOK.out, hd]; rfl)
      clear hf hd HOK HB
      by_cases hg : last < f.at' ∧ 1 ≤ f.kind ∧ f.kind ≤ 3 ∧ 0 ≤ f.arg
      · obtain ⟨g1, g2, g3, g4⟩ := hg
        go_wp2_with fail
        go_roundw
        case rel => exact ⟨j + 1, f.at', by omega, by go_num, rfl, Lib.hid (by rw [HOK1.out]; simp [g1, g2, g3, g4]), HB1⟩
        case measure => simp [intOf]; omega
      · have HN : Hid (okF (-1) fs = false) := Lib.hid (by
          rw [HOK1.out]
          by_cases g1 : last < f.at'
          · by_cases g2 : 1 ≤ f.kind
            · by_cases g3 : f.kind ≤ 3
              · by_cases g4 : 0 ≤ f.arg
                · exact absurd ⟨g1, g2, g3, g4⟩ hg
                · simp [g4]
              · simp [g3]
            · simp [g2]
          · simp [g1])
        have hg' : f.at' ≤ last ∨ (last < f.at' ∧ f.kind < 1) ∨ (last < f.at' ∧ 1 ≤ f.kind ∧ 3 < f.kind) ∨ (last < f.at' ∧ 1 ≤ f.kind ∧ f.kind ≤ 3 ∧ f.arg < 0) := by omega
        clear hg
        rcases hg' with g | ⟨g1, g⟩ | ⟨g1, g2, g⟩ | ⟨g1, g2, g3, g⟩
        all_goals
          go_wp2_with fail
          go_ret2
          exact .inl ⟨HN.out, rfl, HB1.out⟩
    · obtain rfl : j = fs.length := by omega
      have HT : Hid (okF (-1) fs = true) := Lib.hid (by rw [← HOK.out, List.drop_length]; rfl)
      clear HOK
      go_wp2_with fail
      refine (cloneF_any wr Z _ fs (H.out.below HB.out) hl).mono ?_
      rintro e w1 ⟨v', rfl, hr, hb⟩
      obtain ⟨va, vc, rfl, _⟩ := hr.shape
      have HR := Lib.hid hr
      have HB1 := Lib.hid (HB.out.trans (hb.mono hz))
      have hz1 := hb.size
      clear hr hb
      go_wp2_with fail
      go_ret2
      refine .inr ⟨HT.out, w1.heap.size, rfl, HB1.out.trans ((below_alloc _ _).mono (by omega)), fun k => k = w1.heap.size, fun k => w.heap.size ≤ k ∧ k < w1.heap.size, fun k hk => by omega, fun k hk => hk.1, fun k a b => by omega, rfl, .slice va fs.length vc, .slice none 0 0, heap_alloc_new w1 _, ?_, Sq.nil _ _ _ _ _⟩
      have := (HR.out.stay (w' := w1.alloc (.cells (cabCells (Cab.new d fs) (.slice va fs.length vc) (.slice none 0 0)) 62)) (by simp) fun k _ hl => Below.heap_alloc w1 _ k hl)
      exact this.mono fun k hk => ⟨by omega, hk.2⟩
/-! the small methods -/
section
variable {p : Nat} {c : Cab} {w : World} {F Z : BS} (h : (tCab p c).on w F Z)
include h
theorem up_any : Calls Try.prog 14 #[.pointer (some ⟨p, 0, none⟩)] w fun e w' => e = .returned (.bool c.up) ∧ w = w' := by
  obtain ⟨h0, fv, lv, hrow, hf, hs⟩ := h
  obtain ⟨_, _, c2, _⟩ := cab_cells hrow
  clear hf hs hrow h0
  go_enter Try.func14, Try.ntmps14
  go_wp2_with fail
  go_ret
  exact ⟨rfl, rfl⟩
theorem flying_any : Calls Try.prog 15 #[.pointer (some ⟨p, 0, none⟩)] w fun e w' => e = .returned (.int .i64 (c.flying.length : Int)) ∧ w = w' := by
  obtain ⟨h0, fv, lv, hrow, hf, hs⟩ := h
  obtain ⟨a, cap, rfl⟩ := hs.shape
  obtain ⟨_, _, _, _, _, _, c6⟩ := cab_cells hrow
  clear hf hs hrow h0
  go_enter Try.func15, Try.ntmps15
  go_wp2_with fail
  go_ret
  exact ⟨rfl, rfl⟩
theorem lost_any : Calls Try.prog 16 #[.pointer (some ⟨p, 0, none⟩)] w fun e w' => e = .returned (.int .i64 (c.lost : Int)) ∧ w = w' := by
  obtain ⟨h0, fv, lv, hrow, hf, hs⟩ := h
  obtain ⟨_, _, _, _, _, c5, _⟩ := cab_cells hrow
  clear hf hs hrow h0
  go_enter Try.func16, Try.ntmps16
  go_wp2_with fail
  go_ret
  exact ⟨rfl, rfl⟩
end
/-- the cable behind stores into its own block -/
theorem cab_put {p : Nat} {c' : Cab} {w w' : World} {F Z : BS} {fv lv : Value} (h0 : F p) (hd : Dj F Z) (hf : RdS eFlt w Z fv c'.faults) (hs : Sq eTr 66 w (fun k => F k ∧ k ≠ p) Z lv c'.flying) (hF : Fr (fun k => k = p) w w')
    (hrow : w'.heap[p]? = some (.cells (cabCells c' fv lv) 62 (0, 0))) : (tCab p c').on w' F Z ∧ Fr F w w' :=
  ⟨⟨h0, fv, lv, hrow, hf.keep hF.size fun k hz hl => hF.block k hl fun e => by subst e; exact hd _ h0 hz, hs.stay hF.size fun k hh hl => hF.block k hl fun e => by subst e; exact hh.elim (fun h => h.2 rfl) (hd _ h0)⟩, hF.mono fun k hk => by subst hk; exact h0⟩
theorem cut_any {p : Nat} {c : Cab} {w : World} {F Z : BS} (h : (tCab p c).on w F Z) (hd : Dj F Z) (hl : c.lost < 1000000000) (hk : c.flying.length ≤ 1000000) :
    Calls Try.prog 24 #[.pointer (some ⟨p, 0, none⟩)] w fun e w' => e = .returned (.tuple #[]) ∧ (tCab p c.cut).on w' F Z ∧ Fr F w w' := by
  obtain ⟨h0, fv, lv, hrow, hf, hs⟩ := h
  obtain ⟨a, cap, rfl⟩ := hs.shape
  obtain ⟨_, _, c2, _, _, c5, c6⟩ := cab_cells hrow
  obtain ⟨f2, _, _, f5, f6⟩ := cab_free hrow
  have HF := Lib.hid hf; have HS := Lib.hid hs; have HROW := Lib.hid hrow
  clear hf hs hrow
  go_enter Try.func24, Try.ntmps24
  go_wp2_with fail
  go_region
  all_goals go_wp2_with fail
  all_goals go_end0
  all_goals (refine ⟨rfl, ?_⟩; exact cab_put h0 hd HF.out (Sq.nil _ _ _ _ _) (by (repeat (first | (with_reducible exact Fr.refl _ _) | exact Or.inl rfl | (with_reducible refine Fr.setCell ?_ ?_ _) | (with_reducible refine Fr.drewN ?_ _) | (with_reducible refine Fr.drew ?_)))) (by (apply row_trans; focus (repeat (first | (with_reducible exact HROW.out) | (with_reducible apply row_set) | (with_reducible apply row_drewN) | (with_reducible apply row_drew)))); simp [cabCells, Cab.cut]))
theorem mend_any {p : Nat} {c : Cab} {w : World} {F Z : BS} (h : (tCab p c).on w F Z) (hd : Dj F Z) :
    Calls Try.prog 25 #[.pointer (some ⟨p, 0, none⟩)] w fun e w' => e = .returned (.tuple #[]) ∧ (tCab p c.mend).on w' F Z ∧ Fr F w w' := by
  obtain ⟨h0, fv, lv, hrow, hf, hs⟩ := h
  obtain ⟨_, _, c2, _, _, _, _⟩ := cab_cells hrow
  obtain ⟨f2, _⟩ := cab_free hrow
  have HF := Lib.hid hf; have HS := Lib.hid hs; have HROW := Lib.hid hrow
  clear hf hs hrow
  go_enter Try.func25, Try.ntmps25
  go_wp2_with fail
  go_end0
  refine ⟨rfl, ?_⟩; exact cab_put h0 hd HF.out HS.out (by (repeat (first | (with_reducible exact Fr.refl _ _) | exact Or.inl rfl | (with_reducible refine Fr.setCell ?_ ?_ _) | (with_reducible refine Fr.drewN ?_ _) | (with_reducible refine Fr.drew ?_)))) (by (apply row_trans; focus (repeat (first | (with_reducible exact HROW.out) | (with_reducible apply row_set) | (with_reducible apply row_drewN) | (with_reducible apply row_drew)))); simp [cabCells, Cab.mend])
end Go.Proofs.Ytekojekgjfefkaa
