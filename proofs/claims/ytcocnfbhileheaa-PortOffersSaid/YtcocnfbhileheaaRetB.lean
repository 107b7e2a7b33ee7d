/- The sender in memory. -/
import Derived.Test.YtcocnfbhileheaaRetA
import Derived.Test.YtcocnfbhileheaaRetM
import Derived.Deep.RegionLaw
namespace Go.Proofs.Ytcocnfbhileheaa
open Go.RowKit

theorem slBB : SlT Try.prog 48 31 (.slice none 0 0) 1 24 := ⟨Try.underlying48, info_parts (by kernel_rfl), rfl, by decide⟩

def sndCells (s : Snd) (kv : Value) : Array Value := #[.int .i64 (s.window : Int), .int .i64 (s.timeout : Int), kv, .int .i64 (s.acked : Int), .int .i64 (s.pos : Int), .int .i64 (s.sent : Int), .int .i64 (s.timer : Int)]
/-- the list of kept packets: slice values, each reading as its bytes -/
def Kept (w : World) (D : Nat → Prop) (ks : List Bytes) (vs : List Value) : Prop := vs.length = ks.length ∧ ∀ (i : Nat) (d : Bytes), ks[i]? = some d → ∃ v, vs[i]? = some v ∧ ByD w D v d
/-- a sender at block p: K holds its array of packets, D the packets' bytes -/
structure SndAt (w : World) (p : Nat) (K D : Nat → Prop) (s : Snd) : Prop where
  row : ∃ kv vs, w.heap[p]? = some (.cells (sndCells s kv) 151 (0, 0)) ∧ Sl w K 31 1 kv s.kept.length vs ∧ Kept w D s.kept vs
  pK : ¬ K p
  pD : ¬ D p
  dj : Dj K D
  lt : ∀ k, K k ∨ D k → k < w.heap.size
theorem Kept.keep {w w' : World} {D : Nat → Prop} {ks : List Bytes} {vs : List Value} (h : Kept w D ks vs) (hk : ∀ k, D k → k < w.heap.size → w'.heap[k]? = w.heap[k]?) : Kept w' D ks vs :=
  ⟨h.1, fun i d hd => by obtain ⟨v, h1, h2⟩ := h.2 i d hd; exact ⟨v, h1, h2.keep hk⟩⟩
theorem Kept.mono {w : World} {D E : Nat → Prop} {ks : List Bytes} {vs : List Value} (h : Kept w D ks vs) (hD : ∀ k, D k → E k) : Kept w E ks vs :=
  ⟨h.1, fun i d hd => by obtain ⟨v, h1, h2⟩ := h.2 i d hd; exact ⟨v, h1, h2.mono hD⟩⟩
theorem Kept.snoc {w : World} {D : Nat → Prop} {ks : List Bytes} {vs : List Value} (h : Kept w D ks vs) {v : Value} {d : Bytes} (hv : ByD w D v d) : Kept w D (ks ++ [d]) (vs ++ [v]) := by
  refine ⟨by simp [h.1], fun i d' hd => ?_⟩
  rw [List.getElem?_append] at hd ⊢
  by_cases hi : i < ks.length
  · rw [if_pos hi] at hd
    rw [if_pos (by rw [h.1]; exact hi)]
    exact h.2 i d' hd
  · rw [if_neg hi] at hd
    rw [if_neg (by rw [h.1]; exact hi), h.1]
    have : i - ks.length = 0 := by
      rcases Nat.eq_zero_or_pos (i - ks.length) with h0 | h0
      · exact h0
      · rw [List.getElem?_eq_none (by simp; omega)] at hd; cases hd
    rw [this] at hd ⊢
    obtain rfl : d = d' := by simpa using hd
    exact ⟨v, rfl, hv⟩
theorem Kept.drop {w : World} {D : Nat → Prop} {ks : List Bytes} {vs : List Value} (h : Kept w D ks vs) (k : Nat) : Kept w D (ks.drop k) (vs.drop k) :=
  ⟨by simp [h.1], fun i d hd => by rw [List.getElem?_drop] at hd ⊢; exact h.2 _ d hd⟩
theorem SndAt.keep {w w' : World} {p : Nat} {K D : Nat → Prop} {s : Snd} (h : SndAt w p K D s) (hs : w.heap.size ≤ w'.heap.size) (hk : ∀ k, (k = p ∨ K k ∨ D k) → k < w.heap.size → w'.heap[k]? = w.heap[k]?) : SndAt w' p K D s := by
  obtain ⟨⟨kv, vs, h1, h2, h3⟩, h4, h5, h6, h7⟩ := h
  exact ⟨⟨kv, vs, (hk p (.inl rfl) (lt_of_block h1)).trans h1, h2.keep fun k f => hk k (.inr (.inl f)), h3.keep fun k f => hk k (.inr (.inr f))⟩, h4, h5, h6, fun k f => Nat.lt_of_lt_of_le (h7 k f) hs⟩
theorem SndAt.below {w w' : World} {p : Nat} {K D : Nat → Prop} {s : Snd} (h : SndAt w p K D s) (hb : Below w.heap.size w w') : SndAt w' p K D s := h.keep hb.size fun k _ hl => hb.block k hl
theorem SndAt.fr {w w' : World} {p : Nat} {K D G : Nat → Prop} {s : Snd} (h : SndAt w p K D s) (hf : Fr G w w') (hG : ∀ k, (k = p ∨ K k ∨ D k) → ¬ G k) : SndAt w' p K D s := h.keep hf.size fun k f hl => hf.block k hl (hG k f)
theorem snd_cells {w : World} {p : Nat} {s : Snd} {kv : Value} (h : w.heap[p]? = some (.cells (sndCells s kv) 151 (0, 0))) :
    w.cell? ⟨p, 0, none⟩ = some (.int .i64 (s.window : Int)) ∧ w.cell? ⟨p, 1, none⟩ = some (.int .i64 (s.timeout : Int)) ∧ w.cell? ⟨p, 2, none⟩ = some kv ∧ w.cell? ⟨p, 3, none⟩ = some (.int .i64 (s.acked : Int)) ∧
    w.cell? ⟨p, 4, none⟩ = some (.int .i64 (s.pos : Int)) ∧ w.cell? ⟨p, 5, none⟩ = some (.int .i64 (s.sent : Int)) ∧ w.cell? ⟨p, 6, none⟩ = some (.int .i64 (s.timer : Int)) :=
  ⟨blk_cell h rfl, blk_cell h rfl, blk_cell h rfl, blk_cell h rfl, blk_cell h rfl, blk_cell h rfl, blk_cell h rfl⟩
theorem snd_free {w : World} {p : Nat} {s : Snd} {kv : Value} (h : w.heap[p]? = some (.cells (sndCells s kv) 151 (0, 0))) :
    w.frozen? ⟨p, 2, none⟩ = false ∧ w.frozen? ⟨p, 3, none⟩ = false ∧ w.frozen? ⟨p, 4, none⟩ = false ∧ w.frozen? ⟨p, 5, none⟩ = false ∧ w.frozen? ⟨p, 6, none⟩ = false :=
  ⟨blk_free h _, blk_free h _, blk_free h _, blk_free h _, blk_free h _⟩
/-- what a sender may change -/
def sndF (p : Nat) (K : Nat → Prop) : Nat → Prop := fun k => k = p ∨ K k

set_option maxHeartbeats 1000000 in
theorem offer_full (p : Nat) (K D : Nat → Prop) (s : Snd) (hok : s.Ok) (v : Value) (d : Bytes) (w : World) (hs : SndAt w p K D s) (hv : By w v d) (hd : d.length ≤ 64) (hfull : s.window ≤ s.kept.length) :
    Calls Try.prog 85 #[.pointer (some ⟨p, 0, none⟩), v] w fun e w' => e = .returned (.int .i64 5) ∧ Dr w w' := by
  obtain ⟨kv, vs, hrow, hsl, hk⟩ := hs.row
  obtain ⟨a, cap, rfl⟩ := hv.slice
  obtain ⟨ka, kcap, rfl⟩ := hsl.shape
  obtain ⟨c0, _, c2, _⟩ := snd_cells hrow
  have hw2 := hok.w2
  have hk2 := hok.kept
  clear hs hsl hk hv hrow
  go_enter Try.func85, Try.ntmps85
  go_wp2_with fail
  go_quiet (fail)
  go_wp2_with fail
  go_ret
  exact ⟨rfl, _, rfl⟩

set_option maxHeartbeats 1000000 in
theorem offer_big (p : Option Nat) (v : Value) (d : Bytes) (w : World) (hv : By w v d) (hd : 64 < d.length) :
    Calls Try.prog 85 #[.pointer (p.map fun p => ⟨p, 0, none⟩), v] w fun e w' => e = .returned (.int .i64 (if p.isSome then 2 else 1)) ∧ w = w' := by
  obtain ⟨a, cap, rfl⟩ := hv.slice
  clear hv
  cases p
  all_goals
    go_enter Try.func85, Try.ntmps85
    go_wp2_with fail
    go_ret
    exact ⟨rfl, rfl⟩
theorem offer_none (v : Value) (d : Bytes) (w : World) (hv : By w v d) :
    Calls Try.prog 85 #[.pointer none, v] w fun e w' => e = .returned (.int .i64 1) ∧ w = w' := by
  obtain ⟨a, cap, rfl⟩ := hv.slice
  clear hv
  go_enter Try.func85, Try.ntmps85
  go_wp2_with fail
  go_ret
  exact ⟨rfl, rfl⟩

theorem Ow.byD {T : TypeId} {w : World} {base : Nat} {v : Value} {bs : List (BitVec 8)} (h : Ow T w base v bs) : ByD w (fun k => base ≤ k ∧ k < w.heap.size) v bs := by
  refine ⟨h.by, fun b hb => ?_⟩
  obtain ⟨_, ⟨rfl, _⟩ | ⟨g, cap, cur, rfl, h1, h2, _⟩⟩ := h
  · cases hb
  · obtain rfl : g = b := by simpa [Value.ownBlock] using hb
    exact ⟨h1, lt_of_block h2⟩
theorem offer_done {w w1 w2 : World} {p : Nat} {K D : Nat → Prop} {s : Snd} {kv v1 u2 : Value} {vs : List Value} {d : Bytes} {o : Obj} (hs : SndAt w p K D s) (hk : Kept w D s.kept vs)
    (hB1 : Below w.heap.size w w1) (hO1 : Ow 5 w1 w.heap.size v1 d) (hsl : Sl w2 (fun k => K k ∨ (w1.alloc o).heap.size ≤ k) 31 1 u2 (s.kept.length + 1) (vs ++ [v1]))
    (hF : Fr K (w1.alloc o) w2) (hrow : w2.heap[p]? = some (.cells (sndCells s kv) 151 (0, 0))) :
    ∃ K' D', SndAt (w2.setCell ⟨p, 2, none⟩ u2) p K' D' { s with kept := s.kept ++ [d] } ∧ Fr (sndF p K) w (w2.setCell ⟨p, 2, none⟩ u2) ∧ Ext w K K' ∧ Ext w D D' := by
  have hp : p < w.heap.size := by obtain ⟨kv, vs, h, _⟩ := hs.row; exact lt_of_block h
  have hsz : (w1.alloc o).heap.size = w1.heap.size + 1 := by simp
  have hs1 := hB1.size
  have hs2 := hF.size
  have hF1 : Fr K w w2 := by
    refine Fr.trans (F := K) (G := K) ?_ hF fun x h => .inl h
    exact ((Fr.refl K w).of_below hB1).alloc o
  have hFw : Fr (sndF p K) w (w2.setCell ⟨p, 2, none⟩ u2) := (hF1.mono fun k h => .inr h).setCell (.inl (.inl rfl)) _
  have hother : ∀ k, k ≠ p → (w2.setCell ⟨p, 2, none⟩ u2).heap[k]? = w2.heap[k]? := fun k hk => heap_setCell_other w2 _ k _ hk
  refine ⟨fun k => (K k ∨ (w1.alloc o).heap.size ≤ k) ∧ k < w2.heap.size, fun k => D k ∨ (w.heap.size ≤ k ∧ k < w1.heap.size), ?_, hFw, ?_, ?_⟩
  · refine ⟨⟨u2, vs ++ [v1], ?_, ?_, ?_⟩, ?_, ?_, ?_, ?_⟩
    · have := heap_setCell_same w2 p 2 _ _ u2 hrow
      exact this
    · have h := hsl.bound.keep (w' := w2.setCell ⟨p, 2, none⟩ u2) fun k hk _ => hother k (by
        rintro rfl
        rcases hk.1 with h | h
        · exact hs.pK h
        · omega)
      simpa using h
    · refine Kept.snoc ?_ ?_
      · refine (hk.keep fun k hD hl => ?_).mono fun k h => .inl h
        exact hFw.block k hl fun h => by
          rcases h with rfl | h
          · exact hs.pD hD
          · exact hs.dj k h hD
      · refine ((hO1.byD).keep fun k hk _ => ?_).mono fun k h => .inr h
        rw [hother k (by omega)]
        rw [hF.block k (by omega) fun h => by have := hs.lt k (.inl h); omega]
        exact Below.heap_alloc w1 o k hk.2
    · rintro ⟨h | h, _⟩
      · exact hs.pK h
      · omega
    · rintro (h | h)
      · exact hs.pD h
      · omega
    · rintro k ⟨h | h, _⟩ (h' | h')
      · exact hs.dj k h h'
      · have := hs.lt k (.inl h); omega
      · have := hs.lt k (.inr h'); omega
      · omega
    · intro k h
      show k < (w2.setCell ⟨p, 2, none⟩ u2).heap.size
      have : (w2.setCell ⟨p, 2, none⟩ u2).heap.size = w2.heap.size := by simp
      rw [this]
      rcases h with h | h | h
      · exact h.2
      · have := hs.lt k (.inr h); omega
      · omega
  · rintro k ⟨h | h, _⟩
    · exact .inl h
    · exact .inr (by omega)
  · rintro k (h | h)
    · exact .inl h
    · exact .inr h.1
set_option maxRecDepth 100000 in
set_option maxHeartbeats 2000000 in
theorem offer_room (p : Nat) (K D : Nat → Prop) (s : Snd) (hok : s.Ok) (v : Value) (d : Bytes) (w : World) (hs : SndAt w p K D s) (hv : By w v d) (hd : d.length ≤ 64) (hroom : s.kept.length < s.window) :
    Calls Try.prog 85 #[.pointer (some ⟨p, 0, none⟩), v] w fun e w' => e = .returned (.int .i64 0) ∧ ∃ K' D', SndAt w' p K' D' { s with kept := s.kept ++ [d] } ∧ Fr (sndF p K) w w' ∧ Ext w K K' ∧ Ext w D D' := by
  obtain ⟨kv, vs, hrow, hsl, hk⟩ := hs.row
  obtain ⟨a, cap, rfl⟩ := hv.slice
  obtain ⟨ka, kcap, rfl⟩ := hsl.shape
  obtain ⟨c0, _, c2, _⟩ := snd_cells hrow
  have hlt := lt_of_block hrow
  have hw2 := hok.w2
  have hk2 := hok.kept
  have HS := Lib.hid hs; clear hs
  have HSL := Lib.hid hsl; clear hsl
  have HK := Lib.hid hk; clear hk
  have HV := Lib.hid hv; clear hv
  have HROW := Lib.hid hrow; clear hrow
  go_enter Try.func85, Try.ntmps85
  go_wp2_with fail
  go_quiet (fail)
  go_wp2_with fail
  go_region_law (first
    | (refine step_app_sl slBB rfl _ _ rfl K _ s.kept.length vs rfl (HSL1.out.alloc _) _ 1 [.slice a1 d.length cap1] rfl (rd_one _ _ _ _ rfl) (by intro u hu; simp at hu; subst hu; rfl) (by unfold maxLen; omega) (by omega) ?_; intro v2 w2 hsl2 hfr2; obtain ⟨g2, off2, cap2, rfl, _⟩ := Sl.head hsl2 (by omega); have HSL2 := Lib.hid hsl2; have HFR2 := Lib.hid hfr2; have HROW2 := Lib.hid (hfr2.keep ((Below.heap_alloc _ _ p (lt_of_block HROW1.out)).trans HROW1.out) HS.out.pK); have c2'' := (snd_cells HROW2.out).2.2.1; have f2'' := (snd_free HROW2.out).1; clear hsl2 hfr2)
    | (go_simp; go_at_call 44; refine (clone_any _ d _ (by exact HV.out.drewN _) (by omega)).mono ?_; rintro e w1 ⟨v1, rfl, hO1, hB1⟩; obtain ⟨a1, cap1, rfl⟩ := ow_shape hO1; have HO1 := Lib.hid hO1; have HB1 := Lib.hid hB1; have HSL1 := Lib.hid (HSL.out.keep fun k hk hl => hB1.block k hl); have HROW1 := Lib.hid ((hB1.block p hlt).trans HROW.out); have c2' := (snd_cells HROW1.out).2.2.1; have l1 := lt_of_block HROW1.out; clear hO1 hB1))
  all_goals go_wp2_with fail
  all_goals go_ret
  all_goals exact ⟨rfl, offer_done HS.out HK.out ⟨HB1.out.os, HB1.out.tape, HB1.out.output, HB1.out.size, HB1.out.block⟩ HO1.out HSL2.out HFR2.out HROW2.out⟩
end Go.Proofs.Ytcocnfbhileheaa
