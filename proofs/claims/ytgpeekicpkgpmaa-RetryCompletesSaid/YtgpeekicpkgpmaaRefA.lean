/- The sender of the reference (layer 6) in memory: the same plain sender, other fields. -/
import Derived.Test.YtgpeekicpkgpmaaRetG
import Derived.Test.YtgpeekicpkgpmaaLab
import Derived.Deep.RegionLaw
namespace Go.Proofs.Ytgpeekicpkgpmaa
open Go.RowKit

/-- a list of packets in a slice: the array in K, the bytes in D, both within F -/
def Seq (w : World) (F : Nat → Prop) (v : Value) (ks : List Bytes) : Prop :=
  ∃ K D vs, (∀ k, K k ∨ D k → F k ∧ k < w.heap.size) ∧ Dj K D ∧ Sl w K 28 1 v ks.length vs ∧ Kept w D ks vs
theorem Seq.keep {w w' : World} {F : Nat → Prop} {v : Value} {ks : List Bytes} (h : Seq w F v ks) (hs : w.heap.size ≤ w'.heap.size) (hk : ∀ k, F k → k < w.heap.size → w'.heap[k]? = w.heap[k]?) : Seq w' (fun k => F k ∧ k < w.heap.size) v ks := by
  obtain ⟨K, D, vs, h1, h2, h3, h4⟩ := h
  exact ⟨K, D, vs, fun k hkd => ⟨h1 k hkd, Nat.lt_of_lt_of_le (h1 k hkd).2 hs⟩, h2, h3.keep fun k hK hl => hk k (h1 k (.inl hK)).1 hl, h4.keep fun k hD hl => hk k (h1 k (.inr hD)).1 hl⟩
theorem Seq.mono {w : World} {F G : Nat → Prop} {v : Value} {ks : List Bytes} (h : Seq w F v ks) (hG : ∀ k, F k → G k) : Seq w G v ks := by
  obtain ⟨K, D, vs, h1, h2, h3, h4⟩ := h
  exact ⟨K, D, vs, fun k hkd => ⟨hG k (h1 k hkd).1, (h1 k hkd).2⟩, h2, h3, h4⟩
theorem Seq.thing (v : Value) (ks : List Bytes) : Thing (fun w F => Seq w F v ks) := ⟨fun h hs hk => h.keep hs hk, fun h hG => h.mono hG⟩
theorem Seq.nil (w : World) (F : Nat → Prop) : Seq w F (.slice none 0 0) [] := ⟨fun _ => False, fun _ => False, [], fun _ h => by rcases h with h | h <;> exact h.elim, fun _ h => h.elim, Sl.nil _ _ _ _, rfl, fun i d h => by cases h⟩
theorem Seq.shape {w : World} {F : Nat → Prop} {v : Value} {ks : List Bytes} (h : Seq w F v ks) : ∃ a cap, v = .slice a ks.length cap := by
  obtain ⟨K, D, vs, _, _, h3, _⟩ := h; exact h3.shape
/-- behind an append: the array's owner has grown by new blocks, the packet lies in new blocks -/
theorem Seq.snoc {w w1 w2 : World} {F K D : Nat → Prop} {ks : List Bytes} {vs : List Value} {d : Bytes} {v1 u2 : Value} (hKD : ∀ k, K k ∨ D k → F k ∧ k < w.heap.size) (hdj : Dj K D) (hk : Kept w D ks vs)
    (hz : w.heap.size ≤ w1.heap.size) (hd : ByD w2 (fun k => w.heap.size ≤ k ∧ k < w1.heap.size) v1 d) (hsl : Sl w2 (fun k => K k ∨ w1.heap.size ≤ k) 28 1 u2 (ks.length + 1) (vs ++ [v1])) (hF : Fr K w w2) (hz2 : w1.heap.size ≤ w2.heap.size) :
    Seq w2 (fun k => F k ∨ w.heap.size ≤ k) u2 (ks ++ [d]) := by
  refine ⟨fun k => (K k ∨ w1.heap.size ≤ k) ∧ k < w2.heap.size, fun k => D k ∨ (w.heap.size ≤ k ∧ k < w1.heap.size), vs ++ [v1], ?_, ?_, ?_, ?_⟩
  · rintro k (⟨h | h, h'⟩ | h | h)
    · exact ⟨.inl (hKD k (.inl h)).1, h'⟩
    · exact ⟨.inr (by omega), h'⟩
    · exact ⟨.inl (hKD k (.inr h)).1, by have := (hKD k (.inr h)).2; have := hF.size; omega⟩
    · exact ⟨.inr h.1, by omega⟩
  · rintro k ⟨h | h, h0⟩ (h' | h')
    · exact hdj k h h'
    · have := (hKD k (.inl h)).2; omega
    · have := (hKD k (.inr h')).2; omega
    · omega
  · simpa using hsl.bound
  · exact Kept.snoc ((hk.keep fun k hD hl => hF.block k hl fun h => hdj k h hD).mono fun k h => .inl h) (hd.mono fun k h => .inr h)
def rsCells (s : Snd) (kv : Value) : Array Value := #[.int .i64 (s.window : Int), .int .i64 (s.timeout : Int), kv, .int .i64 ((s.acked + s.kept.length : Nat) : Int), .int .i64 (s.acked : Int), .int .i64 (s.pos : Int), .int .i64 (s.sent : Int), .int .i64 (s.timer : Int)]
structure RsAt (w : World) (F : Nat → Prop) (p : Nat) (s : Snd) : Prop where
  mem : F p
  seq : ∃ kv, w.heap[p]? = some (.cells (rsCells s kv) 39 (0, 0)) ∧ Seq w (fun k => F k ∧ k ≠ p) kv s.kept
theorem RsAt.plt {w : World} {F : Nat → Prop} {p : Nat} {s : Snd} (h : RsAt w F p s) : p < w.heap.size := by obtain ⟨kv, h, _⟩ := h.seq; exact lt_of_block h
theorem RsAt.thing (p : Nat) (s : Snd) : Thing (fun w F => RsAt w F p s) where
  keep := fun ⟨h, kv, h1, h2⟩ hs hk => ⟨⟨h, lt_of_block h1⟩, kv, (hk _ h (lt_of_block h1)).trans h1, (h2.keep hs fun k hF hl => hk k hF.1 hl).mono fun _ h => ⟨⟨h.1.1, h.2⟩, h.1.2⟩⟩
  mono := fun ⟨h, kv, h1, h2⟩ hG => ⟨hG _ h, kv, h1, h2.mono fun _ h => ⟨hG _ h.1, h.2⟩⟩
theorem rs_cells {w : World} {p : Nat} {s : Snd} {kv : Value} (h : w.heap[p]? = some (.cells (rsCells s kv) 39 (0, 0))) :
    w.cell? ⟨p, 0, none⟩ = some (.int .i64 (s.window : Int)) ∧ w.cell? ⟨p, 1, none⟩ = some (.int .i64 (s.timeout : Int)) ∧ w.cell? ⟨p, 2, none⟩ = some kv ∧ w.cell? ⟨p, 3, none⟩ = some (.int .i64 ((s.acked : Int) + (s.kept.length : Int))) ∧ w.cell? ⟨p, 4, none⟩ = some (.int .i64 (s.acked : Int)) ∧
    w.cell? ⟨p, 5, none⟩ = some (.int .i64 (s.pos : Int)) ∧ w.cell? ⟨p, 6, none⟩ = some (.int .i64 (s.sent : Int)) ∧ w.cell? ⟨p, 7, none⟩ = some (.int .i64 (s.timer : Int)) :=
  ⟨blk_cell h rfl, blk_cell h rfl, blk_cell h rfl, blk_cell h (by simp [rsCells]), blk_cell h rfl, blk_cell h rfl, blk_cell h rfl, blk_cell h rfl⟩
theorem rs_free {w : World} {p : Nat} {s : Snd} {kv : Value} (h : w.heap[p]? = some (.cells (rsCells s kv) 39 (0, 0))) :
    w.frozen? ⟨p, 2, none⟩ = false ∧ w.frozen? ⟨p, 3, none⟩ = false ∧ w.frozen? ⟨p, 4, none⟩ = false ∧ w.frozen? ⟨p, 5, none⟩ = false ∧ w.frozen? ⟨p, 6, none⟩ = false ∧ w.frozen? ⟨p, 7, none⟩ = false :=
  ⟨blk_free h _, blk_free h _, blk_free h _, blk_free h _, blk_free h _, blk_free h _⟩
/-- the number of an acknowledgment, as the reference counts: -1 for one that is not valid -/
def Snd.num (s : Snd) (n : Int) : Int := match s.count n with | none => -1 | some k => k
theorem RsAt.put {w w' : World} {F : Nat → Prop} {p : Nat} {s s' : Snd} {kv : Value} (h : RsAt w F p s) (hsq : Seq w (fun k => F k ∧ k ≠ p) kv s'.kept)
    (hF : Fr (fun k => k = p) w w') (hrow : w'.heap[p]? = some (.cells (rsCells s' kv) 39 (0, 0))) : RsAt w' F p s' :=
  ⟨h.mem, kv, hrow, (hsq.keep hF.size fun k hk hl => hF.block k hl hk.2).mono fun _ h => h.1⟩
set_option maxHeartbeats 1000000 in
theorem rcount_any (F : Nat → Prop) (p : Nat) (s : Snd) (hok : s.Ok) (_ : s.total < 1000000000000) (n : Int) (w : World) (hs : RsAt w F p s) :
    Calls Try.prog 34 #[.pointer (some ⟨p, 0, none⟩), .int .i64 n] w fun e w' => e = .returned (.int .i64 (s.num n)) ∧ w = w' := by
  obtain ⟨kv, hrow, hsq⟩ := hs.seq
  obtain ⟨_, _, _, _, c4, _, c6, _⟩ := rs_cells hrow
  have hsent := hok.sent
  have hkl := hok.kept
  have hw2 := hok.w2
  have hn' : ((n < 0 ∨ 256 ≤ n) ∧ s.num n = -1) ∨ (0 ≤ n ∧ n < 256 ∧ ∃ k : Nat, (n - (s.acked : Int)) % 256 = k ∧ (n - (s.acked : Int) % 256 + 256) % 256 = k ∧ ((s.sent < k ∧ s.num n = -1) ∨ (k ≤ s.sent ∧ s.num n = k))) := by
    unfold Snd.num Snd.count
    by_cases h1 : n < 0 ∨ 256 ≤ n
    · rw [if_pos h1]; exact .inl ⟨h1, rfl⟩
    · rw [if_neg h1]
      refine .inr ⟨by omega, by omega, (n.toNat + 256 - s.acked % 256) % 256, by omega, by omega, ?_⟩
      by_cases h2 : s.sent < (n.toNat + 256 - s.acked % 256) % 256
      · rw [if_pos h2]; exact .inl ⟨h2, rfl⟩
      · rw [if_neg h2]; exact .inr ⟨by omega, rfl⟩
  clear hs hsq hrow hok
  generalize s.num n = z at *
  rcases hn' with ⟨h1 | h1, hz⟩ | ⟨h1, h2, k, h3, h3', ⟨h4, hz⟩ | ⟨h4, hz⟩⟩
  all_goals subst hz
  all_goals go_enter Try.func34, Try.ntmps34
  all_goals go_wp2_with fail
  all_goals go_ret
  all_goals exact ⟨by first | rfl | (simp [h3']), rfl⟩
theorem Seq.drop1 {w : World} {F : Nat → Prop} {a : Option Addr} {n c : Nat} {ks : List Bytes} (h : Seq w F (.slice a n c) ks) {k : Nat} (h0 : 0 < k) (hk : k ≤ ks.length) :
    ∃ g off, a = some ⟨g, off, none⟩ ∧ n = ks.length ∧ ks.length ≤ c ∧ Seq w F (.slice (if c = k then some ⟨g, off, none⟩ else some ⟨g, off + k, none⟩) (ks.length - k) (c - k)) (ks.drop k) := by
  obtain ⟨K, D, vs, h1, h2, h3, h4⟩ := h
  obtain ⟨g, off, cap, e, _, hc⟩ := h3.head (by omega)
  obtain ⟨rfl, rfl, rfl⟩ : a = some ⟨g, off, none⟩ ∧ n = ks.length ∧ c = cap := by simpa using e
  refine ⟨g, off, rfl, rfl, hc, K, D, vs.drop k, h1, h2, ?_, h4.drop k⟩
  rw [List.length_drop]
  exact h3.drop hk
set_option maxHeartbeats 2000000 in
theorem rack_any (F : Nat → Prop) (p : Nat) (s : Snd) (hok : s.Ok) (ht : s.total < 1000000000000) (n : Int) (w : World) (hs : RsAt w F p s) :
    Calls Try.prog 21 #[.pointer (some ⟨p, 0, none⟩), .int .i64 n] w fun e w' => e = .returned (.int .i64 ((s.ack n).1 : Int)) ∧ RsAt w' F p (s.ack n).2 ∧ Fr (fun k => k = p) w w' := by
  obtain ⟨kv, hrow, hsq⟩ := hs.seq
  obtain ⟨a, c, rfl⟩ := hsq.shape
  obtain ⟨_, _, c2, c3, c4, c5, c6, c7⟩ := rs_cells hrow
  obtain ⟨f2, f3, f4, f5, f6, f7⟩ := rs_free hrow
  have hsent := hok.sent
  have hpos := hok.pos
  have hkl := hok.kept
  have hw2 := hok.w2
  have HC := Lib.hid (rcount_any F p s hok ht n w hs)
  have HS := Lib.hid hs
  have HROW := Lib.hid hrow
  have HSQ := Lib.hid hsq
  unfold Snd.total at ht
  unfold Snd.ack Snd.accept
  unfold Snd.num at HC
  clear hs hrow hsq hok
  cases hcn : s.count n with
  | none =>
    rw [hcn] at HC
    clear hcn f2 f3 f4 f5 f6 f7 c2 c3 c4 c5 c6 c7
    go_enter Try.func21, Try.ntmps21
    go_wp2_with fail
    refine HC.out.mono ?_
    rintro e w1 ⟨rfl, rfl⟩
    go_wp2_with fail
    go_ret
    exact ⟨rfl, HS.out, Fr.refl _ _⟩
  | some k =>
    rw [hcn] at HC
    have hks := count_le hcn
    clear hcn
    dsimp only
    by_cases hz : k = 0
    · subst hz
      clear f2 f3 f4 f5 f6 f7 c2 c3 c4 c5 c6 c7
      go_enter Try.func21, Try.ntmps21
      go_wp2_with fail
      refine HC.out.mono ?_
      rintro e w1 ⟨rfl, rfl⟩
      go_wp2_with fail
      go_ret
      exact ⟨rfl, HS.out, Fr.refl _ _⟩
    · obtain ⟨g, off, rfl, _, hc, hd⟩ := HSQ.out.drop1 (k := k) (by omega) (by omega)
      have HD := Lib.hid hd; clear hd
      go_enter Try.func21, Try.ntmps21
      go_wp2_with fail
      refine HC.out.mono ?_
      rintro e w1 ⟨rfl, rfl⟩
      go_wp2_with fail
      all_goals go_ret
      all_goals refine ⟨rfl, RsAt.put (kv := .slice (if c = k then some ⟨g, off, none⟩ else some ⟨g, off + k, none⟩) (s.kept.length - k) (c - k)) HS.out (by simpa [Snd.drop, hz] using HD.out) (by (repeat (first | (with_reducible exact Fr.refl _ _) | exact Or.inl rfl | (with_reducible refine Fr.setCell ?_ ?_ _) | (with_reducible refine Fr.drewN ?_ _) | (with_reducible refine Fr.drew ?_)))) (by (apply row_trans; focus (repeat (first | (with_reducible exact HROW.out) | (with_reducible apply row_set) | (with_reducible apply row_drewN) | (with_reducible apply row_drew)))); simp [rsCells, Snd.drop, *]; try omega), by (repeat (first | (with_reducible exact Fr.refl _ _) | exact Or.inl rfl | (with_reducible refine Fr.setCell ?_ ?_ _) | (with_reducible refine Fr.drewN ?_ _) | (with_reducible refine Fr.drew ?_)))⟩
set_option maxHeartbeats 2000000 in
theorem rnak_any (F : Nat → Prop) (p : Nat) (s : Snd) (hok : s.Ok) (ht : s.total < 1000000000000) (n : Int) (w : World) (hs : RsAt w F p s) :
    Calls Try.prog 22 #[.pointer (some ⟨p, 0, none⟩), .int .i64 n] w fun e w' => e = .returned (.int .i64 ((s.nak n).1 : Int)) ∧ RsAt w' F p (s.nak n).2 ∧ Fr (fun k => k = p) w w' := by
  have HC := Lib.hid (rcount_any F p s hok ht n w hs)
  have HA := Lib.hid (rack_any F p s hok ht n w hs)
  have HS := Lib.hid hs
  unfold Snd.nak
  unfold Snd.ack Snd.accept at HA
  unfold Snd.accept
  unfold Snd.num at HC
  clear hs hok ht
  cases hcn : s.count n with
  | none =>
    rw [hcn] at HC
    clear hcn HA
    go_enter Try.func22, Try.ntmps22
    go_wp2_with fail
    refine HC.out.mono ?_
    rintro e w1 ⟨rfl, rfl⟩
    go_wp2_with fail
    go_ret
    exact ⟨rfl, HS.out, Fr.refl _ _⟩
  | some k =>
    rw [hcn] at HC HA
    clear hcn HS
    dsimp only at HA ⊢
    generalize s.drop k = s1 at *
    go_enter Try.func22, Try.ntmps22
    go_wp2_with fail
    refine HC.out.mono ?_
    rintro e w1 ⟨rfl, rfl⟩
    go_wp2_with fail
    refine HA.out.mono ?_
    rintro e w1 ⟨rfl, hs, hf⟩
    obtain ⟨kv, hrow, hsq⟩ := hs.seq
    obtain ⟨_, _, c2, c3, c4, c5, c6, c7⟩ := rs_cells hrow
    obtain ⟨f2, f3, f4, f5, f6, f7⟩ := rs_free hrow
    have HS := Lib.hid hs; have HF := Lib.hid hf; have HROW := Lib.hid hrow; have HSQ := Lib.hid hsq; clear hs hf hrow hsq
    go_wp2_with fail
    all_goals go_ret
    all_goals exact ⟨rfl, RsAt.put (kv := kv) HS.out HSQ.out (by (repeat (first | (with_reducible exact Fr.refl _ _) | exact Or.inl rfl | (with_reducible refine Fr.setCell ?_ ?_ _) | (with_reducible refine Fr.drewN ?_ _) | (with_reducible refine Fr.drew ?_)))) (by (apply row_trans; focus (repeat (first | (with_reducible exact HROW.out) | (with_reducible apply row_set) | (with_reducible apply row_drewN) | (with_reducible apply row_drew)))); simp [rsCells]), Fr.trans (F := fun k => k = p) HF.out (G := fun k => k = p) (by (repeat (first | (with_reducible exact Fr.refl _ _) | exact Or.inl rfl | (with_reducible refine Fr.setCell ?_ ?_ _) | (with_reducible refine Fr.drewN ?_ _) | (with_reducible refine Fr.drew ?_)))) fun x h => .inl h⟩
end Go.Proofs.Ytgpeekicpkgpmaa
