/- The sender's other methods, but for Tick. -/
import Derived.Test.YtcocnfbhileheaaRetB
import Derived.Test.YtcocnfbhileheaaMgB
namespace Go.Proofs.Ytcocnfbhileheaa
open Go.RowKit

theorem SndAt.put {w w' : World} {p : Nat} {K D : Nat → Prop} {s s' : Snd} {kv : Value} {vs : List Value} (h : SndAt w p K D s) (hsl : Sl w K 31 1 kv s'.kept.length vs) (hk : Kept w D s'.kept vs)
    (hF : Fr (fun k => k = p) w w') (hrow : w'.heap[p]? = some (.cells (sndCells s' kv) 151 (0, 0))) : SndAt w' p K D s' :=
  ⟨⟨kv, vs, hrow, hsl.keep fun k hk hl => hF.block k hl fun e => h.pK (e ▸ hk), hk.keep fun k hk hl => hF.block k hl fun e => h.pD (e ▸ hk)⟩, h.pK, h.pD, h.dj, fun k f => Nat.lt_of_lt_of_le (h.lt k f) hF.size⟩

set_option maxHeartbeats 1000000 in
theorem kept_any (p : Nat) (K D : Nat → Prop) (s : Snd) (w : World) (hs : SndAt w p K D s) :
    Calls Try.prog 81 #[.pointer (some ⟨p, 0, none⟩)] w fun e w' => e = .returned (.int .i64 (s.kept.length : Int)) ∧ w = w' := by
  obtain ⟨kv, vs, hrow, hsl, hk⟩ := hs.row
  obtain ⟨ka, kcap, rfl⟩ := hsl.shape
  obtain ⟨_, _, c2, _⟩ := snd_cells hrow
  clear hs hsl hk hrow
  go_enter Try.func81, Try.ntmps81
  go_wp2_with fail
  go_ret
  exact ⟨rfl, rfl⟩
theorem kept_none (w : World) : Calls Try.prog 81 #[.pointer none] w fun e w' => e = .returned (.int .i64 0) ∧ w = w' := by
  go_enter Try.func81, Try.ntmps81
  go_wp2_with fail
  go_ret
  exact ⟨rfl, rfl⟩
theorem total_none (w : World) : Calls Try.prog 86 #[.pointer none] w fun e w' => e = .returned (.tuple #[.int .i64 0, .int .i64 0]) ∧ w = w' := by
  go_enter Try.func86, Try.ntmps86
  go_wp2_with fail
  go_ret2
  exact ⟨rfl, rfl⟩
set_option maxHeartbeats 1000000 in
theorem total_any (p : Nat) (K D : Nat → Prop) (s : Snd) (_ : s.Ok) (ht : s.total < 1000000000000) (w : World) (hs : SndAt w p K D s) :
    Calls Try.prog 86 #[.pointer (some ⟨p, 0, none⟩)] w fun e w' => e = .returned (.tuple #[.int .i64 ((s.acked : Int) + (s.kept.length : Int)), .int .i64 (s.acked : Int)]) ∧ Dr w w' := by
  obtain ⟨kv, vs, hrow, hsl, hk⟩ := hs.row
  obtain ⟨ka, kcap, rfl⟩ := hsl.shape
  obtain ⟨_, _, c2, c3, _⟩ := snd_cells hrow
  unfold Snd.total at ht
  clear hs hsl hk hrow
  go_enter Try.func86, Try.ntmps86
  go_wp2_with fail
  go_quiet (fail)
  go_wp2_with fail
  go_ret2
  exact ⟨rfl, _, rfl⟩
set_option maxHeartbeats 1000000 in
theorem newSender_bad (a b : Int) (w : World) (h : a < 1 ∨ 128 < a ∨ b < 1 ∨ 1000 < b) :
    Calls Try.prog 67 #[.int .i64 a, .int .i64 b] w fun e w' => e = .returned (.tuple #[.pointer none, .int .i64 2]) ∧ w = w' := by
  go_enter Try.func67, Try.ntmps67
  go_wp2_with fail
  all_goals go_ret2
  all_goals exact ⟨rfl, rfl⟩
set_option maxHeartbeats 1000000 in
theorem newSender_ok (a b : Nat) (w : World) (h1 : 1 ≤ a) (h2 : a ≤ 128) (h3 : 1 ≤ b) (h4 : b ≤ 1000) :
    Calls Try.prog 67 #[.int .i64 (a : Int), .int .i64 (b : Int)] w fun e w' => e = .returned (.tuple #[.pointer (some ⟨w.heap.size, 0, none⟩), .int .i64 0]) ∧
      SndAt w' w.heap.size (fun _ => False) (fun _ => False) (newSnd a b) ∧ Below w.heap.size w w' := by
  go_enter Try.func67, Try.ntmps67
  go_wp2_with fail
  go_ret2
  refine ⟨rfl, ⟨⟨.slice none 0 0, [], heap_alloc_new w _, Sl.nil _ _ _ _, rfl, fun i d h => by cases h⟩, id, id, fun _ h => h.elim, fun _ h => by rcases h with h | h <;> exact h.elim⟩, (Below.refl _ _).alloc (Nat.le_refl _) _⟩
/-- the first k packets go -/
theorem accept_bad (p : Nat) (K D : Nat → Prop) (s : Snd) (hok : s.Ok) (_ : s.total < 1000000000000) (n : Int) (w : World) (hs : SndAt w p K D s) (hn : s.count n = none) :
    Calls Try.prog 105 #[.pointer (some ⟨p, 0, none⟩), .int .i64 n] w fun e w' => e = .returned (.tuple #[.int .i64 0, .bool false]) ∧ w = w' := by
  obtain ⟨kv, vs, hrow, hsl, hk⟩ := hs.row
  obtain ⟨_, _, _, c3, _, c5, _⟩ := snd_cells hrow
  have hsent := hok.sent
  have hkl := hok.kept
  have hw2 := hok.w2
  have hn' : n < 0 ∨ 256 ≤ n ∨ (0 ≤ n ∧ n < 256 ∧ (s.sent : Int) < (n + 256 - (s.acked : Int) % 256) % 256) := by
    unfold Snd.count at hn
    split at hn
    · omega
    · split at hn
      · omega
      · cases hn
  clear hs hsl hk hrow hok hn
  go_enter Try.func105, Try.ntmps105
  go_wp2_with fail
  all_goals go_ret2
  all_goals exact ⟨rfl, rfl⟩
set_option maxHeartbeats 2000000 in
theorem accept_ok' (p : Nat) (K D : Nat → Prop) (s : Snd) (hok : s.Ok) (ht : s.total < 1000000000000) (n : Int) (w : World) (hs : SndAt w p K D s) (k : Nat) (hn : s.count n = some k) :
    Calls Try.prog 105 #[.pointer (some ⟨p, 0, none⟩), .int .i64 n] w fun e w' => e = .returned (.tuple #[.int .i64 (k : Int), .bool true]) ∧ SndAt w' p K D (s.drop k) ∧ Fr (fun k => k = p) w w' := by
  obtain ⟨kv, vs, hrow, hsl, hk⟩ := hs.row
  obtain ⟨_, _, c2, c3, c4, c5, c6⟩ := snd_cells hrow
  obtain ⟨f2, f3, f4, f5, f6⟩ := snd_free hrow
  have hsent := hok.sent
  have hpos := hok.pos
  have hkl := hok.kept
  have hw2 := hok.w2
  have hn' : 0 ≤ n ∧ n < 256 ∧ (n - (s.acked : Int)) % 256 = (k : Int) ∧ k ≤ s.sent ∧ (n - (s.acked : Int) % 256 + 256) % 256 = (k : Int) := by
    unfold Snd.count at hn
    split at hn
    · cases hn
    · split at hn
      · cases hn
      · have := Option.some.inj hn; omega
  obtain ⟨n0, n1, nk, ks, nk2⟩ := hn'
  unfold Snd.total at ht
  have HS := Lib.hid hs; clear hs
  have HSL := Lib.hid hsl; clear hsl
  have HK := Lib.hid hk; clear hk
  have HROW := Lib.hid hrow; clear hrow
  clear hok hn
  by_cases hz : k = 0
  · subst hz
    clear f2 f3 f4 f5 f6 c2 c4 c6
    go_enter Try.func105, Try.ntmps105
    go_wp2_with fail
    go_ret2
    exact ⟨by simp [nk2], by simpa [Snd.drop] using HS.out, Fr.refl _ _⟩
  · have kp : 0 < s.kept.length := by omega
    obtain ⟨kg, koff, kcap, rfl, _, kc⟩ := HSL.out.head kp
    go_enter Try.func105, Try.ntmps105
    go_wp2_with fail
    all_goals go_ret2
    all_goals refine ⟨by first | rfl | (simp [nk2]), SndAt.put (kv := .slice (if kcap = k then some ⟨kg, koff, none⟩ else some ⟨kg, koff + k, none⟩) (s.kept.length - k) (kcap - k)) (vs := vs.drop k) HS.out (by simpa [Snd.drop, hz] using HSL.out.drop (k := k) (by omega)) (by simpa [Snd.drop, hz] using HK.out.drop k) (by (repeat (first | (with_reducible exact Fr.refl _ _) | exact Or.inl rfl | (with_reducible refine Fr.setCell ?_ ?_ _) | (with_reducible refine Fr.drewN ?_ _) | (with_reducible refine Fr.drew ?_)))) (by (apply row_trans; focus (repeat (first | (with_reducible exact HROW.out) | (with_reducible apply row_set) | (with_reducible apply row_drewN) | (with_reducible apply row_drew)))); simp [sndCells, Snd.drop, *]; try omega), by (repeat (first | (with_reducible exact Fr.refl _ _) | exact Or.inl rfl | (with_reducible refine Fr.setCell ?_ ?_ _) | (with_reducible refine Fr.drewN ?_ _) | (with_reducible refine Fr.drew ?_)))⟩
end Go.Proofs.Ytcocnfbhileheaa
