/- The conversation in memory. -/
import Derived.Test.YtgpeekicpkgpmaaPlayT
import Derived.Test.YtgpeekicpkgpmaaRetQ
import Derived.Lib.ConvBytes
import Derived.Laws.Runes
namespace Go.Proofs.Ytgpeekicpkgpmaa
open Go.RowKit

theorem str8_app (a b : Bytes) : str8 a ++ str8 b = str8 (a ++ b) := by
  apply ByteArray.ext
  apply Array.toList_inj.1
  have h := str8_toList (a ++ b)
  have ha := str8_toList a
  have hb := str8_toList b
  rw [ByteArray.toList_eq] at h ha hb
  rw [h, ByteArray.data_append, Array.toList_append, ha, hb, List.map_append]
theorem enc_str8 (n : Nat) (h : n < 128) : Utf8.encode (n : Int) = str8 [BitVec.ofNat 8 n] := by
  have hv : Utf8.valid (n : Int) = true := by unfold Utf8.valid; simp; omega
  unfold Utf8.encode
  simp only [hv, if_true, Int.toNat_natCast]
  rw [if_pos (by omega)]
  apply ByteArray.ext
  apply Array.toList_inj.1
  have := str8_toList [BitVec.ofNat 8 n]
  rw [ByteArray.toList_eq] at this
  rw [this]
  rfl
theorem enc_size (x : Int) (h0 : 0 ≤ x) (h : x < 128) : (Utf8.encode x).size = 1 := by
  obtain ⟨n, rfl⟩ := Int.eq_ofNat_of_zero_le h0
  rw [enc_str8 n (by omega), str8_size]; rfl
theorem dat_enc (off : Nat) : Utf8.encode (97 + (off : Int) % 26) ++ Utf8.encode (48 + (off : Int) / 26 % 10) = str8 (dat off) := by
  have e1 : (97 + (off : Int) % 26) = ((97 + off % 26 : Nat) : Int) := by omega
  have e2 : (48 + (off : Int) / 26 % 10) = ((48 + off / 26 % 10 : Nat) : Int) := by omega
  rw [e1, e2, enc_str8 _ (by omega), enc_str8 _ (by omega), str8_app]; rfl
/-- []byte(s) -/
theorem str_bytes {P : Program} {src dst e : TypeId} {u : TypeDesc} (hs : P.underlying src = some u) (hd : P.underlying dst = some (.slice e)) (he : P.underlying e = some (.int .u8)) (w : World) (d : Bytes) (hl : d.length ≤ 1000000) :
    ∃ a c w1, (convert src dst (.string (str8 d))).run P w = .ok (.slice a d.length c) w1 ∧ By w1 (.slice a d.length c) d ∧ Below w.heap.size w w1 ∧ a = some ⟨w.heap.size, 0, none⟩ := by
  have hrun := Lib.run_convert_string_bytes (P := P) w src dst e (str8 d) hs hd he
  have hsz := str8_size d
  have hge := grownCap_ge w (str8 d).size 0 e
  have hle := grownCap_le_maxLen w (str8 d).size 0 e (by rw [hsz]; unfold maxLen; omega)
  rw [hsz] at hrun
  refine ⟨_, _, _, hrun, ?_, ?_, rfl⟩
  · refine ⟨by rw [cu_length, Nat.mul_one], _, _, rfl, by rw [hsz] at hge; exact hge, by rw [hsz] at hle; exact hle, (fun h => by cases h), fun b hb j u hj => ?_⟩
    obtain rfl := Option.some.inj hb
    refine ⟨rfl, ?_⟩
    have hjl : j < d.length := by
      rcases Nat.lt_or_ge j d.length with h | h
      · exact h
      · rw [cu, List.getElem?_map, List.getElem?_eq_none h] at hj; cases hj
    have hc := Lib.bytesWorld_cell w e (str8 d) j (by rw [hsz]; exact hjl)
    show (Lib.bytesWorld w e (str8 d)).cell? ⟨w.heap.size, 0 + j, none⟩ = some u
    rw [Nat.zero_add, hc, ← hj, cu, List.getElem?_map, List.getElem?_eq_getElem hjl]
    have ht := str8_toList d
    rw [ByteArray.toList_eq] at ht
    rw [ht]
    simp only [List.getD_eq_getElem?_getD, List.getElem?_map, List.getElem?_eq_getElem hjl, Option.map_some, Option.getD_some]
    rfl
  · refine ⟨rfl, rfl, rfl, by rw [Lib.bytesWorld_size]; omega, fun k hk => Lib.bytesWorld_at_old w e (str8 d) k hk⟩
def eStr : El Bytes where
  size := 1
  rd _ _ cs x := cs = [.string (str8 x)]
  len h := by rw [h]; rfl
  keep h _ := h
  mono h _ := h
  one h u hu := by subst h; obtain rfl : u = _ := List.mem_singleton.1 hu; rfl
theorem slS : SlT Try.prog 49 9 (.string ByteArray.empty) 1 16 := ⟨Try.underlying49, info_parts (by kernel_rfl), rfl, by decide⟩
/-- items that are read: the block, where there is something in it, lies in D -/
def RdI (w : World) (D : Nat → Prop) (v : Value) (l : List ItemD) : Prop := ∃ us, Rd w 2 v l.length us ∧ Els eItem w (fun _ => True) us l ∧ (0 < l.length → ∀ b, v.ownBlock = some b → D b ∧ b < w.heap.size)
theorem RdI.of {w : World} {D : Nat → Prop} {v : Value} {l : List ItemD} (h : RdG eItem w D v l) : RdI w D v l := by
  obtain ⟨us, h1, h2, h3⟩ := h
  refine ⟨us, h1, items_free h2, fun hl b hb => ⟨h3 b hb, ?_⟩⟩
  obtain ⟨_, a, cap, rfl, k1, k2, k3, k4⟩ := h1
  have hul : us.length = l.length * 2 := h2.length
  cases a with
  | none => cases hb
  | some a =>
    obtain rfl : a.block = b := by simpa [Value.ownBlock] using hb
    have h0 : us[0]? = some us[0] := List.getElem?_eq_getElem (by omega)
    exact World.block_lt_of_cell? w ⟨a.block, a.off + 0, none⟩ (k4 a rfl 0 _ h0).2
theorem RdI.rd {w : World} {D : Nat → Prop} {v : Value} {l : List ItemD} (h : RdI w D v l) : RdG eItem w (fun _ => True) v l := by
  obtain ⟨us, h1, h2, _⟩ := h; exact ⟨us, h1, h2, fun _ _ => trivial⟩
theorem RdI.thing (v : Value) (l : List ItemD) : Thing (fun w D => RdI w D v l) where
  keep := by
    rintro w w' F ⟨us, h1, h2, h3⟩ hs hk
    by_cases hl : 0 < l.length
    · exact ⟨us, h1.keep fun k hb hlt => hk k (h3 hl k hb).1 hlt, items_free h2, fun _ b hb => ⟨h3 hl b hb, Nat.lt_of_lt_of_le (h3 hl b hb).2 hs⟩⟩
    · have hus : us = [] := List.eq_nil_of_length_eq_zero (by have := h2.length (E := eItem); rw [this]; have : l.length = 0 := by omega
                                                              rw [this]; simp)
      subst hus
      obtain ⟨k0, a, cap, e, k1, k2, k3, k4⟩ := h1
      exact ⟨[], ⟨k0, a, cap, e, k1, k2, k3, fun b hb j u hj => by cases hj⟩, items_free h2, fun h => absurd h hl⟩
  mono := fun ⟨us, h1, h2, h3⟩ hG => ⟨us, h1, h2, fun hl b hb => ⟨hG b (h3 hl b hb).1, (h3 hl b hb).2⟩⟩
theorem RdI.nil (w : World) (D : Nat → Prop) : RdI w D (.slice none 0 0) [] := RdI.of (RdG.nil eItem w D)
/-- the conversation's things: the sender at ps, the receiver at pr, the wires at pt and pb, the two lists ov and av, what has arrived, and the box of the arguments -/
structure PmL (W : World) (bx : Nat) (bo : Obj) (ps pr pt pb : Nat) (ov av tv bv : Value) (s : Snd) (n : Nat) (th bk : List (List ItemD)) (off acc : List Bytes) (tl bl : List ItemD) (w : World) (L : Lab) : Prop where
  fl : Fl (fun _ => False) W w L
  s : SnO w (L.is 1) ps s
  r : RcvAt w pr n ∧ L pr = 2
  th : WireO w (L.is 3) pt th
  bk : WireO w (L.is 4) pb bk
  ov : SeqG eStr 9 w (L.is 5) ov off
  av : SeqG eStr 9 w (L.is 6) av acc
  bx : Blk bx bo w (L.is 7)
  tv : RdI w (L.is 3) tv tl
  bv : RdI w (L.is 4) bv bl
section
variable {W : World} {bx : Nat} {bo : Obj} {ps pr pt pb : Nat} {ov av tv bv : Value} {s : Snd} {n : Nat} {th bk : List (List ItemD)} {off acc : List Bytes} {tl bl : List ItemD} {w : World}
def Pm (W : World) (bx : Nat) (bo : Obj) (ps pr pt pb : Nat) (ov av tv bv : Value) (s : Snd) (n : Nat) (th bk : List (List ItemD)) (off acc : List Bytes) (tl bl : List ItemD) (w : World) : Prop := ∃ L, PmL W bx bo ps pr pt pb ov av tv bv s n th bk off acc tl bl w L
theorem Pm.below (h : Pm W bx bo ps pr pt pb ov av tv bv s n th bk off acc tl bl w) : Below W.heap.size W w := by obtain ⟨L, h⟩ := h; exact h.fl.end
theorem Pm.box (h : Pm W bx bo ps pr pt pb ov av tv bv s n th bk off acc tl bl w) : w.heap[bx]? = some bo := by obtain ⟨L, h⟩ := h; exact h.bx.1
theorem Pm.rcv (h : Pm W bx bo ps pr pt pb ov av tv bv s n th bk off acc tl bl w) : RcvAt w pr n := by obtain ⟨L, h⟩ := h; exact h.r.1
/-- what the walk takes for itself -/
theorem Pm.own {w' : World} (h : Pm W bx bo ps pr pt pb ov av tv bv s n th bk off acc tl bl w) (hb : Below w.heap.size w w') : Pm W bx bo ps pr pt pb ov av tv bv s n th bk off acc tl bl w' := by
  obtain ⟨L, h1, h2, h3, h4, h5, h6, h7, h8, h9, h10⟩ := h
  exact ⟨L.new w 8, h1.own hb 8, (SnO.thing ps s).below h2 hb, ⟨(hb.block pr (lt_of_block h3.1)).trans h3.1, (Lab.new_old (lt_of_block h3.1)).trans h3.2⟩, (WireO.thing pt th).below h4 hb, (WireO.thing pb bk).below h5 hb,
    (SeqG.thing eStr _ ov off).below h6 hb, (SeqG.thing eStr _ av acc).below h7 hb, (Blk.thing bx bo).below h8 hb, (RdI.thing tv tl).below h9 hb, (RdI.thing bv bl).below h10 hb⟩
theorem pm_offer (h : Pm W bx bo ps pr pt pb ov av tv bv s n th bk off acc tl bl w) (hok : s.Ok) (v : Value) (d : Bytes) (hv : By w v d) :
    Calls Try.prog 13 #[.pointer (some ⟨ps, 0, none⟩), v] w fun e w' => e = .returned (.int .i64 ((s.offer d).1 : Int)) ∧ Pm W bx bo ps pr pt pb ov av tv bv (s.offer d).2 n th bk off acc tl bl w' := by
  obtain ⟨L, h1, h2, h3, h4, h5, h6, h7, h8, h9, h10⟩ := h
  refine (offer_o h2 hok v d hv).mono fun e w' ⟨he, hs, hf⟩ => ⟨he, L.new w 1, h1.call hf (by decide) 1, (SnO.thing ps _).mine hs, ⟨(hf.block pr (lt_of_block h3.1) (by show ¬ L pr = 1; omega)).trans h3.1, (Lab.new_old (lt_of_block h3.1)).trans h3.2⟩,
    (WireO.thing pt th).stay h4 hf (by decide), (WireO.thing pb bk).stay h5 hf (by decide), (SeqG.thing eStr _ ov off).stay h6 hf (by decide), (SeqG.thing eStr _ av acc).stay h7 hf (by decide), (Blk.thing bx bo).stay h8 hf (by decide), (RdI.thing tv tl).stay h9 hf (by decide), (RdI.thing bv bl).stay h10 hf (by decide)⟩
theorem pm_snd {L : Lab} {w' : World} {s' : Snd} (h : PmL W bx bo ps pr pt pb ov av tv bv s n th bk off acc tl bl w L) (hs : SnO w' (fun k => L.is 1 k ∧ k < w.heap.size) ps s') (hf : Fr (L.is 1) w w') : Pm W bx bo ps pr pt pb ov av tv bv s' n th bk off acc tl bl w' := by
  obtain ⟨h1, h2, h3, h4, h5, h6, h7, h8, h9, h10⟩ := h
  exact ⟨L.new w 8, h1.call hf (by decide) 8, (SnO.thing ps _).mine_old hs, ⟨(hf.block pr (lt_of_block h3.1) (by show ¬ L pr = 1; omega)).trans h3.1, (Lab.new_old (lt_of_block h3.1)).trans h3.2⟩,
    (WireO.thing pt th).stay h4 hf (by decide), (WireO.thing pb bk).stay h5 hf (by decide), (SeqG.thing eStr _ ov off).stay h6 hf (by decide), (SeqG.thing eStr _ av acc).stay h7 hf (by decide), (Blk.thing bx bo).stay h8 hf (by decide), (RdI.thing tv tl).stay h9 hf (by decide), (RdI.thing bv bl).stay h10 hf (by decide)⟩
theorem pm_tick (h : Pm W bx bo ps pr pt pb ov av tv bv s n th bk off acc tl bl w) (hok : s.Ok) (ht : s.total < 1000000000000) :
    Calls Try.prog 15 #[.pointer (some ⟨ps, 0, none⟩)] w fun e w' => ∃ v, e = .returned (.tuple #[.int .i64 ((s.tick.1.elim 0 (·.1) : Nat) : Int), v, .bool s.tick.1.isSome]) ∧
      By w' v (s.tick.1.elim [] (·.2)) ∧ Pm W bx bo ps pr pt pb ov av tv bv s.tick.2 n th bk off acc tl bl w' := by
  obtain ⟨L, h⟩ := h
  exact (tick_o h.s hok ht).mono fun e w' ⟨v, he, hb, hs, hf⟩ => ⟨v, he, hb.1, pm_snd h hs hf⟩
theorem pm_ack (h : Pm W bx bo ps pr pt pb ov av tv bv s n th bk off acc tl bl w) (hok : s.Ok) (ht : s.total < 1000000000000) (x : Int) :
    Calls Try.prog 17 #[.pointer (some ⟨ps, 0, none⟩), .int .i64 x] w fun e w' => e = .returned (.int .i64 ((s.ack x).1 : Int)) ∧ Pm W bx bo ps pr pt pb ov av tv bv (s.ack x).2 n th bk off acc tl bl w' := by
  obtain ⟨L, h⟩ := h
  exact (ack_o h.s hok ht x).mono fun e w' ⟨he, hs, hf⟩ => ⟨he, pm_snd h hs hf⟩
theorem pm_nak (h : Pm W bx bo ps pr pt pb ov av tv bv s n th bk off acc tl bl w) (hok : s.Ok) (ht : s.total < 1000000000000) (x : Int) :
    Calls Try.prog 16 #[.pointer (some ⟨ps, 0, none⟩), .int .i64 x] w fun e w' => e = .returned (.int .i64 ((s.nak x).1 : Int)) ∧ Pm W bx bo ps pr pt pb ov av tv bv (s.nak x).2 n th bk off acc tl bl w' := by
  obtain ⟨L, h⟩ := h
  exact (nak_o h.s hok ht x).mono fun e w' ⟨he, hs, hf⟩ => ⟨he, pm_snd h hs hf⟩
theorem pm_expected (h : Pm W bx bo ps pr pt pb ov av tv bv s n th bk off acc tl bl w) :
    Calls Try.prog 27 #[.pointer (some ⟨pr, 0, none⟩)] w fun e w' => e = .returned (.int .i64 ((n : Int) % 256)) ∧ w = w' := expected_any pr n w h.rcv
theorem pm_receive_no (h : Pm W bx bo ps pr pt pb ov av tv bv s n th bk off acc tl bl w) (x : Int) (v : Value) (d : Bytes) (hv : By w v d) (hx : x ≠ (n : Int) % 256) :
    Calls Try.prog 28 #[.pointer (some ⟨pr, 0, none⟩), .int .i64 x, v] w fun e w' => e = .returned (.tuple #[.slice none 0 0, .bool false]) ∧ w = w' := receive_no pr n x v d w h.rcv hv hx
theorem pm_receive (h : Pm W bx bo ps pr pt pb ov av tv bv s n th bk off acc tl bl w) (hn : n < 1000000000000) (v : Value) (d : Bytes) (hv : By w v d) (hd : d.length ≤ 1000) (hne : ∀ b, v.ownBlock = some b → b ≠ pr) :
    Calls Try.prog 28 #[.pointer (some ⟨pr, 0, none⟩), .int .i64 ((n : Int) % 256), v] w fun e w' => ∃ v', e = .returned (.tuple #[v', .bool true]) ∧ By w' v' d ∧ Pm W bx bo ps pr pt pb ov av tv bv s (n + 1) th bk off acc tl bl w' := by
  obtain ⟨L, h1, h2, h3, h4, h5, h6, h7, h8, h9, h10⟩ := h
  refine (receive_yes pr n v d w h3.1 hn hv (by omega) hne).mono fun e w' ⟨v', he, ho, hr, hf'⟩ => ⟨v', he, ho.by, L.new w 8, ?_⟩
  have hf : Fr (L.is 2) w w' := hf'.mono fun k hk => by subst hk; exact h3.2
  exact ⟨h1.call hf (by decide) 8, (SnO.thing ps s).stay h2 hf (by decide), ⟨hr, (Lab.new_old (lt_of_block h3.1)).trans h3.2⟩,
    (WireO.thing pt th).stay h4 hf (by decide), (WireO.thing pb bk).stay h5 hf (by decide), (SeqG.thing eStr _ ov off).stay h6 hf (by decide), (SeqG.thing eStr _ av acc).stay h7 hf (by decide), (Blk.thing bx bo).stay h8 hf (by decide), (RdI.thing tv tl).stay h9 hf (by decide), (RdI.thing bv bl).stay h10 hf (by decide)⟩
theorem pm_there (h : Pm W bx bo ps pr pt pb ov av tv bv s n th bk off acc tl bl w) (delay times : Nat) (v : Value) (x : List ItemD) (Dx : Nat → Prop) (hx : RdG eItem w Dx v x) (hl : th.length ≤ 10000) (hxl : x.length ≤ 10) (ht : times ≤ 2) (hd : delay ≤ 1000) :
    Calls Try.prog 35 #[.pointer (some ⟨pt, 0, none⟩), .int .i64 (delay : Int), v, .int .i64 (times : Int)] w fun e w' => ∃ v', e = .returned v' ∧
      Pm W bx bo ps pr pt pb ov av v' bv s n (carryM th delay x times).2 bk off acc (carryM th delay x times).1 bl w' := by
  obtain ⟨L, h1, h2, h3, h4, h5, h6, h7, h8, h9, h10⟩ := h
  refine (carry_any _ pt th delay times v x Dx w h4 hx hl hxl ht hd).mono fun e w' ⟨v', he, hr, hw, hf⟩ => ⟨v', he, L.new w 3, ?_⟩
  exact ⟨h1.call hf (by decide) 3, (SnO.thing ps s).stay h2 hf (by decide), ⟨(hf.block pr (lt_of_block h3.1) (by show ¬ L pr = 3; omega)).trans h3.1, (Lab.new_old (lt_of_block h3.1)).trans h3.2⟩,
    (WireO.thing pt _).mine hw, (WireO.thing pb bk).stay h5 hf (by decide), (SeqG.thing eStr _ ov off).stay h6 hf (by decide), (SeqG.thing eStr _ av acc).stay h7 hf (by decide), (Blk.thing bx bo).stay h8 hf (by decide), (RdI.thing v' _).mine (RdI.of hr), (RdI.thing bv bl).stay h10 hf (by decide)⟩
theorem pm_back (h : Pm W bx bo ps pr pt pb ov av tv bv s n th bk off acc tl bl w) (delay times : Nat) (v : Value) (x : List ItemD) (Dx : Nat → Prop) (hx : RdG eItem w Dx v x) (hl : bk.length ≤ 10000) (hxl : x.length ≤ 10) (ht : times ≤ 2) (hd : delay ≤ 1000) :
    Calls Try.prog 35 #[.pointer (some ⟨pb, 0, none⟩), .int .i64 (delay : Int), v, .int .i64 (times : Int)] w fun e w' => ∃ v', e = .returned v' ∧
      Pm W bx bo ps pr pt pb ov av tv v' s n th (carryM bk delay x times).2 off acc tl (carryM bk delay x times).1 w' := by
  obtain ⟨L, h1, h2, h3, h4, h5, h6, h7, h8, h9, h10⟩ := h
  refine (carry_any _ pb bk delay times v x Dx w h5 hx hl hxl ht hd).mono fun e w' ⟨v', he, hr, hw, hf⟩ => ⟨v', he, L.new w 4, ?_⟩
  exact ⟨h1.call hf (by decide) 4, (SnO.thing ps s).stay h2 hf (by decide), ⟨(hf.block pr (lt_of_block h3.1) (by show ¬ L pr = 4; omega)).trans h3.1, (Lab.new_old (lt_of_block h3.1)).trans h3.2⟩,
    (WireO.thing pt th).stay h4 hf (by decide), (WireO.thing pb _).mine hw, (SeqG.thing eStr _ ov off).stay h6 hf (by decide), (SeqG.thing eStr _ av acc).stay h7 hf (by decide), (Blk.thing bx bo).stay h8 hf (by decide), (RdI.thing tv tl).stay h9 hf (by decide), (RdI.thing v' _).mine (RdI.of hr)⟩
/-- one more in the list of what was offered -/
theorem pm_off (h : Pm W bx bo ps pr pt pb ov av tv bv s n th bk off acc tl bl w) (d : Bytes) : ∃ K us, Sl w K 9 1 ov off.length us ∧
    ∀ (o : Obj) u2 w2, Sl w2 (fun k => K k ∨ (w.alloc o).heap.size ≤ k) 9 1 u2 (off.length + 1) (us ++ [.string (str8 d)]) → Fr K (w.alloc o) w2 → Pm W bx bo ps pr pt pb u2 av tv bv s n th bk (off ++ [d]) acc tl bl w2 := by
  obtain ⟨L, h1, h2, h3, h4, h5, ⟨K, D, us, hKD, hdj, hsl, hels⟩, h7, h8, h9, h10⟩ := h
  refine ⟨K, us, hsl, fun o u2 w2 hsl2 hf2 => ⟨L.new w 5, ?_⟩⟩
  have hb := below_alloc w o
  have hFK : Fr K w w2 := ⟨hf2.os.trans hb.os, hf2.tape.trans hb.tape, hf2.output.trans hb.output, Nat.le_trans hb.size hf2.size, fun k hl hn => (hf2.block k (by simp; omega) hn).trans (hb.block k hl)⟩
  have hf : Fr (L.is 5) w w2 := hFK.mono fun k hk => (hKD k (.inl hk)).1
  have hsq := SeqG.snoc (E := eStr) (w := w) (w1 := w.alloc o) (w2 := w2) (F := L.is 5) (ys := [d]) hKD hdj hels hb.size (Els.single (by rfl)) hsl2 hFK hf2.size
  exact ⟨h1.call hf (by decide) 5, (SnO.thing ps s).stay h2 hf (by decide), ⟨(hf.block pr (lt_of_block h3.1) (by show ¬ L pr = 5; omega)).trans h3.1, (Lab.new_old (lt_of_block h3.1)).trans h3.2⟩,
    (WireO.thing pt th).stay h4 hf (by decide), (WireO.thing pb bk).stay h5 hf (by decide), (SeqG.thing eStr _ u2 _).mine hsq, (SeqG.thing eStr _ av acc).stay h7 hf (by decide), (Blk.thing bx bo).stay h8 hf (by decide), (RdI.thing tv tl).stay h9 hf (by decide), (RdI.thing bv bl).stay h10 hf (by decide)⟩
/-- one more in the list of what was accepted -/
theorem pm_acc (h : Pm W bx bo ps pr pt pb ov av tv bv s n th bk off acc tl bl w) (d : Bytes) : ∃ K us, Sl w K 9 1 av acc.length us ∧
    ∀ (o : Obj) u2 w2, Sl w2 (fun k => K k ∨ (w.alloc o).heap.size ≤ k) 9 1 u2 (acc.length + 1) (us ++ [.string (str8 d)]) → Fr K (w.alloc o) w2 → Pm W bx bo ps pr pt pb ov u2 tv bv s n th bk off (acc ++ [d]) tl bl w2 := by
  obtain ⟨L, h1, h2, h3, h4, h5, h6, ⟨K, D, us, hKD, hdj, hsl, hels⟩, h8, h9, h10⟩ := h
  refine ⟨K, us, hsl, fun o u2 w2 hsl2 hf2 => ⟨L.new w 6, ?_⟩⟩
  have hb := below_alloc w o
  have hFK : Fr K w w2 := ⟨hf2.os.trans hb.os, hf2.tape.trans hb.tape, hf2.output.trans hb.output, Nat.le_trans hb.size hf2.size, fun k hl hn => (hf2.block k (by simp; omega) hn).trans (hb.block k hl)⟩
  have hf : Fr (L.is 6) w w2 := hFK.mono fun k hk => (hKD k (.inl hk)).1
  have hsq := SeqG.snoc (E := eStr) (w := w) (w1 := w.alloc o) (w2 := w2) (F := L.is 6) (ys := [d]) hKD hdj hels hb.size (Els.single (by rfl)) hsl2 hFK hf2.size
  exact ⟨h1.call hf (by decide) 6, (SnO.thing ps s).stay h2 hf (by decide), ⟨(hf.block pr (lt_of_block h3.1) (by show ¬ L pr = 6; omega)).trans h3.1, (Lab.new_old (lt_of_block h3.1)).trans h3.2⟩,
    (WireO.thing pt th).stay h4 hf (by decide), (WireO.thing pb bk).stay h5 hf (by decide), (SeqG.thing eStr _ ov off).stay h6 hf (by decide), (SeqG.thing eStr _ u2 _).mine hsq, (Blk.thing bx bo).stay h8 hf (by decide), (RdI.thing tv tl).stay h9 hf (by decide), (RdI.thing bv bl).stay h10 hf (by decide)⟩
theorem PmL.own {L : Lab} {w' : World} (h : PmL W bx bo ps pr pt pb ov av tv bv s n th bk off acc tl bl w L) (hb : Below w.heap.size w w') : PmL W bx bo ps pr pt pb ov av tv bv s n th bk off acc tl bl w' (L.new w 8) := by
  obtain ⟨h1, h2, h3, h4, h5, h6, h7, h8, h9, h10⟩ := h
  exact ⟨h1.own hb 8, (SnO.thing ps s).below h2 hb, ⟨(hb.block pr (lt_of_block h3.1)).trans h3.1, (Lab.new_old (lt_of_block h3.1)).trans h3.2⟩, (WireO.thing pt th).below h4 hb, (WireO.thing pb bk).below h5 hb,
    (SeqG.thing eStr _ ov off).below h6 hb, (SeqG.thing eStr _ av acc).below h7 hb, (Blk.thing bx bo).below h8 hb, (RdI.thing tv tl).below h9 hb, (RdI.thing bv bl).below h10 hb⟩
theorem pml_back {L : Lab} (h : PmL W bx bo ps pr pt pb ov av tv bv s n th bk off acc tl bl w L) (delay times : Nat) (v : Value) (x : List ItemD) (Dx : Nat → Prop) (hx : RdG eItem w Dx v x) (hl : bk.length ≤ 10000) (hxl : x.length ≤ 10) (ht : times ≤ 2) (hd : delay ≤ 1000) :
    Calls Try.prog 35 #[.pointer (some ⟨pb, 0, none⟩), .int .i64 (delay : Int), v, .int .i64 (times : Int)] w fun e w' => ∃ (v' : Value) (l5 : List ItemD), e = .returned v' ∧ Hid (l5 = (carryM bk delay x times).1) ∧
      Pm W bx bo ps pr pt pb ov av tv v' s n th (carryM bk delay x times).2 off acc tl l5 w' ∧ Fr (L.is 4) w w' := by
  obtain ⟨h1, h2, h3, h4, h5, h6, h7, h8, h9, h10⟩ := h
  refine (carry_any _ pb bk delay times v x Dx w h5 hx hl hxl ht hd).mono fun e w' ⟨v', he, hr, hw, hf⟩ => ⟨v', _, he, rfl, ⟨L.new w 4, ?_⟩, hf⟩
  exact ⟨h1.call hf (by decide) 4, (SnO.thing ps s).stay h2 hf (by decide), ⟨(hf.block pr (lt_of_block h3.1) (by show ¬ L pr = 4; omega)).trans h3.1, (Lab.new_old (lt_of_block h3.1)).trans h3.2⟩,
    (WireO.thing pt th).stay h4 hf (by decide), (WireO.thing pb _).mine hw, (SeqG.thing eStr _ ov off).stay h6 hf (by decide), (SeqG.thing eStr _ av acc).stay h7 hf (by decide), (Blk.thing bx bo).stay h8 hf (by decide), (RdI.thing tv tl).stay h9 hf (by decide), (RdI.thing v' _).mine (RdI.of hr)⟩
/-- a block of the walk's own, turned -/
theorem pm_fr8 {L : Lab} {w' : World} (h : PmL W bx bo ps pr pt pb ov av tv bv s n th bk off acc tl bl w L) (hf : Fr (L.is 8) w w') : Pm W bx bo ps pr pt pb ov av tv bv s n th bk off acc tl bl w' := by
  obtain ⟨h1, h2, h3, h4, h5, h6, h7, h8, h9, h10⟩ := h
  exact ⟨L.new w 8, h1.call hf (by decide) 8, (SnO.thing ps _).stay h2 hf (by decide), ⟨(hf.block pr (lt_of_block h3.1) (by show ¬ L pr = 8; omega)).trans h3.1, (Lab.new_old (lt_of_block h3.1)).trans h3.2⟩,
    (WireO.thing pt th).stay h4 hf (by decide), (WireO.thing pb bk).stay h5 hf (by decide), (SeqG.thing eStr _ ov off).stay h6 hf (by decide), (SeqG.thing eStr _ av acc).stay h7 hf (by decide), (Blk.thing bx bo).stay h8 hf (by decide), (RdI.thing tv tl).stay h9 hf (by decide), (RdI.thing bv bl).stay h10 hf (by decide)⟩
theorem PmL.fr8 {L : Lab} {w' : World} (h : PmL W bx bo ps pr pt pb ov av tv bv s n th bk off acc tl bl w L) (hf : Fr (L.is 8) w w') : PmL W bx bo ps pr pt pb ov av tv bv s n th bk off acc tl bl w' (L.new w 8) := by
  obtain ⟨h1, h2, h3, h4, h5, h6, h7, h8, h9, h10⟩ := h
  exact ⟨h1.call hf (by decide) 8, (SnO.thing ps _).stay h2 hf (by decide), ⟨(hf.block pr (lt_of_block h3.1) (by show ¬ L pr = 8; omega)).trans h3.1, (Lab.new_old (lt_of_block h3.1)).trans h3.2⟩,
    (WireO.thing pt th).stay h4 hf (by decide), (WireO.thing pb bk).stay h5 hf (by decide), (SeqG.thing eStr _ ov off).stay h6 hf (by decide), (SeqG.thing eStr _ av acc).stay h7 hf (by decide), (Blk.thing bx bo).stay h8 hf (by decide), (RdI.thing tv tl).stay h9 hf (by decide), (RdI.thing bv bl).stay h10 hf (by decide)⟩
theorem Pm.box8 (h : Pm W bx bo ps pr pt pb ov av tv bv s n th bk off acc tl bl w) (o : Obj) : ∃ L, PmL W bx bo ps pr pt pb ov av tv bv s n th bk off acc tl bl (w.alloc o) L ∧ L w.heap.size = 8 := by
  obtain ⟨L, h1, h2, h3, h4, h5, h6, h7, h8, h9, h10⟩ := h
  have hb := below_alloc w o
  exact ⟨L.new w 8, ⟨h1.own hb 8, (SnO.thing ps s).below h2 hb, ⟨(hb.block pr (lt_of_block h3.1)).trans h3.1, (Lab.new_old (lt_of_block h3.1)).trans h3.2⟩, (WireO.thing pt th).below h4 hb, (WireO.thing pb bk).below h5 hb,
    (SeqG.thing eStr _ ov off).below h6 hb, (SeqG.thing eStr _ av acc).below h7 hb, (Blk.thing bx bo).below h8 hb, (RdI.thing tv tl).below h9 hb, (RdI.thing bv bl).below h10 hb⟩, Lab.new_new (Nat.le_refl _)⟩
theorem Pm.tvs (h : Pm W bx bo ps pr pt pb ov av tv bv s n th bk off acc tl bl w) : ∃ a c, tv = .slice a tl.length c ∧ tl.length ≤ c := by
  obtain ⟨L, h⟩ := h; obtain ⟨a, c, e, h1, _⟩ := h.tv.rd.shape; exact ⟨a, c, e, h1⟩
theorem Pm.bvs (h : Pm W bx bo ps pr pt pb ov av tv bv s n th bk off acc tl bl w) : ∃ a c, bv = .slice a bl.length c ∧ bl.length ≤ c := by
  obtain ⟨L, h⟩ := h; obtain ⟨a, c, e, h1, _⟩ := h.bv.rd.shape; exact ⟨a, c, e, h1⟩
theorem item_at {a : Option Addr} {m c : Nat} {l : List ItemD} {D : Nat → Prop} (h : RdG eItem w D (.slice a m c) l) {j : Nat} {x : ItemD} (hj : l[j]? = some x) :
    ∃ b o, a = some ⟨b, o, none⟩ ∧ w.cell? ⟨b, o + j * 2, none⟩ = some (.int .i64 x.n) ∧ w.cell? ⟨b, o + j * 2 + 1, none⟩ = some (.string (str8 x.data)) := by
  obtain ⟨b, o, cs, e, _, hr, hc⟩ := h.at (by decide) hj
  have hr' : cs = [.int .i64 x.n, .string (str8 x.data)] := hr
  subst hr'
  exact ⟨b, o, e, hc 0 _ rfl, hc 1 _ rfl⟩
theorem str_at {F : Nat → Prop} {a : Option Addr} {m c : Nat} {l : List Bytes} (h : SeqG eStr 9 w F (.slice a m c) l) {j : Nat} {x : Bytes} (hj : l[j]? = some x) :
    ∃ b o, a = some ⟨b, o, none⟩ ∧ w.cell? ⟨b, o + j, none⟩ = some (.string (str8 x)) := by
  obtain ⟨b, o, cs, e, _, hr, hc⟩ := h.rd.at (by decide) hj
  have hr' : cs = [.string (str8 x)] := hr
  subst hr'
  have := hc 0 _ rfl
  rw [show o + j * eStr.size + 0 = o + j by show o + j * 1 + 0 = o + j; omega] at this
  exact ⟨b, o, e, this⟩
theorem rd_item (w : World) (g : Nat) (x : ItemD) (T : TypeId) (hg : g = w.heap.size) : RdG eItem (w.alloc (.cells #[.int .i64 x.n, .string (str8 x.data)] T)) (fun _ => True) (.slice (some ⟨g, 0, none⟩) 1 1) [x] := by
  subst hg
  refine ⟨[.int .i64 x.n, .string (str8 x.data)], ⟨rfl, _, 1, rfl, Nat.le_refl _, by decide, (fun e => by cases e), fun b hb j v hj => ?_⟩, Els.single (E := eItem) rfl, fun _ _ => trivial⟩
  obtain rfl := Option.some.inj hb
  refine ⟨rfl, ?_⟩
  have h0 : (w.alloc (.cells #[.int .i64 x.n, .string (str8 x.data)] T)).heap[w.heap.size]? = some (.cells #[.int .i64 x.n, .string (str8 x.data)] T) := heap_alloc_new w _
  simp only [World.cell?, h0, Nat.zero_add]
  match j, hj with
  | 0, hj => simpa using hj
  | 1, hj => simpa using hj
end
end Go.Proofs.Ytgpeekicpkgpmaa
