/- Several texts in one: The arbiter in memory: New. The arbiter in memory: Pick. Credits in memory: the giver: Limit. Credits in memory: the giver's Limit, Receive, Free. Credits in memory: the taker's Raise, Take, Left; a giver or taker that is held. Credits in memory: the methods of a giver and of a taker that are held. Credits in memory: Raise, Left; NewTaker, NewGiver. Credits in memory: NewGiver. -/
import Derived.Test.YtcocnfbhileheaaPorP
import Derived.Test.YtcocnfbhileheaaPorD
import Derived.Test.YtcocnfbhileheaaMgD
import Derived.Deep.CutBlock
import Derived.Deep.CutRange
import Derived.Deep.DeepCutAuto
import Derived.StillTailTactics
import Derived.Lib.MinMax
import Derived.IntWalk
import Derived.Deep.RegionHeld3
/- The arbiter in memory: New. -/
namespace Go.Proofs.Ytcocnfbhileheaa
open Go.RowKit

theorem slInt : SlT Try.prog 24 3 (.int .i64 0) 1 8 := ⟨Try.underlying24, info_parts (by kernel_rfl), rfl, by decide⟩
theorem slBool : SlT Try.prog 117 4 (.bool false) 1 1 := ⟨Try.underlying117, info_parts (by kernel_rfl), rfl, by decide⟩
abbrev arbRow (a : Arb) (v : Value) : Obj := .cells #[.int .i64 (a.ptr : Int), v] 132
/-- an arbiter -/
def tArb (p : Nat) (a : Arb) : Th := tEx fun v : Value => [tBlk p (arbRow a v), tSq eNat 3 v a.ages]
theorem newArb_any (n : Nat) (w : World) (h1 : 1 ≤ n) (h2 : n ≤ 64) :
    Calls Try.prog 41 #[.int .i64 (n : Int)] w fun e w' => ∃ p, e = .returned (.tuple #[.pointer (some ⟨p, 0, none⟩), .int .i64 0]) ∧ Made w (tArb p (newArb n)) w' := by
  go_enter Try.func41, Try.ntmps41
  go_wp2_with (at_make; refine wpList_mkH (E := eNat) slInt rfl (a0 := 0) (fun _ _ => rfl) rfl _ _ rfl n rfl rfl (by omega) (by unfold maxLen; omega) ?_; intro w1 hb1 hs1; have HB1 := Lib.hid hb1; have HS1 := Lib.hid hs1; clear hb1 hs1)
  go_ret2
  refine ⟨w1.heap.size, rfl, Made.of ?_⟩
  have h0 := (Held.start0 (fun _ => False) (fun _ => False) (fun _ f => f.elim) w).add HB1.out (T := tSq eNat 3 (.slice (some ⟨w.heap.size, 0, none⟩) n n) (List.replicate n 0)) HS1.out
  exact Held.shut (f := fun v : Value => [tBlk w1.heap.size (arbRow (newArb n) v), tSq eNat 3 v (newArb n).ages]) (ts := []) ((h0.new (arbRow (newArb n) (.slice (some ⟨w.heap.size, 0, none⟩) n n))).pick [1, 0] _ (by simp) rfl)
end Go.Proofs.Ytcocnfbhileheaa

/- The arbiter in memory: Pick. -/
namespace Go.Proofs.Ytcocnfbhileheaa
open Go.RowKit

theorem pure_cell {α : Type} {E : El α} {f : α → List Value} (hp : Pure E f) {T : TypeId} {w : World} {F Z : BS} {b off n cap : Nat} {xs : List α} (h : Sq E T w F Z (.slice (some ⟨b, off, none⟩) n cap) xs) {i j : Nat} {x : α} {u : Value} (hi : xs[i]? = some x) (hj : (f x)[j]? = some u) :
    w.cell? ⟨b, off + i * E.size + j, none⟩ = some u := by
  have hp0 : 0 < E.size := by have := lt_of_get hj; rw [hp.len] at this; omega
  obtain ⟨b', off', cs, A, e, _, h2, _, h4⟩ := h.at hp0 hi
  obtain ⟨rfl, rfl⟩ : b = b' ∧ off = off' := by simpa using e
  rw [(hp _ _ _ _ _).1 h2] at h4
  exact h4 j u hj
theorem nat_cell {T : TypeId} {w : World} {F Z : BS} {b off n cap : Nat} {xs : List Nat} (h : Sq eNat T w F Z (.slice (some ⟨b, off, none⟩) n cap) xs) {i x : Nat} (hi : xs[i]? = some x) : w.cell? ⟨b, off + i, none⟩ = some (.int .i64 (x : Int)) := by
  have := pure_cell pure_nat h hi (j := 0) rfl
  simpa [eNat] using this
theorem pure_bool : Pure eBool (fun b => [.bool b]) := fun _ _ _ _ _ => Iff.rfl
theorem bool_cell {T : TypeId} {w : World} {F Z : BS} {b off n cap : Nat} {xs : List Bool} (h : Sq eBool T w F Z (.slice (some ⟨b, off, none⟩) n cap) xs) {i : Nat} {x : Bool} (hi : xs[i]? = some x) : w.cell? ⟨b, off + i, none⟩ = some (.bool x) := by
  have := pure_cell pure_bool h hi (j := 0) rfl
  simpa [eBool] using this
theorem min_cast (x N : Nat) : min ((x : Int) + 1) (N : Int) = ((min (x + 1) N : Nat) : Int) := by omega
/-- the bounds of an arbiter -/
structure Arb.Ok (a : Arb) (n : Nat) : Prop where
  n1 : 1 ≤ n
  n2 : n ≤ 64
  len : a.ages.length = n
  ptr : a.ptr < n
  ages : ∀ x ∈ a.ages, x ≤ 1073741824
theorem newArb_ok {n : Nat} (h1 : 1 ≤ n) (h2 : n ≤ 64) : (newArb n).Ok n := ⟨h1, h2, by simp [newArb], h1, by simp [newArb]⟩
theorem firstReq_lt {req : List Bool} {ptr n : Nat} (hn : 0 < n) : ∀ {k i c : Nat}, firstReq req ptr n i k = some c → c < n ∧ req.getD c false = true
  | 0, i, c, h => by simp [firstReq] at h
  | k + 1, i, c, h => by
    unfold firstReq at h
    split at h
    · rename_i hr
      obtain rfl := Option.some.inj h
      exact ⟨Nat.mod_lt _ hn, hr⟩
    · exact firstReq_lt hn h
/-- the ages behind j rounds -/
def agesTo (a : Arb) (req : List Bool) (ch : Option Nat) (j : Nat) : List Nat :=
  (List.range req.length).map fun i => if i < j then (if req.getD i false = true ∧ some i ≠ ch then min (a.ages.getD i 0 + 1) 1073741824 else 0) else a.ages.getD i 0
theorem agesTo_length (a : Arb) (req : List Bool) (ch : Option Nat) (j : Nat) : (agesTo a req ch j).length = req.length := by simp [agesTo]
theorem agesTo_zero {a : Arb} {req : List Bool} (ch : Option Nat) (h : a.ages.length = req.length) : agesTo a req ch 0 = a.ages := by
  apply List.ext_getElem
  · simp [agesTo, h]
  · intro i h1 h2
    simp [agesTo, List.getD, h2]
theorem agesTo_all (a : Arb) (req : List Bool) : agesTo a req (a.choice req) req.length = (a.pick req).2.ages := by
  unfold agesTo Arb.pick
  refine List.map_congr_left fun i hi => ?_
  rw [if_pos (by simpa using hi)]
theorem agesTo_get {a : Arb} {req : List Bool} {ch : Option Nat} {j i : Nat} (hi : i < req.length) (hj : j ≤ i) : (agesTo a req ch j)[i]? = some (a.ages.getD i 0) := by
  unfold agesTo
  rw [List.getElem?_map, List.getElem?_range hi, Option.map_some, if_neg (by omega)]
theorem agesTo_set {a : Arb} {req : List Bool} {ch : Option Nat} {j x : Nat} (hx : x = if req.getD j false = true ∧ some j ≠ ch then min (a.ages.getD j 0 + 1) 1073741824 else 0) : (agesTo a req ch j).set j x = agesTo a req ch (j + 1) := by
  apply List.ext_getElem?
  intro i
  rw [List.getElem?_set]
  unfold agesTo
  by_cases hij : j = i
  · subst hij
    rw [if_pos rfl]
    by_cases hl : j < req.length
    · rw [if_pos (by simpa using hl), List.getElem?_map, List.getElem?_range hl, Option.map_some, if_pos (by omega), hx]
    · rw [if_neg (by simpa using hl), List.getElem?_map, List.getElem?_eq_none (by simp; omega)]; rfl
  · rw [if_neg hij, List.getElem?_map, List.getElem?_map]
    by_cases hl : i < req.length
    · rw [List.getElem?_range hl, Option.map_some, Option.map_some]
      by_cases h : i < j
      · simp only [if_pos h, if_pos (show i < j + 1 by omega)]
      · simp only [if_neg h, if_neg (show ¬ i < j + 1 by omega)]
    · rw [List.getElem?_eq_none (by simp; omega)]; rfl
theorem Arb.Ok.pick {a : Arb} {req : List Bool} (h : a.Ok req.length) : (a.pick req).2.Ok req.length := by
  obtain ⟨h1, h2, h3, h4, h5⟩ := h
  refine ⟨h1, h2, by simp [Arb.pick], ?_, fun x hx => ?_⟩
  · unfold Arb.pick; dsimp only
    split
    · exact Nat.mod_lt _ h1
    · exact h4
  · unfold Arb.pick at hx
    obtain ⟨i, _, rfl⟩ := List.mem_map.1 hx
    split
    · exact Nat.min_le_right _ _
    · omega
/-- the number of a choice; none: -1 -/
def chNum : Option Nat → Int
  | some c => (c : Int)
  | none => -1
set_option maxRecDepth 100000 in
set_option maxHeartbeats 4000000 in
theorem pick_h {F Z : BS} {W w : World} {ts : List Th} {p : Nat} {a : Arb} {T : TypeId} {rv : Value} {req : List Bool} (h : Held F Z W ts w) (i j : Nat) (hi : ts[i]? = some (tArb p a)) (hj : ts[j]? = some (tSq eBool T rv req)) (hij : j ≠ i) (hok : a.Ok req.length) :
    Calls Try.prog 83 #[.pointer (some ⟨p, 0, none⟩), rv] w fun e w' => e = .returned (.tuple #[.int .i64 (chNum (a.pick req).1), .bool (a.pick req).1.isSome]) ∧ Held F Z W (ts.set i (tArb p (a.pick req).2)) w' := by
  obtain ⟨G, Y, hon, hd, _, hoth, hback⟩ := h.use i hi
  obtain ⟨H, hGH, _, hreq⟩ := hoth j _ hij hj
  suffices hs : Calls Try.prog 83 #[.pointer (some ⟨p, 0, none⟩), rv] w fun e w' => e = .returned (.tuple #[.int .i64 (chNum (a.pick req).1), .bool (a.pick req).1.isSome]) ∧ Held G Y w [tArb p (a.pick req).2] w' by
    refine hs.mono fun e w' ⟨he, hh⟩ => ⟨he, ?_⟩
    have := hback w' _ [] hh.did
    rwa [List.append_nil] at this
  clear hback hoth h
  obtain ⟨v, hh⟩ := Held.opens (Held.start1 hon hd)
  obtain ⟨n1, n2, hal, hpt, hag⟩ := hok
  have hn1 : 0 < req.length := n1
  have hage := fun k => show a.ages.getD k 0 ≤ 1073741824 from by
    rw [List.getD]
    cases hk : a.ages[k]? with
    | none => simp
    | some x => exact hag x (List.mem_of_getElem? hk)
  have hreq' := hreq
  obtain ⟨K, D, us, _, _, _, hsl, _⟩ := hreq'
  obtain ⟨rb, ro, rc, rfl, _, hrc⟩ := hsl.head hn1
  obtain ⟨_, hrH, hrl, _⟩ := Sq.free hreq
  have hrc2 : rc ≤ 9223372036854775807 := by obtain ⟨_, _, cap, e, _, h, _⟩ := hsl.rd; obtain ⟨_, rfl⟩ : _ ∧ rc = cap := by simpa using e
                                             exact h
  have hrG : ¬ G rb := fun g => hGH rb g hrH
  have HRQ := Lib.hid (fun k (hk : k < req.length) => show w.cell? ⟨rb, ro + k, none⟩ = some (.bool (req.getD k false)) from by
    have := bool_cell hreq (List.getElem?_eq_getElem hk)
    simpa [List.getD, hk] using this)
  clear hsl hreq hi hj hij hd hGH hon
  obtain ⟨av, ac, rfl⟩ : ∃ av ac, v = .slice av a.ages.length ac := by obtain ⟨_, _, h⟩ := hh.get 1 rfl; exact Sq.shape h
  obtain ⟨ab, ao, rfl⟩ : ∃ ab ao, av = some ⟨ab, ao, none⟩ := by
    obtain ⟨_, _, K, D, us, _, _, _, h, _⟩ := hh.get 1 rfl
    obtain ⟨g, off, cap, e, _⟩ := Sl.head h (by omega)
    exact ⟨g, off, by simpa using (by simpa using e : _ ∧ _).1⟩
  have hac : req.length ≤ ac ∧ ac ≤ 9223372036854775807 := by
    obtain ⟨_, _, h⟩ := hh.get 1 rfl
    obtain ⟨_, cap, e, h1, h2, _⟩ := Sq.le h
    obtain ⟨_, rfl⟩ : _ ∧ ac = cap := by simpa using e
    exact ⟨by omega, h2⟩
  obtain ⟨hac1, hac2⟩ := hac
  have HAL := Lib.hid hal
  rw [hal] at hh
  have HH := Lib.hid hh
  have hrow := hh.blk 0 rfl
  have c0 := blk_cell (i := 0) hrow rfl
  have c1 := blk_cell (i := 1) hrow rfl
  clear hh hrow hal hag
  have hz0 : ((req.length : Int) == 0) = false := by rw [beq_eq_false_iff_ne]; omega
  go_enter Try.func83, Try.ntmps83
  go_upto_block 0 with fail
  go_cut [7] from 34 to 51 (fun u7 wc => u7 = .int .i64 (chNum (a.choice req)) ∧ wc = w)
  case first =>
    go_wp2_with fail
    go_loop [35, 7, 8, 9] (fun i c _ _ => ∃ k : Nat, k ≤ req.length ∧ i = .int .i64 (k : Int) ∧ c = .int .i64 (-1) ∧ Hid (firstReq req a.ptr req.length k (req.length - k) = a.choice req)) (fun i _ _ _ => req.length - (intOf i).toNat)
    case atStart => exact ⟨0, Nat.zero_le _, rfl, rfl, Lib.hid rfl⟩
    case round =>
      obtain ⟨k, hk, rfl, rfl, HC⟩ := hrel
      by_cases hlt : k < req.length
      · have hkk := HRQ.out ((a.ptr + k) % req.length) (Nat.mod_lt _ hn1)
        have hml : (a.ptr + k) % req.length < req.length := Nat.mod_lt _ hn1
        obtain ⟨m, hm⟩ : ∃ m, (a.ptr + k) % req.length = m := ⟨_, rfl⟩
        rw [hm] at hkk hml
        have hmz : ((a.ptr : Int) + (k : Int)) % (req.length : Int) = (m : Int) := by rw [← hm]; push_cast; rfl
        have HM := Lib.hid hm
        clear hm
        cases hb : req.getD m false with
        | true =>
          have HB := Lib.hid hb
          rw [hb] at hkk
          clear hb
          have HCH := Lib.hid (show a.choice req = some m by
            rw [← HC.out, show req.length - k = (req.length - k - 1) + 1 by omega]
            unfold firstReq
            rw [HM.out, if_pos HB.out])
          go_wp2_with fail
          go_meet
          exact ⟨by rw [HCH.out]; rfl, rfl⟩
        | false =>
          have HB := Lib.hid hb
          rw [hb] at hkk
          clear hb
          go_wp2_with fail
          go_round
          case rel =>
            refine ⟨k + 1, by omega, by go_num, rfl, Lib.hid ?_⟩
            rw [← HC.out, show req.length - k = (req.length - (k + 1)) + 1 by omega]
            conv => rhs; unfold firstReq
            rw [HM.out, if_neg (by rw [HB.out]; decide)]
          case measure => simp [intOf]; omega
      · obtain rfl : req.length = k := by omega
        have HCH := Lib.hid (show a.choice req = none by rw [← HC.out, Nat.sub_self]; rfl)
        go_wp2_with fail
        go_meet
        exact ⟨by rw [HCH.out]; rfl, rfl⟩
  case rest =>
    obtain ⟨rfl, rfl⟩ := hcut
    obtain ⟨ch, hch⟩ : ∃ ch, ch = a.choice req := ⟨_, rfl⟩
    have HCH := Lib.hid hch
    have hcl := fun c (e : ch = some c) => (firstReq_lt hn1 (show firstReq req a.ptr req.length 0 req.length = some c from by rw [← e, hch]; rfl)).1
    rw [← hch]
    clear hch
    go_wp2_with fail
    go_loopw [54, 10, 11] (fun i _ _ wr => ∃ k : Nat, k ≤ req.length ∧ i = .int .i64 (k : Int) ∧ Hid (Held G Y wc [tBlk p (arbRow a (.slice (some ⟨ab, ao, none⟩) req.length ac)), tSq eNat 3 (.slice (some ⟨ab, ao, none⟩) req.length ac) (agesTo a req ch k)] wr)) (fun i _ _ _ => req.length - (intOf i).toNat)
    case atStart => exact ⟨0, Nat.zero_le _, rfl, Lib.hid (by rw [agesTo_zero ch HAL.out]; exact HH.out)⟩
    case round =>
      clear c0 c1
      obtain ⟨k, hk, rfl, HK⟩ := hrel
      by_cases hlt : k < req.length
      · have hrow := HK.out.blk 0 rfl
        have c1 := blk_cell (i := 1) hrow rfl
        have hkk : wr.cell? ⟨rb, ro + k, none⟩ = some (.bool (req.getD k false)) := (World.cell?_of_block (HK.out.fr.block rb hrl hrG)).trans (HRQ.out k hlt)
        obtain ⟨_, _, hsq⟩ := HK.out.get 1 rfl
        have hfr := (Sq.free hsq).2.2.2
        have hck := nat_cell hsq (agesTo_get hlt (Nat.le_refl k))
        have hge := hage k
        obtain ⟨x, hx⟩ : ∃ x, x = a.ages.getD k 0 := ⟨_, rfl⟩
        rw [← hx] at hck hge
        have HX := Lib.hid hx
        have HSTEP := Lib.hid (fun (y : Nat) (hy : y = if req.getD k false = true ∧ some k ≠ ch then min (a.ages.getD k 0 + 1) 1073741824 else 0) =>
          show Held G Y wc [tBlk p (arbRow a (.slice (some ⟨ab, ao, none⟩) req.length ac)), tSq eNat 3 (.slice (some ⟨ab, ao, none⟩) req.length ac) (agesTo a req ch (k + 1))] (wr.setCell ⟨ab, ao + k, none⟩ (.int .i64 (y : Int))) from by
            have := HK.out.put pure_nat 1 rfl (c := k) (j := 0) (a := x) (a' := y) (u := .int .i64 (y : Int)) (by rw [HX.out]; exact agesTo_get hlt (Nat.le_refl k)) (by decide) rfl
            rw [agesTo_set hy] at this
            simpa [eNat] using this)
        clear hsq hrow hx
        by_cases hpc : req.getD k false = true ∧ some k ≠ ch
        · have hb1 := hpc.1
          have hb2 : ((k : Int) != chNum ch) = true := by
            cases ch with
            | none => simp [chNum]
            | some c =>
              have : k ≠ c := fun e => hpc.2 (by rw [e])
              simp [chNum]; omega
          rw [hb1] at hkk
          obtain ⟨m, hm⟩ : ∃ m, min (x + 1) 1073741824 = m := ⟨_, rfl⟩
          have hmi : min ((x : Int) + 1) 1073741824 = (m : Int) := by rw [← hm, ← min_cast]; simp
          have HS := Lib.hid (HSTEP.out m (by rw [if_pos hpc, ← HX.out, hm]))
          have HX1 := hge
          clear hb1 hpc HSTEP hm
          go_wp2_with fail
          have hwr : IntKind.i64.wrap ((x : Int) + 1) = (x : Int) + 1 := IntWalk.i64_in _ (by omega)
          refine wp_region_still_tail 15 (by kernel_rfl) (by kernel_rfl) ?_
          simp only [List.take_succ_cons, List.take_zero, List.drop_succ_cons, List.drop_zero]
          change wpStill _ _ (World.drew _) (fun a' => wpList _ _ _ _ a' (World.drew _)) _ _
          repeat still_step
          refine wpStill_nil ?_
          go_wp2_with fail
          go_roundw
          case rel => exact ⟨k + 1, by omega, by go_num, Lib.hid HS.out.drew⟩
          case measure => simp [intOf]; omega
        · have HS := Lib.hid (HSTEP.out 0 (by rw [if_neg hpc]))
          cases hb : req.getD k false with
          | false =>
            rw [hb] at hkk
            clear hb hpc HSTEP
            go_wp2_with fail
            go_roundw
            case rel => exact ⟨k + 1, by omega, by go_num, HS⟩
            case measure => simp [intOf]; omega
          | true =>
            have hb2 : ((k : Int) != chNum ch) = false := by
              have : some k = ch := Decidable.byContradiction fun e => hpc ⟨hb, e⟩
              rw [← this]; simp [chNum]
            rw [hb] at hkk
            clear hb hpc HSTEP
            go_wp2_with fail
            go_roundw
            case rel => exact ⟨k + 1, by omega, by go_num, HS⟩
            case measure => simp [intOf]; omega
      · obtain rfl : req.length = k := by omega
        have hrow := HK.out.blk 0 rfl
        have c0 := blk_cell (i := 0) hrow rfl
        have cf := fun j => blk_free hrow j
        have HROW := Lib.hid hrow
        clear hrow
        have HPK := Lib.hid (show (a.pick req).1 = ch by rw [HCH.out]; rfl)
        have HAG := Lib.hid (show agesTo a req ch req.length = (a.pick req).2.ages by rw [HCH.out]; exact agesTo_all a req)
        have HPL := Lib.hid (show (a.pick req).2.ages.length = req.length by simp [Arb.pick])
        cases ch with
        | none =>
          have HPT := Lib.hid (show (a.pick req).2.ptr = a.ptr by show (match a.choice req with | some c => (c + 1) % req.length | none => a.ptr) = _; rw [← HCH.out])
          go_wp2_with fail
          go_ret2
          refine ⟨by rw [HPK.out]; rfl, Held.shut (f := fun v : Value => [tBlk p (arbRow (a.pick req).2 v), tSq eNat 3 v (a.pick req).2.ages]) (i := .slice (some ⟨ab, ao, none⟩) req.length ac) (ts := []) ?_⟩
          rw [← HAG.out, arbRow, HPT.out]
          exact HK.out
        | some c =>
          have hc := hcl c rfl
          have HPT := Lib.hid (show (a.pick req).2.ptr = (c + 1) % req.length by show (match a.choice req with | some c => (c + 1) % req.length | none => a.ptr) = _; rw [← HCH.out])
          have hch : chNum (some c) = (c : Int) := rfl
          have HCN := Lib.hid hch
          rw [hch]
          clear hch hcl
          go_wp2_with fail
          go_ret2
          refine ⟨by rw [HPK.out]; rfl, Held.shut (f := fun v : Value => [tBlk p (arbRow (a.pick req).2 v), tSq eNat 3 v (a.pick req).2.ages]) (i := .slice (some ⟨ab, ao, none⟩) req.length ac) (ts := []) ?_⟩
          rw [← HAG.out, arbRow, HPT.out]
          have := HK.out.set 0 rfl (.cells #[.int .i64 (((c + 1) % req.length : Nat) : Int), .slice (some ⟨ab, ao, none⟩) req.length ac] 132) (w' := wr.setCell ⟨p, 0, none⟩ (.int .i64 (((c : Int) + 1) % (req.length : Int)))) (by (repeat (first | (with_reducible exact Fr.refl _ _) | exact Or.inl rfl | (with_reducible refine Fr.setCell ?_ ?_ _) | (with_reducible refine Fr.drewN ?_ _) | (with_reducible refine Fr.drew ?_)))) (by (apply row_trans; focus (repeat (first | (with_reducible exact HROW.out) | (with_reducible apply row_set) | (with_reducible apply row_drewN) | (with_reducible apply row_drew)))); push_cast; rfl)
          exact this
end Go.Proofs.Ytcocnfbhileheaa

/- Credits in memory: the giver: Limit. -/
namespace Go.Proofs.Ytcocnfbhileheaa
open Go.RowKit

def givC (g : Giv) : List Value := [.int .i64 (g.room : Int), .int .i64 (g.received : Int), .int .i64 (g.freed : Int)]
def takC (t : Tak) : List Value := [.int .i64 (t.sent : Int), .int .i64 (t.limit : Int)]
def eGiv : El Giv := ePure 3 givC (fun _ => rfl) fun a u hu => by simp [givC] at hu; rcases hu with rfl | rfl | rfl <;> rfl
def eTak : El Tak := ePure 2 takC (fun _ => rfl) fun a u hu => by simp [takC] at hu; rcases hu with rfl | rfl <;> rfl
theorem pure_giv : Pure eGiv givC := fun _ _ _ _ _ => Iff.rfl
theorem pure_tak : Pure eTak takC := fun _ _ _ _ _ => Iff.rfl
/-- a giver, a taker -/
def tGiv (p : Nat) (gs : List Giv) : Th := tEx fun v : Value => [tBlk p (.cells #[v] 165), tSq eGiv 155 v gs]
def tTak (p : Nat) (ts : List Tak) : Th := tEx fun v : Value => [tBlk p (.cells #[v] 162), tSq eTak 172 v ts]
theorem giv_cells {T : TypeId} {w : World} {F Z : BS} {b off n cap : Nat} {gs : List Giv} (h : Sq eGiv T w F Z (.slice (some ⟨b, off, none⟩) n cap) gs) {c : Nat} {g : Giv} (hc : gs[c]? = some g) :
    w.cell? ⟨b, off + c * 3, none⟩ = some (.int .i64 (g.room : Int)) ∧ w.cell? ⟨b, off + c * 3 + 1, none⟩ = some (.int .i64 (g.received : Int)) ∧ w.cell? ⟨b, off + c * 3 + 2, none⟩ = some (.int .i64 (g.freed : Int)) :=
  ⟨pure_cell pure_giv h hc (j := 0) rfl, pure_cell pure_giv h hc (j := 1) rfl, pure_cell pure_giv h hc (j := 2) rfl⟩
theorem tak_cells {T : TypeId} {w : World} {F Z : BS} {b off n cap : Nat} {gs : List Tak} (h : Sq eTak T w F Z (.slice (some ⟨b, off, none⟩) n cap) gs) {c : Nat} {g : Tak} (hc : gs[c]? = some g) :
    w.cell? ⟨b, off + c * 2, none⟩ = some (.int .i64 (g.sent : Int)) ∧ w.cell? ⟨b, off + c * 2 + 1, none⟩ = some (.int .i64 (g.limit : Int)) :=
  ⟨pure_cell pure_tak h hc (j := 0) rfl, pure_cell pure_tak h hc (j := 1) rfl⟩
theorem sq_some {α : Type} {E : El α} {T : TypeId} {w : World} {F Z : BS} {v : Value} {xs : List α} (h : Sq E T w F Z v xs) (h0 : 0 < xs.length) : ∃ b off cap, v = .slice (some ⟨b, off, none⟩) xs.length cap ∧ xs.length ≤ cap ∧ cap ≤ 9223372036854775807 := by
  obtain ⟨a, cap, rfl, h1, h2, h3⟩ := h.le
  obtain ⟨K, D, us, _, _, _, h4, _⟩ := h
  obtain ⟨g, off, cap', e, _⟩ := h4.head h0
  obtain ⟨rfl, rfl⟩ : a = some ⟨g, off, none⟩ ∧ cap = cap' := by simpa using e
  exact ⟨g, off, cap, rfl, h1, h2⟩
theorem agg3_wf {a b c : Nat} (ha : a ≤ 4000000000000) (hb : b ≤ 4000000000000) (hc : c ≤ 4000000000000) : (a : Int) + (c : Int) ≤ 9223372036854775807 ∧ 0 ≤ (b : Int) := by omega
theorem limF_any (a b c : Nat) (w : World) (ha : a ≤ 4000000000000) (hc : c ≤ 4000000000000) :
    Calls Try.prog 80 #[.agg #[.int .i64 (a : Int), .int .i64 (b : Int), .int .i64 (c : Int)]] w fun e w' => e = .returned (.int .i64 ((a : Int) + (c : Int))) ∧ Below w.heap.size w w' := by
  go_enter Try.func80, Try.ntmps80
  go_wp2_with fail
  go_ret
  exact ⟨rfl, by (repeat (first | (with_reducible exact Below.refl _ _) | (with_reducible refine Bw.alloc ?_ _) | (with_reducible refine Bw.drewN ?_ _) | (with_reducible refine Bw.drew ?_)))⟩
set_option maxRecDepth 100000 in
set_option maxHeartbeats 4000000 in
theorem withG_any (p b off n cap c fn : Nat) (caps : Array Value) (w : World) (R : Int → World → Prop) (hrow : w.heap[p]? = some (.cells #[.slice (some ⟨b, off, none⟩) n cap] 165)) (hc : c < n) (_ : n ≤ 4)
    (hf : ∀ args w, Sem.run Try.prog (callFunc fn args) w = .ok (.enter fn args) w)
    (hk : Calls Try.prog fn (#[.pointer (some ⟨b, off + c * 3, none⟩)] ++ caps) w fun e w' => ∃ m, e = .returned (.int .i64 m) ∧ R m w') :
    Calls Try.prog 78 #[.pointer (some ⟨p, 0, none⟩), .int .i64 (c : Int), .func (.func fn) #[] caps] w fun e w' => ∃ m, e = .returned (.int .i64 m) ∧ R m w' := by
  have c0 := blk_cell (i := 0) hrow rfl
  clear hrow
  have HK := Lib.hid hk
  have HF := Lib.hid hf
  clear hk hf
  go_enter Try.func78, Try.ntmps78
  go_wp2_with fail
  rw [HF.out, Oper.upon_enter]
  refine HK.out.mono ?_
  rintro e w' ⟨m, rfl, hr⟩
  have HR := Lib.hid hr
  clear hr
  go_wp2_with fail
  go_ret
  exact ⟨m, rfl, HR.out⟩
set_option maxRecDepth 100000 in
set_option maxHeartbeats 4000000 in
theorem withT_any (p b off n cap c fn : Nat) (caps : Array Value) (w : World) (R : Int → World → Prop) (hrow : w.heap[p]? = some (.cells #[.slice (some ⟨b, off, none⟩) n cap] 162)) (hc : c < n) (_ : n ≤ 4)
    (hf : ∀ args w, Sem.run Try.prog (callFunc fn args) w = .ok (.enter fn args) w)
    (hk : Calls Try.prog fn (#[.pointer (some ⟨b, off + c * 2, none⟩)] ++ caps) w fun e w' => ∃ m, e = .returned (.int .i64 m) ∧ R m w') :
    Calls Try.prog 101 #[.pointer (some ⟨p, 0, none⟩), .int .i64 (c : Int), .func (.func fn) #[] caps] w fun e w' => ∃ m, e = .returned (.int .i64 m) ∧ R m w' := by
  have c0 := blk_cell (i := 0) hrow rfl
  clear hrow
  have HK := Lib.hid hk
  have HF := Lib.hid hf
  clear hk hf
  go_enter Try.func101, Try.ntmps101
  go_wp2_with fail
  rw [HF.out, Oper.upon_enter]
  refine HK.out.mono ?_
  rintro e w' ⟨m, rfl, hr⟩
  have HR := Lib.hid hr
  clear hr
  go_wp2_with fail
  go_ret
  exact ⟨m, rfl, HR.out⟩
end Go.Proofs.Ytcocnfbhileheaa

/- Credits in memory: the giver's Limit, Receive, Free. -/
namespace Go.Proofs.Ytcocnfbhileheaa
open Go.RowKit

set_option maxRecDepth 100000 in
set_option maxHeartbeats 4000000 in
theorem limitC_any (b o x a d f : Nat) (w : World) (g0 : w.cell? ⟨b, o, none⟩ = some (.int .i64 (a : Int))) (g1 : w.cell? ⟨b, o + 1, none⟩ = some (.int .i64 (d : Int))) (g2 : w.cell? ⟨b, o + 2, none⟩ = some (.int .i64 (f : Int)))
    (h1 : a ≤ 4000000000000) (h2 : f ≤ 4000000000000) (hx : w.heap[x]? = some (.cells #[.int .i64 0] 3)) :
    Calls Try.prog 79 #[.pointer (some ⟨b, o, none⟩), .pointer (some ⟨x, 0, none⟩)] w fun e w' => ∃ m, e = .returned (.int .i64 m) ∧ w'.heap[x]? = some (.cells #[.int .i64 ((a : Int) + (f : Int))] 3) ∧ Fr (fun k => k = x) w w' := by
  have HX := Lib.hid hx
  clear hx
  go_enter Try.func79, Try.ntmps79
  go_wp2_with fail
  refine (limF_any a d f w h1 h2).mono ?_
  rintro e w1 ⟨rfl, hb⟩
  have hx1 := (hb.block x (lt_of_block HX.out)).trans HX.out
  have HB := Lib.hid hb
  have c0 := blk_cell (i := 0) hx1 rfl
  have cf := fun j => blk_free hx1 j
  have HX1 := Lib.hid hx1
  clear hb hx1 g0 g1 g2
  go_wp2_with fail
  go_ret
  exact ⟨_, rfl, by (apply row_trans; focus (repeat (first | (with_reducible exact HX1.out) | (with_reducible apply row_set) | (with_reducible apply row_drewN) | (with_reducible apply row_drew)))); rfl, Fr.setCell (F := fun k => k = x) (p := ⟨x, 0, none⟩) (Fr.of_below (Fr.refl _ _) HB.out) (Or.inl rfl) _⟩
set_option maxRecDepth 100000 in
set_option maxHeartbeats 4000000 in
theorem limit_any {w : World} {G Y : BS} {p : Nat} {gs : List Giv} (h : (tGiv p gs).on w G Y) (hgs : gs.length ≤ 4) {c : Nat} {g : Giv} (hc : gs[c]? = some g) (h1 : g.room ≤ 4000000000000) (h2 : g.freed ≤ 4000000000000) :
    Calls Try.prog 49 #[.pointer (some ⟨p, 0, none⟩), .int .i64 (c : Int)] w fun e w' => e = .returned (.int .i64 ((g.room : Int) + (g.freed : Int))) ∧ Below w.heap.size w w' := by
  have hmf : ∀ (fn : Fn) (first cap : Array Value) (w : World), (Instr.makeFunc fn first cap).run Try.prog w = .ok (.func fn first cap) w := fun _ _ _ _ => rfl
  have hlt := lt_of_get hc
  obtain ⟨v, hst⟩ := h
  have hrow := (hst.get (i := 0) rfl).1
  have hsq := hst.get (i := 1) rfl
  obtain ⟨b, off, cap, rfl, hcap, hcm⟩ := sq_some hsq (by omega)
  obtain ⟨g0, g1, g2⟩ := giv_cells hsq hc
  have hpl := lt_of_block hrow
  have hbl := (Sq.free hsq).2.2.1
  have HROW := Lib.hid hrow
  clear hst hsq hrow hc
  go_enter Try.func49, Try.ntmps49
  go_wp2_with fail
  have hba := below_alloc w (.cells #[.int .i64 0] 3)
  refine (withG_any p b off gs.length cap c 79 #[.pointer (some ⟨w.heap.size, 0, none⟩)] _ _ ((hba.block p hpl).trans HROW.out) hlt hgs (fun _ _ => rfl)
    (limitC_any b (off + c * 3) w.heap.size g.room g.received g.freed _ ((World.cell?_of_block (hba.block b hbl)).trans g0) ((World.cell?_of_block (hba.block b hbl)).trans g1) ((World.cell?_of_block (hba.block b hbl)).trans g2) h1 h2 (heap_alloc_new w _))).mono ?_
  rintro e w1 ⟨m, rfl, hx1, hf⟩
  have HB := Lib.hid (show Below w.heap.size w w1 from ((Fr.refl _ _).of_below hba |>.trans hf fun k hk => .inl hk).below (B := w.heap.size) (Nat.le_refl _) fun k hk => by have hk' : k = w.heap.size := hk; omega)
  have c0 := blk_cell (i := 0) hx1 rfl
  clear hx1 hf hba g0 g1 g2
  go_wp2_with fail
  go_ret
  exact ⟨rfl, HB.out⟩
/-- one cell written, and new blocks -/
def Put1 (b o : Nat) (u : Value) (w : World) (m : Int) (r : Int) (w' : World) : Prop := r = m ∧ ∃ w1, Below w.heap.size w w1 ∧ w' = w1.setCell ⟨b, o, none⟩ u
def Put0 (w : World) (m : Int) (r : Int) (w' : World) : Prop := r = m ∧ Below w.heap.size w w'
set_option maxRecDepth 100000 in
set_option maxHeartbeats 4000000 in
theorem receiveC_yes (b o a d f : Nat) (w : World) (g0 : w.cell? ⟨b, o, none⟩ = some (.int .i64 (a : Int))) (g1 : w.cell? ⟨b, o + 1, none⟩ = some (.int .i64 (d : Int))) (g2 : w.cell? ⟨b, o + 2, none⟩ = some (.int .i64 (f : Int))) (gf : ∀ j, w.frozen? ⟨b, j, none⟩ = false)
    (h1 : a ≤ 4000000000000) (h2 : f ≤ 4000000000000) (h3 : d ≤ 4000000000000) (hd : d < a + f) :
    Calls Try.prog 95 #[.pointer (some ⟨b, o, none⟩)] w fun e w' => ∃ m, e = .returned (.int .i64 m) ∧ Put1 b (o + 1) (.int .i64 ((d : Int) + 1)) w 0 m w' := by
  have hbl := World.block_lt_of_cell? w _ g0
  dsimp only at hbl
  have hlt : decide ((d : Int) ≥ (a : Int) + (f : Int)) = false := by simp; omega
  have hle : decide ((a : Int) + (f : Int) ≤ (d : Int)) = false := by simp; omega
  clear hd
  go_enter Try.func95, Try.ntmps95
  go_wp2_with fail
  go_region_held3 (fun w' => w'.cell? ⟨b, o, none⟩ = some (.int .i64 (a : Int)) ∧ w'.cell? ⟨b, o + 1, none⟩ = some (.int .i64 (d : Int)) ∧ w'.cell? ⟨b, o + 2, none⟩ = some (.int .i64 (f : Int))) (first | exact ⟨g0, g1, g2⟩ | exact HS1.out)
    ((go_at_call 80; refine (limF_any a d f _ h1 h2).mono ?_; rintro e w1 ⟨rfl, hb⟩; have HB := Lib.hid hb; have HS1 := Lib.hid (show w1.cell? ⟨b, o, none⟩ = some (.int .i64 (a : Int)) ∧ w1.cell? ⟨b, o + 1, none⟩ = some (.int .i64 (d : Int)) ∧ w1.cell? ⟨b, o + 2, none⟩ = some (.int .i64 (f : Int)) from ⟨(World.cell?_of_block (hb.block b hbl)).trans g0, (World.cell?_of_block (hb.block b hbl)).trans g1, (World.cell?_of_block (hb.block b hbl)).trans g2⟩); clear hb))
  clear g0 g1 g2
  obtain ⟨g0, g1, g2⟩ := HS1.out
  have gf1 : ∀ j, w1.frozen? ⟨b, j, none⟩ = false := fun j => (HB.out.frozen (p := ⟨b, j, none⟩) hbl).trans (gf j)
  clear gf
  go_wp2_with fail
  go_ret
  exact ⟨_, rfl, rfl, w1, (below_drew w 1).trans HB.out, rfl⟩
set_option maxRecDepth 100000 in
set_option maxHeartbeats 4000000 in
theorem receiveC_no (b o a d f : Nat) (w : World) (g0 : w.cell? ⟨b, o, none⟩ = some (.int .i64 (a : Int))) (g1 : w.cell? ⟨b, o + 1, none⟩ = some (.int .i64 (d : Int))) (g2 : w.cell? ⟨b, o + 2, none⟩ = some (.int .i64 (f : Int)))
    (h1 : a ≤ 4000000000000) (h2 : f ≤ 4000000000000) (hd : ¬ d < a + f) :
    Calls Try.prog 95 #[.pointer (some ⟨b, o, none⟩)] w fun e w' => ∃ m, e = .returned (.int .i64 m) ∧ Put0 w 5 m w' := by
  have hbl := World.block_lt_of_cell? w _ g0
  dsimp only at hbl
  have hlt : decide ((d : Int) ≥ (a : Int) + (f : Int)) = true := by simp; omega
  have hle : decide ((a : Int) + (f : Int) ≤ (d : Int)) = true := by simp; omega
  clear hd
  go_enter Try.func95, Try.ntmps95
  go_wp2_with fail
  go_region_held3 (fun w' => w'.cell? ⟨b, o, none⟩ = some (.int .i64 (a : Int)) ∧ w'.cell? ⟨b, o + 1, none⟩ = some (.int .i64 (d : Int)) ∧ w'.cell? ⟨b, o + 2, none⟩ = some (.int .i64 (f : Int))) (first | exact ⟨g0, g1, g2⟩ | exact HS1.out)
    ((go_at_call 80; refine (limF_any a d f _ h1 h2).mono ?_; rintro e w1 ⟨rfl, hb⟩; have HB := Lib.hid hb; have HS1 := Lib.hid (show w1.cell? ⟨b, o, none⟩ = some (.int .i64 (a : Int)) ∧ w1.cell? ⟨b, o + 1, none⟩ = some (.int .i64 (d : Int)) ∧ w1.cell? ⟨b, o + 2, none⟩ = some (.int .i64 (f : Int)) from ⟨(World.cell?_of_block (hb.block b hbl)).trans g0, (World.cell?_of_block (hb.block b hbl)).trans g1, (World.cell?_of_block (hb.block b hbl)).trans g2⟩); clear hb))
  clear g0 g1 g2
  go_wp2_with fail
  go_ret
  exact ⟨_, rfl, rfl, (below_drew w 1).trans HB.out⟩
set_option maxRecDepth 100000 in
theorem freeC_yes (b o d f : Nat) (w : World) (g1 : w.cell? ⟨b, o + 1, none⟩ = some (.int .i64 (d : Int))) (g2 : w.cell? ⟨b, o + 2, none⟩ = some (.int .i64 (f : Int))) (gf : ∀ j, w.frozen? ⟨b, j, none⟩ = false) (h3 : d ≤ 4000000000000) (hd : f < d) :
    Calls Try.prog 87 #[.pointer (some ⟨b, o, none⟩)] w fun e w' => ∃ m, e = .returned (.int .i64 m) ∧ Put1 b (o + 2) (.int .i64 ((f : Int) + 1)) w 0 m w' := by
  have hle : decide (d ≤ f) = false := by simp; omega
  go_enter Try.func87, Try.ntmps87
  go_wp2_with fail
  go_quiet (fail)
  go_wp2_with fail
  go_ret
  exact ⟨_, rfl, rfl, _, below_drew w _, rfl⟩
set_option maxRecDepth 100000 in
theorem freeC_no (b o d f : Nat) (w : World) (g1 : w.cell? ⟨b, o + 1, none⟩ = some (.int .i64 (d : Int))) (g2 : w.cell? ⟨b, o + 2, none⟩ = some (.int .i64 (f : Int))) (hd : ¬ f < d) :
    Calls Try.prog 87 #[.pointer (some ⟨b, o, none⟩)] w fun e w' => ∃ m, e = .returned (.int .i64 m) ∧ Put0 w 7 m w' := by
  have hle : decide (d ≤ f) = true := by simp; omega
  go_enter Try.func87, Try.ntmps87
  go_wp2_with fail
  go_quiet (fail)
  go_wp2_with fail
  go_ret
  exact ⟨_, rfl, rfl, below_drew w _⟩
end Go.Proofs.Ytcocnfbhileheaa

/- Credits in memory: the taker's Raise, Take, Left; a giver or taker that is held. -/
namespace Go.Proofs.Ytcocnfbhileheaa
open Go.RowKit

set_option maxRecDepth 100000 in
set_option maxHeartbeats 4000000 in
theorem raiseC_no (b o x : Nat) (l : Int) (w : World) (hx : w.heap[x]? = some (.cells #[.int .i64 l] 3)) (hl : l < 0 ∨ 1099511627776 < l) :
    Calls Try.prog 106 #[.pointer (some ⟨b, o, none⟩), .pointer (some ⟨x, 0, none⟩)] w fun e w' => ∃ m, e = .returned (.int .i64 m) ∧ Put0 w 2 m w' := by
  have c0 := blk_cell (i := 0) hx rfl
  clear hx
  have hl' : l < 0 ∨ (0 ≤ l ∧ 1099511627776 < l) := by omega
  clear hl
  rcases hl' with h1 | ⟨h1, h2⟩
  all_goals
    go_enter Try.func106, Try.ntmps106
    go_wp2_with fail
    go_ret
    exact ⟨_, rfl, rfl, Below.refl _ _⟩
set_option maxRecDepth 100000 in
set_option maxHeartbeats 4000000 in
theorem raiseC_yes (b o x t l : Nat) (w : World) (g1 : w.cell? ⟨b, o + 1, none⟩ = some (.int .i64 (t : Int))) (gf : ∀ j, w.frozen? ⟨b, j, none⟩ = false) (hx : w.heap[x]? = some (.cells #[.int .i64 (l : Int)] 3)) (hl : l ≤ 1099511627776) :
    Calls Try.prog 106 #[.pointer (some ⟨b, o, none⟩), .pointer (some ⟨x, 0, none⟩)] w fun e w' => ∃ m, e = .returned (.int .i64 m) ∧ Put1 b (o + 1) (.int .i64 ((max t l : Nat) : Int)) w 0 m w' := by
  have c0 := blk_cell (i := 0) hx rfl
  clear hx
  obtain ⟨mx, hmx⟩ : ∃ mx, max t l = mx := ⟨_, rfl⟩
  have hmi : max (t : Int) (l : Int) = (mx : Int) := by omega
  rw [hmx]
  have hl1 : (l : Int) ≤ 1099511627776 := by omega
  clear hmx
  go_enter Try.func106, Try.ntmps106
  go_wp2_with fail
  refine wp_region_still_tail 9 (by kernel_rfl) (by kernel_rfl) ?_
  simp only [List.take_succ_cons, List.take_zero, List.drop_succ_cons, List.drop_zero]
  change wpStill _ _ (World.drew _) (fun a' => wpList _ _ _ _ a' (World.drew _)) _ _
  repeat still_step
  refine wpStill_nil ?_
  go_wp2_with fail
  go_ret
  exact ⟨_, rfl, rfl, w.drew, below_drew w 1, rfl⟩
set_option maxRecDepth 100000 in
theorem takeC_yes (b o t l : Nat) (w : World) (g0 : w.cell? ⟨b, o, none⟩ = some (.int .i64 (t : Int))) (g1 : w.cell? ⟨b, o + 1, none⟩ = some (.int .i64 (l : Int))) (gf : ∀ j, w.frozen? ⟨b, j, none⟩ = false) (h3 : l ≤ 4000000000000) (hd : t < l) :
    Calls Try.prog 103 #[.pointer (some ⟨b, o, none⟩)] w fun e w' => ∃ m, e = .returned (.int .i64 m) ∧ Put1 b o (.int .i64 ((t : Int) + 1)) w 0 m w' := by
  have hle : decide (l ≤ t) = false := by simp; omega
  go_enter Try.func103, Try.ntmps103
  go_wp2_with fail
  go_quiet (fail)
  go_wp2_with fail
  go_ret
  exact ⟨_, rfl, rfl, _, below_drew w _, rfl⟩
set_option maxRecDepth 100000 in
theorem takeC_no (b o t l : Nat) (w : World) (g0 : w.cell? ⟨b, o, none⟩ = some (.int .i64 (t : Int))) (g1 : w.cell? ⟨b, o + 1, none⟩ = some (.int .i64 (l : Int))) (hd : ¬ t < l) :
    Calls Try.prog 103 #[.pointer (some ⟨b, o, none⟩)] w fun e w' => ∃ m, e = .returned (.int .i64 m) ∧ Put0 w 5 m w' := by
  have hle : decide (l ≤ t) = true := by simp; omega
  go_enter Try.func103, Try.ntmps103
  go_wp2_with fail
  go_quiet (fail)
  go_wp2_with fail
  go_ret
  exact ⟨_, rfl, rfl, below_drew w _⟩
set_option maxRecDepth 100000 in
theorem leftC_any (b o x t l : Nat) (w : World) (g0 : w.cell? ⟨b, o, none⟩ = some (.int .i64 (t : Int))) (g1 : w.cell? ⟨b, o + 1, none⟩ = some (.int .i64 (l : Int))) (hx : w.heap[x]? = some (.cells #[.int .i64 0] 3)) (ht : t ≤ 4000000000000) (hl : l ≤ 4000000000000) :
    Calls Try.prog 102 #[.pointer (some ⟨b, o, none⟩), .pointer (some ⟨x, 0, none⟩)] w fun e w' => ∃ m, e = .returned (.int .i64 m) ∧ w'.heap[x]? = some (.cells #[.int .i64 ((l : Int) - (t : Int))] 3) ∧ Fr (fun k => k = x) w w' := by
  have c0 := blk_cell (i := 0) hx rfl
  have cf := fun j => blk_free hx j
  have HX := Lib.hid hx
  clear hx
  go_enter Try.func102, Try.ntmps102
  go_wp2_with fail
  refine wp_region_still_tail 9 (by kernel_rfl) (by kernel_rfl) ?_
  simp only [List.take_succ_cons, List.take_zero, List.drop_succ_cons, List.drop_zero]
  change wpStill _ _ (World.drew _) (fun a' => wpList _ _ _ _ a' (World.drew _)) _ _
  repeat still_step
  refine wpStill_nil ?_
  go_wp2_with fail
  go_ret
  exact ⟨_, rfl, by (apply row_trans; focus (repeat (first | (with_reducible exact HX.out) | (with_reducible apply row_set) | (with_reducible apply row_drewN) | (with_reducible apply row_drew)))); rfl, by (repeat (first | (with_reducible exact Fr.refl _ _) | exact Or.inl rfl | (with_reducible refine Fr.setCell ?_ ?_ _) | (with_reducible refine Fr.drewN ?_ _) | (with_reducible refine Fr.drew ?_)))⟩
end Go.Proofs.Ytcocnfbhileheaa

/- Credits in memory: the methods of a giver and of a taker that are held. -/
namespace Go.Proofs.Ytcocnfbhileheaa
open Go.RowKit

theorem set_same' {α : Type} {l : List α} {c : Nat} {a : α} (h : l[c]? = some a) : l.set c a = l := by
  apply List.ext_getElem?
  intro i
  rw [List.getElem?_set]
  split
  · rename_i e; subst e; rw [if_pos (lt_of_get h), h]
  · rfl
section
variable {F Z : BS} {W w : World} {ts : List Th} {p : Nat}
theorem giv_open {G Y : BS} {gs : List Giv} (h : (tGiv p gs).on w G Y) (hd : Dj G Y) {c : Nat} {g : Giv} (hc : gs[c]? = some g) : ∃ b off cap, Held G Y w [tBlk p (.cells #[.slice (some ⟨b, off, none⟩) gs.length cap] 165), tSq eGiv 155 (.slice (some ⟨b, off, none⟩) gs.length cap) gs] w ∧
    w.heap[p]? = some (.cells #[.slice (some ⟨b, off, none⟩) gs.length cap] 165) ∧ (w.cell? ⟨b, off + c * 3, none⟩ = some (.int .i64 (g.room : Int)) ∧ w.cell? ⟨b, off + c * 3 + 1, none⟩ = some (.int .i64 (g.received : Int)) ∧ w.cell? ⟨b, off + c * 3 + 2, none⟩ = some (.int .i64 (g.freed : Int))) ∧ ∀ j, w.frozen? ⟨b, j, none⟩ = false := by
  obtain ⟨v, hh⟩ := Held.opens (Held.start1 h hd)
  obtain ⟨_, _, hsq⟩ := hh.get 1 rfl
  obtain ⟨b, off, cap, rfl, _, _⟩ := sq_some hsq (by have := lt_of_get hc; omega)
  exact ⟨b, off, cap, hh, hh.blk 0 rfl, giv_cells hsq hc, (Sq.free hsq).2.2.2⟩
theorem giv_did {G Y : BS} {gs : List Giv} {b off n cap : Nat} (h : Held G Y w [tBlk p (.cells #[.slice (some ⟨b, off, none⟩) n cap] 165), tSq eGiv 155 (.slice (some ⟨b, off, none⟩) n cap) gs] w) {w1 : World} (hb : Below w.heap.size w w1) {c j : Nat} {g g' : Giv} {u : Value} (hc : gs[c]? = some g) (hj : j < 3) (he : (givC g).set j u = givC g') :
    Did w G Y [tGiv p (gs.set c g')] (w1.setCell ⟨b, off + (c * 3 + j), none⟩ u) :=
  (Held.shut (f := fun v : Value => [tBlk p (.cells #[v] 165), tSq eGiv 155 v (gs.set c g')]) (ts := []) ((h.own hb).put pure_giv 1 rfl hc hj he)).did
theorem giv_did0 {G Y : BS} {gs : List Giv} {v : Value} (h : Held G Y w [tBlk p (.cells #[v] 165), tSq eGiv 155 v gs] w) {w1 : World} (hb : Below w.heap.size w w1) : Did w G Y [tGiv p gs] w1 :=
  (Held.shut (f := fun v : Value => [tBlk p (.cells #[v] 165), tSq eGiv 155 v gs]) (ts := []) (h.own hb)).did
theorem tak_open {G Y : BS} {gs : List Tak} (h : (tTak p gs).on w G Y) (hd : Dj G Y) {c : Nat} {g : Tak} (hc : gs[c]? = some g) : ∃ b off cap, Held G Y w [tBlk p (.cells #[.slice (some ⟨b, off, none⟩) gs.length cap] 162), tSq eTak 172 (.slice (some ⟨b, off, none⟩) gs.length cap) gs] w ∧
    w.heap[p]? = some (.cells #[.slice (some ⟨b, off, none⟩) gs.length cap] 162) ∧ (w.cell? ⟨b, off + c * 2, none⟩ = some (.int .i64 (g.sent : Int)) ∧ w.cell? ⟨b, off + c * 2 + 1, none⟩ = some (.int .i64 (g.limit : Int))) ∧ ∀ j, w.frozen? ⟨b, j, none⟩ = false := by
  obtain ⟨v, hh⟩ := Held.opens (Held.start1 h hd)
  obtain ⟨_, _, hsq⟩ := hh.get 1 rfl
  obtain ⟨b, off, cap, rfl, _, _⟩ := sq_some hsq (by have := lt_of_get hc; omega)
  exact ⟨b, off, cap, hh, hh.blk 0 rfl, tak_cells hsq hc, (Sq.free hsq).2.2.2⟩
theorem tak_did {G Y : BS} {gs : List Tak} {b off n cap : Nat} (h : Held G Y w [tBlk p (.cells #[.slice (some ⟨b, off, none⟩) n cap] 162), tSq eTak 172 (.slice (some ⟨b, off, none⟩) n cap) gs] w) {w1 : World} (hb : Below w.heap.size w w1) {c j : Nat} {g g' : Tak} {u : Value} (hc : gs[c]? = some g) (hj : j < 2) (he : (takC g).set j u = takC g') :
    Did w G Y [tTak p (gs.set c g')] (w1.setCell ⟨b, off + (c * 2 + j), none⟩ u) :=
  (Held.shut (f := fun v : Value => [tBlk p (.cells #[v] 162), tSq eTak 172 v (gs.set c g')]) (ts := []) ((h.own hb).put pure_tak 1 rfl hc hj he)).did
theorem tak_did0 {G Y : BS} {gs : List Tak} {v : Value} (h : Held G Y w [tBlk p (.cells #[v] 162), tSq eTak 172 v gs] w) {w1 : World} (hb : Below w.heap.size w w1) : Did w G Y [tTak p gs] w1 :=
  (Held.shut (f := fun v : Value => [tBlk p (.cells #[v] 162), tSq eTak 172 v gs]) (ts := []) (h.own hb)).did
set_option maxRecDepth 100000 in
theorem receiveG_h {gs : List Giv} (h : Held F Z W ts w) (i : Nat) (hi : ts[i]? = some (tGiv p gs)) (hgs : gs.length ≤ 4) {c : Nat} {g : Giv} (hc : gs[c]? = some g) (h1 : g.room ≤ 4000000000000) (h2 : g.freed ≤ 4000000000000) (h3 : g.received ≤ 4000000000000) :
    Calls Try.prog 71 #[.pointer (some ⟨p, 0, none⟩), .int .i64 (c : Int)] w fun e w' => e = .returned (.int .i64 (if g.receive.1 then 0 else 5)) ∧ Held F Z W (ts.set i (tGiv p (gs.set c g.receive.2))) w' := by
  refine h.act i hi fun G Y hd hon => ?_
  obtain ⟨b, off, cap, hh, hrow, ⟨g0, g1, g2⟩, gf⟩ := giv_open hon hd hc
  have hlt := lt_of_get hc
  by_cases hr : g.received < g.room + g.freed
  · have hg : g.receive = (true, { g with received := g.received + 1 }) := by unfold Giv.receive; rw [if_neg (by unfold Giv.limit; omega)]
    rw [hg]
    have HQ := Lib.hid (withG_any p b off gs.length cap c 95 #[] w _ hrow hlt hgs (fun _ _ => rfl) (receiveC_yes b (off + c * 3) g.room g.received g.freed w g0 g1 g2 gf h1 h2 h3 hr))
    have HH := Lib.hid hh
    clear hg hrow g0 g1 g2 gf hh hon h hi hd
    go_enter Try.func71, Try.ntmps71
    go_wp2_with fail
    refine HQ.out.mono ?_
    rintro e w' ⟨m, rfl, rfl, w1, hb, rfl⟩
    have HB := Lib.hid hb
    clear hb
    go_wp2_with fail
    go_ret
    exact ⟨rfl, giv_did HH.out HB.out hc (j := 1) (by decide) rfl⟩
  · have hg : g.receive = (false, g) := by unfold Giv.receive; rw [if_pos (by unfold Giv.limit; omega)]
    rw [hg]
    have HQ := Lib.hid (withG_any p b off gs.length cap c 95 #[] w _ hrow hlt hgs (fun _ _ => rfl) (receiveC_no b (off + c * 3) g.room g.received g.freed w g0 g1 g2 h1 h2 hr))
    have HH := Lib.hid hh
    clear hg hrow g0 g1 g2 gf hh hon h hi hd
    go_enter Try.func71, Try.ntmps71
    go_wp2_with fail
    refine HQ.out.mono ?_
    rintro e w' ⟨m, rfl, rfl, hb⟩
    have HB := Lib.hid hb
    clear hb
    go_wp2_with fail
    go_ret
    refine ⟨rfl, ?_⟩
    rw [set_same' hc]
    exact giv_did0 HH.out HB.out
set_option maxRecDepth 100000 in
theorem freeG_h {gs : List Giv} (h : Held F Z W ts w) (i : Nat) (hi : ts[i]? = some (tGiv p gs)) (hgs : gs.length ≤ 4) {c : Nat} {g : Giv} (hc : gs[c]? = some g) (h3 : g.received ≤ 4000000000000) :
    Calls Try.prog 54 #[.pointer (some ⟨p, 0, none⟩), .int .i64 (c : Int)] w fun e w' => (∃ m, e = .returned (.int .i64 m)) ∧ Held F Z W (ts.set i (tGiv p (gs.set c g.free))) w' := by
  refine h.act i hi fun G Y hd hon => ?_
  obtain ⟨b, off, cap, hh, hrow, ⟨g0, g1, g2⟩, gf⟩ := giv_open hon hd hc
  have hlt := lt_of_get hc
  by_cases hr : g.freed < g.received
  · have hg : g.free = { g with freed := g.freed + 1 } := by unfold Giv.free; rw [if_neg (by omega)]
    rw [hg]
    have HQ := Lib.hid (withG_any p b off gs.length cap c 87 #[] w _ hrow hlt hgs (fun _ _ => rfl) (freeC_yes b (off + c * 3) g.received g.freed w g1 g2 gf h3 hr))
    have HH := Lib.hid hh
    clear hg hrow g0 g1 g2 gf hh hon h hi hd
    go_enter Try.func54, Try.ntmps54
    go_wp2_with fail
    refine HQ.out.mono ?_
    rintro e w' ⟨m, rfl, rfl, w1, hb, rfl⟩
    have HB := Lib.hid hb
    clear hb
    go_wp2_with fail
    go_ret
    exact ⟨⟨_, rfl⟩, giv_did HH.out HB.out hc (j := 2) (by decide) rfl⟩
  · have hg : g.free = g := by unfold Giv.free; rw [if_pos (by omega)]
    rw [hg]
    have HQ := Lib.hid (withG_any p b off gs.length cap c 87 #[] w _ hrow hlt hgs (fun _ _ => rfl) (freeC_no b (off + c * 3) g.received g.freed w g1 g2 hr))
    have HH := Lib.hid hh
    clear hg hrow g0 g1 g2 gf hh hon h hi hd
    go_enter Try.func54, Try.ntmps54
    go_wp2_with fail
    refine HQ.out.mono ?_
    rintro e w' ⟨m, rfl, rfl, hb⟩
    have HB := Lib.hid hb
    clear hb
    go_wp2_with fail
    go_ret
    refine ⟨⟨_, rfl⟩, ?_⟩
    rw [set_same' hc]
    exact giv_did0 HH.out HB.out
set_option maxRecDepth 100000 in
theorem takeT_h {gs : List Tak} (h : Held F Z W ts w) (i : Nat) (hi : ts[i]? = some (tTak p gs)) (hgs : gs.length ≤ 4) {c : Nat} {g : Tak} (hc : gs[c]? = some g) (h3 : g.limit ≤ 4000000000000) :
    Calls Try.prog 84 #[.pointer (some ⟨p, 0, none⟩), .int .i64 (c : Int)] w fun e w' => (∃ m, e = .returned (.int .i64 m)) ∧ Held F Z W (ts.set i (tTak p (gs.set c g.take))) w' := by
  refine h.act i hi fun G Y hd hon => ?_
  obtain ⟨b, off, cap, hh, hrow, ⟨g0, g1⟩, gf⟩ := tak_open hon hd hc
  have hlt := lt_of_get hc
  by_cases hr : g.sent < g.limit
  · have hg : g.take = { g with sent := g.sent + 1 } := by unfold Tak.take; rw [if_neg (by omega)]
    rw [hg]
    have HQ := Lib.hid (withT_any p b off gs.length cap c 103 #[] w _ hrow hlt hgs (fun _ _ => rfl) (takeC_yes b (off + c * 2) g.sent g.limit w g0 g1 gf h3 hr))
    have HH := Lib.hid hh
    clear hg hrow g0 g1 gf hh hon h hi hd
    go_enter Try.func84, Try.ntmps84
    go_wp2_with fail
    refine HQ.out.mono ?_
    rintro e w' ⟨m, rfl, rfl, w1, hb, rfl⟩
    have HB := Lib.hid hb
    clear hb
    go_wp2_with fail
    go_ret
    exact ⟨⟨_, rfl⟩, tak_did HH.out HB.out hc (j := 0) (by decide) rfl⟩
  · have hg : g.take = g := by unfold Tak.take; rw [if_pos (by omega)]
    rw [hg]
    have HQ := Lib.hid (withT_any p b off gs.length cap c 103 #[] w _ hrow hlt hgs (fun _ _ => rfl) (takeC_no b (off + c * 2) g.sent g.limit w g0 g1 hr))
    have HH := Lib.hid hh
    clear hg hrow g0 g1 gf hh hon h hi hd
    go_enter Try.func84, Try.ntmps84
    go_wp2_with fail
    refine HQ.out.mono ?_
    rintro e w' ⟨m, rfl, rfl, hb⟩
    have HB := Lib.hid hb
    clear hb
    go_wp2_with fail
    go_ret
    refine ⟨⟨_, rfl⟩, ?_⟩
    rw [set_same' hc]
    exact tak_did0 HH.out HB.out
end
end Go.Proofs.Ytcocnfbhileheaa

/- Credits in memory: Raise, Left; NewTaker, NewGiver. -/
namespace Go.Proofs.Ytcocnfbhileheaa
open Go.RowKit

theorem slGiv : SlT Try.prog 163 155 (.agg #[.int .i64 0, .int .i64 0, .int .i64 0]) 3 24 := ⟨Try.underlying163, info_parts (by kernel_rfl), rfl, by decide⟩
theorem slTak : SlT Try.prog 160 172 (.agg #[.int .i64 0, .int .i64 0]) 2 16 := ⟨Try.underlying160, info_parts (by kernel_rfl), rfl, by decide⟩
section
variable {F Z : BS} {W w : World} {ts : List Th} {p : Nat}
set_option maxRecDepth 100000 in
theorem raise_h {gs : List Tak} (h : Held F Z W ts w) (i : Nat) (hi : ts[i]? = some (tTak p gs)) (hgs : gs.length ≤ 4) {c : Nat} {g : Tak} (hc : gs[c]? = some g) (l : Int) :
    Calls Try.prog 100 #[.pointer (some ⟨p, 0, none⟩), .int .i64 (c : Int), .int .i64 l] w fun e w' => (∃ m, e = .returned (.int .i64 m)) ∧ Held F Z W (ts.set i (tTak p (gs.set c (g.raise l)))) w' := by
  have hmf : ∀ (fn : Fn) (first cap : Array Value) (w : World), (Instr.makeFunc fn first cap).run Try.prog w = .ok (.func fn first cap) w := fun _ _ _ _ => rfl
  refine h.act i hi fun G Y hd hon => ?_
  obtain ⟨b, off, cap, hh, hrow, ⟨g0, g1⟩, gf⟩ := tak_open hon hd hc
  have hlt := lt_of_get hc
  have hbl : b < w.heap.size := World.block_lt_of_cell? w _ g0
  have hba := below_alloc w (.cells #[.int .i64 l] 3)
  have hrow' := (hba.block p (lt_of_block hrow)).trans hrow
  have g1' := (World.cell?_of_block (hba.block b hbl)).trans g1
  by_cases hr : l < 0 ∨ 1099511627776 < l
  · have hg : g.raise l = g := by unfold Tak.raise; rw [if_pos hr]
    rw [hg]
    have HQ := Lib.hid (withT_any p b off gs.length cap c 106 #[.pointer (some ⟨w.heap.size, 0, none⟩)] (w.alloc (.cells #[.int .i64 l] 3)) _ hrow' hlt hgs (fun _ _ => rfl) (raiseC_no b (off + c * 2) w.heap.size l _ (heap_alloc_new w _) hr))
    have HH := Lib.hid hh
    have HBA := Lib.hid hba
    clear hg hrow g0 g1 gf hh hon h hi hd g1' hrow' hba hr
    go_enter Try.func100, Try.ntmps100
    go_wp2_with fail
    refine HQ.out.mono ?_
    rintro e w' ⟨m, rfl, rfl, hb⟩
    have HB := Lib.hid (HBA.out.trans (hb.mono HBA.out.size))
    clear hb
    go_wp2_with fail
    go_ret
    refine ⟨⟨_, rfl⟩, ?_⟩
    rw [set_same' hc]
    exact tak_did0 HH.out HB.out
  · obtain ⟨n, rfl⟩ : ∃ n : Nat, l = (n : Int) := ⟨l.toNat, by omega⟩
    have hg : g.raise n = { g with limit := max g.limit n } := by unfold Tak.raise; rw [if_neg hr]; rfl
    rw [hg]
    have HQ := Lib.hid (withT_any p b off gs.length cap c 106 #[.pointer (some ⟨w.heap.size, 0, none⟩)] (w.alloc (.cells #[.int .i64 (n : Int)] 3)) _ hrow' hlt hgs (fun _ _ => rfl)
      (raiseC_yes b (off + c * 2) w.heap.size g.limit n _ g1' (fun j => (hba.frozen (p := ⟨b, j, none⟩) hbl).trans (gf j)) (heap_alloc_new w _) (by omega)))
    have HH := Lib.hid hh
    have HBA := Lib.hid hba
    clear hg hrow g0 g1 gf hh hon h hi hd g1' hrow' hba hr
    go_enter Try.func100, Try.ntmps100
    go_wp2_with fail
    refine HQ.out.mono ?_
    rintro e w' ⟨m, rfl, rfl, w1, hb, rfl⟩
    have HB := Lib.hid (HBA.out.trans (hb.mono HBA.out.size))
    clear hb
    go_wp2_with fail
    go_ret
    exact ⟨⟨_, rfl⟩, tak_did HH.out HB.out hc (j := 1) (by decide) rfl⟩
set_option maxRecDepth 100000 in
theorem left_h {gs : List Tak} (h : Held F Z W ts w) (i : Nat) (hi : ts[i]? = some (tTak p gs)) (hgs : gs.length ≤ 4) {c : Nat} {g : Tak} (hc : gs[c]? = some g) (h1 : g.sent ≤ 4000000000000) (h2 : g.limit ≤ 4000000000000) :
    Calls Try.prog 82 #[.pointer (some ⟨p, 0, none⟩), .int .i64 (c : Int)] w fun e w' => e = .returned (.int .i64 ((g.limit : Int) - (g.sent : Int))) ∧ Held F Z W ts w' := by
  have hmf : ∀ (fn : Fn) (first cap : Array Value) (w : World), (Instr.makeFunc fn first cap).run Try.prog w = .ok (.func fn first cap) w := fun _ _ _ _ => rfl
  obtain ⟨G, Y, hon, hd, _⟩ := h.use i hi
  obtain ⟨b, off, cap, hh, hrow, ⟨g0, g1⟩, gf⟩ := tak_open hon hd hc
  have hlt := lt_of_get hc
  have hbl : b < w.heap.size := World.block_lt_of_cell? w _ g0
  have hba := below_alloc w (.cells #[.int .i64 0] 3)
  have hrow' := (hba.block p (lt_of_block hrow)).trans hrow
  have g0' := (World.cell?_of_block (hba.block b hbl)).trans g0
  have g1' := (World.cell?_of_block (hba.block b hbl)).trans g1
  have HQ := Lib.hid (withT_any p b off gs.length cap c 102 #[.pointer (some ⟨w.heap.size, 0, none⟩)] (w.alloc (.cells #[.int .i64 0] 3)) _ hrow' hlt hgs (fun _ _ => rfl) (leftC_any b (off + c * 2) w.heap.size g.sent g.limit _ g0' g1' (heap_alloc_new w _) h1 h2))
  have HH := Lib.hid h
  have HBA := Lib.hid hba
  clear hrow g0 g1 gf hh hon h hi hd g1' g0' hrow' hba
  go_enter Try.func82, Try.ntmps82
  go_wp2_with fail
  refine HQ.out.mono ?_
  rintro e w1 ⟨m, rfl, hx1, hf⟩
  have HB := Lib.hid (show Below w.heap.size w w1 from ((Fr.refl _ _).of_below HBA.out |>.trans hf fun k hk => .inl hk).below (B := w.heap.size) (Nat.le_refl _) fun k hk => by have hk' : k = w.heap.size := hk; omega)
  have c0 := blk_cell (i := 0) hx1 rfl
  clear hx1 hf
  go_wp2_with fail
  go_ret
  exact ⟨rfl, HH.out.own HB.out⟩
end
theorem newTak_any (n : Nat) (w : World) (h1 : 1 ≤ n) (h2 : n ≤ 4) :
    Calls Try.prog 69 #[.int .i64 (n : Int)] w fun e w' => ∃ p, e = .returned (.tuple #[.pointer (some ⟨p, 0, none⟩), .int .i64 0]) ∧ Made w (tTak p (List.replicate n ⟨0, 0⟩)) w' := by
  go_enter Try.func69, Try.ntmps69
  go_wp2_with (at_make; refine wpList_mkH (E := eTak) slTak rfl (u := .int .i64 0) (a0 := ⟨0, 0⟩) (fun _ _ => rfl) rfl _ _ rfl n rfl rfl (by omega) (by unfold maxLen; omega) ?_; intro w1 hb1 hs1; have HB1 := Lib.hid hb1; have HS1 := Lib.hid hs1; clear hb1 hs1)
  go_ret2
  refine ⟨w1.heap.size, rfl, Made.of ?_⟩
  have h0 := (Held.start0 (fun _ => False) (fun _ => False) (fun _ f => f.elim) w).add HB1.out (T := tSq eTak 172 (.slice (some ⟨w.heap.size, 0, none⟩) n n) (List.replicate n ⟨0, 0⟩)) HS1.out
  exact Held.shut (f := fun v : Value => [tBlk w1.heap.size (.cells #[v] 162), tSq eTak 172 v (List.replicate n ⟨0, 0⟩)]) (ts := []) ((h0.new (.cells #[.slice (some ⟨w.heap.size, 0, none⟩) n n] 162)).pick [1, 0] _ (by simp) rfl)
end Go.Proofs.Ytcocnfbhileheaa

/- Credits in memory: NewGiver. -/
namespace Go.Proofs.Ytcocnfbhileheaa
open Go.RowKit

/-- the givers behind j rounds -/
def givTo (rooms : List Nat) (j : Nat) : List Giv := (List.range rooms.length).map fun i => if i < j then ⟨rooms.getD i 0, 0, 0⟩ else ⟨0, 0, 0⟩
theorem givTo_length (rooms : List Nat) (j : Nat) : (givTo rooms j).length = rooms.length := by simp [givTo]
theorem givTo_zero (rooms : List Nat) : givTo rooms 0 = List.replicate rooms.length ⟨0, 0, 0⟩ := by
  apply List.ext_getElem
  · simp [givTo]
  · intro i h1 h2; simp [givTo]
theorem givTo_all (rooms : List Nat) : givTo rooms rooms.length = rooms.map fun r => ⟨r, 0, 0⟩ := by
  apply List.ext_getElem
  · simp [givTo]
  · intro i h1 h2
    have h3 : i < rooms.length := by simpa [givTo] using h1
    simp [givTo, List.getD, h3]
theorem givTo_get {rooms : List Nat} {j : Nat} (hj : j < rooms.length) : (givTo rooms j)[j]? = some ⟨0, 0, 0⟩ := by
  unfold givTo
  rw [List.getElem?_map, List.getElem?_range hj, Option.map_some, if_neg (by omega)]
theorem givTo_set {rooms : List Nat} {j : Nat} : (givTo rooms j).set j ⟨rooms.getD j 0, 0, 0⟩ = givTo rooms (j + 1) := by
  apply List.ext_getElem?
  intro i
  rw [List.getElem?_set]
  unfold givTo
  by_cases hij : j = i
  · subst hij
    rw [if_pos rfl]
    by_cases hl : j < rooms.length
    · rw [if_pos (by simpa using hl), List.getElem?_map, List.getElem?_range hl, Option.map_some, if_pos (by omega)]
    · rw [if_neg (by simpa using hl), List.getElem?_map, List.getElem?_eq_none (by simp; omega)]; rfl
  · rw [if_neg hij, List.getElem?_map, List.getElem?_map]
    by_cases hl : i < rooms.length
    · rw [List.getElem?_range hl, Option.map_some, Option.map_some]
      by_cases h : i < j
      · simp only [if_pos h, if_pos (show i < j + 1 by omega)]
      · simp only [if_neg h, if_neg (show ¬ i < j + 1 by omega)]
    · rw [List.getElem?_eq_none (by simp; omega)]; rfl
set_option maxRecDepth 100000 in
set_option maxHeartbeats 4000000 in
theorem newGiv_any {rooms : List Nat} {rb ro rc : Nat} (w : World) (h1 : 1 ≤ rooms.length) (h2 : rooms.length ≤ 4) (hr : ∀ x ∈ rooms, 1 ≤ x ∧ x ≤ 64) (hcell : ∀ (k x : Nat), rooms[k]? = some x → w.cell? ⟨rb, ro + k, none⟩ = some (.int .i64 (x : Int))) :
    Calls Try.prog 70 #[.slice (some ⟨rb, ro, none⟩) rooms.length rc] w fun e w' => ∃ p, e = .returned (.tuple #[.pointer (some ⟨p, 0, none⟩), .int .i64 0]) ∧ Made w (tGiv p (rooms.map fun r => ⟨r, 0, 0⟩)) w' := by
  have hbl : rb < w.heap.size := by
    obtain ⟨x, hx⟩ : ∃ x, rooms[0]? = some x := ⟨rooms[0], List.getElem?_eq_getElem h1⟩
    exact World.block_lt_of_cell? w _ (hcell 0 x hx)
  have HC := Lib.hid hcell
  have HR := Lib.hid hr
  clear hcell hr
  go_enter Try.func70, Try.ntmps70
  go_wp2_with (at_make; refine wpList_mkH (E := eGiv) slGiv rfl (u := .int .i64 0) (a0 := ⟨0, 0, 0⟩) (fun _ _ => rfl) rfl _ _ rfl rooms.length rfl rfl (by omega) (by unfold maxLen; omega) ?_; intro w1 hb1 hs1; have HB1 := Lib.hid hb1; have HS1 := Lib.hid hs1; clear hb1 hs1)
  have hh := ((Held.start0 (fun _ => False) (fun _ => False) (fun _ f => f.elim) w).add HB1.out (T := tSq eGiv 155 (.slice (some ⟨w.heap.size, 0, none⟩) rooms.length rooms.length) (List.replicate rooms.length ⟨0, 0, 0⟩)) HS1.out).new (.cells #[.slice (some ⟨w.heap.size, 0, none⟩) rooms.length rooms.length] 165)
  have hsz := (Sq.free HS1.out).2.2.1
  have HH := Lib.hid (hh.pick [1, 0] [tBlk w1.heap.size (.cells #[.slice (some ⟨w.heap.size, 0, none⟩) rooms.length rooms.length] 165), tSq eGiv 155 (.slice (some ⟨w.heap.size, 0, none⟩) rooms.length rooms.length) (List.replicate rooms.length ⟨0, 0, 0⟩)] (by simp) rfl)
  clear hh
  go_loopw [22, 5, 6] (fun i _ _ wr => ∃ k : Nat, k ≤ rooms.length ∧ i = .int .i64 (k : Int) ∧ Hid (Held (fun _ => False) (fun _ => False) w [tBlk w1.heap.size (.cells #[.slice (some ⟨w.heap.size, 0, none⟩) rooms.length rooms.length] 165), tSq eGiv 155 (.slice (some ⟨w.heap.size, 0, none⟩) rooms.length rooms.length) (givTo rooms k)] wr)) (fun i _ _ _ => rooms.length - (intOf i).toNat)
  case atStart => exact ⟨0, Nat.zero_le _, rfl, Lib.hid (by rw [givTo_zero]; exact HH.out)⟩
  case round =>
    clear HH
    obtain ⟨k, hk, rfl, HK⟩ := hrel
    by_cases hlt : k < rooms.length
    · have hx : rooms[k]? = some (rooms.getD k 0) := by simp [List.getD, hlt]
      have hrk := HR.out _ (List.mem_of_getElem? hx)
      have hck := (World.cell?_of_block (HK.out.below.block rb hbl)).trans (HC.out k _ hx)
      have hc0 := blk_cell (i := 0) (HK.out.blk 0 rfl) rfl
      obtain ⟨_, _, hsq⟩ := HK.out.get 1 rfl
      have hfr := (Sq.free hsq).2.2.2
      have hg0 := (giv_cells hsq (givTo_get hlt)).1
      rw [Nat.zero_add] at hg0
      have HS := Lib.hid (HK.out.put pure_giv 1 rfl (c := k) (j := 0) (a := ⟨0, 0, 0⟩) (a' := ⟨rooms.getD k 0, 0, 0⟩) (u := .int .i64 ((rooms.getD k 0 : Nat) : Int)) (givTo_get hlt) (by decide) rfl)
      obtain ⟨x, hxx⟩ : ∃ x, x = rooms.getD k 0 := ⟨_, rfl⟩
      have HX := Lib.hid hxx
      rw [← hxx] at hrk hck
      obtain ⟨hx1, hx2⟩ := hrk
      clear hx hsq hxx
      have hz : w1.heap.size ≠ w.heap.size := by omega
      go_wp2_with fail
      go_roundw
      case rel =>
        refine ⟨k + 1, by omega, by go_num, Lib.hid ?_⟩
        rw [← givTo_set, HX.out]
        have := HS.out
        simpa [eGiv, ePure] using this
      case measure => simp [intOf]; omega
    · obtain rfl : rooms.length = k := by omega
      go_wp2_with fail
      go_ret2
      refine ⟨w1.heap.size, rfl, Made.of ?_⟩
      have := HK.out
      rw [givTo_all] at this
      exact Held.shut (f := fun v : Value => [tBlk w1.heap.size (.cells #[v] 165), tSq eGiv 155 v (rooms.map fun r => ⟨r, 0, 0⟩)]) (ts := []) this
end Go.Proofs.Ytcocnfbhileheaa
