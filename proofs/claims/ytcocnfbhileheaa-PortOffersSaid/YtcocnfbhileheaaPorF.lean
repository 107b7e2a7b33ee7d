/- The arbiter in memory: Pick. -/
import Derived.Test.YtcocnfbhileheaaPorE
import Derived.Deep.CutBlock
import Derived.Deep.CutRange
import Derived.Deep.DeepCutAuto
import Derived.StillTailTactics
import Derived.Lib.MinMax
import Derived.IntWalk
namespace Go.Proofs.Ytcocnfbhileheaa
open Go.RowKit

theorem pure_cell {α : Type} {E : El α} {f : α → List Value} (hp : Pure E f) {T : TypeId} {w : World} {F Z : BS} {b off n cap : Nat} {xs : List α} (h : Sq E T w F Z (.slice (some ⟨b, off, none⟩) n cap) xs) {i j : Nat} {x : α} {u : Value} (hi : xs[i]? = some x) (hj : (f x)[j]? = some u) :
    w.cell? ⟨b, off + i * E.size + j, none⟩ = some u := by
  have hp0 : 0 < E.size := by have := lt_of_get hj; rw [hp.len] at this; omega
  obtain ⟨b', off', cs, A, e, _, h2, _, h4⟩ := h.at hp0 hi
  obtain ⟨rfl, rfl⟩ : b = b' ∧ off = off' := by simpa using e
  rw [(hp _ _ _ _ _).1 h2] at h4
  exact h4 j u hj
theorem nat_cell {T : TypeId} {w : World} {F Z : BS} {b off n cap : Nat} {xs : List Nat} (h : Sq eNat T w F Z (.slice (some ⟨b, off, none⟩) n cap) xs) {i x : Nat} (hi : xs[i]? = some x) : w.cell? ⟨b, off + i, none⟩ = some (.int .i64 (x : Int)) := by
  have := pure_cell pure_nat h hi (j := 0) rfl
  simpa [eNat] using this
theorem pure_bool : Pure eBool (fun b => [.bool b]) := fun _ _ _ _ _ => Iff.rfl
theorem bool_cell {T : TypeId} {w : World} {F Z : BS} {b off n cap : Nat} {xs : List Bool} (h : Sq eBool T w F Z (.slice (some ⟨b, off, none⟩) n cap) xs) {i : Nat} {x : Bool} (hi : xs[i]? = some x) : w.cell? ⟨b, off + i, none⟩ = some (.bool x) := by
  have := pure_cell pure_bool h hi (j := 0) rfl
  simpa [eBool] using this
theorem min_cast (x N : Nat) : min ((x : Int) + 1) (N : Int) = ((min (x + 1) N : Nat) : Int) := by omega
/-- the bounds of an arbiter -/
structure Arb.Ok (a : Arb) (n : Nat) : Prop where
  n1 : 1 ≤ n
  n2 : n ≤ 64
  len : a.ages.length = n
  ptr : a.ptr < n
  ages : ∀ x ∈ a.ages, x ≤ 1073741824
theorem newArb_ok {n : Nat} (h1 : 1 ≤ n) (h2 : n ≤ 64) : (newArb n).Ok n := ⟨h1, h2, by simp [newArb], h1, by simp [newArb]⟩
theorem firstReq_lt {req : List Bool} {ptr n : Nat} (hn : 0 < n) : ∀ {k i c : Nat}, firstReq req ptr n i k = some c → c < n ∧ req.getD c false = true
  | 0, i, c, h => by simp [firstReq] at h
  | k + 1, i, c, h => by
    unfold firstReq at h
    split at h
    · rename_i hr
      obtain rfl := Option.some.inj h
      exact ⟨Nat.mod_lt _ hn, hr⟩
    · exact firstReq_lt hn h
/-- the ages behind j rounds -/
def agesTo (a : Arb) (req : List Bool) (ch : Option Nat) (j : Nat) : List Nat :=
  (List.range req.length).map fun i => if i < j then (if req.getD i false = true ∧ some i ≠ ch then min (a.ages.getD i 0 + 1) 1073741824 else 0) else a.ages.getD i 0
theorem agesTo_length (a : Arb) (req : List Bool) (ch : Option Nat) (j : Nat) : (agesTo a req ch j).length = req.length := by simp [agesTo]
theorem agesTo_zero {a : Arb} {req : List Bool} (ch : Option Nat) (h : a.ages.length = req.length) : agesTo a req ch 0 = a.ages := by
  apply List.ext_getElem
  · simp [agesTo, h]
  · intro i h1 h2
    simp [agesTo, List.getD, h2]
theorem agesTo_all (a : Arb) (req : List Bool) : agesTo a req (a.choice req) req.length = (a.pick req).2.ages := by
  unfold agesTo Arb.pick
  refine List.map_congr_left fun i hi => ?_
  rw [if_pos (by simpa using hi)]
theorem agesTo_get {a : Arb} {req : List Bool} {ch : Option Nat} {j i : Nat} (hi : i < req.length) (hj : j ≤ i) : (agesTo a req ch j)[i]? = some (a.ages.getD i 0) := by
  unfold agesTo
  rw [List.getElem?_map, List.getElem?_range hi, Option.map_some, if_neg (by omega)]
theorem agesTo_set {a : Arb} {req : List Bool} {ch : Option Nat} {j x : Nat} (hx : x = if req.getD j false = true ∧ some j ≠ ch then min (a.ages.getD j 0 + 1) 1073741824 else 0) : (agesTo a req ch j).set j x = agesTo a req ch (j + 1) := by
  apply List.ext_getElem?
  intro i
  rw [List.getElem?_set]
  unfold agesTo
  by_cases hij : j = i
  · subst hij
    rw [if_pos rfl]
    by_cases hl : j < req.length
    · rw [if_pos (by simpa using hl), List.getElem?_map, List.getElem?_range hl, Option.map_some, if_pos (by omega), hx]
    · rw [if_neg (by simpa using hl), List.getElem?_map, List.getElem?_eq_none (by simp; omega)]; rfl
  · rw [if_neg hij, List.getElem?_map, List.getElem?_map]
    by_cases hl : i < req.length
    · rw [List.getElem?_range hl, Option.map_some, Option.map_some]
      by_cases h : i < j
      · simp only [if_pos h, if_pos (show i < j + 1 by omega)]
      · simp only [if_neg h, if_neg (show ¬ i < j + 1 by omega)]
    · rw [List.getElem?_eq_none (by simp; omega)]; rfl
theorem Arb.Ok.pick {a : Arb} {req : List Bool} (h : a.Ok req.length) : (a.pick req).2.Ok req.length := by
  obtain ⟨h1, h2, h3, h4, h5⟩ := h
  refine ⟨h1, h2, by simp [Arb.pick], ?_, fun x hx => ?_⟩
  · unfold Arb.pick; dsimp only
    split
    · exact Nat.mod_lt _ h1
    · exact h4
  · unfold Arb.pick at hx
    obtain ⟨i, _, rfl⟩ := List.mem_map.1 hx
    split
    · exact Nat.min_le_right _ _
    · omega
/-- the number of a choice; none: -1 -/
def chNum : Option Nat → Int
  | some c => (c : Int)
  | none => -1
set_option maxRecDepth 100000 in
set_option maxHeartbeats 4000000 in
theorem pick_h {F Z : BS} {W w : World} {ts : List Th} {p : Nat} {a : Arb} {T : TypeId} {rv : Value} {req : List Bool} (h : Held F Z W ts w) (i j : Nat) (hi : ts[i]? = some (tArb p a)) (hj : ts[j]? = some (tSq eBool T rv req)) (hij : j ≠ i) (hok : a.Ok req.length) :
    Calls Try.prog 83 #[.pointer (some ⟨p, 0, none⟩), rv] w fun e w' => e = .returned (.tuple #[.int .i64 (chNum (a.pick req).1), .bool (a.pick req).1.isSome]) ∧ Held F Z W (ts.set i (tArb p (a.pick req).2)) w' := by
  obtain ⟨G, Y, hon, hd, _, hoth, hback⟩ := h.use i hi
  obtain ⟨H, hGH, _, hreq⟩ := hoth j _ hij hj
  suffices hs : Calls Try.prog 83 #[.pointer (some ⟨p, 0, none⟩), rv] w fun e w' => e = .returned (.tuple #[.int .i64 (chNum (a.pick req).1), .bool (a.pick req).1.isSome]) ∧ Held G Y w [tArb p (a.pick req).2] w' by
    refine hs.mono fun e w' ⟨he, hh⟩ => ⟨he, ?_⟩
    have := hback w' _ [] hh.did
    rwa [List.append_nil] at this
  clear hback hoth h
  obtain ⟨v, hh⟩ := Held.opens (Held.start1 hon hd)
  obtain ⟨n1, n2, hal, hpt, hag⟩ := hok
  have hn1 : 0 < req.length := n1
  have hage := fun k => show a.ages.getD k 0 ≤ 1073741824 from by
    rw [List.getD]
    cases hk : a.ages[k]? with
    | none => simp
    | some x => exact hag x (List.mem_of_getElem? hk)
  have hreq' := hreq
  obtain ⟨K, D, us, _, _, _, hsl, _⟩ := hreq'
  obtain ⟨rb, ro, rc, rfl, _, hrc⟩ := hsl.head hn1
  obtain ⟨_, hrH, hrl, _⟩ := Sq.free hreq
  have hrc2 : rc ≤ 9223372036854775807 := by obtain ⟨_, _, cap, e, _, h, _⟩ := hsl.rd; obtain ⟨_, rfl⟩ : _ ∧ rc = cap := by simpa using e
                                             exact h
  have hrG : ¬ G rb := fun g => hGH rb g hrH
  have HRQ := Lib.hid (fun k (hk : k < req.length) => show w.cell? ⟨rb, ro + k, none⟩ = some (.bool (req.getD k false)) from by
    have := bool_cell hreq (List.getElem?_eq_getElem hk)
    simpa [List.getD, hk] using this)
  clear hsl hreq hi hj hij hd hGH hon
  obtain ⟨av, ac, rfl⟩ : ∃ av ac, v = .slice av a.ages.length ac := by obtain ⟨_, _, h⟩ := hh.get 1 rfl; exact Sq.shape h
  obtain ⟨ab, ao, rfl⟩ : ∃ ab ao, av = some ⟨ab, ao, none⟩ := by
    obtain ⟨_, _, K, D, us, _, _, _, h, _⟩ := hh.get 1 rfl
    obtain ⟨g, off, cap, e, _⟩ := Sl.head h (by omega)
    exact ⟨g, off, by simpa using (by simpa using e : _ ∧ _).1⟩
  have hac : req.length ≤ ac ∧ ac ≤ 9223372036854775807 := by
    obtain ⟨_, _, h⟩ := hh.get 1 rfl
    obtain ⟨_, cap, e, h1, h2, _⟩ := Sq.le h
    obtain ⟨_, rfl⟩ : _ ∧ ac = cap := by simpa using e
    exact ⟨by omega, h2⟩
  obtain ⟨hac1, hac2⟩ := hac
  have HAL := Lib.hid hal
  rw [hal] at hh
  have HH := Lib.hid hh
  have hrow := hh.blk 0 rfl
  have c0 := blk_cell (i := 0) hrow rfl
  have c1 := blk_cell (i := 1) hrow rfl
  clear hh hrow hal hag
  have hz0 : ((req.length : Int) == 0) = false := by rw [beq_eq_false_iff_ne]; omega
  go_enter Try.func83, Try.ntmps83
  go_upto_block 0 with fail
  go_cut [7] from 34 to 51 (fun u7 wc => u7 = .int .i64 (chNum (a.choice req)) ∧ wc = w)
  case first =>
    go_wp2_with fail
    go_loop [35, 7, 8, 9] (fun i c _ _ => ∃ k : Nat, k ≤ req.length ∧ i = .int .i64 (k : Int) ∧ c = .int .i64 (-1) ∧ Hid (firstReq req a.ptr req.length k (req.length - k) = a.choice req)) (fun i _ _ _ => req.length - (intOf i).toNat)
    case atStart => exact ⟨0, Nat.zero_le _, rfl, rfl, Lib.hid rfl⟩
    case round =>
      obtain ⟨k, hk, rfl, rfl, HC⟩ := hrel
      by_cases hlt : k < req.length
      · have hkk := HRQ.out ((a.ptr + k) % req.length) (Nat.mod_lt _ hn1)
        have hml : (a.ptr + k) % req.length < req.length := Nat.mod_lt _ hn1
        obtain ⟨m, hm⟩ : ∃ m, (a.ptr + k) % req.length = m := ⟨_, rfl⟩
        rw [hm] at hkk hml
        have hmz : ((a.ptr : Int) + (k : Int)) % (req.length : Int) = (m : Int) := by rw [← hm]; push_cast; rfl
        have HM := Lib.hid hm
        clear hm
        cases hb : req.getD m false with
        | true =>
          have HB := Lib.hid hb
          rw [hb] at hkk
          clear hb
          have HCH := Lib.hid (show a.choice req = some m by
            rw [← HC.out, show req.length - k = (req.length - k - 1) + 1 by omega]
            unfold firstReq
            rw [HM.out, if_pos HB.out])
          go_wp2_with fail
          go_meet
          exact ⟨by rw [HCH.out]; rfl, rfl⟩
        | false =>
          have HB := Lib.hid hb
          rw [hb] at hkk
          clear hb
          go_wp2_with fail
          go_round
          case rel =>
            refine ⟨k + 1, by omega, by go_num, rfl, Lib.hid ?_⟩
            rw [← HC.out, show req.length - k = (req.length - (k + 1)) + 1 by omega]
            conv => rhs; unfold firstReq
            rw [HM.out, if_neg (by rw [HB.out]; decide)]
          case measure => simp [intOf]; omega
      · obtain rfl : req.length = k := by omega
        have HCH := Lib.hid (show a.choice req = none by rw [← HC.out, Nat.sub_self]; rfl)
        go_wp2_with fail
        go_meet
        exact ⟨by rw [HCH.out]; rfl, rfl⟩
  case rest =>
    obtain ⟨rfl, rfl⟩ := hcut
    obtain ⟨ch, hch⟩ : ∃ ch, ch = a.choice req := ⟨_, rfl⟩
    have HCH := Lib.hid hch
    have hcl := fun c (e : ch = some c) => (firstReq_lt hn1 (show firstReq req a.ptr req.length 0 req.length = some c from by rw [← e, hch]; rfl)).1
    rw [← hch]
    clear hch
    go_wp2_with fail
    go_loopw [54, 10, 11] (fun i _ _ wr => ∃ k : Nat, k ≤ req.length ∧ i = .int .i64 (k : Int) ∧ Hid (Held G Y wc [tBlk p (arbRow a (.slice (some ⟨ab, ao, none⟩) req.length ac)), tSq eNat 3 (.slice (some ⟨ab, ao, none⟩) req.length ac) (agesTo a req ch k)] wr)) (fun i _ _ _ => req.length - (intOf i).toNat)
    case atStart => exact ⟨0, Nat.zero_le _, rfl, Lib.hid (by rw [agesTo_zero ch HAL.out]; exact HH.out)⟩
    case round =>
      clear c0 c1
      obtain ⟨k, hk, rfl, HK⟩ := hrel
      by_cases hlt : k < req.length
      · have hrow := HK.out.blk 0 rfl
        have c1 := blk_cell (i := 1) hrow rfl
        have hkk : wr.cell? ⟨rb, ro + k, none⟩ = some (.bool (req.getD k false)) := (World.cell?_of_block (HK.out.fr.block rb hrl hrG)).trans (HRQ.out k hlt)
        obtain ⟨_, _, hsq⟩ := HK.out.get 1 rfl
        have hfr := (Sq.free hsq).2.2.2
        have hck := nat_cell hsq (agesTo_get hlt (Nat.le_refl k))
        have hge := hage k
        obtain ⟨x, hx⟩ : ∃ x, x = a.ages.getD k 0 := ⟨_, rfl⟩
        rw [← hx] at hck hge
        have HX := Lib.hid hx
        have HSTEP := Lib.hid (fun (y : Nat) (hy : y = if req.getD k false = true ∧ some k ≠ ch then min (a.ages.getD k 0 + 1) 1073741824 else 0) =>
          show Held G Y wc [tBlk p (arbRow a (.slice (some ⟨ab, ao, none⟩) req.length ac)), tSq eNat 3 (.slice (some ⟨ab, ao, none⟩) req.length ac) (agesTo a req ch (k + 1))] (wr.setCell ⟨ab, ao + k, none⟩ (.int .i64 (y : Int))) from by
            have := HK.out.put pure_nat 1 rfl (c := k) (j := 0) (a := x) (a' := y) (u := .int .i64 (y : Int)) (by rw [HX.out]; exact agesTo_get hlt (Nat.le_refl k)) (by decide) rfl
            rw [agesTo_set hy] at this
            simpa [eNat] using this)
        clear hsq hrow hx
        by_cases hpc : req.getD k false = true ∧ some k ≠ ch
        · have hb1 := hpc.1
          have hb2 : ((k : Int) != chNum ch) = true := by
            cases ch with
            | none => simp [chNum]
            | some c =>
              have : k ≠ c := fun e => hpc.2 (by rw [e])
              simp [chNum]; omega
          rw [hb1] at hkk
          obtain ⟨m, hm⟩ : ∃ m, min (x + 1) 1073741824 = m := ⟨_, rfl⟩
          have hmi : min ((x : Int) + 1) 1073741824 = (m : Int) := by rw [← hm, ← min_cast]; simp
          have HS := Lib.hid (HSTEP.out m (by rw [if_pos hpc, ← HX.out, hm]))
          have HX1 := hge
          clear hb1 hpc HSTEP hm
          go_wp2_with fail
          have hwr : IntKind.i64.wrap ((x : Int) + 1) = (x : Int) + 1 := IntWalk.i64_in _ (by omega)
          refine wp_region_still_tail 15 (by kernel_rfl) (by kernel_rfl) ?_
          simp only [List.take_succ_cons, List.take_zero, List.drop_succ_cons, List.drop_zero]
          change wpStill _ _ (World.drew _) (fun a' => wpList _ _ _ _ a' (World.drew _)) _ _
          repeat still_step
          refine wpStill_nil ?_
          go_wp2_with fail
          go_roundw
          case rel => exact ⟨k + 1, by omega, by go_num, Lib.hid HS.out.drew⟩
          case measure => simp [intOf]; omega
        · have HS := Lib.hid (HSTEP.out 0 (by rw [if_neg hpc]))
          cases hb : req.getD k false with
          | false =>
            rw [hb] at hkk
            clear hb hpc HSTEP
            go_wp2_with fail
            go_roundw
            case rel => exact ⟨k + 1, by omega, by go_num, HS⟩
            case measure => simp [intOf]; omega
          | true =>
            have hb2 : ((k : Int) != chNum ch) = false := by
              have : some k = ch := Decidable.byContradiction fun e => hpc ⟨hb, e⟩
              rw [← this]; simp [chNum]
            rw [hb] at hkk
            clear hb hpc HSTEP
            go_wp2_with fail
            go_roundw
            case rel => exact ⟨k + 1, by omega, by go_num, HS⟩
            case measure => simp [intOf]; omega
      · obtain rfl : req.length = k := by omega
        have hrow := HK.out.blk 0 rfl
        have c0 := blk_cell (i := 0) hrow rfl
        have cf := fun j => blk_free hrow j
        have HROW := Lib.hid hrow
        clear hrow
        have HPK := Lib.hid (show (a.pick req).1 = ch by rw [HCH.out]; rfl)
        have HAG := Lib.hid (show agesTo a req ch req.length = (a.pick req).2.ages by rw [HCH.out]; exact agesTo_all a req)
        have HPL := Lib.hid (show (a.pick req).2.ages.length = req.length by simp [Arb.pick])
        cases ch with
        | none =>
          have HPT := Lib.hid (show (a.pick req).2.ptr = a.ptr by show (match a.choice req with | some c => (c + 1) % req.length | none => a.ptr) = _; rw [← HCH.out])
          go_wp2_with fail
          go_ret2
          refine ⟨by rw [HPK.out]; rfl, Held.shut (f := fun v : Value => [tBlk p (arbRow (a.pick req).2 v), tSq eNat 3 v (a.pick req).2.ages]) (i := .slice (some ⟨ab, ao, none⟩) req.length ac) (ts := []) ?_⟩
          rw [← HAG.out, arbRow, HPT.out]
          exact HK.out
        | some c =>
          have hc := hcl c rfl
          have HPT := Lib.hid (show (a.pick req).2.ptr = (c + 1) % req.length by show (match a.choice req with | some c => (c + 1) % req.length | none => a.ptr) = _; rw [← HCH.out])
          have hch : chNum (some c) = (c : Int) := rfl
          have HCN := Lib.hid hch
          rw [hch]
          clear hch hcl
          go_wp2_with fail
          go_ret2
          refine ⟨by rw [HPK.out]; rfl, Held.shut (f := fun v : Value => [tBlk p (arbRow (a.pick req).2 v), tSq eNat 3 v (a.pick req).2.ages]) (i := .slice (some ⟨ab, ao, none⟩) req.length ac) (ts := []) ?_⟩
          rw [← HAG.out, arbRow, HPT.out]
          have := HK.out.set 0 rfl (.cells #[.int .i64 (((c + 1) % req.length : Nat) : Int), .slice (some ⟨ab, ao, none⟩) req.length ac] 132) (w' := wr.setCell ⟨p, 0, none⟩ (.int .i64 (((c : Int) + 1) % (req.length : Int)))) (by (repeat (first | (with_reducible exact Fr.refl _ _) | exact Or.inl rfl | (with_reducible refine Fr.setCell ?_ ?_ _) | (with_reducible refine Fr.drewN ?_ _) | (with_reducible refine Fr.drew ?_)))) (by (apply row_trans; focus (repeat (first | (with_reducible exact HROW.out) | (with_reducible apply row_set) | (with_reducible apply row_drewN) | (with_reducible apply row_drew)))); push_cast; rfl)
          exact this
end Go.Proofs.Ytcocnfbhileheaa
