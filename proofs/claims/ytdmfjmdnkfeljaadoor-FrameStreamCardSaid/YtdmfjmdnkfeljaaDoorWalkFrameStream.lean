/- The walk of FrameStream. -/
import Derived.Test.YtdmfjmdnkfeljaaDoorFrnI
namespace Go.Proofs.YtdmfjmdnkfeljaaDoor
open Go.RowKit

open Go.ChangeShapes Go.WideShapes Go.ChangeAt in
theorem opensPks {H : Type} {enc : TypeId × Value → H} {W : World} : Opens enc Tryd.prog W 57 (rSlice rPk) :=
  opens_slice Tryd.underlying57 (by kernel_rfl) opensPk (by decide)
def tagOf (idle : List Byte) (l : List Pk) (i : Nat) : Nat × Pk := (if i < idle.length then (idle.getD i 0).toNat % 16 else 0, l.getD i Pk.zero)
def tagged (idle : List Byte) (l : List Pk) (k : Nat) : List (Nat × Pk) := (List.range k).map (tagOf idle l)
theorem stream_snoc : ∀ (xs : List (Nat × Pk)) (n : Nat) (p : Pk), stream (xs ++ [(n, p)]) = stream xs ++ (List.replicate n 52 ++ symP p)
  | [], n, p => by simp [stream]
  | (m, q) :: xs, n, p => by
    show List.replicate m 52 ++ symP q ++ stream (xs ++ [(n, p)]) = (List.replicate m 52 ++ symP q ++ stream xs) ++ _
    rw [stream_snoc xs n p]; simp [List.append_assoc]
theorem tagged_succ (idle : List Byte) (l : List Pk) (k : Nat) : tagged idle l (k + 1) = tagged idle l k ++ [tagOf idle l k] := by
  unfold tagged; rw [List.range_succ, List.map_append]; rfl
theorem stream_succ (idle : List Byte) (l : List Pk) (k : Nat) : stream (tagged idle l (k + 1)) = stream (tagged idle l k) ++ (List.replicate (tagOf idle l k).1 52 ++ symP (tagOf idle l k).2) := by
  rw [tagged_succ, ← stream_snoc]
theorem tagged_snd (idle : List Byte) (l : List Pk) : (tagged idle l l.length).map (·.2) = l := by
  unfold tagged tagOf
  rw [List.map_map]
  apply List.ext_getElem
  · simp
  · intro i h1 h2
    simp [List.getD, h2]
theorem tagged_mem {idle : List Byte} {l : List Pk} {x : Nat × Pk} (h : x ∈ tagged idle l l.length) : x.2 ∈ l := by
  have := List.mem_map_of_mem (f := (·.2)) h
  rwa [tagged_snd] at this
theorem tag_lt (idle : List Byte) (l : List Pk) (k : Nat) : (tagOf idle l k).1 < 16 := by
  unfold tagOf
  dsimp only
  split <;> omega
/-- bytes in new memory from block B on, block x left alone -/
def Nbx (w : World) (B x : Nat) (v : Value) (bs : List Byte) : Prop := Sl w (fun k => B ≤ k ∧ k ≠ x) 5 1 v bs.length (cu bs)
theorem Nbx.of {w : World} {B : Nat} {v : Value} {bs : List Byte} (h : Nb w B v bs) {x : Nat} (hx : w.heap.size ≤ x) {w' : World} (hb : Below w.heap.size w w') : Nbx w' B x v bs :=
  Sl.mono (Sl.keep (Sl.bound h) fun k _ hl => hb.block k hl) fun k hk => ⟨hk.1, by have := hk.2; omega⟩
theorem Nbx.nb {w : World} {B x : Nat} {v : Value} {bs : List Byte} (h : Nbx w B x v bs) : Nb w B v bs := Sl.mono h fun _ hk => hk.1
theorem Nbx.below {w w' : World} {B x : Nat} {v : Value} {bs : List Byte} (h : Nbx w B x v bs) (hb : Below w.heap.size w w') : Nbx w' B x v bs := Sl.keep h fun k _ hl => hb.block k hl
theorem wpList_nbx {w : World} {ops : Array Oper} {rest : List Oper} {o : Oper} {a : Act} {Q : Exit → Act → World → Prop}
    (hg : o.guard = none) (s x : Operand) (hop : o.op = Op.call { callee := Callee.builtin Builtin.append, args := #[s, x], argTypes := #[22, 22] })
    (B z : Nat) (v : Value) (xs : List Byte) (hs : a.eval s = v) (hown : Nbx w B z v xs) (y : Value) (ys : List Byte) (hx : a.eval x = y) (hr : By w y ys) (hl : xs.length + ys.length ≤ 1000000) (hB : B ≤ w.heap.size) (hz : z < w.heap.size)
    (hK : ∀ a' c' w', Nbx w' B z (.slice a' (xs.length + ys.length) c') (xs ++ ys) → Below B w w' → w'.heap[z]? = w.heap[z]? → wpList Tryd.prog ops Q rest (a.put o.dst (.slice a' (xs.length + ys.length) c')) w') : wpList Tryd.prog ops Q (o :: rest) a w := by
  refine wpList_apps slB hg s x hop (fun k => B ≤ k ∧ k ≠ z) v xs.length (cu xs) hs hown y ys.length (cu ys) hx hr cu_one (by unfold maxLen; omega) (by omega) fun v' w' h1 h2 => ?_
  obtain ⟨a', c', rfl⟩ := h1.shape
  refine hK a' c' w' ?_ (h2.below hB fun k hk => hk.1) (h2.block z hz fun hk => hk.2 rfl)
  unfold Nbx
  rw [List.length_append, ← cu_app]
  exact h1.mono fun k hk => hk.elim id fun h => ⟨Nat.le_trans hB h, by omega⟩
set_option maxRecDepth 100000 in
set_option maxHeartbeats 8000000 in
theorem walkFrameStream (W : World) (v0 v1 : Value) (o0 : IsSl rPk W v0) (o1 : IsBytes W v1) (ht : Tabs W) :
    Calls Tryd.prog 10 #[v0, v1] W fun e w' => e = .returned (.bool true) ∧ Below W.heap.size W w' := by
  obtain ⟨l, hl⟩ := pks_of o0
  obtain ⟨idle, hid⟩ := o1
  obtain ⟨la, lc, rfl, _⟩ := hl.shape
  obtain ⟨ia, ic, rfl⟩ := hid.slice
  have HT := Lib.hid ht; have HL := Lib.hid hl; have HI := Lib.hid hid
  clear ht hl hid o0
  go_enter Tryd.func10, Tryd.ntmps10
  go_wp2_with fail
  refine (awake_any W HT.out).mono ?_
  rintro e w1 ⟨rfl, hb⟩
  have HB1 := Lib.hid hb; clear hb
  by_cases hbig : 8 < l.length
  · go_wp2_with fail
    go_ret
    exact ⟨rfl, HB1.out⟩
  by_cases hbig2 : 20 < idle.length
  · go_wp2_with fail
    go_ret
    exact ⟨rfl, HB1.out⟩
  have hl8 : l.length ≤ 8 := by omega
  have hi20 : idle.length ≤ 20 := by omega
  go_wp2_with fail
  refine (control_2 w1 (HT.out.below HB1.out).val).mono ?_
  rintro e w' ⟨rfl, rfl⟩
  go_wp2_with fail
  go_loopw [7, 32] (fun u i wr => ∃ k : Nat, k ≤ l.length ∧ i = .int .i64 (k : Int) ∧ (∃ a c, u = .slice a (stream (tagged idle l k)).length c) ∧ (stream (tagged idle l k)).length ≤ 200 * k ∧ Hid (∀ j, j < k → Good (l.getD j Pk.zero)) ∧ Hid (Nb wr W.heap.size u (stream (tagged idle l k))) ∧ Hid (Below W.heap.size W wr)) (fun _ i _ => l.length - (intOf i).toNat)
  case atStart => exact ⟨0, by omega, by go_num, ⟨none, 0, rfl⟩, by simp [tagged, stream], Lib.hid (fun j hj => by omega), Lib.hid (Nb.nil _ _), HB1⟩
  case round =>
    clear HB1
    obtain ⟨k, hk, rfl, ⟨ua, uc, rfl⟩, hsl, HGD, HO, HB⟩ := hrel
    by_cases hlt : k < l.length
    · obtain ⟨p, hp⟩ : ∃ p, l[k]? = some p := ⟨l[k], List.getElem?_eq_getElem hlt⟩
      have HGP := Lib.hid (show l.getD k Pk.zero = p by simp [List.getD, hp])
      obtain ⟨b, off, pa, pc, rfl, hz1, c0, c1, c2, c3, c4⟩ := pk_at HL.out hp
      have HZ := Lib.hid hz1.1
      have c0 := cell_later HB.out c0; have c1 := cell_later HB.out c1; have c2 := cell_later HB.out c2; have c3 := cell_later HB.out c3; have c4 := cell_later HB.out c4
      clear hz1 hp
      have HSS := Lib.hid (stream_succ idle l k)
      have htl := tag_lt idle l k
      have HTG := Lib.hid (show (tagOf idle l k).1 = if k < idle.length then (idle.getD k 0).toNat % 16 else 0 from rfl)
      have HT2 := Lib.hid (show (tagOf idle l k).2 = p from HGP.out)
      generalize tagOf idle l k = tg at *
      obtain ⟨n, q⟩ := tg
      obtain rfl : q = p := HT2.out
      clear HT2
      dsimp only at htl HSS HTG
      generalize stream (tagged idle l k) = ss at *
      have hws := HB.out.size
      by_cases hki : k < idle.length
      · rw [if_pos hki] at HTG
        obtain ⟨_, ⟨h0, _⟩ | ⟨ib, ioff, icp, e, _, _, _, hic⟩⟩ := (HI.out.below HB.out).cases
        · rw [h0] at hki; simp at hki
        obtain ⟨rfl, rfl⟩ : ia = some ⟨ib, ioff, none⟩ ∧ ic = icp := by simpa using e
        have hik := hic k hki
        have hibl := World.block_lt_of_cell? wr _ hik
        clear hic e
        generalize idle.getD k 0 = z at hik HTG
        have hz8 := U_lt8 z
        have hz0 := U_nonneg z
        have hzn : (U z) % 16 = (n : Int) := by have := HTG.out; have h2 : U z = ((z.toNat : Nat) : Int) := rfl; omega
        generalize U z = zi at hik hz8 hz0 hzn
        have hbc := World.block_lt_of_cell? wr _ c0
        go_wp2_with fail
        obtain ⟨w5, hw5⟩ : ∃ w5, w5 = wr.alloc (.cells #[.int .u8 (U q.kind), .int .i64 q.cls, .int .i64 q.number, .int .i64 q.value, .slice pa q.pay.length pc] 24) := ⟨_, rfl⟩
        rw [← hw5]
        have hb5 : Below wr.heap.size wr w5 := by rw [hw5]; exact below_alloc wr _
        have HR5 := Lib.hid (show w5.heap[wr.heap.size]? = some (.cells #[.int .u8 (U q.kind), .int .i64 q.cls, .int .i64 q.number, .int .i64 q.value, .slice pa q.pay.length pc] 24) by rw [hw5]; exact heap_alloc_new wr _)
        have HO5 := Lib.hid (Nbx.of HO.out (Nat.le_refl _) hb5)
        have HB5 := Lib.hid (HB.out.trans (hb5.mono hws))
        have HZ5 := Lib.hid (HZ.out.below HB5.out)
        obtain ⟨pb, hpb⟩ : ∃ pb, pb = wr.heap.size := ⟨_, rfl⟩
        rw [← hpb] at HR5 HO5 ⊢
        clear hpb hb5 hw5 c0 c1 c2 c3 c4
        try rw [hzn]
        have hw5 := HB5.out.size
        have HLT5 := Lib.hid (lt_of_block HR5.out)
        go_loopw [7, 46] (fun u i w2 => ∃ m : Nat, m ≤ n ∧ i = .int .u8 (m : Int) ∧ (∃ a c, u = .slice a (ss ++ List.replicate m (52 : Byte)).length c) ∧ Hid (Nbx w2 W.heap.size pb u (ss ++ List.replicate m 52)) ∧ Hid (Below W.heap.size W w2) ∧ Hid (w2.heap[pb]? = some (.cells #[.int .u8 (U q.kind), .int .i64 q.cls, .int .i64 q.number, .int .i64 q.value, .slice pa q.pay.length pc] 24))) (fun _ i _ => n - (intOf i).toNat)
        case atStart => exact ⟨0, by omega, by go_num, ⟨ua, uc, by simp⟩, Lib.hid (by simpa using HO5.out), HB5, HR5⟩
        case round =>
          obtain ⟨m, hm, rfl, ⟨ya, yc, rfl⟩, HO6, HB6, HR6⟩ := hrel
          have HZ6 := Lib.hid (HZ.out.below HB6.out)
          by_cases hmn : m < n
          · have hw6 := HB6.out.size
            have hpl := lt_of_block HR6.out
            generalize hys : ss ++ List.replicate m (52 : Byte) = ys at *
            have HYS := Lib.hid hys
            have hyl : ys.length ≤ 2000 := by rw [← hys]; simp; omega
            clear hys
            go_wp2_with (at_builtin; refine wpList_nbx rfl _ _ rfl W.heap.size pb (.slice ya ys.length yc) ys rfl (by exact HO6.out.below (below_alloc _ _)) _ [52] rfl (By_lit _ _ _ _ [52] 1 1 rfl rfl rfl (Nat.le_refl _) (by decide)) (by show ys.length + 1 ≤ _; omega) (by simp; omega) (by simp; omega) ?_; intro xa xc w8 hn8 hb8 hr8; have HN8 := Lib.hid hn8; have hb9 : Below W.heap.size wr w8 := ((below_alloc wr _).mono hw6).trans hb8; have HB8 := Lib.hid (HB6.out.trans hb9); have HR8 := Lib.hid (hr8.trans ((Below.heap_alloc _ _ _ hpl).trans HR6.out)); clear hn8 hb8 hr8)
            go_roundw
            case rel => exact ⟨m + 1, by omega, by go_num, ⟨xa, xc, by rw [List.replicate_succ', ← List.append_assoc, HYS.out]; simp⟩, Lib.hid (by rw [List.replicate_succ', ← List.append_assoc, HYS.out]; exact HN8.out), HB8, HR8⟩
            case measure => simp [intOf]; omega
          · obtain rfl : m = n := by omega
            obtain ⟨w6, hw6⟩ : ∃ w6, w6 = wr := ⟨_, rfl⟩
            have hzl : (ss ++ List.replicate m (52 : Byte)).length ≤ 200 * k + 16 := by simp; omega
            obtain ⟨d0, d1, d2, d3, d4⟩ := pk_cells HR6.out
            generalize hzz : ss ++ List.replicate m (52 : Byte) = zs at *
            have HZS := Lib.hid hzz
            clear hzz
            go_wp2_with fail
            rw [← hw6] at HO6 HB6 HR6 HZ6 ⊢
            clear hw6 d0 d1 d2 d3 d4
            by_cases hg : Good q
            · have HG := Lib.hid hg
              clear hg
              have hpq := HG.out.pay
              refine (symF_good q pa pc w6 HZ6.out (HT.out.below HB6.out) HG.out).mono ?_
              rintro e w7 ⟨v7, rfl, hn7, hb⟩
              have HN7 := Lib.hid hn7.by
              obtain ⟨sa, sc, rfl⟩ := hn7.slice
              have HO7 := Lib.hid (HO6.out.nb.below hb)
              have HB7 := Lib.hid (HB6.out.trans (hb.mono HB6.out.size))
              have hw7 := HB7.out.size
              clear hb hn7
              have hls : (symP q).length ≤ 164 := by rw [symP_length]; omega
              have HGD2 : Hid (∀ j, j < k + 1 → Good (l.getD j Pk.zero)) := Lib.hid (fun j hj => by
                by_cases hjk : j = k
                · rw [hjk, HGP.out]; exact HG.out
                · exact HGD.out j (by omega))
              generalize hqq : symP q = qq at *
              have HQQ := Lib.hid hqq
              clear hqq
              go_wp2_with (at_builtin; refine wpList_nb rfl _ _ rfl W.heap.size (.slice ya zs.length yc) (zs) rfl (by exact HO7.out) (.slice sa qq.length sc) qq rfl HN7.out (by omega) hw7 ?_; intro xa xc w8 hn8 hb8; have HN8 := Lib.hid hn8; have HB8 := Lib.hid (HB7.out.trans hb8); clear hn8 hb8)
              go_roundw
              case rel => exact ⟨k + 1, by omega, by go_num, ⟨xa, xc, by rw [HSS.out, ← List.append_assoc, HZS.out]; simp⟩, by rw [HSS.out]; simp; omega, HGD2, Lib.hid (by rw [HSS.out, ← List.append_assoc, HZS.out]; exact HN8.out), HB8⟩
              case measure => simp [intOf]; omega
            · have HG := Lib.hid hg
              clear hg
              refine (symF_bad q pa pc w6 HG.out).mono ?_
              rintro e w7 ⟨rfl, hb⟩
              have HB7 := Lib.hid (HB6.out.trans (hb.mono HB6.out.size))
              have HR7 := Lib.hid ((hb.block _ (lt_of_block HR6.out)).trans HR6.out)
              clear hb
              obtain ⟨d0, d1, d2, d3, d4⟩ := pk_cells HR7.out
              have hv : validP q = false := by rw [Bool.eq_false_iff]; exact fun e => HG.out (validP_iff.1 e)
              have HV := Lib.hid hv
              clear hv
              go_wp2_with fail
              refine (valid_any q pa pc w7).mono ?_
              rintro e w8 ⟨rfl, hb⟩
              rw [HV.out]
              have HB8 := Lib.hid (HB7.out.trans (hb.mono HB7.out.size))
              clear hb
              go_wp2_with fail
              go_ret
              exact ⟨rfl, HB8.out⟩
      · rw [if_neg hki] at HTG
        obtain rfl : n = 0 := HTG.out
        go_wp2_with fail
        obtain ⟨w5, hw5⟩ : ∃ w5, w5 = wr.alloc (.cells #[.int .u8 (U q.kind), .int .i64 q.cls, .int .i64 q.number, .int .i64 q.value, .slice pa q.pay.length pc] 24) := ⟨_, rfl⟩
        rw [← hw5]
        have hb5 : Below wr.heap.size wr w5 := by rw [hw5]; exact below_alloc wr _
        have HR5 := Lib.hid (show w5.heap[wr.heap.size]? = some (.cells #[.int .u8 (U q.kind), .int .i64 q.cls, .int .i64 q.number, .int .i64 q.value, .slice pa q.pay.length pc] 24) by rw [hw5]; exact heap_alloc_new wr _)
        have HO5 := Lib.hid (Nbx.of HO.out (Nat.le_refl _) hb5)
        have HB5 := Lib.hid (HB.out.trans (hb5.mono hws))
        have HZ5 := Lib.hid (HZ.out.below HB5.out)
        obtain ⟨pb, hpb⟩ : ∃ pb, pb = wr.heap.size := ⟨_, rfl⟩
        rw [← hpb] at HR5 HO5 ⊢
        clear hpb hb5 hw5 c0 c1 c2 c3 c4
        have HO6 := HO5; have HB6 := HB5; have HZ6 := HZ5; have HR6 := HR5
        obtain ⟨w6, hw6⟩ : ∃ w6, w6 = w5 := ⟨_, rfl⟩
        rw [← hw6] at HO6 HB6 HZ6 HR6 ⊢
        clear hw6
        by_cases hg : Good q
        · have HG := Lib.hid hg
          clear hg
          have hpq := HG.out.pay
          refine (symF_good q pa pc w6 HZ6.out (HT.out.below HB6.out) HG.out).mono ?_
          rintro e w7 ⟨v7, rfl, hn7, hb⟩
          have HN7 := Lib.hid hn7.by
          obtain ⟨sa, sc, rfl⟩ := hn7.slice
          have HO7 := Lib.hid (HO6.out.nb.below hb)
          have HB7 := Lib.hid (HB6.out.trans (hb.mono HB6.out.size))
          have hw7 := HB7.out.size
          clear hb hn7
          have hls : (symP q).length ≤ 164 := by rw [symP_length]; omega
          have HGD2 : Hid (∀ j, j < k + 1 → Good (l.getD j Pk.zero)) := Lib.hid (fun j hj => by
            by_cases hjk : j = k
            · rw [hjk, HGP.out]; exact HG.out
            · exact HGD.out j (by omega))
          generalize hqq : symP q = qq at *
          have HQQ := Lib.hid hqq
          clear hqq
          go_wp2_with (at_builtin; refine wpList_nb rfl _ _ rfl W.heap.size (.slice ua ss.length uc) (ss) rfl (by exact HO7.out) (.slice sa qq.length sc) qq rfl HN7.out (by omega) hw7 ?_; intro xa xc w8 hn8 hb8; have HN8 := Lib.hid hn8; have HB8 := Lib.hid (HB7.out.trans hb8); clear hn8 hb8)
          go_roundw
          case rel => exact ⟨k + 1, by omega, by go_num, ⟨xa, xc, by rw [HSS.out]; simp⟩, by rw [HSS.out]; simp; omega, HGD2, Lib.hid (by rw [HSS.out, ← List.append_assoc]; simpa using HN8.out), HB8⟩
          case measure => simp [intOf]; omega
        · have HG := Lib.hid hg
          clear hg
          refine (symF_bad q pa pc w6 HG.out).mono ?_
          rintro e w7 ⟨rfl, hb⟩
          have HB7 := Lib.hid (HB6.out.trans (hb.mono HB6.out.size))
          have HR7 := Lib.hid ((hb.block _ (lt_of_block HR6.out)).trans HR6.out)
          clear hb
          obtain ⟨d0, d1, d2, d3, d4⟩ := pk_cells HR7.out
          have hv : validP q = false := by rw [Bool.eq_false_iff]; exact fun e => HG.out (validP_iff.1 e)
          have HV := Lib.hid hv
          clear hv
          go_wp2_with fail
          refine (valid_any q pa pc w7).mono ?_
          rintro e w8 ⟨rfl, hb⟩
          rw [HV.out]
          have HB8 := Lib.hid (HB7.out.trans (hb.mono HB7.out.size))
          clear hb
          go_wp2_with fail
          go_ret
          exact ⟨rfl, HB8.out⟩
    · obtain rfl : k = l.length := by omega
      have HSC := Lib.hid (scan_stream 0 (tagged idle l l.length) (fun x hx => by
        obtain ⟨j, hj, e⟩ := List.getElem_of_mem (tagged_mem hx)
        have := HGD.out j hj
        rw [← e]; simpa [List.getD, hj] using this))
      have HSN := Lib.hid (tagged_snd idle l)
      generalize stream (tagged idle l l.length) = ss at *
      go_wp2_with fail
      refine (scan_any _ ss wr HO.out.by (HT.out.below HB.out) (by omega)).mono ?_
      rintro e w2 ⟨ga, gc, rfl, hrd, hb⟩
      have he : Sc.new.scan ss = (⟨false, [], 0⟩, l) := by have := HSC.out; rw [HSN.out] at this; exact this
      rw [he] at hrd ⊢
      have HB2 := Lib.hid (HB.out.trans (hb.mono HB.out.size))
      have HRD := Lib.hid hrd
      clear he hrd hb
      go_wp2_with fail
      refine (same_refl (.slice ga l.length gc) (.slice la l.length lc) l _ _ _ HRD.out (HL.out.below HB2.out) (by omega)).mono ?_
      rintro e w3 ⟨rfl, hb⟩
      have HB3 := Lib.hid (HB2.out.trans (hb.mono HB2.out.size))
      clear hb
      go_wp2_with fail
      go_ret
      exact ⟨rfl, HB3.out⟩
end Go.Proofs.YtdmfjmdnkfeljaaDoor
