/- A port in memory: Tick. -/
import Derived.Test.YtcocnfbhileheaaPotC
import Derived.Test.YtcocnfbhileheaaPotP
namespace Go.Proofs.Ytcocnfbhileheaa
open Go.RowKit

theorem ptick_nil (v : Value) (w : World) : Calls Try.prog 15 #[.pointer none, v] w fun e w' => e = .returned (.slice none 0 0) ∧ w = w' := by
  go_enter Try.func15, Try.ntmps15
  go_wp2_with fail
  go_ret
  exact ⟨rfl, rfl⟩
theorem tick_some {s s' : Snd} (hok : s.Ok) {n : Nat} {d : Bytes} (h : s.tick = (some (n, d), s')) : n < 256 ∧ (n + 256 - s'.acked % 256) % 256 < s.kept.length := by
  have hk := hok.kept; have hw := hok.w2
  unfold Snd.tick at h
  split at h
  · cases h
  · split at h
    · split at h
      · cases h
      · unfold Snd.send at h
        dsimp only at h
        have h1 := congrArg Prod.fst h
        have h2 := congrArg Prod.snd h
        dsimp only at h1 h2
        subst h2
        obtain ⟨rfl, _⟩ : (s.acked + 0) % 256 = n ∧ _ := by simpa using h1
        dsimp only
        omega
    · unfold Snd.send at h
      dsimp only at h
      have h1 := congrArg Prod.fst h
      have h2 := congrArg Prod.snd h
      dsimp only at h1 h2
      subst h2
      obtain ⟨rfl, _⟩ : (s.acked + s.pos) % 256 = n ∧ _ := by simpa using h1
      dsimp only
      omega
/-- a port's side bears the port's incarnation -/
def Prt.Min (p : Prt) : Prop := p.side.mine = p.inc
theorem receive_mine (s : Side) (m y : Int) : (s.receive m y).mine = s.mine := by unfold Side.receive; split <;> rfl
theorem sideTick_mine (s : Side) : s.tick.mine = s.mine := by unfold Side.tick; split; rfl; split <;> rfl
theorem Prt.Min.handle {p : Prt} (h : p.Min) (x : Pt) : (p.handle x).Min := by
  unfold Prt.handle
  split
  · unfold Prt.greet
    dsimp only
    split
    · show (p.side.receive x.number x.value).mine = p.inc
      rw [receive_mine]; exact h
    · show (p.side.receive x.number x.value).mine = p.inc
      rw [receive_mine]; exact h
  · split
    · exact h
    · split
      · unfold Prt.receive; split
        · exact h
        · dsimp only; split <;> exact h
      · split
        · exact h
        · split
          · unfold Prt.raise; split <;> exact h
          · exact h
theorem Prt.Min.handles {p : Prt} (h : p.Min) : ∀ l : List Pt, (l.foldl Prt.handle p).Min
  | [] => h
  | x :: l => by rw [List.foldl_cons]; exact (h.handle x).handles l
abbrev Prt.hail (p : Prt) : Pt := ⟨1#8, 0, p.inc, p.side.tick.peer, []⟩
abbrev Prt.ackn (p : Prt) : Pt := ⟨3#8, 0, (p.rcv % 256 : Nat), p.inc, []⟩
abbrev Prt.cred (p : Prt) (c : Nat) : Pt := ⟨4#8, (c : Int), ((p.giv.getD c ⟨0, 0, 0⟩).limit : Int) - ((p.base.getD c 0 : Nat) : Int), p.inc, []⟩
theorem Prt.tick_down {a a1 : Prt} {l : List Pt} (h : a1 = l.foldl Prt.handle a) (hs : a1.side.tick.state ≠ 2) : a.tick l = ([a1.hail], { a1 with side := a1.side.tick }) := by
  unfold Prt.tick; rw [← h]; exact if_pos hs
theorem Prt.tick_up {a a1 : Prt} {l : List Pt} (h : a1 = l.foldl Prt.handle a) (hs : a1.side.tick.state = 2) : a.tick l =
    (match (Prt.choose { a1 with side := a1.side.tick }).snd.tick with
    | (some (n, d), s) => (a1.hail :: a1.ackn :: (List.range a1.base.length).map a1.cred ++ [⟨2#8, (Prt.classOf { Prt.choose { a1 with side := a1.side.tick } with snd := s } n : Nat), n, (Prt.choose { a1 with side := a1.side.tick }).inc, d⟩], { Prt.choose { a1 with side := a1.side.tick } with snd := s })
    | (none, s) => (a1.hail :: a1.ackn :: (List.range a1.base.length).map a1.cred, { Prt.choose { a1 with side := a1.side.tick } with snd := s })) := by
  unfold Prt.tick; rw [← h]; exact if_neg (fun h => h hs)
def TickPost (F Z : BS) (W : World) (ts : List Th) (p : Nat) (r : List Pt × Prt) (e : Ending) (w' : World) : Prop :=
  ∃ (sa : Option Addr) (sc : Nat), e = .returned (.slice sa r.1.length sc) ∧ Held F Z W (tSq ePt 33 (.slice sa r.1.length sc) r.1 :: tPort p r.2 :: ts) w'
section
variable {F Z : BS} {W w : World} {ts : List Th} {p N : Nat} {a : Prt}
theorem sideTick_h {sp : Nat} {s : Side} (h : Held F Z W ts w) (i : Nat) (hi : ts[i]? = some (tSide sp s)) (hok : s.Ok) :
    Calls Try.prog 46 #[.pointer (some ⟨sp, 0, none⟩)] w fun e w' => e = .returned (.agg #[.int .i64 (s.tick.mine : Int), .int .i64 (s.tick.peer : Int)]) ∧ Held F Z W (ts.set i (tSide sp s.tick)) w' :=
  h.act i hi fun G Y hd hon => (sideTick_any sp s w hon.2 hok).mono fun e w' ⟨he, h1, h2⟩ => ⟨he, Did.same (T := tSide sp s.tick) (h2.mono fun k hk => by subst hk; exact hon.1) ⟨hon.1, h1⟩ hd⟩
set_option maxRecDepth 100000 in
set_option maxHeartbeats 16000000 in
theorem tick_c (arrived : List Pt) (av : Value) (hok : a.Ok N) (hmi : a.Min) (hN : N + 200 * arrived.length + 1000 ≤ 1000000000) (harr : ∀ x ∈ arrived, x.pay.length ≤ 1000) (h : Held F Z W (tPort p a :: ts) w) (j : Nat) (hj : ts[j]? = some (tRd ePt av arrived)) :
    Calls Try.prog 15 #[.pointer (some ⟨p, 0, none⟩), av] w (TickPost F Z W ts p (a.tick arrived)) := by
  obtain ⟨_, _, hrd⟩ := h.get (j + 1) (T := tRd ePt av arrived) (by simpa using hj)
  obtain ⟨aa, ac, rfl, m1, m2⟩ := RdS.shape hrd
  have HH := Lib.hid h
  have HOK := Lib.hid hok
  have HARR := Lib.hid harr
  have HJ := Lib.hid hj
  have HMI := Lib.hid (hmi.handles arrived)
  clear hrd h hok harr hj hmi
  go_enter Try.func15, Try.ntmps15
  go_wp2_with fail
  go_loopw [19, 6] (fun i _ wr => ∃ k : Nat, k ≤ arrived.length ∧ i = .int .i64 (k : Int) ∧ Hid (Held F Z W (tPort p ((arrived.take k).foldl Prt.handle a) :: ts) wr)) (fun i _ _ => arrived.length - (intOf i).toNat)
  case atStart => exact ⟨0, Nat.zero_le _, rfl, HH⟩
  case round =>
    clear HH
    obtain ⟨k, hk, rfl, HK⟩ := hrel
    by_cases hlt : k < arrived.length
    · obtain ⟨x, hx⟩ : ∃ x, arrived[k]? = some x := ⟨_, List.getElem?_eq_getElem hlt⟩
      obtain ⟨_, _, hrd⟩ := HK.out.get (j + 1) (T := tRd ePt (.slice aa arrived.length ac) arrived) (by simpa using HJ.out)
      obtain ⟨b, off, pa, pc, e1, _, k0, k1, k2, k3, k4⟩ := pt_at hrd hx
      subst e1
      have HW := Lib.hid (HK.out.weak (j + 1) (A := tRd ePt (.slice (some ⟨b, off, none⟩) arrived.length ac) arrived) (T := tBy (.slice pa x.pay.length pc) x.pay) (by simpa using HJ.out) fun G Y hon => by
        obtain ⟨b', off', pa', pc', e', hby, _, _, _, _, k4'⟩ := pt_at (show RdS ePt wr Y _ _ from hon) hx
        obtain ⟨rfl, rfl⟩ : b = b' ∧ off = off' := by simpa using e'
        rw [k4] at k4'
        obtain ⟨rfl, rfl⟩ : pa = pa' ∧ pc = pc' := by simpa using k4'
        exact hby)
      have hokk := HOK.out.handles (arrived.take k) fun y hy => HARR.out y (List.mem_of_mem_take hy)
      have hlk : (arrived.take k).length ≤ arrived.length := by rw [List.length_take]; omega
      have hbx := below_alloc wr (ptCells x (.slice pa x.pay.length pc))
      have HQ := Lib.hid (handle_c (ts := ts ++ [tBy (.slice pa x.pay.length pc) x.pay]) x (.slice pa x.pay.length pc) hokk (by omega) (show Held F Z W (tPort p ((arrived.take k).foldl Prt.handle a) :: (ts ++ [tBy (.slice pa x.pay.length pc) x.pay])) (wr.alloc (ptCells x (.slice pa x.pay.length pc))) from HW.out.own hbx) ts.length (by simp) (HARR.out x (List.mem_of_getElem? hx)))
      have HT := Lib.hid (show (arrived.take (k + 1)).foldl Prt.handle a = ((arrived.take k).foldl Prt.handle a).handle x by rw [List.take_add_one, hx, List.foldl_append]; rfl)
      clear hrd hx hokk hbx hlk
      go_wp2_with fail
      refine HQ.out.mono ?_
      rintro e w' ⟨rfl, hh⟩
      have H2 := Lib.hid (show Held F Z W (tPort p ((arrived.take (k + 1)).foldl Prt.handle a) :: ts) w' by
        rw [HT.out]
        exact Held.dropLast (us := [tPort p (((arrived.take k).foldl Prt.handle a).handle x)]) hh)
      clear hh HQ HW k0 k1 k2 k3 k4
      go_wp2_with fail
      go_roundw
      case rel => exact ⟨k + 1, by omega, by go_num, H2⟩
      case measure => simp [intOf]; omega
    · obtain rfl : arrived.length = k := by omega
      rw [List.take_length] at HK
      have HOK1 := Lib.hid (HOK.out.handles arrived HARR.out)
      obtain ⟨a1, ha1⟩ : ∃ a1, a1 = arrived.foldl Prt.handle a := ⟨_, rfl⟩
      rw [← ha1] at HK HOK1 HMI
      have HA1 := Lib.hid ha1
      obtain ⟨y, hst⟩ := HK.out.port'
      obtain ⟨rv, sp, ap, wv, bv, snp, rcp, tkp, gvp, bsv, kv, acv, rev, tav⟩ := y
      have hrow := hst.blk 0 rfl
      obtain ⟨c0, _, _, _, _, c5, _⟩ := port_cells hrow
      dsimp only at c0 c5
      have H1 := Lib.hid hst
      have HSD := Lib.hid (sideTick_h hst 2 rfl HOK1.out.side)
      clear hst hrow ha1 HK HOK HARR
      go_wp2_with fail
      refine HSD.out.mono ?_
      rintro e w2 ⟨rfl, hh⟩
      have H2 := Lib.hid (show Held F Z W (portThs p { a1 with side := a1.side.tick } ⟨rv, sp, ap, wv, bv, snp, rcp, tkp, gvp, bsv, kv, acv, rev, tav⟩ ++ ts) w2 from hh)
      rw [show a1.side.tick.mine = a1.inc by rw [sideTick_mine]; exact HMI.out]
      clear hh HSD H1 c0 c5
      go_upto_region 11 with fail
      have h4 := (H2.out.alloc (.cells #[.int .i64 (a1.inc : Int), .int .i64 (a1.side.tick.peer : Int)] 110)).lit_pt (x := a1.hail) (v := .slice none 0 0) fun Y => ByZ.nil _ Y
      rw [World.size_alloc] at h4
      change Held F Z W _ ((w2.alloc (.cells #[.int .i64 (a1.inc : Int), .int .i64 (a1.side.tick.peer : Int)] 110)).alloc (.cells #[.int .u8 1, .int .i64 0, .int .i64 (a1.inc : Int), .int .i64 (a1.side.tick.peer : Int), .slice none 0 0] 33)) at h4
      generalize (w2.alloc (.cells #[.int .i64 (a1.inc : Int), .int .i64 (a1.side.tick.peer : Int)] 110)).alloc (.cells #[.int .u8 1, .int .i64 0, .int .i64 (a1.inc : Int), .int .i64 (a1.side.tick.peer : Int), .slice none 0 0] 33) = w4 at h4 ⊢
      generalize w2.heap.size + 1 = lb at h4 ⊢
      have H4 := Lib.hid (show Held F Z W (tSq ePt 33 (.slice (some ⟨lb, 0, none⟩) 1 1) [a1.hail] :: (portThs p { a1 with side := a1.side.tick } ⟨rv, sp, ap, wv, bv, snp, rcp, tkp, gvp, bsv, kv, acv, rev, tav⟩ ++ ts)) w4 from h4)
      have hrow := h4.blk 1 rfl
      have c5 := (port_cells hrow).2.2.2.2.2.1
      have c11 := (port_cells hrow).2.2.2.2.2.2.2.2.2.2.2.1
      dsimp only at c5 c11
      obtain ⟨_, _, hsd⟩ := h4.get 3 rfl
      have HST := Lib.hid (state_any sp a1.side.tick w4 hsd.2)
      obtain ⟨_, _, hrc⟩ := h4.get 8 rfl
      obtain ⟨rx, hrx⟩ : ∃ rx : Nat, rx = a1.rcv % 256 := ⟨_, rfl⟩
      have HRX := Lib.hid hrx
      have hrxi : (a1.rcv : Int) % 256 = (rx : Int) := by omega
      have hex := expected_any rcp a1.rcv w4 hrc.1
      rw [hrxi] at hex
      have HEX := Lib.hid hex
      clear hrx hrxi hex
      clear h4 hrow hsd hrc H2
      by_cases hup : a1.side.tick.state = 2
      · have b1 : ((a1.side.tick.state : Int) != 2) = false := by rw [hup]; rfl
        have HUP := Lib.hid hup
        clear hup
        go_upto_region 13 with (go_at_call 47; refine HST.out.mono ?_; rintro e w' ⟨rfl, rfl⟩)
        go_upto_region 14 with (first
          | (go_at_call 48; refine HEX.out.mono ?_; rintro e w' ⟨rfl, rfl⟩)
          | (at_builtin; refine wpList_app_pt (xs := [a1.hail]) (x := ⟨3#8, 0, (rx : Int), a1.inc, []⟩) (pa := none) (pn := 0) (pc := 0) rfl _ _ rfl H4.out 0 rfl (fun Y _ => ByZ.nil _ Y) (below_alloc w4 _) (by simp) rfl w4.heap.size rfl (heap_alloc_new w4 _) ?_; intro sa sc w5 h5; have H5 := Lib.hid h5; clear h5))
        have HL2 := Lib.hid (show [a1.hail] ++ [(⟨3#8, 0, (rx : Int), a1.inc, []⟩ : Pt)] = a1.hail :: a1.ackn :: (List.range 0).map a1.cred by rw [HRX.out]; rfl)
        rw [HL2.out] at H5
        obtain ⟨_, _, hbs⟩ := H5.out.get 11 rfl
        obtain ⟨sb, so, sk, e6, r1, r2⟩ := sq_some (show Sq eNat 3 w5 _ _ bsv a1.base from hbs) (by rw [HOK1.out.sl]; exact HOK1.out.n1)
        subst e6
        have hrow := H5.out.blk 1 rfl
        have c14 := (port_cells hrow).2.2.2.2.2.2.2.2.2.2.2.2.2.2.1
        dsimp only at c14
        rw [HOK1.out.sl] at c14
        have H6 := Lib.hid (show Held F Z W (tSq ePt 33 (.slice sa (a1.hail :: a1.ackn :: (List.range 0).map a1.cred).length sc) (a1.hail :: a1.ackn :: (List.range 0).map a1.cred) :: (portThs p { a1 with side := a1.side.tick } ⟨rv, sp, ap, wv, bv, snp, rcp, tkp, gvp, .slice (some ⟨sb, so, none⟩) a1.base.length sk, kv, acv, rev, tav⟩ ++ ts)) w5 from H5.out)
        have hbl : a1.rooms.length ≤ 4 := HOK1.out.n4
        clear hbs hrow H5 H4 HST HEX c5 c11 HL2
        go_wp2_with fail
        go_loopw [65, 9, 10, 11] (fun i u9 _ _ wr => ∃ (k : Nat) (l : List Pt) (sa : Option Addr) (sc : Nat), k ≤ a1.rooms.length ∧ i = .int .i64 (k : Int) ∧ u9 = .slice sa l.length sc ∧ Hid (l = a1.hail :: a1.ackn :: (List.range k).map a1.cred) ∧ l.length ≤ 6 ∧ Hid (Held F Z W (tSq ePt 33 (.slice sa l.length sc) l :: (portThs p { a1 with side := a1.side.tick } ⟨rv, sp, ap, wv, bv, snp, rcp, tkp, gvp, .slice (some ⟨sb, so, none⟩) a1.base.length sk, kv, acv, rev, tav⟩ ++ ts)) wr)) (fun i _ _ _ _ => a1.rooms.length - (intOf i).toNat)
        case atStart => exact ⟨0, _, sa, sc, Nat.zero_le _, rfl, rfl, Lib.hid rfl, by simp, H6⟩
        case round =>
          clear H6 c14
          obtain ⟨k, l, ua, uc, hk, rfl, rfl, HLL, hl6, HK⟩ := hrel
          by_cases hlt : k < a1.rooms.length
          · have hrow := HK.out.blk 1 rfl
            have c13 := (port_cells hrow).2.2.2.2.2.2.2.2.2.2.2.2.2.1
            dsimp only at c13
            obtain ⟨_, _, hbs⟩ := HK.out.get 11 rfl
            have hz := getD_of (d := 0) (show k < a1.base.length by rw [HOK1.out.sl]; exact hlt)
            have hzb := HOK1.out.bas _ (List.mem_of_getElem? hz)
            have hzc := nat_cell (show Sq eNat 3 wr _ _ (.slice (some ⟨sb, so, none⟩) a1.base.length sk) a1.base from hbs) hz
            obtain ⟨_, _, hgv⟩ := HK.out.get 10 rfl
            have hg := getD_of (d := (⟨0, 0, 0⟩ : Giv)) (show k < a1.giv.length by rw [HOK1.out.gl]; exact hlt)
            have hgb := HOK1.out.giv _ (List.mem_of_getElem? hg)
            have HLM := Lib.hid (limit_any hgv (by rw [HOK1.out.gl]; exact hbl) hg (by omega) (by omega))
            obtain ⟨z, hzz⟩ : ∃ z, z = a1.base.getD k 0 := ⟨_, rfl⟩
            obtain ⟨g, hgg⟩ : ∃ g, g = a1.giv.getD k ⟨0, 0, 0⟩ := ⟨_, rfl⟩
            have HZ := Lib.hid hzz
            have HGG := Lib.hid hgg
            rw [← hzz] at hzb hzc
            rw [← hgg] at hgb HLM
            obtain ⟨g1, g2, g3⟩ := hgb
            clear hrow hbs hz hgv hg hzz hgg
            go_wp2_with fail
            refine HLM.out.mono ?_
            rintro e w6 ⟨rfl, hb6⟩
            have HCR := Lib.hid (show (⟨4#8, (k : Int), (g.room : Int) + (g.freed : Int) - (z : Int), a1.inc, []⟩ : Pt) = a1.cred k by
              unfold Prt.cred
              rw [← HGG.out, ← HZ.out]
              unfold Giv.limit
              rw [Int.natCast_add])
            have HB6 := Lib.hid hb6
            clear hb6 HLM
            have hgm : (g.room : Int) + (g.freed : Int) ≤ 2000000000 := by omega
            have hgm2 : 0 ≤ (g.room : Int) + (g.freed : Int) := by omega
            have hzi : (z : Int) ≤ 1000000000 := by omega
            go_upto_region 18 with (at_builtin; refine wpList_app_pt (xs := l) (x := ⟨4#8, (k : Int), (g.room : Int) + (g.freed : Int) - (z : Int), a1.inc, []⟩) (pa := none) (pn := 0) (pc := 0) rfl _ _ rfl HK.out 0 rfl (fun Y _ => ByZ.nil _ Y) (HB6.out.trans ((below_alloc w6 _).mono HB6.out.size)) (by omega) rfl w6.heap.size rfl (heap_alloc_new w6 _) ?_; intro va vc w7 h7; have H7 := Lib.hid h7; clear h7)
            have HL7 := Lib.hid (show l ++ [(⟨4#8, (k : Int), (g.room : Int) + (g.freed : Int) - (z : Int), a1.inc, []⟩ : Pt)] = a1.hail :: a1.ackn :: (List.range (k + 1)).map a1.cred by
              rw [HLL.out, HCR.out, List.range_succ, List.map_append]; rfl)
            have h7 := H7.out
            rw [HL7.out] at h7
            obtain ⟨l', hl'⟩ : ∃ l', l' = a1.hail :: a1.ackn :: (List.range (k + 1)).map a1.cred := ⟨_, rfl⟩
            have hlen : l.length + 1 = l'.length := by rw [hl', ← HL7.out]; simp
            have hl6' : l'.length ≤ 6 := by rw [hl']; simp; omega
            rw [← hl'] at h7
            have H8 := Lib.hid h7
            have HLL' := Lib.hid hl'
            rw [hlen]
            clear h7 hl' H7 HL7 c13 hzc HB6 hlen
            go_wp2_with fail
            go_roundw
            case rel => exact ⟨k + 1, l', va, vc, by omega, by go_num, rfl, HLL', hl6', H8⟩
            case measure => simp [intOf]; omega
          · obtain rfl : a1.rooms.length = k := by omega
            have hA := (Held.port_shut (ts := ts ++ [tSq ePt 33 (.slice ua l.length uc) l]) (show Held F Z W (portThs p { a1 with side := a1.side.tick } ⟨rv, sp, ap, wv, bv, snp, rcp, tkp, gvp, .slice (some ⟨sb, so, none⟩) a1.base.length sk, kv, acv, rev, tav⟩ ++ (ts ++ [tSq ePt 33 (.slice ua l.length uc) l])) wr by rw [← List.append_assoc]; exact Held.rear HK.out))
            obtain ⟨M, hM⟩ : ∃ M, M = N + 200 * arrived.length := ⟨_, rfl⟩
            have hokA : Prt.Ok M { a1 with side := a1.side.tick } := by rw [hM]; exact HOK1.out.sideTick
            have HCH := Lib.hid (choose_c hokA (by omega) hA)
            have HTU := Lib.hid (Prt.tick_up HA1.out HUP.out)
            have hok2 := hokA.choose
            have hinc : (Prt.choose { a1 with side := a1.side.tick }).inc = a1.inc := by
              unfold Prt.choose
              split
              · rfl
              · split <;> rfl
            obtain ⟨a2, ha2⟩ : ∃ a2, a2 = Prt.choose { a1 with side := a1.side.tick } := ⟨_, rfl⟩
            rw [← ha2] at HCH HTU hok2 hinc
            have HOK2 := Lib.hid hok2
            have HINC := Lib.hid hinc
            have HLB := Lib.hid (show l = a1.hail :: a1.ackn :: (List.range a1.base.length).map a1.cred by rw [HLL.out, HOK1.out.sl])
            clear hA hokA hok2 hinc ha2
            go_wp2_with fail
            refine HCH.out.mono ?_
            rintro e w3 ⟨rfl, hh⟩
            obtain ⟨y', hst⟩ := hh.port'
            obtain ⟨rv', sp', ap', wv', bv', snp', rcp', tkp', gvp', bsv', kv', acv', rev', tav'⟩ := y'
            have c10 := (port_cells (hst.blk 0 rfl)).2.2.2.2.2.2.2.2.2.2.1
            dsimp only at c10
            have HTS := Lib.hid (stick_h hst 6 rfl HOK2.out.snd (by have := HOK2.out.tot; omega))
            clear hh hst HCH HK
            go_wp2_with fail
            cases ht : a2.snd.tick with
            | mk o s' =>
            rw [ht] at HTS HTU
            have HTT := Lib.hid ht
            clear ht
            cases o with
            | none =>
              refine HTS.out.mono ?_
              rintro e w5 ⟨v, rfl, hh⟩
              have h5 : Held F Z W (portThs p { a2 with snd := s' } ⟨rv', sp', ap', wv', bv', snp', rcp', tkp', gvp', bsv', kv', acv', rev', tav'⟩ ++ (ts ++ [tSq ePt 33 (.slice ua l.length uc) l])) w5 := Held.tail (Held.front hh)
              have H5 := Lib.hid h5
              clear hh h5 HTS
              go_wp2_with fail
              go_ret
              refine ⟨ua, uc, by rw [HTU.out]; dsimp only; rw [← HLB.out]; rfl, ?_⟩
              rw [HTU.out, ← HLB.out]
              exact Held.front (ts := tPort p { a2 with snd := s' } :: ts) (Held.port_shut (ts := ts ++ [tSq ePt 33 (.slice ua l.length uc) l]) H5.out)
            | some nd =>
              obtain ⟨n, d⟩ := nd
              have hts := tick_some HOK2.out.snd HTT.out
              have hkk := HOK2.out.keptl
              have hok3 := HOK2.out.sndTick
              rw [HTT.out] at hok3
              refine HTS.out.mono ?_
              rintro e w5 ⟨v, rfl, hh⟩
              obtain ⟨_, _, hby⟩ := (Held.front hh).get 0 rfl
              obtain ⟨va, vc, rfl⟩ := ByZ.slice hby
              have h5 : Held F Z W (tPort p { a2 with snd := s' } :: (ts ++ [tSq ePt 33 (.slice ua l.length uc) l] ++ [tBy (.slice va d.length vc) d])) w5 := Held.port_shut (x := ⟨rv', sp', ap', wv', bv', snp', rcp', tkp', gvp', bsv', kv', acv', rev', tav'⟩) (by rw [← List.append_assoc]; exact hh)
              have HCL := Lib.hid (class_c (a := { a2 with snd := s' }) n hok3 (by omega) hts.1 (by show _ < a2.kept.length; rw [hkk]; exact hts.2) h5)
              clear hh h5 HTS hts hkk hok3 hby
              dsimp only [Option.elim, Option.isSome]
              go_wp2_with fail
              refine HCL.out.mono ?_
              rintro e w6 ⟨rfl, hh⟩
              have H6 := Lib.hid (show Held F Z W (tSq ePt 33 (.slice ua l.length uc) l :: tBy (.slice va d.length vc) d :: tPort p { a2 with snd := s' } :: ts) w6 from
                Held.front (ts := tBy (.slice va d.length vc) d :: tPort p { a2 with snd := s' } :: ts) (Held.front (ts := tPort p { a2 with snd := s' } :: (ts ++ [tSq ePt 33 (.slice ua l.length uc) l])) hh))
              obtain ⟨cl, hcl⟩ : ∃ cl, cl = Prt.classOf { a2 with snd := s' } n := ⟨_, rfl⟩
              rw [← hcl] at HTU ⊢
              clear hh HCL hcl
              go_upto_region 23 with (at_builtin; refine wpList_app_pt (xs := l) (x := ⟨2#8, (cl : Int), (n : Int), a1.inc, d⟩) (pa := va) (pn := d.length) (pc := vc) rfl _ _ rfl H6.out 0 rfl (fun Y hO => by obtain ⟨_, _, hb⟩ := hO 1 _ (by decide) rfl; exact hb) (below_alloc w6 _) (by omega) rfl w6.heap.size rfl (heap_alloc_new w6 _) ?_; intro xa xc w7 h7; have H7 := Lib.hid h7; clear h7)
              go_wp2_with fail
              go_ret
              have HF := HTU.out
              rw [← HLB.out, HINC.out] at HF
              refine ⟨xa, xc, by rw [HF]; dsimp only; rw [List.length_append]; rfl, ?_⟩
              rw [HF]
              have h7 := H7.out
              rw [← HINC.out] at h7 ⊢
              exact Held.pickL (us := [tSq ePt 33 (.slice xa (l ++ [(⟨2#8, (cl : Int), (n : Int), a2.inc, d⟩ : Pt)]).length xc) (l ++ [(⟨2#8, (cl : Int), (n : Int), a2.inc, d⟩ : Pt)]), tBy (.slice va d.length vc) d, tPort p { a2 with snd := s' }]) (vs := [tSq ePt 33 (.slice xa (l ++ [(⟨2#8, (cl : Int), (n : Int), a2.inc, d⟩ : Pt)]).length xc) (l ++ [(⟨2#8, (cl : Int), (n : Int), a2.inc, d⟩ : Pt)]), tPort p { a2 with snd := s' }]) h7 [0, 2] (by decide) rfl
      · have b1 : ((a1.side.tick.state : Int) != 2) = true := by rw [bne_iff_ne]; omega
        have HG := Lib.hid (Prt.tick_down HA1.out hup)
        clear hup
        go_wp2_with (go_at_call 47; refine HST.out.mono ?_; rintro e w' ⟨rfl, rfl⟩)
        go_ret
        refine ⟨some ⟨lb, 0, none⟩, 1, ?_, ?_⟩
        · rw [HG.out]; rfl
        · rw [HG.out]
          exact Held.front (ts := [tPort p { a1 with side := a1.side.tick }] ++ ts) (by
            rw [List.append_assoc]
            exact Held.port_shut (ts := ts ++ [tSq ePt 33 (.slice (some ⟨lb, 0, none⟩) 1 1) [a1.hail]]) (by rw [← List.append_assoc]; exact Held.rear H4.out))
end
end Go.Proofs.Ytcocnfbhileheaa
