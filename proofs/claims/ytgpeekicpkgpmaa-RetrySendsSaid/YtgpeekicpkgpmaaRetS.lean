/- A sender, the reference's sender and an operation side by side. -/
import Derived.Test.YtgpeekicpkgpmaaRetQ
import Derived.Test.YtgpeekicpkgpmaaRefD
import Derived.Test.YtgpeekicpkgpmaaRetP
namespace Go.Proofs.Ytgpeekicpkgpmaa
open Go.RowKit

/-- both senders, and a block b that holds o -/
def Mid (W : World) (p q b : Nat) (o : Obj) (s t : Snd) (w : World) : Prop := ∃ L, Fl (fun _ => False) W w L ∧ SnO w (Lab.is L 1) p s ∧ RsAt w (Lab.is L 2) q t ∧ Blk b o w (Lab.is L 3)
theorem Mid.below {W : World} {p q b : Nat} {o : Obj} {s t : Snd} {w : World} (h : Mid W p q b o s t w) : Below W.heap.size W w := by obtain ⟨L, h, _⟩ := h; exact h.end
theorem Mid.blk {W : World} {p q b : Nat} {o : Obj} {s t : Snd} {w : World} (h : Mid W p q b o s t w) : w.heap[b]? = some o := by obtain ⟨L, _, _, _, h⟩ := h; exact h.1
theorem Mid.own {W : World} {p q b : Nat} {o : Obj} {s t : Snd} {w w' : World} (h : Mid W p q b o s t w) (hb : Below w.heap.size w w') : Mid W p q b o s t w' := by
  obtain ⟨L, h1, h2, h3, h4⟩ := h
  exact ⟨L.new w 4, h1.own hb 4, (SnO.thing p s).below h2 hb, (RsAt.thing q t).below h3 hb, (Blk.thing b o).below h4 hb⟩
/-- both senders -/
def Two (W : World) (p q : Nat) (s t : Snd) (w : World) : Prop := ∃ L, Fl (fun _ => False) W w L ∧ SnO w (Lab.is L 1) p s ∧ RsAt w (Lab.is L 2) q t
theorem Two.below {W : World} {p q : Nat} {s t : Snd} {w : World} (h : Two W p q s t w) : Below W.heap.size W w := by obtain ⟨L, h, _⟩ := h; exact h.end
theorem Mid.both {W : World} {p q b : Nat} {o : Obj} {s t : Snd} {w : World} (h : Mid W p q b o s t w) : Two W p q s t w := by
  obtain ⟨L, h1, h2, h3, _⟩ := h; exact ⟨L, h1, h2, h3⟩
/-- another operation -/
theorem Two.next {W : World} {p q : Nat} {s t : Snd} {w : World} (h : Two W p q s t w) (o' : Obj) : Mid W p q w.heap.size o' s t (w.alloc o') := by
  obtain ⟨L, h1, h2, h3⟩ := h
  have hb := below_alloc w o'
  exact ⟨L.new w 3, h1.own hb 3, (SnO.thing p s).below h2 hb, (RsAt.thing q t).below h3 hb, heap_alloc_new w o', Lab.new_new (Nat.le_refl _)⟩
/-- a sender in a block of its own, and the reference's in the next one -/
theorem two_start {W w : World} {a b : Nat} {p : Nat} (hb : Below W.heap.size W w) (hp : W.heap.size ≤ p) (hs : SnO w (fun k => k = p) p (newSnd a b)) :
    Two W p w.heap.size (newSnd a b) (newSnd a b) (w.alloc (.cells (rsCells (newSnd a b) (.slice none 0 0)) 39 (0, 0))) := by
  have hpl := hs.plt
  refine ⟨fun k => if k = p then 1 else if k = w.heap.size then 2 else 0, ⟨((Fr.refl _ W).of_below hb).alloc _, fun k hk _ => ?_⟩, ?_, ?_⟩
  · have := hb.size
    simp only [show ¬ k = p by omega, show ¬ k = w.heap.size by omega, if_false]
  · exact (SnO.thing p _).of hs (by simp) (fun k _ hl => Below.heap_alloc w _ k hl) fun k hk _ => by show (if k = p then 1 else _) = 1; rw [if_pos hk]
  · refine ⟨?_, _, heap_alloc_new w _, Seq.nil _ _⟩
    show (if w.heap.size = p then 1 else if w.heap.size = w.heap.size then 2 else 0) = 2
    rw [if_neg (by omega), if_pos rfl]
theorem Mid.one {W : World} {p q b : Nat} {o : Obj} {t s' : Snd} {w w' : World} {L : Lab} (h1 : Fl (fun _ => False) W w L) (h3 : RsAt w (L.is 2) q t) (h4 : Blk b o w (L.is 3)) (hs : SnO w' (fun k => L.is 1 k ∨ w.heap.size ≤ k) p s') (hf : Fr (L.is 1) w w') : Mid W p q b o s' t w' :=
  ⟨L.new w 1, h1.call hf (by decide) 1, (SnO.thing p s').mine hs, (RsAt.thing q t).stay h3 hf (by decide), (Blk.thing b o).stay h4 hf (by decide)⟩
theorem Mid.two {W : World} {p q b : Nat} {o : Obj} {s t' : Snd} {w w' : World} {L : Lab} (h1 : Fl (fun _ => False) W w L) (h2 : SnO w (L.is 1) p s) (h4 : Blk b o w (L.is 3)) (hs : RsAt w' (fun k => L.is 2 k ∨ w.heap.size ≤ k) q t') (hf : Fr (L.is 2) w w') : Mid W p q b o s t' w' :=
  ⟨L.new w 2, h1.call hf (by decide) 2, (SnO.thing p s).stay h2 hf (by decide), (RsAt.thing q t').mine hs, (Blk.thing b o).stay h4 hf (by decide)⟩
section
variable {W : World} {p q b : Nat} {o : Obj} {s t : Snd} {w : World}
theorem mid_offer (h : Mid W p q b o s t w) (hok : s.Ok) (v : Value) (d : Bytes) (hv : By w v d) :
    Calls Try.prog 13 #[.pointer (some ⟨p, 0, none⟩), v] w fun e w' => e = .returned (.int .i64 ((s.offer d).1 : Int)) ∧ Mid W p q b o (s.offer d).2 t w' := by
  obtain ⟨L, h1, h2, h3, h4⟩ := h
  exact (offer_o h2 hok v d hv).mono fun e w' ⟨he, hs, hf⟩ => ⟨he, Mid.one h1 h3 h4 hs hf⟩
theorem mid_ack (h : Mid W p q b o s t w) (hok : s.Ok) (ht : s.total < 1000000000000) (n : Int) :
    Calls Try.prog 17 #[.pointer (some ⟨p, 0, none⟩), .int .i64 n] w fun e w' => e = .returned (.int .i64 ((s.ack n).1 : Int)) ∧ Mid W p q b o (s.ack n).2 t w' := by
  obtain ⟨L, h1, h2, h3, h4⟩ := h
  exact (ack_o h2 hok ht n).mono fun e w' ⟨he, hs, hf⟩ => ⟨he, Mid.one h1 h3 h4 ((SnO.thing p _).mono hs fun _ h => .inl h.1) hf⟩
theorem mid_nak (h : Mid W p q b o s t w) (hok : s.Ok) (ht : s.total < 1000000000000) (n : Int) :
    Calls Try.prog 16 #[.pointer (some ⟨p, 0, none⟩), .int .i64 n] w fun e w' => e = .returned (.int .i64 ((s.nak n).1 : Int)) ∧ Mid W p q b o (s.nak n).2 t w' := by
  obtain ⟨L, h1, h2, h3, h4⟩ := h
  exact (nak_o h2 hok ht n).mono fun e w' ⟨he, hs, hf⟩ => ⟨he, Mid.one h1 h3 h4 ((SnO.thing p _).mono hs fun _ h => .inl h.1) hf⟩
theorem mid_roffer (h : Mid W p q b o s t w) (hok : t.Ok) (ht : t.total < 1000000000000) (v : Value) (d : Bytes) (hv : By w v d) :
    Calls Try.prog 19 #[.pointer (some ⟨q, 0, none⟩), v] w fun e w' => e = .returned (.int .i64 ((t.offer d).1 : Int)) ∧ Mid W p q b o s (t.offer d).2 w' := by
  obtain ⟨L, h1, h2, h3, h4⟩ := h
  exact (roffer_any _ q t hok ht v d w h3 hv).mono fun e w' ⟨he, hs, hf⟩ => ⟨he, Mid.two h1 h2 h4 hs hf⟩
theorem mid_rack (h : Mid W p q b o s t w) (hok : t.Ok) (ht : t.total < 1000000000000) (n : Int) :
    Calls Try.prog 21 #[.pointer (some ⟨q, 0, none⟩), .int .i64 n] w fun e w' => e = .returned (.int .i64 ((t.ack n).1 : Int)) ∧ Mid W p q b o s (t.ack n).2 w' := by
  obtain ⟨L, h1, h2, h3, h4⟩ := h
  exact (rack_any _ q t hok ht n w h3).mono fun e w' ⟨he, hs, hf⟩ => ⟨he, Mid.two h1 h2 h4 ((RsAt.thing q _).mono hs fun _ h => .inl h) (hf.mono fun k hk => by subst hk; exact h3.mem)⟩
theorem mid_rnak (h : Mid W p q b o s t w) (hok : t.Ok) (ht : t.total < 1000000000000) (n : Int) :
    Calls Try.prog 22 #[.pointer (some ⟨q, 0, none⟩), .int .i64 n] w fun e w' => e = .returned (.int .i64 ((t.nak n).1 : Int)) ∧ Mid W p q b o s (t.nak n).2 w' := by
  obtain ⟨L, h1, h2, h3, h4⟩ := h
  exact (rnak_any _ q t hok ht n w h3).mono fun e w' ⟨he, hs, hf⟩ => ⟨he, Mid.two h1 h2 h4 ((RsAt.thing q _).mono hs fun _ h => .inl h) (hf.mono fun k hk => by subst hk; exact h3.mem)⟩
theorem mid_total (h : Mid W p q b o s t w) (hok : s.Ok) (ht : s.total < 1000000000000) :
    Calls Try.prog 23 #[.pointer (some ⟨p, 0, none⟩)] w fun e w' => e = .returned (.tuple #[.int .i64 ((s.acked : Int) + (s.kept.length : Int)), .int .i64 (s.acked : Int)]) ∧ Mid W p q b o s t w' := by
  have h' := h
  obtain ⟨L, h1, h2, h3, h4⟩ := h
  refine (total_o h2 hok ht).mono fun e w' ⟨he, n, hw⟩ => ⟨he, ?_⟩
  subst hw; exact h'.own (below_drew w n)
theorem mid_kept (h : Mid W p q b o s t w) :
    Calls Try.prog 14 #[.pointer (some ⟨p, 0, none⟩)] w fun e w' => e = .returned (.int .i64 (s.kept.length : Int)) ∧ w = w' := by
  obtain ⟨L, h1, h2, h3, h4⟩ := h
  exact kept_o h2
theorem Mid.ref (h : Mid W p q b o s t w) : ∃ ka kc, w.heap[q]? = some (.cells (rsCells t (.slice ka t.kept.length kc)) 39 (0, 0)) := by
  obtain ⟨L, h1, h2, h3, h4⟩ := h
  obtain ⟨kv, hr, hs⟩ := h3.seq
  obtain ⟨ka, kc, rfl⟩ := hs.shape
  exact ⟨ka, kc, hr⟩
/-- a tick of both: what both send is there behind both -/
theorem mid_ticks (h : Mid W p q b o s t w) (hok : s.Ok) (ht : s.total < 1000000000000) (hok' : t.Ok) (ht' : t.total < 1000000000000) :
    Calls Try.prog 15 #[.pointer (some ⟨p, 0, none⟩)] w fun e w' => ∃ v, e = .returned (.tuple #[.int .i64 ((s.tick.1.elim 0 (·.1) : Nat) : Int), v, .bool s.tick.1.isSome]) ∧
      By w' v (s.tick.1.elim [] (·.2)) ∧ Calls Try.prog 20 #[.pointer (some ⟨q, 0, none⟩)] w' fun e w'' => ∃ v', e = .returned (.tuple #[.int .i64 ((t.tick.1.elim 0 (·.1) : Nat) : Int), v', .bool t.tick.1.isSome]) ∧
        By w'' v' (t.tick.1.elim [] (·.2)) ∧ By w'' v (s.tick.1.elim [] (·.2)) ∧ Mid W p q b o s.tick.2 t.tick.2 w'' := by
  obtain ⟨L, h1, h2, h3, h4⟩ := h
  refine (tick_o h2 hok ht).mono fun e w1 ⟨v, he, hb, hs, hf⟩ => ⟨v, he, hb.1, ?_⟩
  have h3' : RsAt w1 ((L.new w 5).is 2) q t := (RsAt.thing q t).stay h3 hf (by decide)
  refine (rtick_any _ q t hok' ht' w1 h3').mono fun e w2 ⟨v', he', hb', hr, hf'⟩ => ⟨v', he', hb'.1, ?_, ?_⟩
  · exact (hb.keep fun k hk hl => hf'.block k hl (by have := h3.plt; omega)).1
  · have hf2 : Fr ((L.new w 5).is 2) w1 w2 := hf'.mono fun k hk => by subst hk; exact h3'.mem
    exact ⟨(L.new w 5).new w1 2, (h1.call hf (by decide) 5).call hf2 (by decide) 2, (SnO.thing p _).stay ((SnO.thing p _).mine_old hs) hf2 (by decide),
      (RsAt.thing q _).mine ((RsAt.thing q _).mono hr fun k hk => .inl hk), (Blk.thing b o).stay ((Blk.thing b o).stay h4 hf (by decide)) hf2 (by decide)⟩
end
end Go.Proofs.Ytgpeekicpkgpmaa
