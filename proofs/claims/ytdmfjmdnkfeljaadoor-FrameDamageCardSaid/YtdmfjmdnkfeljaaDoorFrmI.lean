/- The contract of the frame's Decode: short and malformed strings. Both tables must lie as laid. -/
import Derived.Test.YtdmfjmdnkfeljaaDoorFrmH
namespace Go.Proofs.YtdmfjmdnkfeljaaDoor
open Go.RowKit

theorem By.dropv {w : World} {b off n c : Nat} {bs : List Byte} (h : By w (.slice (some ⟨b, off, none⟩) n c) bs) {k : Nat} (hk : k ≤ n) : By w (.slice (if c = k then some ⟨b, off, none⟩ else some ⟨b, off + k, none⟩) (n - k) (c - k)) (bs.drop k) := by
  obtain ⟨_, a', c', e, h1, h2, h3, h4⟩ := h
  obtain ⟨rfl, rfl, rfl⟩ : some ⟨b, off, none⟩ = a' ∧ n = bs.length ∧ c = c' := by simpa using e
  refine ⟨by rw [cu_length, List.length_drop, Nat.mul_one], _, c - k, by rw [List.length_drop], by rw [List.length_drop]; omega, by omega, (fun e => by split at e <;> cases e), fun ad hb j u hj => ?_⟩
  have hjl : j < bs.length - k := by have := lt_of_get hj; rw [cu_length, List.length_drop] at this; exact this
  have hck : ¬ c = k := by omega
  rw [if_neg hck] at hb
  obtain rfl := Option.some.inj hb
  rw [cu, List.getElem?_map, List.getElem?_drop] at hj
  refine ⟨rfl, ?_⟩
  have := (h4 _ rfl (k + j) u (by rw [cu, List.getElem?_map]; exact hj)).2
  rw [← Nat.add_assoc] at this
  exact this
/-- what Decode returns -/
def DecF (w : World) (bs : List Byte) (e : Ending) (w' : World) : Prop := ∃ a c, e = .returned (.tuple #[.agg #[.int .u8 (U (decP bs).1.kind), .int .i64 (decP bs).1.cls, .int .i64 (decP bs).1.number, .int .i64 (decP bs).1.value, .slice a (decP bs).1.pay.length c], .int .i64 (decP bs).2]) ∧ Nb w' w.heap.size (.slice a (decP bs).1.pay.length c) (decP bs).1.pay ∧ Below w.heap.size w w'
theorem DecF.mk {w w' : World} {bs : List Byte} {r : Pk × Int} (h : decP bs = r) {a : Option Addr} {c : Nat} (h1 : Nb w' w.heap.size (.slice a r.1.pay.length c) r.1.pay) (h2 : Below w.heap.size w w') : DecF w bs (.returned (.tuple #[.agg #[.int .u8 (U r.1.kind), .int .i64 r.1.cls, .int .i64 r.1.number, .int .i64 r.1.value, .slice a r.1.pay.length c], .int .i64 r.2])) w' := by
  subst h; exact ⟨a, c, rfl, h1, h2⟩
theorem DecF.zero {w w' : World} {bs : List Byte} {n : Int} (h : decP bs = (Pk.zero, n)) (h2 : Below w.heap.size w w') : DecF w bs (.returned (.tuple #[.agg #[.int .u8 0, .int .i64 0, .int .i64 0, .int .i64 0, .slice none 0 0], .int .i64 n])) w' :=
  DecF.mk h (a := none) (c := 0) (Nb.nil _ _) h2
set_option maxRecDepth 100000 in
set_option maxHeartbeats 4000000 in
theorem decF_short (v : Value) (bs : List Byte) (w : World) (hb : By w v bs) (h : bs.length < 17) :
    Calls Tryd.prog 22 #[v] w (DecF w bs) := by
  have HD := Lib.hid (decP_short h)
  obtain ⟨a, cap, rfl⟩ := hb.slice
  clear hb
  go_enter Tryd.func22, Tryd.ntmps22
  go_wp2_with fail
  exact bodyPost_ret (v := .tuple #[.agg #[.int .u8 0, .int .i64 0, .int .i64 0, .int .i64 0, .slice none 0 0], .int .i64 4]) (by simp [results, Tryd.results22, go_sem]) rfl (DecF.zero HD.out (by (repeat (first | (with_reducible exact Below.refl _ _) | (with_reducible refine Bw.alloc ?_ _) | (with_reducible refine Bw.drewN ?_ _) | (with_reducible refine Bw.drew ?_)))))
set_option maxRecDepth 100000 in
set_option maxHeartbeats 4000000 in
theorem decF_form (v : Value) (bs : List Byte) (w : World) (hb : By w v bs) (h : 17 ≤ bs.length) (hm : bs.length ≤ 100000) (h2 : 64 < (bs.getD 12 0).toNat ∨ (bs.getD 12 0).toNat + 17 ≠ bs.length) :
    Calls Tryd.prog 22 #[v] w (DecF w bs) := by
  have HD := Lib.hid (decP_form h h2)
  obtain ⟨_, ⟨rfl, a, cap, rfl, _⟩ | ⟨b, off, cap, rfl, h0, hcap, hcm, hc⟩⟩ := hb.cases
  · simp at h
  have hc12 := hc 12 (by omega)
  clear hb hc
  rw [U_eq] at hc12
  have hm256 : (bs.getD 12 0).toNat < 256 := (bs.getD 12 0).isLt
  generalize (bs.getD 12 0).toNat = m at *
  have hlt : b < w.heap.size := World.block_lt_of_cell? w _ hc12
  by_cases h64 : 64 < m
  · clear h2
    go_enter Tryd.func22, Tryd.ntmps22
    go_wp2_with fail
    exact bodyPost_ret (v := .tuple #[.agg #[.int .u8 0, .int .i64 0, .int .i64 0, .int .i64 0, .slice none 0 0], .int .i64 3]) (by simp [results, Tryd.results22, go_sem]) rfl (DecF.zero HD.out (by (repeat (first | (with_reducible exact Below.refl _ _) | (with_reducible refine Bw.alloc ?_ _) | (with_reducible refine Bw.drewN ?_ _) | (with_reducible refine Bw.drew ?_)))))
  · have hne : ((m : Int) != (bs.length : Int) - 17) = true := by simp; omega
    clear h2
    go_enter Tryd.func22, Tryd.ntmps22
    go_wp2_with fail
    exact bodyPost_ret (v := .tuple #[.agg #[.int .u8 0, .int .i64 0, .int .i64 0, .int .i64 0, .slice none 0 0], .int .i64 3]) (by simp [results, Tryd.results22, go_sem]) rfl (DecF.zero HD.out (by (repeat (first | (with_reducible exact Below.refl _ _) | (with_reducible refine Bw.alloc ?_ _) | (with_reducible refine Bw.drewN ?_ _) | (with_reducible refine Bw.drew ?_)))))
end Go.Proofs.YtdmfjmdnkfeljaaDoor
