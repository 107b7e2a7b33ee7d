/- The two laid tables, out of the row's premise. No condition on the program. -/
import Derived.Test.YtdmfjmdnkfeljaaDoorFrmA
import Derived.Lib.LaidTab
namespace Go.Proofs.YtdmfjmdnkfeljaaDoor
open Go.RowKit

theorem laidMet_tail {P : Program} {x : String × DataW Unit} {rest : List (String × DataW Unit)} {W : World} (h : laidMet P (x :: rest) W) : laidMet P rest W := by
  obtain ⟨ps, ⟨g, t, cs, fuel, p, q, _, _, _, _, hr, rfl⟩, hn, hc⟩ := h
  exact ⟨q, hr, (List.nodup_append.1 hn).2.1, fun b off hb => hc b off (List.mem_append_right _ hb)⟩
theorem tab_of {W : World} {name : String} (h : Lib.TabIs Tryd.prog W name .u32 [0, 498536548, 997073096, 651767980, 1994146192, 1802195444, 1303535960, 1342533948, 3988292384, 4027552580, 3604390888, 3412177804, 2607071920, 2262029012, 2685067896, 3183342108]) (hg : Tryd.prog.globalNamed name = some 1) : Tab W := by
  intro r
  have hlt : N (r &&& 15#32) < 16 := by have := and15_lt r; rw [U_N] at this; omega
  have h1 := h.cell hg (N (r &&& 15#32)) (by simpa using hlt)
  rw [h1]
  have h2 : ∀ k, k < 16 → ([0, 498536548, 997073096, 651767980, 1994146192, 1802195444, 1303535960, 1342533948, 3988292384, 4027552580, 3604390888, 3412177804, 2607071920, 2262029012, 2685067896, 3183342108] : List Int).getD k 0 = U (rems.getD k 0) := by decide
  rw [h2 _ hlt]; rfl
theorem val_of {W : World} {name : String} (h : Lib.TabIs Tryd.prog W name .u8 [7, 11, 13, 14, 19, 21, 22, 25, 26, 28, 35, 37, 38, 41, 42, 44, 49, 50, 52, 56]) (hg : Tryd.prog.globalNamed name = some 0) : Val W := by
  intro k hk
  have h1 := h.cell hg k (by simpa using hk)
  rw [h1]
  have h2 : ∀ k, k < 20 → ([7, 11, 13, 14, 19, 21, 22, 25, 26, 28, 35, 37, 38, 41, 42, 44, 49, 50, 52, 56] : List Int).getD k 0 = U (sym k) := by decide
  rw [h2 _ hk]
end Go.Proofs.YtdmfjmdnkfeljaaDoor
