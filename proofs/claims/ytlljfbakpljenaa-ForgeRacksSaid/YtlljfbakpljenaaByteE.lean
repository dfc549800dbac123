/- The walk of the reference's Parts, for entries that are not too long. -/
import Derived.Test.YtlljfbakpljenaaByteD
import Derived.Test.YtlljfbakpljenaaKitA
import Derived.Deep.RegionLaw
namespace Go.Proofs.Ytlljfbakpljenaa
open Go.RowKit
/-- The first k bytes of e, each with that of o. -/
def xorT (e o : List Int) (k : Nat) : List Int := (List.range e.length).map fun i => if i < k then xb (e.getD i 0) (o.getD i 0) else e.getD i 0
theorem xorT_zero (e o : List Int) : xorT e o 0 = e := by
  refine List.ext_getElem (by simp [xorT]) fun i h1 h2 => ?_
  simp [xorT, h2]
theorem xorT_all {e o : List Int} (he : Byts e) : xorT e o o.length = mixL e o e.length := by
  refine List.ext_getElem (by simp [xorT, mixL]) fun i h1 h2 => ?_
  simp only [xorT, mixL, List.getElem_map, List.getElem_range]
  split
  · rfl
  · rename_i g
    rw [show o.getD i 0 = 0 by simp [List.getElem?_eq_none (show o.length ≤ i by omega)], xb_zero (he.at i).1]
theorem xorT_len (e o : List Int) (k : Nat) : (xorT e o k).length = e.length := by simp [xorT]
theorem xorT_set (e o : List Int) (k : Nat) : (vals (xorT e o k)).set k (.int .u8 (xb (e.getD k 0) (o.getD k 0))) = vals (xorT e o (k + 1)) := by
  refine List.ext_getElem (by simp [xorT, vals]) fun i h1 h2 => ?_
  simp only [vals, xorT, List.getElem_set, List.getElem_map, List.getElem_range]
  by_cases hik : k = i
  · subst hik; simp
  · rw [if_neg hik]; congr 1
    by_cases h : i < k
    · simp [h, show i < k + 1 by omega]
    · simp [h, show ¬ i < k + 1 by omega]
theorem xorT_byts {e o : List Int} (he : Byts e) (ho : Byts o) (k : Nat) : Byts (xorT e o k) := by
  intro z hz
  simp only [xorT, List.mem_map] at hz
  obtain ⟨i, _, rfl⟩ := hz
  split
  · exact xb_byte (he.at i).2 (ho.at i).2
  · exact he.at i
theorem xorT_at (e o : List Int) (k : Nat) (hk : k < e.length) : (xorT e o k).getD k 0 = e.getD k 0 := by
  simp [xorT, hk]
end Go.Proofs.Ytlljfbakpljenaa
