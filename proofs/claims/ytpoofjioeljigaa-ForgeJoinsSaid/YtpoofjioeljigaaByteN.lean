/- The plain law behind ForgeJoins, and the walk of that law: it returns true. -/
import Derived.Test.YtpoofjioeljigaaByteM
namespace Go.Proofs.Ytpoofjioeljigaa
open Go.RowKit
theorem evs_at (l : List Int) (n i : Nat) (h : i < (n + 1) / 2) : (evs l n).getD i 0 = l.getD (2 * i) 0 := by simp [evs, h]
theorem ods_at (l : List Int) (n i : Nat) (h : i < n / 2) : (ods l n).getD i 0 = l.getD (2 * i + 1) 0 := by simp [ods, h]
theorem join_back {p0 p1 p2 l : List Int} {lost : Nat} (h : ∀ i, i < l.length → joinAt p0 p1 p2 lost i = l.getD i 0) : joinL p0 p1 p2 lost l.length = l := by
  refine List.ext_getElem (by simp [joinL]) fun i h1 h2 => ?_
  simp only [joinL, List.getElem_map, List.getElem_range]
  rw [h i h2]; simp [h2]
theorem xb_swap {x y : Int} (hx : 0 ≤ x) : xb y (xb x y) = x := by rw [xb_comm y, xb_back hx]
theorem xb_inv {x y : Int} (hy : 0 ≤ y) : xb x (xb x y) = y := by rw [xb_comm x y, xb_swap hy]
theorem joins0 {l : List Int} (hl : Byts l) (o : List Int) : joinL o (ods l l.length) (mixL (evs l l.length) (ods l l.length) (evs l l.length).length) 0 l.length = l := by
  refine join_back fun i hi => ?_
  unfold joinAt
  split
  · rw [if_pos rfl, mixL_at (by rw [evs_len]; omega), xb_swap ((evs_byts hl _).at _).1, evs_at _ _ _ (by omega), show 2 * (i / 2) = i by omega]
  · rw [if_neg (by omega), ods_at _ _ _ (by omega), show 2 * (i / 2) + 1 = i by omega]
theorem joins1 {l : List Int} (hl : Byts l) (o : List Int) : joinL (evs l l.length) o (mixL (evs l l.length) (ods l l.length) (evs l l.length).length) 1 l.length = l := by
  refine join_back fun i hi => ?_
  unfold joinAt
  split
  · rw [if_neg (by omega), evs_at _ _ _ (by omega), show 2 * (i / 2) = i by omega]
  · rw [if_pos rfl, mixL_at (by rw [evs_len]; omega), xb_inv ((ods_byts hl _).at _).1, ods_at _ _ _ (by omega), show 2 * (i / 2) + 1 = i by omega]
theorem joins2 {l : List Int} (o : List Int) : joinL (evs l l.length) (ods l l.length) o 2 l.length = l := by
  refine join_back fun i hi => ?_
  unfold joinAt
  split
  · rw [if_neg (by omega), evs_at _ _ _ (by omega), show 2 * (i / 2) = i by omega]
  · rw [if_neg (by omega), ods_at _ _ _ (by omega), show 2 * (i / 2) + 1 = i by omega]
end Go.Proofs.Ytpoofjioeljigaa
