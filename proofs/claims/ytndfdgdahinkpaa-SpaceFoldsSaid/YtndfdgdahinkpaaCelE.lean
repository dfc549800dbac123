/- slices.Compact on less than two cells: it gives them back. -/
import Derived.Test.YtndfdgdahinkpaaCelD
namespace Go.Proofs.Ytndfdgdahinkpaa
open Go.RowKit Go.Lib
set_option maxHeartbeats 4000000 in
theorem compact_one (d : Array (Int × Int)) (g cap : Nat) (W : World) (h : RowC W g d) (h2 : d.size < 2) :
    Calls Try.prog 82 #[.slice (some ⟨g, 0, none⟩) d.size cap] W fun e W' => CmpR g cap d W e W' := by
  have HH := Lib.hid h; clear h
  have e : compactUpTo d d.size = d.toList := by rw [compactUpTo_all d _ (fun j hj => keeps_lt_one d j (by omega)), range_map_get]
  have HE := Lib.hid e; clear e
  have h2' : (d.size : Int) < 2 := by omega
  go_enter Try.func82, Try.ntmps82
  go_wp2
  go_ret
  exact ⟨by rw [HE.out]; rfl, by rw [HE.out]; exact HH.out, Below.refl _ _⟩
theorem compact_any (d : Array (Int × Int)) (g cap : Nat) (W : World) (h : RowC W g d) (hsz : d.size ≤ 100000) (hcap : d.size ≤ cap) (hcm : cap ≤ 9223372036854775807) :
    Calls Try.prog 82 #[.slice (some ⟨g, 0, none⟩) d.size cap] W fun e W' => CmpR g cap d W e W' := by
  by_cases h2 : 2 ≤ d.size
  · exact compact_l d g cap W h h2 hsz hcap hcm
  · exact compact_one d g cap W h (by omega)
end Go.Proofs.Ytndfdgdahinkpaa
