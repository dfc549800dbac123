/- The walk of law06.Sane: it returns true. -/
import Derived.Test.YtnejicklenhpeaaGreatFoldB
import Derived.Test.YtnejicklenhpeaaGreatKitA
namespace Go.Proofs.YtnejicklenhpeaaGreat
open Go.RowKit
theorem sane_home (w : World) : Calls Tryz.prog 29 #[.agg #[.int .i64 (-1), .int .i64 (0)], .agg #[.int .i64 (2), .int .i64 (1)]] w fun e w' => e = .returned (.tuple #[.agg #[.int .i64 (1), .int .i64 (0)], .int .i64 0]) ∧ Below w.heap.size w w' := Home_yes (-1) 0 2 1 w (by decide)
theorem sane_block (w : World) : Calls Tryz.prog 45 #[.agg #[.int .i64 (-1), .int .i64 (0)], .agg #[.int .i64 (2), .int .i64 (1)]] w fun e w' => e = .returned (.tuple #[.agg #[.int .i64 (-1), .int .i64 (0)], .int .i64 0]) ∧ Below w.heap.size w w' := Block_yes (-1) 0 2 1 w (by decide)
set_option maxRecDepth 100000 in
theorem sane_any (w : World) :
    Calls Tryz.prog 12 #[] w fun e w' => e = .returned (.bool true) ∧ Below w.heap.size w w' := by
  have ec := eq_cell
  go_enter Tryz.func12, Tryz.ntmps12
  go_wp2_with (first | (go_at_call 29; refine (sane_home _).mono ?_; go_must ((first | (have h0 := hb1; clear h0; rintro e w2 ⟨rfl, hb2⟩; obtain ⟨hc2, hf2⟩ := bcell hb2; have hz2 := hb2.size; (try simp at hz2); (first | have z := z10 hz2 | have z := z9 hz2 | have z := z8 hz2 | have z := z7 hz2 | have z := z6 hz2 | have z := z5 hz2 | have z := z4 hz2 | have z := z3 hz2 | have z := z2 hz2 | have z := z1 hz2 | skip); have hq := Nat.le_trans hz1 (show w1.heap.size ≤ w2.heap.size by omega); (first | have z := z10 hq | have z := z9 hq | have z := z8 hq | have z := z7 hq | have z := z6 hq | have z := z5 hq | have z := z4 hq | have z := z3 hq | have z := z2 hq | have z := z1 hq | skip)) | (rintro e w1 ⟨rfl, hb1⟩; obtain ⟨hc1, hf1⟩ := bcell hb1; have hz1 := hb1.size; (try simp at hz1); (first | have z := z10 hz1 | have z := z9 hz1 | have z := z8 hz1 | have z := z7 hz1 | have z := z6 hz1 | have z := z5 hz1 | have z := z4 hz1 | have z := z3 hz1 | have z := z2 hz1 | have z := z1 hz1 | skip))))) | (go_at_call 45; refine (sane_block _).mono ?_; go_must ((first | (have h0 := hb1; clear h0; rintro e w2 ⟨rfl, hb2⟩; obtain ⟨hc2, hf2⟩ := bcell hb2; have hz2 := hb2.size; (try simp at hz2); (first | have z := z10 hz2 | have z := z9 hz2 | have z := z8 hz2 | have z := z7 hz2 | have z := z6 hz2 | have z := z5 hz2 | have z := z4 hz2 | have z := z3 hz2 | have z := z2 hz2 | have z := z1 hz2 | skip); have hq := Nat.le_trans hz1 (show w1.heap.size ≤ w2.heap.size by omega); (first | have z := z10 hq | have z := z9 hq | have z := z8 hq | have z := z7 hq | have z := z6 hq | have z := z5 hq | have z := z4 hq | have z := z3 hq | have z := z2 hq | have z := z1 hq | skip)) | (rintro e w1 ⟨rfl, hb1⟩; obtain ⟨hc1, hf1⟩ := bcell hb1; have hz1 := hb1.size; (try simp at hz1); (first | have z := z10 hz1 | have z := z9 hz1 | have z := z8 hz1 | have z := z7 hz1 | have z := z6 hz1 | have z := z5 hz1 | have z := z4 hz1 | have z := z3 hz1 | have z := z2 hz1 | have z := z1 hz1 | skip))))))

  go_ret
  exact ⟨rfl, by repeat (first | exact Below.refl _ _ | assumption | (refine Below.drew ?_) | (refine below_drewN ?_ _) | (refine Below.alloc ?_ (by first | (simp; done) | (simp; omega) | omega) _) | (refine Below.setCell ?_ (by first | (simp; done) | (simp; omega) | omega) _) | (refine Below.trans ?_ (Below.mono (by assumption) (by first | (simp; done) | (simp; omega) | omega))))⟩
end Go.Proofs.YtnejicklenhpeaaGreat
