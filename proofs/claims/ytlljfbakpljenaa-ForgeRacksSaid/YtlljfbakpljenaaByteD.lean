/- The walks of forge.parts and forge.Parts. -/
import Derived.Test.YtlljfbakpljenaaByteC
namespace Go.Proofs.Ytlljfbakpljenaa
open Go.RowKit
set_option maxHeartbeats 4000000 in
set_option maxRecDepth 100000 in
theorem parts_any (v : Value) (l : List Int) (hl : l.length ≤ 1000) (w : World) (hv : BSl w w.heap.size v l) :
    Calls Try.prog 76 #[v] w fun e w' => ∃ v0 v1 v2, e = .returned (.agg #[v0, v1, v2]) ∧ Below w.heap.size w w' ∧ BOwn w' w.heap.size v0 (evs l l.length) ∧ BOwn w' w.heap.size v1 (ods l l.length) ∧ BOwn w' w.heap.size v2 (mixL (evs l l.length) (ods l l.length) (evs l l.length).length) := by
  have hy := hv.2
  have ye := evs_byts hy
  have yo := ods_byts hy
  obtain ⟨a, cap, rfl, hc, hm, hrd⟩ := hv.rd
  obtain ⟨p, hx, hp⟩ := hrd.reads
  go_enter Try.func76, Try.ntmps76
  go_wp2
  go_loopw [8] (fun i wr => ∃ k : Nat, k ≤ l.length ∧ i = .int .i64 k ∧ ∃ v0 v1, Two w.heap.size w wr l k v0 v1) (fun i _ => l.length - (intOf i).toNat)
  case atStart =>
    refine ⟨0, Nat.zero_le _, rfl, .slice none 0 0, .slice none 0 0, ?_⟩
    refine ⟨by repeat (first | exact Below.refl _ _ | assumption | (refine Below.drew ?_) | (refine below_drewN ?_ _) | (refine Below.alloc ?_ (by first | (simp; done) | (simp; omega) | omega) _) | (refine Below.setCell ?_ (by first | (simp; done) | (simp; omega) | omega) _) | (refine Below.trans ?_ (Below.mono (by assumption) (by first | (simp; done) | (simp; omega) | omega)))), by simp, ?_, ?_, ?_, ?_, ?_, ?_, ?_, ?_, by simpa [evs, vals] using World.ownsRow_nil _ _ _ _, by simpa [ods, vals] using World.ownsRow_nil _ _ _ _, by simp [Value.ownBlock]⟩
    all_goals first | (intro o; go_simp; done) | (go_simp; done)
  case round =>
    obtain ⟨k, hk, rfl, v0, v1, H⟩ := hrel
    by_cases hlt : k < l.length
    · have s1 := hp wr (H.below) k hlt
      have r1 := hx k hlt
      clear hx hp hrd hv hy
      obtain ⟨b0, e0, rfl, -⟩ := (BSl.of_own H.o0 (ye _)).rd
      obtain ⟨b1, e1, rfl, -⟩ := (BSl.of_own H.o1 (yo _)).rd
      have lt1 : w.heap.size + 1 < wr.heap.size := H.size
      have c0 := H.c0
      have c1 := H.c1
      have ff := H.f
      have o0 := H.o0
      have o1 := H.o1
      have hsz := H.below.size
      have hj : k = 2 * (k / 2) ∨ k = 2 * (k / 2) + 1 := by omega
      generalize k / 2 = j at hj
      rcases hj with hj | hj
      · have hpar : (k : Int) % 2 = 0 := by omega
        have HJ := Lib.hid hj; clear hj
        go_wp2_with (at_builtin; refine wpList_push rfl _ _ _ rfl slU8 o0 rfl rfl (by first | rfl | simp) rfl rfl (by have := evs_len l k; omega) (by omega) (by first | omega | (simp; omega)) ?_; intro g c' w1 hown' hg hat; have g1 := (grown_cell o0 hg (show w.heap.size + 1 < w.heap.size + 2 by omega) lt1 0).2.trans (ff 0); have g0 := (grown_cell o0 hg (show w.heap.size + 1 < w.heap.size + 2 by omega) lt1 0).1.trans c0)
        go_roundw
        case rel => obtain rfl := HJ.out; exact ⟨2 * j + 1, by omega, by go_num, _, _, two_even H (by simpa [hlt] using hown') hg hat⟩
        case measure => simp [intOf]; omega
      · have hpar : (k : Int) % 2 = 1 := by omega
        have HJ := Lib.hid hj; clear hj
        go_wp2_with (at_builtin; refine wpList_push rfl _ _ _ rfl slU8 o1 rfl rfl (by first | rfl | simp) rfl rfl (by have := ods_len l k; omega) (by omega) (by first | omega | (simp; omega)) ?_; intro g c' w1 hown' hg hat; have g1 := (grown_cell o1 hg (show w.heap.size + 1 < w.heap.size + 2 by omega) lt1 1).2.trans (ff 1); have g0 := (grown_cell o1 hg (show w.heap.size + 1 < w.heap.size + 2 by omega) lt1 1).1.trans c1)
        go_roundw
        case rel => obtain rfl := HJ.out; exact ⟨2 * j + 1 + 1, by omega, by go_num, _, _, two_odd H (by simpa [hlt] using hown') hg hat⟩
        case measure => simp [intOf]; omega
    · obtain rfl : k = l.length := by omega
      obtain ⟨b0, e0, rfl, -, -, d0⟩ := (BSl.of_own H.o0 (ye _)).rd
      obtain ⟨b1, e1, rfl, -, -, d1⟩ := (BSl.of_own H.o1 (yo _)).rd
      have c0 := H.c0
      have c1 := H.c1
      have c2 := H.c2
      have f2 := H.f 2
      have r0 := H.r0
      have r1 := H.r1
      have r2 := H.r2
      have q0 := H.rf 0
      have q1 := H.rf 1
      have q2 := H.rf 2
      clear hx hp hrd hv hk hlt hy
      have lt1 : w.heap.size + 1 < wr.heap.size := H.size
      have lt0 : w.heap.size < wr.heap.size := by omega
      have el : (evs l l.length).length ≤ 1000 := by rw [evs_len]; omega
      go_wp2_with (go_at_call 106; refine (mixed_any _ _ _ _ _ _ (ye _) (yo _) _ el _ _ (Nat.le_refl _) d0 d1).mono ?_; go_must (rintro e w1 ⟨v, rfl, hb1, hown⟩; obtain ⟨hc1, hf1⟩ := bcell hb1; obtain ⟨b2, e2, rfl, -, -, -⟩ := (BSl.of_own hown (mixL_byts (ye _) (yo _) _)).rd))
      refine bodyPost_ret (v := .agg #[.slice b0 (evs l l.length).length e0, .slice b1 (ods l l.length).length e1, .slice b2 (mixL (evs l l.length) (ods l l.length) (evs l l.length).length).length e2]) ?h rfl ⟨_, _, _, rfl, ?b, ?s0, ?s1, ?s2⟩
      case h => (simp only [results, Try.results76]; first | (go_simp; done) | (go_simp; rfl))
      case b => exact ((((H.below.trans (hb1.mono (by omega))).setCell (by simp) _).setCell (by simp) _).setCell (by simp) _).setCell (by simp) _
      case s0 => exact (BOwn.mk' (ownsRow_setCell_below (ownsRow_setCell_below (ownsRow_setCell_below (ownsRow_setCell_below (own_kept H.o0 hb1 (Nat.le_refl _)) (by simp) _) (by simp) _) (by simp) _) (by simp) _) (ye _)).mono (by omega)
      case s1 => exact (BOwn.mk' (ownsRow_setCell_below (ownsRow_setCell_below (ownsRow_setCell_below (ownsRow_setCell_below (own_kept H.o1 hb1 (Nat.le_refl _)) (by simp) _) (by simp) _) (by simp) _) (by simp) _) (yo _)).mono (by omega)
      case s2 => exact (BOwn.mk' (ownsRow_setCell_below (ownsRow_setCell_below (ownsRow_setCell_below (ownsRow_setCell_below hown (by simp; omega) _) (by simp; omega) _) (by simp; omega) _) (by simp; omega) _) (mixL_byts (ye _) (yo _) _)).mono (by omega)
end Go.Proofs.Ytlljfbakpljenaa
