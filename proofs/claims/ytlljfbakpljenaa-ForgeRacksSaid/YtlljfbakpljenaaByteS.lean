/- string(b) of a slice of bytes; the walk of law10.Sane. -/
import Derived.Test.YtlljfbakpljenaaByteP
import Derived.Lib.SlBytesConst
namespace Go.Proofs.Ytlljfbakpljenaa
open Go.RowKit
theorem bsl_str {w W : World} {B : Nat} {v : Value} {l : List Int} (h : BSl w B v l) (hW : Below B w W) : (convert 27 9 v).run Try.prog W = .ok (.string (strOfNums l)) W := by
  obtain ⟨a, cap, rfl, -, -, hr⟩ := h.rd
  rcases hr with rfl | ⟨b, off, rfl, hlt, hc⟩
  · rw [run_convert_bytes_string W _ _ _ _ _ _ Try.underlying27 Try.underlying5 Try.underlying9]
    cases a with
    | none => simp [Conv.bytesToString, strOfNums, ByteArray.empty, ByteArray.emptyWithCapacity]; rfl
    | some ad => rw [List.length_nil, run_bytesToString W ad 0 cap [] (by simp [loadCells, loadCellsFrom])]; simp [strOfNums, ByteArray.empty, ByteArray.emptyWithCapacity]; rfl
  · exact run_convert_bytes_arg W _ _ Try.underlying27 Try.underlying5 b off _ cap l rfl (fun i hi => (hW.cell (p := ⟨b, off + i, none⟩) hlt).trans (hc i hi)) _ Try.underlying9
theorem bsl_strs {w : World} {B : Nat} {v : Value} {l : List Int} (h : BSl w B v l) : ∀ W, Below B w W → (convert 27 9 v).run Try.prog W = .ok (.string (strOfNums l)) W := fun _ hW => bsl_str h hW
theorem abc_sl (w : World) (fr : Nat × Nat) : BSl (w.alloc (.cells #[.int .u8 97, .int .u8 98, .int .u8 99] 5 fr)) (w.heap.size + 1) (.slice (some ⟨w.heap.size, 0, none⟩) 3 3) [97, 98, 99] := by
  refine BSl.of_rd (l := [97, 98, 99]) (.inr ⟨w.heap.size, 0, rfl, by omega, fun i hi => ?_⟩) (by simp) (by unfold maxLen; simp) (by simp) (by intro z hz; simp at hz; omega)
  match i, hi with
  | 0, _ => simp only [World.cell?, heap_alloc_new]; rfl
  | 1, _ => simp only [World.cell?, heap_alloc_new]; rfl
  | 2, _ => simp only [World.cell?, heap_alloc_new]; rfl
  | n + 3, h => simp at h; omega
set_option maxHeartbeats 4000000 in
set_option maxRecDepth 100000 in
theorem sane10 (w : World) : Calls Try.prog 6 #[] w fun e w' => e = .returned (.bool true) ∧ Below w.heap.size w w' := by
  have cs := fun (w : World) (C : Array Value) (n c : Nat) => Lib.run_convert_bytes_const (P := Try.prog) w 27 5 C n c Try.underlying27 Try.underlying5
  have n1 : ((strOfNums [97, 99]).toList == [97, 99]) = true := by rw [ByteArray.toList_eq]; rfl
  have n2 : ((strOfNums [98]).toList == [98]) = true := by rw [ByteArray.toList_eq]; rfl
  have n3 : ((strOfNums [3, 99]).toList == [3, 99]) = true := by rw [ByteArray.toList_eq]; rfl
  go_enter Try.func6, Try.ntmps6
  go_wp2_with (go_at_call 41; refine (Parts_any _ [97, 98, 99] (by decide) _ ((abc_sl w _).mono (by simp))).mono ?_; go_must (rintro e w1 ⟨v0, v1, v2, rfl, hb1, s0, s1, s2⟩; obtain ⟨hc1, hf1⟩ := bcell hb1; have hs1 := hb1.size; simp at hs1; have s0 : BOwn w1 _ v0 [97, 99] := s0; have s1 : BOwn w1 _ v1 [98] := s1; have s2 : BOwn w1 _ v2 [3, 99] := s2; have t0 := fun o => bsl_str s0.sl ((Below.refl _ w1).alloc (Nat.le_refl _) o); have t1 := fun o => bsl_str s1.sl ((Below.refl _ w1).alloc (Nat.le_refl _) o); have t2 := fun o => bsl_str s2.sl ((Below.refl _ w1).alloc (Nat.le_refl _) o); obtain ⟨b0, e0, rfl⟩ := s0.rd; obtain ⟨b1, e1, rfl⟩ := s1.rd; obtain ⟨b2, e2, rfl⟩ := s2.rd; simp only [List.length_cons, List.length_nil, Nat.zero_add, Nat.reduceAdd] at t0 t1 t2))
  go_ret
  exact ⟨rfl, by repeat (first | exact Below.refl _ _ | assumption | (refine Below.drew ?_) | (refine below_drewN ?_ _) | (refine Below.alloc ?_ (by first | (simp; done) | (simp; omega) | omega) _) | (refine Below.setCell ?_ (by first | (simp; done) | (simp; omega) | omega) _) | (refine Below.trans ?_ (Below.mono (by assumption) (by first | (simp; done) | (simp; omega) | omega))))⟩
end Go.Proofs.Ytlljfbakpljenaa
