/- string(b) of a slice of bytes; the walk of law10.Sane; what both Joined return, in one form. -/
import Derived.Test.YtpoofjioeljigaaByteG
import Derived.Test.YtpoofjioeljigaaByteH
import Derived.Test.YtpoofjioeljigaaByteJ0
import Derived.Test.YtpoofjioeljigaaByteJ1
import Derived.Test.YtpoofjioeljigaaByteJ2
import Derived.Test.YtpoofjioeljigaaByteK0
import Derived.Test.YtpoofjioeljigaaByteK1
import Derived.Test.YtpoofjioeljigaaByteK2
import Derived.Lib.SlBytesConst
namespace Go.Proofs.Ytpoofjioeljigaa
open Go.RowKit
theorem bsl_str {w W : World} {B : Nat} {v : Value} {l : List Int} (h : BSl w B v l) (hW : Below B w W) : (convert 34 9 v).run Try.prog W = .ok (.string (strOfNums l)) W := by
  obtain ⟨a, cap, rfl, -, -, hr⟩ := h.rd
  rcases hr with rfl | ⟨b, off, rfl, hlt, hc⟩
  · rw [run_convert_bytes_string W _ _ _ _ _ _ Try.underlying34 Try.underlying5 Try.underlying9]
    cases a with
    | none => simp [Conv.bytesToString, strOfNums, ByteArray.empty, ByteArray.emptyWithCapacity]; rfl
    | some ad => rw [List.length_nil, run_bytesToString W ad 0 cap [] (by simp [loadCells, loadCellsFrom])]; simp [strOfNums, ByteArray.empty, ByteArray.emptyWithCapacity]; rfl
  · exact run_convert_bytes_arg W _ _ Try.underlying34 Try.underlying5 b off _ cap l rfl (fun i hi => (hW.cell (p := ⟨b, off + i, none⟩) hlt).trans (hc i hi)) _ Try.underlying9
theorem bsl_strs {w : World} {B : Nat} {v : Value} {l : List Int} (h : BSl w B v l) : ∀ W, Below B w W → (convert 34 9 v).run Try.prog W = .ok (.string (strOfNums l)) W := fun _ hW => bsl_str h hW
theorem own_nil (w : World) (lo : Nat) : BOwn w lo (.slice none 0 0) [] := ⟨by simpa [vals] using World.ownsRow_nil w lo _ _, Byts.nil⟩
theorem joinB_out {n : Int} {n0 n1 n2 : Nat} {lost : Int} (h : joinB n n0 n1 n2 lost = true) : (0 ≤ n ∧ n ≤ 200 ∧ 0 ≤ lost ∧ lost ≤ 2) ∧ (lost = 0 ∨ n0 = partLen 0 n.toNat) ∧ (lost = 1 ∨ n1 = partLen 1 n.toNat) ∧ (lost = 2 ∨ n2 = partLen 2 n.toNat) := by
  simp only [joinB, Bool.and_eq_true, Bool.or_eq_true, decide_eq_true_eq] at h
  exact ⟨h.1.1.1, h.1.1.2, h.1.2, h.2⟩
def joinRes (n : Int) (p0 p1 p2 : List Int) (lost : Int) : List Int := if joinB n p0.length p1.length p2.length lost = true then joinL p0 p1 p2 lost.toNat n.toNat else []
def joinErr (n : Int) (p0 p1 p2 : List Int) (lost : Int) : Int := if joinB n p0.length p1.length p2.length lost = true then 0 else 2
theorem Joined_any (n lost : Int) (v0 v1 v2 : Value) (p0 p1 p2 : List Int) (w : World) (hv0 : BSl w w.heap.size v0 p0) (hv1 : BSl w w.heap.size v1 p1) (hv2 : BSl w w.heap.size v2 p2) :
    Calls Try.prog 25 #[.int .i64 n, .agg #[v0, v1, v2], .int .i64 lost] w fun e w' => ∃ v, e = .returned (.tuple #[v, .int .i64 (joinErr n p0 p1 p2 lost)]) ∧ Below w.heap.size w w' ∧ BOwn w' w.heap.size v (joinRes n p0 p1 p2 lost) := by
  rcases h : joinB n p0.length p1.length p2.length lost with _ | _
  · simp only [joinErr, joinRes, h, Bool.false_eq_true, if_false]
    obtain ⟨a0, c0, rfl, -⟩ := hv0.rd
    obtain ⟨a1, c1, rfl, -⟩ := hv1.rd
    obtain ⟨a2, c2, rfl, -⟩ := hv2.rd
    exact (Joined_bad n lost _ _ _ a0 a1 a2 c0 c1 c2 w h).mono fun e w' ⟨he, hb⟩ => ⟨_, he, hb, own_nil _ _⟩
  · simp only [joinErr, joinRes, h, if_true]
    obtain ⟨⟨h1, h2, h3, h4⟩, g0, g1, g2⟩ := joinB_out h
    obtain ⟨m, rfl⟩ := Int.eq_ofNat_of_zero_le h1
    simp only [Int.toNat_natCast] at g0 g1 g2 ⊢
    obtain rfl | rfl | rfl : lost = 0 ∨ lost = 1 ∨ lost = 2 := by omega
    · exact Joined_good0 m (by omega) v0 v1 v2 p0 p1 p2 w hv0 hv1 hv2 (g1.resolve_left (by decide)) (g2.resolve_left (by decide))
    · exact Joined_good1 m (by omega) v0 v1 v2 p0 p1 p2 w hv0 hv1 hv2 (g0.resolve_left (by decide)) (g2.resolve_left (by decide))
    · exact Joined_good2 m (by omega) v0 v1 v2 p0 p1 p2 w hv0 hv1 hv2 (g0.resolve_left (by decide)) (g1.resolve_left (by decide))
theorem rJoined_any (n lost : Int) (v0 v1 v2 : Value) (p0 p1 p2 : List Int) (w : World) (hv0 : BSl w w.heap.size v0 p0) (hv1 : BSl w w.heap.size v1 p1) (hv2 : BSl w w.heap.size v2 p2) :
    Calls Try.prog 26 #[.int .i64 n, .agg #[v0, v1, v2], .int .i64 lost] w fun e w' => ∃ v, e = .returned (.tuple #[v, .int .i64 (joinErr n p0 p1 p2 lost)]) ∧ Below w.heap.size w w' ∧ BOwn w' w.heap.size v (joinRes n p0 p1 p2 lost) := by
  rcases h : joinB n p0.length p1.length p2.length lost with _ | _
  · simp only [joinErr, joinRes, h, Bool.false_eq_true, if_false]
    obtain ⟨a0, c0, rfl, -⟩ := hv0.rd
    obtain ⟨a1, c1, rfl, -⟩ := hv1.rd
    obtain ⟨a2, c2, rfl, -⟩ := hv2.rd
    exact (rJoined_bad n lost _ _ _ a0 a1 a2 c0 c1 c2 w h).mono fun e w' ⟨he, hb⟩ => ⟨_, he, hb, own_nil _ _⟩
  · simp only [joinErr, joinRes, h, if_true]
    obtain ⟨⟨h1, h2, h3, h4⟩, g0, g1, g2⟩ := joinB_out h
    obtain ⟨m, rfl⟩ := Int.eq_ofNat_of_zero_le h1
    simp only [Int.toNat_natCast] at g0 g1 g2 ⊢
    obtain rfl | rfl | rfl : lost = 0 ∨ lost = 1 ∨ lost = 2 := by omega
    · exact rJoined_good0 m (by omega) v0 v1 v2 p0 p1 p2 w hv0 hv1 hv2 (g1.resolve_left (by decide)) (g2.resolve_left (by decide))
    · exact rJoined_good1 m (by omega) v0 v1 v2 p0 p1 p2 w hv0 hv1 hv2 (g0.resolve_left (by decide)) (g2.resolve_left (by decide))
    · exact rJoined_good2 m (by omega) v0 v1 v2 p0 p1 p2 w hv0 hv1 hv2 (g0.resolve_left (by decide)) (g1.resolve_left (by decide))
theorem abc_sl (w : World) (fr : Nat × Nat) : BSl (w.alloc (.cells #[.int .u8 97, .int .u8 98, .int .u8 99] 5 fr)) (w.heap.size + 1) (.slice (some ⟨w.heap.size, 0, none⟩) 3 3) [97, 98, 99] := by
  refine BSl.of_rd (l := [97, 98, 99]) (.inr ⟨w.heap.size, 0, rfl, by omega, fun i hi => ?_⟩) (by simp) (by unfold maxLen; simp) (by simp) (by intro z hz; simp at hz; omega)
  match i, hi with
  | 0, _ => simp only [World.cell?, heap_alloc_new]; rfl
  | 1, _ => simp only [World.cell?, heap_alloc_new]; rfl
  | 2, _ => simp only [World.cell?, heap_alloc_new]; rfl
  | n + 3, h => simp at h; omega
set_option maxHeartbeats 4000000 in
set_option maxRecDepth 100000 in
theorem sane10 (w : World) : Calls Try.prog 22 #[] w fun e w' => e = .returned (.bool true) ∧ Below w.heap.size w w' := by
  have cs := fun (w : World) (C : Array Value) (n c : Nat) => Lib.run_convert_bytes_const (P := Try.prog) w 34 5 C n c Try.underlying34 Try.underlying5
  have n1 : ((strOfNums [97, 99]).toList == [97, 99]) = true := by rw [ByteArray.toList_eq]; rfl
  have n2 : ((strOfNums [98]).toList == [98]) = true := by rw [ByteArray.toList_eq]; rfl
  have n3 : ((strOfNums [3, 99]).toList == [3, 99]) = true := by rw [ByteArray.toList_eq]; rfl
  go_enter Try.func22, Try.ntmps22
  go_wp2_with (go_at_call 23; refine (Parts_any _ [97, 98, 99] (by decide) _ ((abc_sl w _).mono (by simp))).mono ?_; go_must (rintro e w1 ⟨v0, v1, v2, rfl, hb1, s0, s1, s2⟩; obtain ⟨hc1, hf1⟩ := bcell hb1; have hs1 := hb1.size; simp at hs1; have s0 : BOwn w1 _ v0 [97, 99] := s0; have s1 : BOwn w1 _ v1 [98] := s1; have s2 : BOwn w1 _ v2 [3, 99] := s2; have t0 := fun o => bsl_str s0.sl ((Below.refl _ w1).alloc (Nat.le_refl _) o); have t1 := fun o => bsl_str s1.sl ((Below.refl _ w1).alloc (Nat.le_refl _) o); have t2 := fun o => bsl_str s2.sl ((Below.refl _ w1).alloc (Nat.le_refl _) o); obtain ⟨b0, e0, rfl⟩ := s0.rd; obtain ⟨b1, e1, rfl⟩ := s1.rd; obtain ⟨b2, e2, rfl⟩ := s2.rd; simp only [List.length_cons, List.length_nil, Nat.zero_add, Nat.reduceAdd] at t0 t1 t2))
  go_ret
  exact ⟨rfl, by repeat (first | exact Below.refl _ _ | assumption | (refine Below.drew ?_) | (refine below_drewN ?_ _) | (refine Below.alloc ?_ (by first | (simp; done) | (simp; omega) | omega) _) | (refine Below.setCell ?_ (by first | (simp; done) | (simp; omega) | omega) _) | (refine Below.trans ?_ (Below.mono (by assumption) (by first | (simp; done) | (simp; omega) | omega))))⟩
end Go.Proofs.Ytpoofjioeljigaa
