/- The walk of forge.Joined where part 2 is not known. -/
import Derived.Test.YtpoofjioeljigaaByteI
namespace Go.Proofs.Ytpoofjioeljigaa
open Go.RowKit
set_option maxHeartbeats 4000000 in
set_option maxRecDepth 100000 in
theorem Joined_good2 (n : Nat) (hn : n ≤ 200) (v0 v1 v2 : Value) (p0 p1 p2 : List Int) (w : World) (hv0 : BSl w w.heap.size v0 p0) (hv1 : BSl w w.heap.size v1 p1) (hv2 : BSl w w.heap.size v2 p2) (e0 : p0.length = partLen 0 n) (e1 : p1.length = partLen 1 n) :
    Calls Try.prog 25 #[.int .i64 (n : Int), .agg #[v0, v1, v2], .int .i64 2] w fun e w' => ∃ v, e = .returned (.tuple #[v, .int .i64 0]) ∧ Below w.heap.size w w' ∧ BOwn w' w.heap.size v (joinL p0 p1 p2 2 n) := by
  have y0 := hv0.2
  have y1 := hv1.2
  have y2 := hv2.2
  obtain ⟨a0, c0, rfl, -, -, d0⟩ := hv0.rd
  obtain ⟨a1, c1, rfl, -, -, d1⟩ := hv1.rd
  obtain ⟨a2, c2, rfl, -, -, d2⟩ := hv2.rd
  have i0 := ixp0
  have i1 := ixp1
  have i2 := ixp2
  have q0 : pl 0 n = (partLen 0 n : Nat) := pl_nat 0 n
  have q1 : pl 1 n = (partLen 1 n : Nat) := pl_nat 1 n
  have q2 : pl 2 n = (partLen 2 n : Nat) := pl_nat 2 n
  have l0 : (n + 1) / 2 = partLen 0 n := by simp [partLen]
  have l1 : n / 2 = partLen 1 n := by simp [partLen]
  have b0 : ((p0.length : Int) != ((partLen 0 n : Nat) : Int)) = false := by rw [e0]; simp
  have b1 : ((p1.length : Int) != ((partLen 1 n : Nat) : Int)) = false := by rw [e1]; simp
  have E0 := Lib.hid e0; clear e0
  have E1 := Lib.hid e1; clear e1
  have L0 := Lib.hid l0; clear l0
  have L1 := Lib.hid l1; clear l1
  clear hv0 hv1 hv2
  have k0 : ∀ W, Below w.heap.size w W → Rd W (w.heap.size + 1) a0 p0 := fun W h => (d0.kept h).mono (by omega)
  have k1 : ∀ W, Below w.heap.size w W → Rd W (w.heap.size + 1) a1 p1 := fun W h => (d1.kept h).mono (by omega)
  have k2 : ∀ W, Below w.heap.size w W → Rd W (w.heap.size + 1) a2 p2 := fun W h => (d2.kept h).mono (by omega)
  have K0 := Lib.hid k0; clear k0
  have K1 := Lib.hid k1; clear k1
  have K2 := Lib.hid k2; clear k2
  have D0 := Lib.hid d0; clear d0
  have D1 := Lib.hid d1; clear d1
  have D2 := Lib.hid d2; clear d2

  have hp0 : partLen 0 n ≤ 1000 := by simp [partLen]; omega
  have hp1 : partLen 1 n ≤ 1000 := by simp [partLen]; omega
  have Y0 := Lib.hid y0; clear y0
  have Y1 := Lib.hid y1; clear y1
  have Y2 := Lib.hid y2; clear y2
  go_enter Try.func25, Try.ntmps25
  go_wp2_with (go_at_call 59; refine (lengthOf_any _ _ (by omega) (by omega) _).mono ?_; go_must (rintro e w1 ⟨rfl, rfl⟩))
  refine wp_loop_rounds 4 ?_
  repeat (rw [rounds_succ]; go_wp2_with (go_at_call 59; refine (lengthOf_any _ _ (by omega) (by omega) _).mono ?_; go_must (rintro e w1 ⟨rfl, rfl⟩)))

  have hbW : Below w.heap.size w (w.alloc (.cells #[.slice a0 p0.length c0, .slice a1 p1.length c1, .slice a2 p2.length c2] 35)) := by repeat (first | exact Below.refl _ _ | assumption | (refine Below.drew ?_) | (refine below_drewN ?_ _) | (refine Below.alloc ?_ (by first | (simp; done) | (simp; omega) | omega) _) | (refine Below.setCell ?_ (by first | (simp; done) | (simp; omega) | omega) _) | (refine Below.trans ?_ (Below.mono (by assumption) (by first | (simp; done) | (simp; omega) | omega))))
  refine forgetW (fun W => Below w.heap.size w W ∧ w.heap.size < W.heap.size ∧ W.cell? ⟨w.heap.size, 0, none⟩ = some (.slice a0 (p0).length c0) ∧ W.cell? ⟨w.heap.size, 1, none⟩ = some (.slice a1 (p1).length c1) ∧ Rd W W.heap.size a0 (p0) ∧ Rd W W.heap.size a1 (p1)) ⟨hbW, by first | (simp; done) | (simp; omega), by go_simp, by go_simp, (D0.out.kept hbW).mono (by have := hbW.size; omega), (D1.out.kept hbW).mono (by have := hbW.size; omega)⟩ ?_
  clear hbW 
  rintro W ⟨hbW, hsW, x0, x1, R0, R1⟩
  go_loopw [10, 58] (fun v i wr => ∃ k : Nat, k ≤ n ∧ i = .int .i64 k ∧ wr.ownsRow W.heap.size 5 1 v k (vals (weave (p0) (p1) k)) ∧ Below W.heap.size W wr) (fun _ i _ => n - (intOf i).toNat)
  case atStart => exact ⟨0, Nat.zero_le _, rfl, World.ownsRow_nil _ _ _ _, Below.refl _ _⟩
  case round =>
    obtain ⟨k, hk, rfl, hown, hb⟩ := hrel
    have g0 := (hb.cell (p := ⟨w.heap.size, 0, none⟩) hsW).trans x0
    have g1 := (hb.cell (p := ⟨w.heap.size, 1, none⟩) hsW).trans x1
    clear x0 x1 i0 i1 i2 q0 q1 q2
    by_cases hlt : k < n
    rotate_left
    · obtain rfl : k = n := by omega
      go_wp2
      go_ret2
      exact ⟨_, rfl, hbW.trans (hb.mono (by omega)), by rw [← weave2 p0 p1 p2 k]; exact (BOwn.mk' hown (weave_byts (Y0.out) (Y1.out) _)).mono (by omega)⟩
    have hp2 : (k : Int) / 2 = ((k / 2 : Nat) : Int) := by omega
    rcases (show k % 2 = 0 ∨ k % 2 = 1 by omega) with hj | hj
    · have hpar : (k : Int) % 2 = 0 := by omega
      have hlen : k / 2 < (p0).length := by rw [E0.out]; have := L0.out; omega
      obtain ⟨p, hx, hpb, hpc⟩ := rd_idx R0 (z := (k : Int) / 2) (by omega) (by omega)
      have hs := (hb.cell (p := p) hpb).trans hpc
      have hz : ((k : Int) / 2).toNat = k / 2 := by omega
      rw [hz] at hs
      have hwv : weaveAt (p0) (p1) k = (p0).getD (k / 2) 0 := by simp only [weaveAt, hj, if_true]
      generalize (p0).getD (k / 2) 0 = y at hs hwv
      have HW := Lib.hid hwv; clear hwv
      have HJ := Lib.hid hj; clear hj hp2 hz hpc hpb R0 R1
      go_wp2_with (at_builtin; (refine wpList_push rfl _ _ _ rfl slU8 hown rfl rfl (by first | rfl | simp) rfl rfl (by omega) (by omega) hb.size ?_; intro g c' w9 hown' hg hat))
      go_roundw
      case rel => exact ⟨k + 1, by omega, by go_num, by rw [weave_succ, ← vals_snoc, HW.out]; exact hown', below_push hb hown (Nat.le_refl _) hb.size hg⟩
      case measure => simp [intOf]; omega
    · have hpar : (k : Int) % 2 = 1 := by omega
      have hlen : k / 2 < (p1).length := by rw [E1.out]; have := L1.out; omega
      obtain ⟨p, hx, hpb, hpc⟩ := rd_idx R1 (z := (k : Int) / 2) (by omega) (by omega)
      have hs := (hb.cell (p := p) hpb).trans hpc
      have hz : ((k : Int) / 2).toNat = k / 2 := by omega
      rw [hz] at hs
      have hwv : weaveAt (p0) (p1) k = (p1).getD (k / 2) 0 := by simp only [weaveAt, hj, Nat.one_ne_zero, if_false]
      generalize (p1).getD (k / 2) 0 = y at hs hwv
      have HW := Lib.hid hwv; clear hwv
      have HJ := Lib.hid hj; clear hj hp2 hz hpc hpb R0 R1
      go_wp2_with (at_builtin; (refine wpList_push rfl _ _ _ rfl slU8 hown rfl rfl (by first | rfl | simp) rfl rfl (by omega) (by omega) hb.size ?_; intro g c' w9 hown' hg hat))
      go_roundw
      case rel => exact ⟨k + 1, by omega, by go_num, by rw [weave_succ, ← vals_snoc, HW.out]; exact hown', below_push hb hown (Nat.le_refl _) hb.size hg⟩
      case measure => simp [intOf]; omega
end Go.Proofs.Ytpoofjioeljigaa
