/- The walk of the reference's Joined where part 1 is not known. -/
import Derived.Test.YtpoofjioeljigaaByteI
namespace Go.Proofs.Ytpoofjioeljigaa
open Go.RowKit
set_option maxHeartbeats 4000000 in
set_option maxRecDepth 100000 in
theorem rJoined_good1 (n : Nat) (hn : n ≤ 200) (v0 v1 v2 : Value) (p0 p1 p2 : List Int) (w : World) (hv0 : BSl w w.heap.size v0 p0) (hv1 : BSl w w.heap.size v1 p1) (hv2 : BSl w w.heap.size v2 p2) (e0 : p0.length = partLen 0 n) (e2 : p2.length = partLen 2 n) :
    Calls Try.prog 26 #[.int .i64 (n : Int), .agg #[v0, v1, v2], .int .i64 1] w fun e w' => ∃ v, e = .returned (.tuple #[v, .int .i64 0]) ∧ Below w.heap.size w w' ∧ BOwn w' w.heap.size v (joinL p0 p1 p2 1 n) := by
  have y0 := hv0.2
  have y1 := hv1.2
  have y2 := hv2.2
  obtain ⟨a0, c0, rfl, -, -, d0⟩ := hv0.rd
  obtain ⟨a1, c1, rfl, -, -, d1⟩ := hv1.rd
  obtain ⟨a2, c2, rfl, -, -, d2⟩ := hv2.rd
  have l0 : (n + 1) / 2 = partLen 0 n := by simp [partLen]
  have l1 : n / 2 = partLen 1 n := by simp [partLen]
  have l2 : (n + 1) / 2 = partLen 2 n := by simp [partLen]
  have b0 : ((p0.length : Int) != ((partLen 0 n : Nat) : Int)) = false := by rw [e0]; simp
  have b2 : ((p2.length : Int) != ((partLen 2 n : Nat) : Int)) = false := by rw [e2]; simp
  have E0 := Lib.hid e0; clear e0
  have E2 := Lib.hid e2; clear e2
  have L0 := Lib.hid l0; clear l0
  have L1 := Lib.hid l1; clear l1
  have L2 := Lib.hid l2; clear l2
  clear hv0 hv1 hv2
  have D0 := Lib.hid d0; clear d0
  have D1 := Lib.hid d1; clear d1
  have D2 := Lib.hid d2; clear d2
  have Y0 := Lib.hid y0; clear y0
  have Y1 := Lib.hid y1; clear y1
  have Y2 := Lib.hid y2; clear y2
  go_enter Try.func26, Try.ntmps26
  go_wp2_with (go_at_call 61; refine (sizes_any n (by omega) _).mono ?_; go_must ((first | (have h0 := hb1; clear h0; rintro e w2 ⟨rfl, hb2⟩; obtain ⟨hc2, hf2⟩ := bcell hb2; have hz2 := hb2.size; (try simp at hz2); (first | have z := z10 hz2 | have z := z9 hz2 | have z := z8 hz2 | have z := z7 hz2 | have z := z6 hz2 | have z := z5 hz2 | have z := z4 hz2 | have z := z3 hz2 | have z := z2 hz2 | have z := z1 hz2 | skip); have hq := Nat.le_trans hz1 (show w1.heap.size ≤ w2.heap.size by omega); (first | have z := z10 hq | have z := z9 hq | have z := z8 hq | have z := z7 hq | have z := z6 hq | have z := z5 hq | have z := z4 hq | have z := z3 hq | have z := z2 hq | have z := z1 hq | skip)) | (rintro e w1 ⟨rfl, hb1⟩; obtain ⟨hc1, hf1⟩ := bcell hb1; have hz1 := hb1.size; (try simp at hz1); (first | have z := z10 hz1 | have z := z9 hz1 | have z := z8 hz1 | have z := z7 hz1 | have z := z6 hz1 | have z := z5 hz1 | have z := z4 hz1 | have z := z3 hz1 | have z := z2 hz1 | have z := z1 hz1 | skip)))))
  refine wp_loop_rounds 4 ?_
  repeat (rw [rounds_succ]; go_wp2; (try (go_quiet (fail); go_wp2)))
  refine forgetW (fun W => Below w.heap.size w W ∧ w.heap.size < W.heap.size ∧ W.cell? ⟨w.heap.size, 0, none⟩ = some (.slice a0 p0.length c0) ∧ W.cell? ⟨w.heap.size, 1, none⟩ = some (.slice a1 p1.length c1) ∧ W.cell? ⟨w.heap.size, 2, none⟩ = some (.slice a2 p2.length c2)) ⟨by repeat (first | exact Below.refl _ _ | assumption | (refine Below.drew ?_) | (refine below_drewN ?_ _) | (refine Below.alloc ?_ (by first | (simp; done) | (simp; omega) | omega) _) | (refine Below.setCell ?_ (by first | (simp; done) | (simp; omega) | omega) _) | (refine Below.trans ?_ (Below.mono (by assumption) (by first | (simp; done) | (simp; omega) | omega)))), by simp; omega, by go_simp, by go_simp, by go_simp⟩ ?_
  clear hc1 hf1 hb1 hz1 z
  rintro W ⟨hbW, hsW, x0, x1, x2⟩
  have R0 : Rd W W.heap.size a0 p0 := (D0.out.kept hbW).mono (by have := hbW.size; omega)
  have R1 : Rd W W.heap.size a1 p1 := (D1.out.kept hbW).mono (by have := hbW.size; omega)
  have R2 : Rd W W.heap.size a2 p2 := (D2.out.kept hbW).mono (by have := hbW.size; omega)
  go_loopw [10, 11] (fun v i wr => ∃ k : Nat, k ≤ n ∧ i = .int .i64 k ∧ wr.ownsRow W.heap.size 5 1 v k (vals (joinL p0 p1 p2 1 k)) ∧ Below W.heap.size W wr) (fun _ i _ => n - (intOf i).toNat)
  case atStart => exact ⟨0, Nat.zero_le _, rfl, World.ownsRow_nil _ _ _ _, Below.refl _ _⟩
  case round =>
    obtain ⟨k, hk, rfl, hown, hb⟩ := hrel
    have g0 := (hb.cell (p := ⟨w.heap.size, 0, none⟩) hsW).trans x0
    have g1 := (hb.cell (p := ⟨w.heap.size, 1, none⟩) hsW).trans x1
    have g2 := (hb.cell (p := ⟨w.heap.size, 2, none⟩) hsW).trans x2
    clear x0 x1 x2
    by_cases hlt : k < n
    rotate_left
    · obtain rfl : k = n := by omega
      go_wp2
      go_ret2
      exact ⟨_, rfl, hbW.trans (hb.mono (by omega)), (BOwn.mk' hown (joinL_byts Y0.out Y1.out Y2.out _ _)).mono (by omega)⟩
    rcases (show k % 2 = 0 ∨ k % 2 = 1 by omega) with hj | hj
    · have hpar : (k : Int) % 2 = 0 := by omega
      have hz : ((k : Int) / 2).toNat = k / 2 := by omega
      have hl0 : k / 2 < p0.length := by rw [E0.out]; have := L0.out; omega
      obtain ⟨A0, hx0, hpb0, hpc0⟩ := rd_idx R0 (z := (k : Int) / 2) (by omega) (by omega)
      have hs0 := (hb.cell (p := A0) hpb0).trans hpc0
      rw [hz] at hs0
      clear hpb0 hpc0
      have hwv : joinAt p0 p1 p2 1 k = p0.getD (k / 2) 0 := by simp [joinAt, hj]
      generalize p0.getD (k / 2) 0 = y at hs0 hwv
      have HW := Lib.hid hwv; clear hwv
      have HJ := Lib.hid hj; clear hj hz R0 R1 R2
      go_wp2_with (at_builtin; refine wpList_push rfl _ _ _ rfl slU8 hown rfl rfl (by first | rfl | simp) rfl rfl (by omega) (by omega) hb.size ?_; intro g c' w9 hown' hg hat)
      go_roundw
      case rel => exact ⟨k + 1, by omega, by go_num, by rw [joinL_succ, ← vals_snoc, HW.out]; simpa using hown', below_push hb hown (Nat.le_refl _) hb.size hg⟩
      case measure => simp [intOf]; omega
    · have hpar : (k : Int) % 2 = 1 := by omega
      have hz : ((k : Int) / 2).toNat = k / 2 := by omega
      have hl2 : k / 2 < p2.length := by rw [E2.out]; have := L2.out; omega
      obtain ⟨A2, hx2, hpb2, hpc2⟩ := rd_idx R2 (z := (k : Int) / 2) (by omega) (by omega)
      have hs2 := (hb.cell (p := A2) hpb2).trans hpc2
      rw [hz] at hs2
      clear hpb2 hpc2
      have hbq := (show Byts p0 from Y0.out).at (k / 2)
      have hb2 := (show Byts p2 from Y2.out).at (k / 2)
      by_cases hq : k / 2 < p0.length
      · obtain ⟨Aq, hxq, hpbq, hpcq⟩ := rd_idx R0 (z := (k : Int) / 2) (by omega) (by omega)
        have hsq := (hb.cell (p := Aq) hpbq).trans hpcq
        rw [hz] at hsq
        clear hpbq hpcq
        have hqi : (k : Int) / 2 < (p0.length : Int) := by omega
        have hwv : joinAt p0 p1 p2 1 k = bits .xor .u8 (p2.getD (k / 2) 0) (p0.getD (k / 2) 0) := by rw [xb_bits hb2 hbq, xb_comm]; simp [joinAt, hj]
        generalize p2.getD (k / 2) 0 = y at hs2 hwv hb2
        generalize p0.getD (k / 2) 0 = z at hsq hwv hbq
        have HW := Lib.hid hwv; clear hwv
        have HJ := Lib.hid hj; clear hj hz R0 R1 R2
        go_wp2_with (at_builtin; refine wpList_push rfl _ _ _ rfl slU8 hown rfl rfl (by first | rfl | simp) rfl rfl (by omega) (by omega) hb.size ?_; intro g c' w9 hown' hg hat)
        go_roundw
        case rel => exact ⟨k + 1, by omega, by go_num, by rw [joinL_succ, ← vals_snoc, HW.out]; simpa using hown', below_push hb hown (Nat.le_refl _) hb.size hg⟩
        case measure => simp [intOf]; omega

      · have hqi : ¬ (k : Int) / 2 < (p0.length : Int) := by omega
        have hwv : joinAt p0 p1 p2 1 k = p2.getD (k / 2) 0 := by
          have e : p0.getD (k / 2) 0 = 0 := by simp [List.getElem?_eq_none (show p0.length ≤ k / 2 by omega)]
          unfold joinAt
          rw [if_neg (by omega), if_pos rfl, e]
          exact zero_xb hb2.1
        generalize p2.getD (k / 2) 0 = y at hs2 hwv hb2
        have HW := Lib.hid hwv; clear hwv
        have HJ := Lib.hid hj; clear hj hz R0 R1 R2 hbq
        go_wp2_with (at_builtin; refine wpList_push rfl _ _ _ rfl slU8 hown rfl rfl (by first | rfl | simp) rfl rfl (by omega) (by omega) hb.size ?_; intro g c' w9 hown' hg hat)
        go_roundw
        case rel => exact ⟨k + 1, by omega, by go_num, by rw [joinL_succ, ← vals_snoc, HW.out]; simpa using hown', below_push hb hown (Nat.le_refl _) hb.size hg⟩
        case measure => simp [intOf]; omega

end Go.Proofs.Ytpoofjioeljigaa
