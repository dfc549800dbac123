/- Whether a list of points has a point: slices.Index and slices.Contains: their walks. -/
import Derived.Test.YtndfdgdahinkpaaSafeR
namespace Go.Proofs.Ytndfdgdahinkpaa
open Go.RowKit
set_option maxHeartbeats 4000000 in
set_option maxRecDepth 100000 in
theorem index_l (l : List P3) (p : P3) (w : World) (v : Value) (hv : SlOf w w.heap.size 3 encP v l) :
    Calls Try.prog 71 #[v, .agg #[.int .i64 p.1, .int .i64 p.2.1, .int .i64 p.2.2]] w fun e w' => (∃ z : Int, e = .returned (.int .i64 z) ∧ decide (0 ≤ z) = decide (p ∈ l)) ∧ Below w.heap.size w w' := by
  obtain ⟨qa, qc, g, off, rfl, hlc, hcm, hx⟩ := SlOf.at (enc := encP) (fun _ => rfl) un_pts sz_pts hv
  unfold maxLen at hcm
  have HX := Lib.hid hx; clear hx hv
  obtain ⟨p0, p1, p2⟩ := p
  obtain ⟨W0, hW0⟩ : ∃ W : World, w.alloc (Obj.cells #[.int .i64 p0, .int .i64 p1, .int .i64 p2] 29) = W := ⟨_, rfl⟩
  have kw0 : Below w.heap.size w W0 := by rw [← hW0]; exact (by repeat (first | exact Below.refl _ _ | assumption | (refine Below.drew ?_) | (refine below_drewN ?_ _) | (refine Below.alloc ?_ (by first | (simp; done) | (simp; omega) | omega) _) | (refine Below.setCell ?_ (by first | (simp; done) | (simp; omega) | omega) _) | (refine Below.trans ?_ (Below.mono (by assumption) (by first | (simp; done) | (simp; omega) | omega)))))
  have ks0 : W0.heap.size = w.heap.size + 1 := by rw [← hW0]; simp
  have RD0 := Lib.hid (show ∀ V, Below W0.heap.size W0 V → V.cell? ⟨w.heap.size, 0, none⟩ = some (.int .i64 p0) ∧ V.cell? ⟨w.heap.size, 1, none⟩ = some (.int .i64 p1) ∧ V.cell? ⟨w.heap.size, 2, none⟩ = some (.int .i64 p2) from fun V h => by
      refine ⟨(h.cell (p := ⟨w.heap.size, 0, none⟩) (by simp; omega)).trans ?_, (h.cell (p := ⟨w.heap.size, 1, none⟩) (by simp; omega)).trans ?_, (h.cell (p := ⟨w.heap.size, 2, none⟩) (by simp; omega)).trans ?_⟩ <;> (subst hW0; go_simp))
  have HW0 := Lib.hid hW0; have KW0 := Lib.hid kw0; clear hW0 kw0
  go_enter Try.func71, Try.ntmps71
  go_wp2
  rw [HW0.out]
  go_loopw [8] (fun t8 wr => ∃ k : Nat, k ≤ l.length ∧ t8 = .int .i64 (k : Nat) ∧ Hid (∀ j (h : j < l.length), j < k → l[j] ≠ (p0, p1, p2)) ∧ Below W0.heap.size W0 wr) (fun t8 _ => l.length - (intOf t8).toNat)
  case atStart => exact ⟨0, Nat.zero_le _, rfl, Lib.hid (fun j _ h => by omega), Below.refl _ _⟩
  case round =>
    obtain ⟨k, hk, rfl, HNO, K0⟩ := hrel
    by_cases hlt : k < l.length
    rotate_left
    · go_wp2
      go_ret
      refine ⟨⟨-1, rfl, ?_⟩, (KW0.out.trans (K0.mono (by omega)))⟩
      have : ¬ ((p0, p1, p2) ∈ l) := fun hm => by
        obtain ⟨j, hj, e⟩ := List.getElem_of_mem hm
        exact HNO.out j hj (by omega) e
      simp [this]
    obtain ⟨-, hi, hg, hc⟩ := HX.out k hlt
    have rd := fun j hj => ((KW0.out.trans (K0.mono (by omega))).cell (p := ⟨g, off + 3 * k + j, none⟩) hg).trans (hc j hj)
    clear hc
    have HMM := Lib.hid (show l[k] ∈ l from List.getElem_mem hlt)
    have HN := Lib.hid (show l[k] ≠ (p0, p1, p2) → ∀ j (h : j < l.length), j < k + 1 → l[j] ≠ (p0, p1, p2) from fun hne j h hj => by
      by_cases e : j = k
      · subst e; exact hne
      · exact HNO.out j h (by omega))
    have HLT := Lib.hid hlt
    generalize l[k] = q at *
    obtain ⟨q0, q1, q2⟩ := q
    have r0 : wr.cell? ⟨g, off + 3 * k, none⟩ = some (.int .i64 q0) := rd 0 (by omega)
    have r1 : wr.cell? ⟨g, off + 3 * k + 1, none⟩ = some (.int .i64 q1) := rd 1 (by omega)
    have r2 : wr.cell? ⟨g, off + 3 * k + 2, none⟩ = some (.int .i64 q2) := rd 2 (by omega)
    clear rd
    obtain ⟨k0_0, k0_1, k0_2⟩ := RD0.out _ K0
    have heq := fun W => eq_pt (p0, p1, p2) (q0, q1, q2) W
    by_cases he : (p0, p1, p2) = (q0, q1, q2)
    · have HE := Lib.hid he
      simp only [decide_eq_true he] at heq
      clear he
      go_wp2
      go_region
      all_goals
        go_wp2
        go_ret
        refine ⟨⟨(k : Int), rfl, ?_⟩, by have KK := (KW0.out.trans (K0.mono (by omega))); exact (by repeat (first | exact Below.refl _ _ | assumption | (refine Below.drew ?_) | (refine below_drewN ?_ _) | (refine Below.alloc ?_ (by first | (simp; done) | (simp; omega) | omega) _) | (refine Below.setCell ?_ (by first | (simp; done) | (simp; omega) | omega) _) | (refine Below.trans ?_ (Below.mono (by assumption) (by first | (simp; done) | (simp; omega) | omega)))))⟩
        have hm := HMM.out
        rw [← HE.out] at hm
        simp [hm]
    · have HE := Lib.hid he
      simp only [decide_eq_false he] at heq
      clear he
      go_wp2
      go_region
      all_goals
        go_wp2
        go_roundw
        case rel => exact ⟨k + 1, HLT.out, by simp, Lib.hid (HN.out (fun e => HE.out e.symm)), by have KK := K0; exact (by repeat (first | exact Below.refl _ _ | assumption | (refine Below.drew ?_) | (refine below_drewN ?_ _) | (refine Below.alloc ?_ (by first | (simp; done) | (simp; omega) | omega) _) | (refine Below.setCell ?_ (by first | (simp; done) | (simp; omega) | omega) _) | (refine Below.trans ?_ (Below.mono (by assumption) (by first | (simp; done) | (simp; omega) | omega)))))⟩
        case measure => simp only [intOf]; have := HLT.out; omega
set_option maxHeartbeats 4000000 in
set_option maxRecDepth 100000 in
theorem contains_l (l : List P3) (p : P3) (w : World) (v : Value) (hv : SlOf w w.heap.size 3 encP v l) :
    Calls Try.prog 45 #[v, .agg #[.int .i64 p.1, .int .i64 p.2.1, .int .i64 p.2.2]] w fun e w' => e = .returned (.bool (decide (p ∈ l))) ∧ Below w.heap.size w w' := by
  have HV := Lib.hid hv
  obtain ⟨qa, qc, hqe, -⟩ := hv.shape
  subst hqe
  clear hv
  have HI := Lib.hid (fun (W : World) (h : SlOf W W.heap.size 3 encP (.slice qa l.length qc) l) => index_l l p W _ h)
  obtain ⟨W0, hW0⟩ : ∃ W : World, w.alloc (Obj.cells #[.int .i64 p.1, .int .i64 p.2.1, .int .i64 p.2.2] 29) = W := ⟨_, rfl⟩
  have kw0 : Below w.heap.size w W0 := by rw [← hW0]; exact (by repeat (first | exact Below.refl _ _ | assumption | (refine Below.drew ?_) | (refine below_drewN ?_ _) | (refine Below.alloc ?_ (by first | (simp; done) | (simp; omega) | omega) _) | (refine Below.setCell ?_ (by first | (simp; done) | (simp; omega) | omega) _) | (refine Below.trans ?_ (Below.mono (by assumption) (by first | (simp; done) | (simp; omega) | omega)))))
  have ks0 : W0.heap.size = w.heap.size + 1 := by rw [← hW0]; simp
  have RD0 := Lib.hid (show ∀ V, Below W0.heap.size W0 V → V.cell? ⟨w.heap.size, 0, none⟩ = some (.int .i64 p.1) ∧ V.cell? ⟨w.heap.size, 1, none⟩ = some (.int .i64 p.2.1) ∧ V.cell? ⟨w.heap.size, 2, none⟩ = some (.int .i64 p.2.2) from fun V h => by
      refine ⟨(h.cell (p := ⟨w.heap.size, 0, none⟩) (by simp; omega)).trans ?_, (h.cell (p := ⟨w.heap.size, 1, none⟩) (by simp; omega)).trans ?_, (h.cell (p := ⟨w.heap.size, 2, none⟩) (by simp; omega)).trans ?_⟩ <;> (subst hW0; go_simp))
  have HW0 := Lib.hid hW0; have KW0 := Lib.hid kw0; clear hW0 kw0
  generalize decide (p ∈ l) = B at *
  go_enter Try.func45, Try.ntmps45
  go_wp2_with (go_at_call 71; rw [HW0.out]; refine (HI.out _ (HV.out.below KW0.out)).mono ?_; go_must (rintro e w1 ⟨⟨z, rfl, hz⟩, hb1⟩; have K0 := hb1; have HB1 := Lib.hid hb1; clear hb1; obtain ⟨k0_0, k0_1, k0_2⟩ := RD0.out _ K0; have HZ := Lib.hid hz; clear hz))
  go_ret
  exact ⟨ret_bool HZ.out, (KW0.out.trans (K0.mono (by omega)))⟩
end Go.Proofs.Ytndfdgdahinkpaa
