/- The reference's Line; equality of points; whether two lists of points are the same: their walks. -/
import Derived.Test.YtndfdgdahinkpaaRecT
namespace Go.Proofs.Ytndfdgdahinkpaa
open Go.RowKit
set_option maxHeartbeats 4000000 in
set_option maxRecDepth 100000 in
theorem rLine_l (r : RecD) (u : P3) (c : Int × Int) (w : World) (hr : RecRd w r) :
    Calls Try.prog 12 #[.agg #[.int .i64 r.n, r.lv, r.vv], .agg #[.int .i64 u.1, .int .i64 u.2.1, .int .i64 u.2.2], .agg #[.int .i64 c.1, .int .i64 c.2]] w fun e w' => LineR r u c e w' ∧ Below w.heap.size w w' := by
  have HR := Lib.hid hr
  clear hr
  have HAS := Lib.hid (fun (W : World) (h : RecRd W r) => Asked_l r u W h)
  obtain ⟨W0, hW0⟩ : ∃ W : World, ((w.alloc (Obj.cells #[.int .i64 r.n, r.lv, r.vv] 27)).alloc (Obj.cells #[.int .i64 u.1, .int .i64 u.2.1, .int .i64 u.2.2] 29)).alloc (Obj.cells #[.int .i64 c.1, .int .i64 c.2] 31) = W := ⟨_, rfl⟩
  have kw : Below w.heap.size w W0 := by rw [← hW0]; exact (by repeat (first | exact Below.refl _ _ | assumption | (refine Below.drew ?_) | (refine below_drewN ?_ _) | (refine Below.alloc ?_ (by first | (simp; done) | (simp; omega) | omega) _) | (refine Below.setCell ?_ (by first | (simp; done) | (simp; omega) | omega) _) | (refine Below.trans ?_ (Below.mono (by assumption) (by first | (simp; done) | (simp; omega) | omega)))))
  have ks : W0.heap.size = w.heap.size + 3 := by rw [← hW0]; simp
  have RD := Lib.hid (show ∀ V, Below W0.heap.size W0 V → V.cell? ⟨w.heap.size, 0, none⟩ = some (.int .i64 r.n) ∧ V.cell? ⟨w.heap.size, 1, none⟩ = some r.lv ∧ V.cell? ⟨w.heap.size, 2, none⟩ = some r.vv ∧ V.cell? ⟨w.heap.size + 1, 0, none⟩ = some (.int .i64 u.1) ∧ V.cell? ⟨w.heap.size + 1, 1, none⟩ = some (.int .i64 u.2.1) ∧ V.cell? ⟨w.heap.size + 1, 2, none⟩ = some (.int .i64 u.2.2) ∧ V.cell? ⟨w.heap.size + 1 + 1, 0, none⟩ = some (.int .i64 c.1) ∧ V.cell? ⟨w.heap.size + 1 + 1, 1, none⟩ = some (.int .i64 c.2) from
    fun V h => by
      refine ⟨(h.cell (p := ⟨w.heap.size, 0, none⟩) (by simp; omega)).trans ?_, (h.cell (p := ⟨w.heap.size, 1, none⟩) (by simp; omega)).trans ?_, (h.cell (p := ⟨w.heap.size, 2, none⟩) (by simp; omega)).trans ?_, (h.cell (p := ⟨w.heap.size + 1, 0, none⟩) (by simp; omega)).trans ?_, (h.cell (p := ⟨w.heap.size + 1, 1, none⟩) (by simp; omega)).trans ?_, (h.cell (p := ⟨w.heap.size + 1, 2, none⟩) (by simp; omega)).trans ?_, (h.cell (p := ⟨w.heap.size + 1 + 1, 0, none⟩) (by simp; omega)).trans ?_, (h.cell (p := ⟨w.heap.size + 1 + 1, 1, none⟩) (by simp; omega)).trans ?_⟩ <;> (subst hW0; go_simp))
  have HW := Lib.hid hW0; have KW := Lib.hid kw; clear hW0 kw
  by_cases ha : askE r u = 0
  rotate_left
  · have HE := Lib.hid (fun w' => lineR_err (c := c) (rfl : askE r u = askE r u) ha w')
    have hnz : (askE r u != 0) = true := by simpa using ha
    clear ha
    generalize hA : askE r u = A at *
    have HA := Lib.hid hA; clear hA
    go_enter Try.func12, Try.ntmps12
    go_wp2_with (go_at_call 25; rw [HW.out]; refine (HAS.out _ (HR.out.below KW.out)).mono ?_; go_must (rintro e w1 ⟨rfl, hb1⟩))
    go_ret2
    exact ⟨HE.out _, below_at KW.out (by omega) hb1⟩
  have HA := Lib.hid ha
  have HY := Lib.hid (fun (w' : World) (v' : Value) (h : SlOf w' w'.heap.size 3 encP v' (lineL r u c)) => lineR_ok ha h)
  have HL := Lib.hid (fun (W : World) (h : RecRd W r) => rline_l r u c ha W h)
  clear ha
  go_enter Try.func12, Try.ntmps12
  go_wp2_with (first | (go_at_call 25; rw [HW.out]; refine (HAS.out _ (HR.out.below KW.out)).mono ?_; go_must (rintro e w1 ⟨rfl, hb1⟩; rw [HA.out]; obtain ⟨k0, k1, k2, k3, k4, k5, k6, k7⟩ := RD.out _ hb1; have KA := Lib.hid (below_at KW.out (by omega) hb1))) | (go_at_call 40; refine (HL.out _ (HR.out.below KA.out)).mono ?_; go_must (rintro e w2 ⟨⟨v', rfl, hsl⟩, hb2⟩)))
  go_ret2
  exact ⟨HY.out _ _ hsl, below_at KA.out (by have := hb1.size; omega) hb2⟩
theorem part3_0 (x y z : Value) (w : World) : (part 3 #[x, y, z] 0).run Try.prog w = .ok x w := by kernel_rfl
theorem part3_1 (x y z : Value) (w : World) : (part 3 #[x, y, z] 1).run Try.prog w = .ok y w := by kernel_rfl
theorem part3_2 (x y z : Value) (w : World) : (part 3 #[x, y, z] 2).run Try.prog w = .ok z w := by kernel_rfl
theorem eq_pt (p q : P3) (w : World) : (Op.equalIn 10000 29 (.agg #[.int .i64 p.1, .int .i64 p.2.1, .int .i64 p.2.2]) (.agg #[.int .i64 q.1, .int .i64 q.2.1, .int .i64 q.2.2])).run Try.prog w = .ok (decide (p = q)) w := by
  obtain ⟨i, hi⟩ : ∃ i, Try.prog.info? 3 = some i := Option.isSome_iff_exists.mp (by kernel_rfl)
  rw [run_equalIn_array w 9999 (n := 3) (e := 3) _ _ Try.underlying29 hi]
  simp only [show Try.prog.cellsOf 3 = 1 by kernel_rfl]
  obtain ⟨a, b, c⟩ := p
  obtain ⟨d, e, f⟩ := q
  by_cases h1 : a = d <;> by_cases h2 : b = e <;> by_cases h3 : c = f <;> simp [Op.eqItems, List.range_succ, part3_0, part3_1, part3_2, eq_int 9998, h1, h2, h3]
set_option maxHeartbeats 4000000 in
set_option maxRecDepth 100000 in
theorem samePoints_l (l m : List P3) (w : World) (v u : Value) (hv : SlOf w w.heap.size 3 encP v l) (hu : SlOf w w.heap.size 3 encP u m) :
    Calls Try.prog 13 #[v, u] w fun e w' => e = .returned (.bool (decide (l = m))) ∧ Below w.heap.size w w' := by
  obtain ⟨a, cap, g, off, rfl, hlc, hcm, hx⟩ := SlOf.at (enc := encP) (fun _ => rfl) un_pts sz_pts hv
  obtain ⟨a2, cap2, g2, off2, rfl, hlc2, hcm2, hx2⟩ := SlOf.at (enc := encP) (fun _ => rfl) un_pts sz_pts hu
  have HX := Lib.hid hx; have HX2 := Lib.hid hx2; clear hx hx2 hv hu
  unfold maxLen at hcm hcm2
  by_cases hlen : l.length = m.length
  rotate_left
  · have hne : ¬ ((l.length : Int) = (m.length : Int)) := by omega
    have HF := Lib.hid (show decide (l = m) = false by rw [decide_eq_false_iff_not]; intro e; exact hlen (by rw [e]))
    clear hlen
    go_enter Try.func13, Try.ntmps13
    go_wp2
    go_ret
    exact ⟨ret_bool HF.out.symm, by repeat (first | exact Below.refl _ _ | assumption | (refine Below.drew ?_) | (refine below_drewN ?_ _) | (refine Below.alloc ?_ (by first | (simp; done) | (simp; omega) | omega) _) | (refine Below.setCell ?_ (by first | (simp; done) | (simp; omega) | omega) _) | (refine Below.trans ?_ (Below.mono (by assumption) (by first | (simp; done) | (simp; omega) | omega))))⟩
  have HLEN := Lib.hid hlen
  rw [← hlen]
  clear hlen
  have hk4 : (l.length : Int) ≤ 9223372036854775807 := by omega
  go_enter Try.func13, Try.ntmps13
  go_wp2
  go_loopw [5] (fun i wr => ∃ k : Nat, k ≤ l.length ∧ i = .int .i64 (k : Nat) ∧ Hid (∀ j, j < k → l[j]? = m[j]?) ∧ Below w.heap.size w wr) (fun i _ => l.length - (intOf i).toNat)
  case atStart => exact ⟨0, by omega, rfl, Lib.hid (fun j h => absurd h (by omega)), Below.refl _ _⟩
  case round =>
    obtain ⟨k, hk, rfl, HS, hb⟩ := hrel
    by_cases hlt : k < l.length
    rotate_left
    · have HK := Lib.hid (show k = l.length by omega)
      have HT := Lib.hid (show decide (l = m) = true by
        rw [decide_eq_true_eq]
        refine List.ext_getElem? (fun j => ?_)
        rcases Nat.lt_or_ge j l.length with h | h
        · exact HS.out j (by rw [HK.out]; exact h)
        · rw [List.getElem?_eq_none h, List.getElem?_eq_none (by rw [← HLEN.out]; exact h)])
      go_wp2
      go_ret
      exact ⟨ret_bool HT.out.symm, hb⟩
    have hlt2 : k < m.length := by rw [← HLEN.out]; exact hlt
    obtain ⟨-, hi, hg, hc⟩ := HX.out k hlt
    obtain ⟨-, hi2, hg2, hc2⟩ := HX2.out k hlt2
    rw [← HLEN.out] at hi2
    have rd := fun j hj => (hb.cell (p := ⟨g, off + 3 * k + j, none⟩) hg).trans (hc j hj)
    have rd2 := fun j hj => (hb.cell (p := ⟨g2, off2 + 3 * k + j, none⟩) hg2).trans (hc2 j hj)
    have HE := Lib.hid (show l[k]? = some l[k] ∧ m[k]? = some m[k] by simp [hlt, hlt2])
    clear hc hc2
    generalize l[k] = p at *
    generalize m[k] = q at *
    have heq := fun W => eq_pt p q W
    obtain ⟨p0, p1, p2⟩ := p
    obtain ⟨q0, q1, q2⟩ := q
    have r0 : wr.cell? ⟨g, off + 3 * k, none⟩ = some (.int .i64 p0) := rd 0 (by omega)
    have r1 : wr.cell? ⟨g, off + 3 * k + 1, none⟩ = some (.int .i64 p1) := rd 1 (by omega)
    have r2 : wr.cell? ⟨g, off + 3 * k + 2, none⟩ = some (.int .i64 p2) := rd 2 (by omega)
    have s0 : wr.cell? ⟨g2, off2 + 3 * k, none⟩ = some (.int .i64 q0) := rd2 0 (by omega)
    have s1 : wr.cell? ⟨g2, off2 + 3 * k + 1, none⟩ = some (.int .i64 q1) := rd2 1 (by omega)
    have s2 : wr.cell? ⟨g2, off2 + 3 * k + 2, none⟩ = some (.int .i64 q2) := rd2 2 (by omega)
    clear rd rd2
    simp only at heq
    by_cases hpq : ((p0, p1, p2) : P3) = (q0, q1, q2)
    · have HPQ := Lib.hid hpq
      rw [decide_eq_true hpq] at heq
      clear hpq
      go_wp2
      go_quiet (fail)
      go_wp2
      go_roundw
      case rel =>
        refine ⟨k + 1, hlt, by simp, Lib.hid (fun j hj => ?_), below_drewN hb _⟩
        by_cases he : j = k
        · subst he; rw [HE.out.1, HE.out.2, HPQ.out]
        · exact HS.out j (by omega)
      case measure => simp only [intOf]; omega
    · have HF := Lib.hid (show decide (l = m) = false by
        rw [decide_eq_false_iff_not]; intro e
        have h1 := HE.out.1
        rw [e, HE.out.2] at h1
        exact hpq (Option.some.inj h1).symm)
      rw [decide_eq_false hpq] at heq
      clear hpq
      go_wp2
      go_quiet (fail)
      go_wp2
      go_ret
      exact ⟨ret_bool HF.out.symm, below_drewN hb _⟩
end Go.Proofs.Ytndfdgdahinkpaa
