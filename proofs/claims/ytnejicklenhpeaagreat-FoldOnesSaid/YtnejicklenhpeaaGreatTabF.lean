/- Whether two lists of events are the same: its walk; the walk of the law SpaceTables. Conditions: none. -/
import Derived.Test.YtnejicklenhpeaaGreatTabE
import Derived.Test.YtnejicklenhpeaaGreatSpaceT
namespace Go.Proofs.YtnejicklenhpeaaGreat
open Go.RowKit Go.Lib
set_option linter.unusedVariables false
set_option maxHeartbeats 4000000 in
set_option maxRecDepth 100000 in
theorem SameEvents_l (l m : List EvD) (w : World) (v u : Value) (hv : SlOf w w.heap.size 7 encE v l) (hu : SlOf w w.heap.size 7 encE u m) :
    Calls Tryz.prog 33 #[v, u] w fun e w' => e = .returned (.bool (decide (l = m))) ∧ Below w.heap.size w w' := by
  obtain ⟨a, cap, g, off, rfl, hlc, hcm, hx⟩ := SlOf.at (enc := encE) (fun _ => rfl) un_evs sz_evs hv
  obtain ⟨a2, cap2, g2, off2, rfl, hlc2, hcm2, hx2⟩ := SlOf.at (enc := encE) (fun _ => rfl) un_evs sz_evs hu
  have HX := Lib.hid hx; have HX2 := Lib.hid hx2; clear hx hx2 hv hu
  unfold maxLen at hcm hcm2
  by_cases hlen : l.length = m.length
  rotate_left
  · have hne : ¬ ((l.length : Int) = (m.length : Int)) := by omega
    have HF := Lib.hid (show decide (l = m) = false by rw [decide_eq_false_iff_not]; intro e; exact hlen (by rw [e]))
    clear hlen
    go_enter Tryz.func33, Tryz.ntmps33
    go_wp2
    go_ret
    exact ⟨ret_bool HF.out.symm, by repeat (first | exact Below.refl _ _ | assumption | (refine Below.drew ?_) | (refine below_drewN ?_ _) | (refine Below.alloc ?_ (by first | (simp; done) | (simp; omega) | omega) _) | (refine Below.setCell ?_ (by first | (simp; done) | (simp; omega) | omega) _) | (refine Below.trans ?_ (Below.mono (by assumption) (by first | (simp; done) | (simp; omega) | omega))))⟩
  have HLEN := Lib.hid hlen
  rw [← hlen]
  clear hlen
  have hk4 : (l.length : Int) ≤ 9223372036854775807 := by omega
  go_enter Tryz.func33, Tryz.ntmps33
  go_wp2
  go_loopw [5] (fun i wr => ∃ k : Nat, k ≤ l.length ∧ i = .int .i64 (k : Nat) ∧ Hid (∀ j, j < k → l[j]? = m[j]?) ∧ Below w.heap.size w wr) (fun i _ => l.length - (intOf i).toNat)
  case atStart => exact ⟨0, by omega, rfl, Lib.hid (fun j h => absurd h (by omega)), Below.refl _ _⟩
  case round =>
    obtain ⟨k, hk, rfl, HS, hb⟩ := hrel
    by_cases hlt : k < l.length
    rotate_left
    · have HK := Lib.hid (show k = l.length by omega)
      have HT := Lib.hid (show decide (l = m) = true by
        rw [decide_eq_true_eq]
        refine List.ext_getElem? (fun j => ?_)
        rcases Nat.lt_or_ge j l.length with h | h
        · exact HS.out j (by rw [HK.out]; exact h)
        · rw [List.getElem?_eq_none h, List.getElem?_eq_none (by rw [← HLEN.out]; exact h)])
      go_wp2
      go_ret
      exact ⟨ret_bool HT.out.symm, hb⟩
    have hlt2 : k < m.length := by rw [← HLEN.out]; exact hlt
    obtain ⟨-, hi, hg, hc⟩ := HX.out k hlt
    obtain ⟨-, hi2, hg2, hc2⟩ := HX2.out k hlt2
    rw [← HLEN.out] at hi2
    have rd := fun j hj => (hb.cell (p := ⟨g, off + 7 * k + j, none⟩) hg).trans (hc j hj)
    have rd2 := fun j hj => (hb.cell (p := ⟨g2, off2 + 7 * k + j, none⟩) hg2).trans (hc2 j hj)
    have HE := Lib.hid (show l[k]? = some l[k] ∧ m[k]? = some m[k] by simp [hlt, hlt2])
    clear hc hc2
    generalize l[k] = p at *
    generalize m[k] = q at *
    have heq := fun W => eq_ev 9996 p q W
    obtain ⟨p0, ⟨p1, p2⟩, ⟨p3, p4, p5, p6⟩⟩ := p
    obtain ⟨q0, ⟨q1, q2⟩, ⟨q3, q4, q5, q6⟩⟩ := q
    simp only [evD] at heq
    have r0 : wr.cell? ⟨g, off + 7 * k, none⟩ = some (.int .i64 p0) := rd 0 (by omega)
    have r1 : wr.cell? ⟨g, off + 7 * k + 1, none⟩ = some (.int .i64 p1) := rd 1 (by omega)
    have r2 : wr.cell? ⟨g, off + 7 * k + 2, none⟩ = some (.int .i64 p2) := rd 2 (by omega)
    have r3 : wr.cell? ⟨g, off + 7 * k + 3, none⟩ = some (.int .i64 p3) := rd 3 (by omega)
    have r4 : wr.cell? ⟨g, off + 7 * k + 4, none⟩ = some (.int .i64 p4) := rd 4 (by omega)
    have r5 : wr.cell? ⟨g, off + 7 * k + 5, none⟩ = some (.int .i64 p5) := rd 5 (by omega)
    have r6 : wr.cell? ⟨g, off + 7 * k + 6, none⟩ = some (.int .i64 p6) := rd 6 (by omega)
    have s0 : wr.cell? ⟨g2, off2 + 7 * k, none⟩ = some (.int .i64 q0) := rd2 0 (by omega)
    have s1 : wr.cell? ⟨g2, off2 + 7 * k + 1, none⟩ = some (.int .i64 q1) := rd2 1 (by omega)
    have s2 : wr.cell? ⟨g2, off2 + 7 * k + 2, none⟩ = some (.int .i64 q2) := rd2 2 (by omega)
    have s3 : wr.cell? ⟨g2, off2 + 7 * k + 3, none⟩ = some (.int .i64 q3) := rd2 3 (by omega)
    have s4 : wr.cell? ⟨g2, off2 + 7 * k + 4, none⟩ = some (.int .i64 q4) := rd2 4 (by omega)
    have s5 : wr.cell? ⟨g2, off2 + 7 * k + 5, none⟩ = some (.int .i64 q5) := rd2 5 (by omega)
    have s6 : wr.cell? ⟨g2, off2 + 7 * k + 6, none⟩ = some (.int .i64 q6) := rd2 6 (by omega)
    clear rd rd2
    by_cases hpq : (⟨p0, (p1, p2), (p3, p4, p5, p6)⟩ : EvD) = ⟨q0, (q1, q2), (q3, q4, q5, q6)⟩
    · have HPQ := Lib.hid hpq
      rw [decide_eq_true hpq] at heq
      clear hpq
      go_wp2
      go_quiet (fail)
      go_wp2
      go_roundw
      case rel =>
        refine ⟨k + 1, hlt, by simp, Lib.hid (fun j hj => ?_), below_drewN hb _⟩
        by_cases he : j = k
        · subst he; rw [HE.out.1, HE.out.2, HPQ.out]
        · exact HS.out j (by omega)
      case measure => simp only [intOf]; omega
    · have HF := Lib.hid (show decide (l = m) = false by
        rw [decide_eq_false_iff_not]; intro e
        have h1 := HE.out.1
        rw [e, HE.out.2] at h1
        exact hpq (Option.some.inj h1).symm)
      rw [decide_eq_false hpq] at heq
      clear hpq
      go_wp2
      go_quiet (fail)
      go_wp2
      go_ret
      exact ⟨ret_bool HF.out.symm, below_drewN hb _⟩
end Go.Proofs.YtnejicklenhpeaaGreat
