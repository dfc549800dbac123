/- slices.Compact on a row of cells of the call's own: its walk. -/
import Derived.Test.YtndfdgdahinkpaaCelC
import Derived.BigQuiet
import Derived.Deep.LoopGhost
namespace Go.Proofs.Ytndfdgdahinkpaa
open Go.RowKit Go.Lib
def CmpR (g cap : Nat) (d : Array (Int × Int)) (W : World) (e : Ending) (W' : World) : Prop :=
  e = .returned (.slice (some ⟨g, 0, none⟩) (compactUpTo d d.size).length cap) ∧ RowC W' g (compactUpTo d d.size).toArray ∧ Below g W W'
set_option maxHeartbeats 4000000 in
set_option maxRecDepth 100000 in
theorem compact_l (d : Array (Int × Int)) (g cap : Nat) (W : World) (h : RowC W g d) (h2 : 2 ≤ d.size) (hsz : d.size ≤ 100000) (hcap : d.size ≤ cap) (hcm : cap ≤ 9223372036854775807) :
    Calls Try.prog 82 #[.slice (some ⟨g, 0, none⟩) d.size cap] W fun e W' => CmpR g cap d W e W' := by
  have HH := Lib.hid h; clear h
  go_enter Try.func82, Try.ntmps82
  go_wp2
  go_loopw [3] (fun s3 wr => ∃ k q : Nat, 1 ≤ k ∧ k ≤ d.size ∧ s3 = .int .i64 (k : Nat) ∧ wr = W.drewN q ∧ Hid (∀ j, j < k → keeps d j = true)) (fun s3 _ => d.size - (intOf s3).toNat)
  case atStart => exact ⟨1, 0, Nat.le_refl _, by omega, rfl, rfl, Lib.hid (keeps_lt_one d)⟩
  case round =>
    obtain ⟨k, q, hk1, hk, rfl, rfl, HK⟩ := hrel
    by_cases hlt : k < d.size
    rotate_left
    · have he : k = d.size := by omega
      subst he
      go_wp2
      go_ret
      have e : compactUpTo d d.size = d.toList := by rw [compactUpTo_all d _ HK.out, range_map_get]
      exact ⟨by rw [e]; rfl, by rw [e]; exact HH.out.drewN q, Below.drewN2 (Below.refl _ _) q⟩
    obtain ⟨m, rfl⟩ : ∃ m, k = m + 1 := ⟨k - 1, by omega⟩
    obtain ⟨a0, a1, -, -⟩ := HH.out.2 (m + 1) hlt
    obtain ⟨b0, b1, -, -⟩ := HH.out.2 m (by omega)
    have HX := Lib.hid (show keeps d (m + 1) = decide (d[m + 1]! ≠ d[m]!) by simp [keeps])
    generalize d[m + 1]! = x at *
    generalize d[m]! = y at *
    have heq := fun W => eq_cell x.1 x.2 y.1 y.2 W
    have hz0 : (0 : Int) ≤ (m : Int) + 1 := by omega
    have hz1 : (m : Int) + 1 < (d.size : Int) := by omega
    by_cases he : x = y
    · subst he
      simp only [decide_true, Bool.and_self] at heq
      go_wp2
      go_quiet (fail)
      go_wp2
      have HX2 := Lib.hid (show keeps d (m + 1) = false by rw [HX.out]; simp)
      clear heq a0 a1 b0 b1 HX
      go_loopw [3, 5] (fun s3 s5 wr => ∃ (kk j : Nat) (dk : Array (Int × Int)), s3 = .int .i64 (kk : Nat) ∧ s5 = .int .i64 ((j + 1 : Nat) : Int) ∧ m + 1 + (j + 1) ≤ d.size ∧ Hid (RowC wr g dk) ∧ Hid (Below g W wr) ∧ Hid (CompInv d (m + 1 + (j + 1)) kk dk)) (fun _ s5 _ => d.size - (intOf s5).toNat)
      case atStart => exact ⟨m + 1, 0, d, by simp, rfl, by omega, Lib.hid (HH.out.drewN _), Lib.hid (Below.drewN2 (Below.refl _ _) _), Lib.hid (CompInv.start HK.out HX2.out)⟩
      case round =>
        obtain ⟨kk, j, dk, rfl, rfl, hle, HR, HB, HI⟩ := hrel
        have hkk := HI.out.lt
        have hds := HI.out.size
        by_cases hlt2 : m + 1 + (j + 1) < d.size
        rotate_left
        · have hend : m + 1 + (j + 1) = d.size := by omega
          have HCL := Lib.hid (fun ty => clear_C wr ty g (kk * 2) (d.size - kk) (cap - kk) (by omega) (fun i hi => by
            obtain ⟨e0, e1, -, -⟩ := HR.out.2 (kk + i / 2) (by omega)
            rcases Nat.mod_two_eq_zero_or_one i with e | e
            · rw [show kk * 2 + i = (kk + i / 2) * 2 by omega, e0]; rfl
            · rw [show kk * 2 + i = (kk + i / 2) * 2 + 1 by omega, e1]; rfl) (fun i hi => by
            obtain ⟨-, -, f0, f1⟩ := HR.out.2 (kk + i / 2) (by omega)
            rcases Nat.mod_two_eq_zero_or_one i with e | e
            · rw [show kk * 2 + i = (kk + i / 2) * 2 by omega, f0]
            · rw [show kk * 2 + i = (kk + i / 2) * 2 + 1 by omega, f1]))
          have hcl := HCL.out
          go_wp2
          go_ret
          have hI := HI.out
          rw [hend] at hI
          refine ⟨by rw [hI.len]; rfl, (HR.out.low (by rw [hI.len]; omega) (fun i hi => hI.low i (by rw [hI.len] at hi; exact hi))).cut _ (by simp [hI.len]) _, below_setC g (Nat.le_refl g) _ _ HB.out⟩
        obtain ⟨a0, a1, -, -⟩ := HR.out.2 (m + 1 + (j + 1)) (by omega)
        obtain ⟨b0, b1, -, -⟩ := HR.out.2 (m + 1 + j) (by omega)
        obtain ⟨e0, e1, f0, f1⟩ := HR.out.2 kk (by omega)
        rw [HI.out.high (m + 1 + (j + 1)) (by omega), show (m + 1 + (j + 1)) * 2 = (m + 1) * 2 + (j + 1) * 2 by omega] at a0 a1
        rw [HI.out.high (m + 1 + j) (by omega), show (m + 1 + j) * 2 = (m + 1) * 2 + j * 2 by omega] at b0 b1
        have hzj : (0 : Int) ≤ (j : Int) + 1 := by omega
        have HX := Lib.hid (show keeps d (m + 1 + (j + 1)) = decide (d[m + 1 + (j + 1)]! ≠ d[m + 1 + j]!) by simp [keeps])
        have HQ := Lib.hid (fun (hk : keeps d (m + 1 + (j + 1)) = true) => HI.out.keep hlt2 hk)
        generalize d[m + 1 + (j + 1)]! = x at *
        generalize d[m + 1 + j]! = y at *
        generalize dk[kk]! = z at *
        by_cases he : x = y
        · subst he
          have heq : ∀ W : World, (Op.equalIn 10000 31 (.agg #[.int .i64 x.1, .int .i64 x.2]) (.agg #[.int .i64 x.1, .int .i64 x.2])).run Try.prog W = .ok true W := fun W => by simpa using eq_cell x.1 x.2 x.1 x.2 W
          go_wp2
          go_quiet (fail)
          go_wp2
          go_roundw
          case rel => exact ⟨kk, j + 1, dk, rfl, by simp, by omega, Lib.hid (HR.out.drewN _), Lib.hid (Below.drewN2 HB.out _), Lib.hid (HI.out.skip (by rw [HX.out]; simp))⟩
          case measure => simp only [intOf]; omega
        · have heq : ∀ W : World, (Op.equalIn 10000 31 (.agg #[.int .i64 x.1, .int .i64 x.2]) (.agg #[.int .i64 y.1, .int .i64 y.2])).run Try.prog W = .ok false W := fun W => by
            rw [eq_cell x.1 x.2 y.1 y.2 W, ← Bool.decide_and, decide_eq_false (fun h => he (Prod.ext_iff.2 h))]
          have HE := Lib.hid he
          clear he
          go_wp2
          go_quiet (fail)
          go_wp2
          go_roundw
          case rel => exact ⟨kk + 1, j + 1, _, by simp, by simp, by omega, Lib.hid ((HR.out.drewN nq).set kk (by omega) x), Lib.hid (below_setC g (Nat.le_refl g) [_, _] _ (Below.drewN2 HB.out nq)), Lib.hid (HQ.out (by rw [HX.out, decide_eq_true_iff]; exact HE.out))⟩
          case measure => simp only [intOf]; omega
    · have hd : (decide (x.1 = y.1) && decide (x.2 = y.2)) = false := by
        rw [← Bool.decide_and, decide_eq_false_iff_not, ← Prod.ext_iff]; exact he
      simp only [hd] at heq
      have HE := Lib.hid he
      clear he hd
      go_wp2
      go_quiet (fail)
      go_wp2
      go_roundw
      case rel => exact ⟨m + 1 + 1, _, by omega, by omega, by simp, rfl, Lib.hid (fun j hj => by
        by_cases e : j = m + 1
        · subst e; rw [HX.out, decide_eq_true_iff]; exact HE.out
        · exact HK.out j (by omega))⟩
      case measure => simp only [intOf]; omega
end Go.Proofs.Ytndfdgdahinkpaa
