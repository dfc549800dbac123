/- The law's Wide, same and Sane of layer 8; the law MachWaits: their walks. -/
import Derived.Test.YtbjbdochffocoaaMachO
namespace Go.Proofs.Ytbjbdochffocoaa
open Go.RowKit Go.Lib
set_option linter.unusedVariables false
set_option maxHeartbeats 4000000 in
set_option maxRecDepth 100000 in
theorem same8_l (l m : List Int) (w : World) (v u : Value) (hv : SlOf w w.heap.size 1 encInt v l) (hu : SlOf w w.heap.size 1 encInt u m) :
    Calls Try.prog 16 #[v, u] w fun e w' => e = .returned (.bool (decide (l = m))) ∧ Below w.heap.size w w' := by
  obtain ⟨a, cap, g, off, rfl, hlc, hcm, hx⟩ := SlOf.at (enc := encInt) (fun _ => rfl) un_int sz_int1 hv
  obtain ⟨a2, cap2, g2, off2, rfl, hlc2, hcm2, hx2⟩ := SlOf.at (enc := encInt) (fun _ => rfl) un_int sz_int1 hu
  have HX := Lib.hid hx; have HX2 := Lib.hid hx2; clear hx hx2 hv hu
  unfold maxLen at hcm hcm2
  by_cases hlen : l.length = m.length
  rotate_left
  · have hne : ((l.length : Int) != (m.length : Int)) = true := by simp; omega
    have HF := Lib.hid (show decide (l = m) = false by rw [decide_eq_false_iff_not]; intro e; exact hlen (by rw [e]))
    clear hlen
    go_enter Try.func16, Try.ntmps16
    go_wp2
    go_ret
    exact ⟨ret_bool HF.out.symm, by repeat (first | exact Below.refl _ _ | assumption | (refine Below.drew ?_) | (refine below_drewN ?_ _) | (refine Below.alloc ?_ (by first | (simp; done) | (simp; omega) | omega) _) | (refine Below.setCell ?_ (by first | (simp; done) | (simp; omega) | omega) _) | (refine Below.trans ?_ (Below.mono (by assumption) (by first | (simp; done) | (simp; omega) | omega))))⟩
  have HLEN := Lib.hid hlen
  rw [← hlen]
  clear hlen
  have hk4 : (l.length : Int) ≤ 9223372036854775807 := by omega
  go_enter Try.func16, Try.ntmps16
  go_wp2
  go_loopw [5] (fun i wr => ∃ k : Nat, k ≤ l.length ∧ i = .int .i64 (k : Nat) ∧ Hid (∀ j, j < k → l[j]? = m[j]?) ∧ Below w.heap.size w wr) (fun i _ => l.length - (intOf i).toNat)
  case atStart => exact ⟨0, by omega, rfl, Lib.hid (fun j h => absurd h (by omega)), Below.refl _ _⟩
  case round =>
    obtain ⟨k, hk, rfl, HS, hb⟩ := hrel
    by_cases hlt : k < l.length
    rotate_left
    · have HK := Lib.hid (show k = l.length by omega)
      have hlz : ¬ (k : Int) < (l.length : Int) := by omega
      have HT := Lib.hid (show decide (l = m) = true by
        rw [decide_eq_true_eq]
        refine List.ext_getElem? (fun j => ?_)
        rcases Nat.lt_or_ge j l.length with h | h
        · exact HS.out j (by rw [HK.out]; exact h)
        · rw [List.getElem?_eq_none h, List.getElem?_eq_none (by rw [← HLEN.out]; exact h)])
      go_wp2
      go_ret
      exact ⟨ret_bool HT.out.symm, hb⟩
    have hlt2 : k < m.length := by rw [← HLEN.out]; exact hlt
    have hlz : (k : Int) < (l.length : Int) := by omega
    have hk0 : (0 : Int) ≤ (k : Int) := by omega
    obtain ⟨-, hi, hg, hc⟩ := HX.out k hlt
    obtain ⟨-, hi2, hg2, hc2⟩ := HX2.out k hlt2
    rw [← HLEN.out] at hi2
    have r0 : wr.cell? ⟨g, off + k, none⟩ = some (.int .i64 l[k]) := by have := (hb.cell (p := ⟨g, off + 1 * k + 0, none⟩) hg).trans (hc 0 (by omega)); simpa [encInt] using this
    have s0 : wr.cell? ⟨g2, off2 + k, none⟩ = some (.int .i64 m[k]) := by have := (hb.cell (p := ⟨g2, off2 + 1 * k + 0, none⟩) hg2).trans (hc2 0 (by omega)); simpa [encInt] using this
    simp only [Nat.one_mul] at hi hi2
    have HE := Lib.hid (show l[k]? = some l[k] ∧ m[k]? = some m[k] by simp [hlt, hlt2])
    clear hc hc2
    generalize l[k] = p at *
    generalize m[k] = q at *
    have HLT := Lib.hid hlt
    by_cases hpq : p = q
    · have HPQ := Lib.hid hpq
      have hz : (p != q) = false := by simp [hpq]
      clear hpq
      go_wp2
      go_quiet (fail)
      go_wp2
      go_roundw
      case rel =>
        refine ⟨k + 1, HLT.out, by simp, Lib.hid (fun j hj => ?_), below_drewN hb _⟩
        by_cases he : j = k
        · subst he; rw [HE.out.1, HE.out.2, HPQ.out]
        · exact HS.out j (by omega)
      case measure => simp only [intOf]; have := HLT.out; omega
    · have HF := Lib.hid (show decide (l = m) = false by
        rw [decide_eq_false_iff_not]; intro e
        have h1 := HE.out.1
        rw [e, HE.out.2] at h1
        exact hpq (Option.some.inj h1).symm)
      have hz : (p != q) = true := by simp [hpq]
      clear hpq
      go_wp2
      go_quiet (fail)
      go_wp2
      go_ret
      exact ⟨ret_bool HF.out.symm, below_drewN hb _⟩
def wideP (p : List OpD) : Bool := p.any (fun o => decide (8 < o.src.length)) || ((decide (60 < p.length) && decide (p.length ≤ 4000)) || decide (4010 < p.length))
set_option maxHeartbeats 4000000 in
set_option maxRecDepth 100000 in
theorem Wide8_l (p : List OpD) (v : Value) (w : World) (hp : ProgRd w v p) : Calls Try.prog 10 #[v] w fun e w' => e = .returned (.bool (wideP p)) ∧ Below w.heap.size w w' := by
  have HP := Lib.hid hp
  obtain ⟨a, cap, g, off, rfl, hl, hm, hat⟩ := ops_at hp
  have HX := Lib.hid hat
  have HW := Lib.hid (show wideP p = (p.any (fun o => decide (8 < o.src.length)) || ((decide (60 < p.length) && decide (p.length ≤ 4000)) || decide (4010 < p.length))) from rfl)
  have hmx : (p.length : Int) ≤ 9223372036854775807 := by omega
  clear hp hat
  go_enter Try.func10, Try.ntmps10
  go_wp2
  go_loopw [3] (fun t3 wr => ∃ k : Nat, k ≤ p.length ∧ t3 = .int .i64 (k : Nat) ∧ Hid (∀ j (h : j < p.length), j < k → ¬ 8 < p[j].src.length) ∧ Below w.heap.size w wr) (fun t3 _ => p.length - (intOf t3).toNat)
  case atStart => exact ⟨0, Nat.zero_le _, rfl, Lib.hid (fun j h h2 => absurd h2 (by omega)), Below.refl _ _⟩
  case round =>
    obtain ⟨k, hk, rfl, HN, hb⟩ := hrel
    by_cases hlt : k < p.length
    rotate_left
    · have hke : k = p.length := by omega
      have hlz : ¬ (k : Int) < (p.length : Int) := by omega
      have HA := Lib.hid (show p.any (fun o => decide (8 < o.src.length)) = false by
        rw [List.any_eq_false]
        intro o ho
        obtain ⟨j, hj, rfl⟩ := List.getElem_of_mem ho
        simpa using HN.out j hj (by omega))
      rw [HA.out, Bool.false_or] at HW
      clear hke hlt HA HX HN HP
      by_cases h1 : 60 < p.length
      · by_cases h2 : p.length ≤ 4000
        · have k1 : (60 : Int) < (p.length : Int) := by omega
          have k2 : (p.length : Int) ≤ 4000 := by omega
          rw [decide_eq_true h1, decide_eq_true h2] at HW
          clear h1 h2
          go_wp2
          go_ret
          exact ⟨ret_bool (by rw [HW.out]; rfl), hb⟩
        · by_cases h3 : 4010 < p.length
          · have k1 : (60 : Int) < (p.length : Int) := by omega
            have k2 : ¬ (p.length : Int) ≤ 4000 := by omega
            have k3 : (4010 : Int) < (p.length : Int) := by omega
            rw [decide_eq_true h1, decide_eq_false h2, decide_eq_true h3] at HW
            clear h1 h2 h3
            go_wp2
            go_ret
            exact ⟨ret_bool (by rw [HW.out]; rfl), hb⟩
          · have k1 : (60 : Int) < (p.length : Int) := by omega
            have k2 : ¬ (p.length : Int) ≤ 4000 := by omega
            have k3 : ¬ (4010 : Int) < (p.length : Int) := by omega
            rw [decide_eq_true h1, decide_eq_false h2, decide_eq_false h3] at HW
            clear h1 h2 h3
            go_wp2
            go_ret
            exact ⟨ret_bool (by rw [HW.out]; rfl), hb⟩
      · have k1 : ¬ (60 : Int) < (p.length : Int) := by omega
        have k3 : ¬ (4010 : Int) < (p.length : Int) := by omega
        rw [decide_eq_false h1, decide_eq_false (show ¬ 4010 < p.length by omega)] at HW
        clear h1
        go_wp2
        go_ret
        exact ⟨ret_bool (by rw [HW.out]; rfl), hb⟩
    have hlz : (k : Int) < (p.length : Int) := by omega
    obtain ⟨hix, hg, -, -, -, -, -, q5⟩ := HX.out k hlt
    obtain ⟨fa, fc, hfe, hfl⟩ := (HP.out.each p[k] (List.getElem_mem hlt)).shape
    rw [hfe] at q5
    have r5 := (hb.cell (p := ⟨g, off + 6 * k + 5, none⟩) hg).trans q5
    clear q5
    by_cases h8 : 8 < p[k].src.length
    · have HT := Lib.hid (show wideP p = true by rw [HW.out, List.any_eq_true.2 ⟨p[k], List.getElem_mem hlt, by simpa using h8⟩]; rfl)
      have h8z : (8 : Int) < (p[k].src.length : Int) := by omega
      generalize p[k].src.length = n at *
      clear h8 hfe
      go_wp2
      go_ret
      exact ⟨ret_bool HT.out.symm, hb⟩
    · have HN2 := Lib.hid (show ∀ j (h : j < p.length), j < k + 1 → ¬ 8 < p[j].src.length from fun j h hj => by
        by_cases e : j = k
        · subst e; exact h8
        · exact HN.out j h (by omega))
      have h8z : ¬ (8 : Int) < (p[k].src.length : Int) := by omega
      have HLT := Lib.hid hlt
      generalize p[k].src.length = n at *
      clear h8 hfe
      go_wp2
      go_roundw
      case rel => exact ⟨k + 1, HLT.out, by simp, HN2, hb⟩
      case measure => simp only [intOf]; have := HLT.out; omega
end Go.Proofs.Ytbjbdochffocoaa
