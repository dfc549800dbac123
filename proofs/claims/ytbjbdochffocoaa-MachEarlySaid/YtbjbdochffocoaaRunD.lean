/- The reference's Until; the law MachRuns: its walk. -/
import Derived.Test.YtbjbdochffocoaaRunC
namespace Go.Proofs.Ytbjbdochffocoaa
open Go.RowKit Go.Lib
set_option linter.unusedVariables false
theorem untR_to {p : List OpD} {t : Int} {e : Ending} {w' : World} (m : List Int) (hm : runErr p = 0 → ∀ m', RunOk p m' → m' = m) (h : UntR p t e w') :
    ∃ v', e = .returned (.tuple #[v', .int .i64 (runErr p)]) ∧ SlOf w' w'.heap.size 1 encInt v' (if runErr p = 0 then untilL p m t else []) ∧ (runErr p = 0 → RunOk p m) := by
  obtain ⟨v', he, l, hs, hl⟩ := h
  refine ⟨v', he, ?_, ?_⟩
  · by_cases h0 : runErr p = 0
    · rw [if_pos h0] at hl ⊢
      obtain ⟨m', h1, rfl⟩ := hl
      rw [← hm h0 m' h1]; exact hs
    · rw [if_neg h0] at hl ⊢
      subst hl; exact hs
  · intro h0
    rw [if_pos h0] at hl
    obtain ⟨m', h1, -⟩ := hl
    rw [← hm h0 m' h1]; exact h1
theorem run_one (p : List OpD) : ∃ m, runErr p = 0 → ∀ m', RunOk p m' → m' = m := by
  by_cases h : ∃ m, RunOk p m
  · obtain ⟨m, hm⟩ := h
    exact ⟨m, fun he m' h' => RunOk.same (runErr_ok he).2.2.2 h' hm⟩
  · exact ⟨[], fun _ m' h' => absurd ⟨m', h'⟩ h⟩
theorem rrun_unt {p : List OpD} {B : Nat} {e : Ending} {w' : World} (h : RRunR p B e w') : UntR p 100000 e w' := by
  unfold RRunR at h
  by_cases h0 : runErr p = 0
  · rw [if_pos h0] at h
    obtain ⟨b, m, rfl, -, hr, hok⟩ := h
    have hv := (runErr_ok h0).1
    have hl4 := (small_of hv).len
    refine ⟨_, by rw [h0], m, ?_, ?_⟩
    · have := hr.sl p.length (by rw [hok.len]; exact Nat.le_refl _) (by unfold maxLen; omega)
      rwa [hok.len] at this
    · rw [if_pos h0]; exact ⟨m, hok, (untilL_run hv hok.len).symm⟩
  · rw [if_neg h0] at h
    subst h
    exact untR_err rfl h0 w'
set_option maxHeartbeats 8000000 in
set_option maxRecDepth 100000 in
theorem rUntil_l (p : List OpD) (v : Value) (t : Int) (w : World) (hp : ProgRd w v p) : Calls Try.prog 15 #[v, .int .i64 t] w fun e w' => UntR p t e w' ∧ Below w.heap.size w w' := by
  have HP := Lib.hid hp
  have HRL := Lib.hid (rrun_l p v w hp)
  by_cases h0 : runErr p = 0
  rotate_left
  · have HR := Lib.hid (fun w' => untR_err (p := p) (t := t) rfl h0 w')
    have HR2 := Lib.hid (HRL.out.mono (fun e w' q => (⟨by have := q.1; unfold RRunR at this; rwa [if_neg h0] at this, q.2⟩ : e = .returned (.tuple #[.slice none 0 0, .int .i64 (runErr p)]) ∧ Below w.heap.size w w')))
    clear hp h0 HRL
    generalize runErr p = E at *
    go_enter Try.func15, Try.ntmps15
    go_wp2_with (go_at_call 35; refine HR2.out.mono ?_; go_must (rintro e w1 ⟨rfl, hb1⟩))
    refine wp_loop_rounds 1 ?_
    rw [rounds_succ]
    go_wp2
    go_ret2
    exact ⟨HR.out _, hb1⟩
  have HE := Lib.hid h0
  have hv := (runErr_ok h0).1
  have HR2 := Lib.hid (HRL.out.mono (fun e w' q => (⟨by have := q.1; unfold RRunR at this; rwa [if_pos h0] at this, q.2⟩ : (∃ b m, e = .returned (.tuple #[.slice (some ⟨b, 0, none⟩) p.length p.length, .int .i64 0]) ∧ w.heap.size ≤ b ∧ RowI w' b m ∧ RunOk p m) ∧ Below w.heap.size w w')))
  have hl4 := (small_of hv).len
  obtain ⟨a, cap, g, off, rfl, hl, hmx, hat⟩ := ops_at hp
  have HX := Lib.hid hat
  have HUT := Lib.hid (fun l k hk => untilTo_step p l t k hk)
  have HUA := Lib.hid (fun l => untilTo_all p l t)
  have HUL := Lib.hid (fun l k => untilTo_len p l t k)
  have HU0 := Lib.hid (fun l h => untilTo_zero (p := p) (l := l) t h)
  have hln : (p.length : Int) ≤ 4000 := by omega
  have HUR := Lib.hid (fun (w' : World) (v' : Value) (l : List Int) (h : RunOk p l) (hs : SlOf w' w'.heap.size 1 encInt v' (untilL p l t)) => show UntR p t (.returned (.tuple #[v', .int .i64 0])) w' by unfold UntR; rw [HE.out]; exact ⟨_, rfl, _, hs, by rw [if_pos rfl]; exact ⟨l, h, rfl⟩⟩)
  clear hv hp hat h0 HRL
  generalize untilL p = UL at *
  generalize untilTo p = UT at *
  go_enter Try.func15, Try.ntmps15
  go_wp2_with (go_at_call 35; refine HR2.out.mono ?_; go_must (rintro e w4 ⟨⟨ob, l, rfl, hob1, hrow, hrok⟩, hb4⟩; have HOK := Lib.hid hrok; have HROW := Lib.hid hrow; have HB4 := Lib.hid hb4; clear hb4 hrok hrow))
  have HLN := Lib.hid HOK.out.len
  have hs4 := HB4.out.size
  have hl1 : ob < w4.heap.size := HROW.out.lt
  go_loopw [8] (fun t8 wr => ∃ k : Nat, k ≤ p.length ∧ t8 = .int .i64 (k : Nat) ∧ Hid (RowI wr ob (UT l t k)) ∧ Below w.heap.size w wr) (fun t8 _ => p.length - (intOf t8).toNat)
  case atStart => exact ⟨0, Nat.zero_le _, rfl, Lib.hid (by rw [HU0.out l HLN.out]; exact HROW.out), HB4.out⟩
  case round =>
    obtain ⟨k, hk, rfl, HR, hb⟩ := hrel
    have hs := hb.size
    by_cases hlt : k < p.length
    rotate_left
    · have hke : k = p.length := by omega
      have hlz : ¬ (k : Int) < (p.length : Int) := by omega
      have HF := Lib.hid (show SlOf wr wr.heap.size 1 encInt (.slice (some ⟨ob, 0, none⟩) p.length p.length) (UL l t) by
        have h1 := HR.out
        rw [hke, HUA.out l] at h1
        have h2 : (UL l t).length = p.length := by rw [← HUA.out l, HUL.out]
        have := h1.sl p.length (by omega) (by unfold maxLen; omega)
        rwa [h2] at this)
      clear hke hlt
      go_wp2
      go_ret2
      exact ⟨HUR.out _ _ l HOK.out HF.out, hb⟩
    have hlz : (k : Int) < (p.length : Int) := by omega
    obtain ⟨hix, hg, q0, -⟩ := HX.out k hlt
    have r0 := (hb.cell (p := ⟨g, off + 6 * k, none⟩) hg).trans q0
    clear q0
    have HSTP := Lib.hid (HUT.out l k hlt)
    have hio := fun W => idx_of (P := Try.prog) un_int sz_int1 ob 0 p.length p.length k hlt W
    simp only [Nat.one_mul, Nat.zero_add] at hio
    have oc := HR.out.cell k (by rw [HUL.out]; exact hlt)
    have of := HR.out.free k (by rw [HUL.out]; exact hlt)
    generalize (UT l t k)[k]'(by rw [HUL.out]; exact hlt) = old at *
    have HLT := Lib.hid hlt
    have HL3 := Lib.hid (show k < (UT l t k).length by rw [HUL.out]; exact hlt)
    generalize p[k].t = tt at *
    by_cases hgt : t < tt
    · have hd : decide (t < tt) = true := decide_eq_true hgt
      rw [if_pos hgt] at HSTP
      clear hgt
      go_wp2
      go_roundw
      case rel => exact ⟨k + 1, HLT.out, by simp, Lib.hid (by rw [HSTP.out]; exact HR.out.set k HL3.out _), hb.setCell (p := ⟨ob, k, none⟩) hob1 _⟩
      case measure => simp only [intOf]; have := HLT.out; omega
    · have hd : decide (t < tt) = false := decide_eq_false hgt
      rw [if_neg hgt] at HSTP
      clear hgt
      go_wp2
      go_roundw
      case rel => exact ⟨k + 1, HLT.out, by simp, Lib.hid (by rw [HSTP.out]; exact HR.out), hb⟩
      case measure => simp only [intOf]; have := HLT.out; omega
set_option maxHeartbeats 8000000 in
set_option maxRecDepth 100000 in
theorem MachRuns_any (p : List OpD) (v : Value) (time : Int) (w : World) (hp : ProgRd w v p) : Calls Try.prog 3 #[v, .int .i64 time] w fun e w' => e = .returned (.bool true) ∧ Below w.heap.size w w' := by
  have HP := Lib.hid hp
  have HWD := Lib.hid (Wide8_l p v w hp)
  clear hp
  cases hwd : wideP p
  rotate_left
  · rw [hwd] at HWD
    clear hwd
    go_enter Try.func3, Try.ntmps3
    go_wp2_with (first | (go_at_call 10; refine HWD.out.mono ?_; go_must (rintro e w1 ⟨rfl, hb1⟩; have HB1 := Lib.hid hb1; clear hb1)) | (go_at_call 11; refine (sane08 _).mono ?_; go_must (rintro e w2 ⟨rfl, hb2⟩)))
    go_ret
    exact ⟨rfl, below_at HB1.out HB1.out.size hb2⟩
  rw [hwd] at HWD
  clear hwd
  obtain ⟨m, hm⟩ := run_one p
  obtain ⟨L1, hL1⟩ : ∃ L, L = (if runErr p = 0 then untilL p m 100000 else []) := ⟨_, rfl⟩
  obtain ⟨L2, hL2⟩ : ∃ L, L = (if runErr p = 0 then untilL p m time else []) := ⟨_, rfl⟩
  have HR1 := Lib.hid (fun (W : World) (h : ProgRd W v p) => (Run_l p v W h).mono (fun e w' q => (⟨by obtain ⟨v', h1, h2, -⟩ := untR_to m hm q.1; exact ⟨v', h1, by rw [hL1]; exact h2⟩, q.2⟩ : (∃ v', e = .returned (.tuple #[v', .int .i64 (runErr p)]) ∧ SlOf w' w'.heap.size 1 encInt v' L1) ∧ Below W.heap.size W w')))
  have HR2 := Lib.hid (fun (W : World) (h : ProgRd W v p) => (rRun_l p v W h).mono (fun e w' q => (⟨by obtain ⟨v', h1, h2, -⟩ := untR_to m hm (rrun_unt q.1); exact ⟨v', h1, by rw [hL1]; exact h2⟩, q.2⟩ : (∃ v', e = .returned (.tuple #[v', .int .i64 (runErr p)]) ∧ SlOf w' w'.heap.size 1 encInt v' L1) ∧ Below W.heap.size W w')))
  have HU1 := Lib.hid (fun (W : World) (h : ProgRd W v p) => (Until_l p v time W h).mono (fun e w' q => (⟨by obtain ⟨v', h1, h2, -⟩ := untR_to m hm q.1; exact ⟨v', h1, by rw [hL2]; exact h2⟩, q.2⟩ : (∃ v', e = .returned (.tuple #[v', .int .i64 (runErr p)]) ∧ SlOf w' w'.heap.size 1 encInt v' L2) ∧ Below W.heap.size W w')))
  have HU2 := Lib.hid (fun (W : World) (h : ProgRd W v p) => (rUntil_l p v time W h).mono (fun e w' q => (⟨by obtain ⟨v', h1, h2, -⟩ := untR_to m hm q.1; exact ⟨v', h1, by rw [hL2]; exact h2⟩, q.2⟩ : (∃ v', e = .returned (.tuple #[v', .int .i64 (runErr p)]) ∧ SlOf w' w'.heap.size 1 encInt v' L2) ∧ Below W.heap.size W w')))
  clear hL1 hL2 hm
  generalize runErr p = E at *
  have HSM1 := Lib.hid (fun (W : World) (v1 v2 : Value) (h1 : SlOf W W.heap.size 1 encInt v1 L1) (h2 : SlOf W W.heap.size 1 encInt v2 L1) => by have := same8_l L1 L1 W v1 v2 h1 h2; rwa [decide_eq_true rfl] at this)
  have HSM2 := Lib.hid (fun (W : World) (v1 v2 : Value) (h1 : SlOf W W.heap.size 1 encInt v1 L2) (h2 : SlOf W W.heap.size 1 encInt v2 L2) => by have := same8_l L2 L2 W v1 v2 h1 h2; rwa [decide_eq_true rfl] at this)
  go_enter Try.func3, Try.ntmps3
  go_wp2_with (first | (go_at_call 10; refine HWD.out.mono ?_; go_must (rintro e w1 ⟨rfl, hb1⟩; have HB1 := Lib.hid hb1; clear hb1)) | (go_at_call 12; refine (HR1.out _ (HP.out.below HB1.out)).mono ?_; go_must (rintro e w2 ⟨⟨v2, rfl, hs2⟩, hb2⟩; have HB2 := Lib.hid (below_at HB1.out HB1.out.size hb2); have HS2 := Lib.hid hs2; clear hb2 hs2)) | (go_at_call 13; refine (HR2.out _ (HP.out.below HB2.out)).mono ?_; go_must (rintro e w3 ⟨⟨v3, rfl, hs3⟩, hb3⟩; have HB3 := Lib.hid (below_at HB2.out HB2.out.size hb3); have HS3 := Lib.hid hs3; have HS23 := Lib.hid (HS2.out.below hb3); clear hb3 hs3)) | (go_at_call 14; refine (HU1.out _ (HP.out.below HB3.out)).mono ?_; go_must (rintro e w4 ⟨⟨v4, rfl, hs4⟩, hb4⟩; have HB4 := Lib.hid (below_at HB3.out HB3.out.size hb4); have HS4 := Lib.hid hs4; have HS24 := Lib.hid (HS23.out.below hb4); have HS34 := Lib.hid (HS3.out.below hb4); clear hb4 hs4)) | (go_at_call 15; refine (HU2.out _ (HP.out.below HB4.out)).mono ?_; go_must (rintro e w5 ⟨⟨v5, rfl, hs5⟩, hb5⟩; have HB5 := Lib.hid (below_at HB4.out HB4.out.size hb5); have HS5 := Lib.hid hs5; have HS25 := Lib.hid (HS24.out.below hb5); have HS35 := Lib.hid (HS34.out.below hb5); have HS45 := Lib.hid (HS4.out.below hb5); clear hb5 hs5)) | (go_at_call 16; refine (HSM1.out _ _ _ HS25.out HS35.out).mono ?_; clear HSM1; go_must (rintro e w6 ⟨rfl, hb6⟩; have HB6 := Lib.hid (below_at HB5.out HB5.out.size hb6); have HS46 := Lib.hid (HS45.out.below hb6); have HS56 := Lib.hid (HS5.out.below hb6); clear hb6)) | (go_at_call 16; refine (HSM2.out _ _ _ HS46.out HS56.out).mono ?_; go_must (rintro e w7 ⟨rfl, hb7⟩; have HB7 := Lib.hid (below_at HB6.out HB6.out.size hb7); clear hb7)) | (go_at_call 11; refine (sane08 _).mono ?_; go_must (rintro e w8 ⟨rfl, hb8⟩)))
  go_ret
  exact ⟨rfl, below_at HB7.out HB7.out.size hb8⟩
end Go.Proofs.Ytbjbdochffocoaa
