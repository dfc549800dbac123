/- Package mach: Waits, ready: their walks. -/
import Derived.Test.YtbjbdochffocoaaMachH
namespace Go.Proofs.Ytbjbdochffocoaa
open Go.RowKit Go.Lib
set_option linter.unusedVariables false
theorem waits_to (p : List OpD) : waitsTo p p.length = waitsI p := rfl
theorem slack_bd {p : List OpD} (h : SmallP p) {k : Nat} (hk : k < p.length) : -300000 ≤ slackO (timeP p) p[k] ∧ slackO (timeP p) p[k] ≤ 300000 := by
  have ht := h.time k
  rw [timeP_at hk] at ht
  unfold slackO
  cases ha : arrF (timeP p) p[k].src with
  | none => simp only; omega
  | some z =>
    have := arr_bd h (List.getElem_mem hk) ha
    simp only
    split <;> omega
set_option maxHeartbeats 8000000 in
set_option maxRecDepth 100000 in
theorem Waits_l (p : List OpD) (v : Value) (w : World) (hp : ProgRd w v p) : Calls Try.prog 20 #[v] w fun e w' => WaitsR p e w' ∧ Below w.heap.size w w' := by
  have HP := Lib.hid hp
  have HVL := Lib.hid (fun (W : World) (h : ProgRd W v p) => Valid_l p v W h)
  obtain ⟨a, cap, hve, -⟩ := hp.ops.shape
  clear hp
  cases hv : validP p
  · have HR := Lib.hid (fun w' => show WaitsR p (.returned (.tuple #[.slice none 0 0, .int .i64 80])) w' by unfold WaitsR; rw [hv]; exact ⟨_, rfl, Sl.nil _ _ _⟩)
    rw [hv] at HVL
    clear hv hve
    go_enter Try.func20, Try.ntmps20
    go_wp2_with (go_at_call 22; refine (HVL.out _ HP.out).mono ?_; go_must (rintro e w1 ⟨rfl, hb1⟩))
    go_ret2
    exact ⟨HR.out _, hb1⟩
  have hsm := small_of hv
  have HR := Lib.hid (fun (w' : World) (v' : Value) (hs : SlOf w' w'.heap.size 1 encInt v' (waitsI p)) => show WaitsR p (.returned (.tuple #[v', .int .i64 0])) w' by unfold WaitsR; rw [hv]; exact ⟨_, rfl, hs⟩)
  have HSL := Lib.hid (fun (W : World) (h : ProgRd W v p) => slacks_l p hsm v W h)
  have HBD := Lib.hid (fun (k : Nat) (hk : k < p.length) => slack_bd hsm hk)
  have HWT := Lib.hid (fun (k : Nat) (hk : k < p.length) => waitsTo_step p k hk)
  have HW0 := Lib.hid (show waitsTo p 0 = [] from rfl)
  have HWE := Lib.hid (waits_to p)
  have hl4 := hsm.len
  rw [hv] at HVL
  have HLN := Lib.hid (show (slackL p).length = p.length by simp [slackL])
  have HGE := Lib.hid (fun (k : Nat) (hk : k < p.length) => show (slackL p)[k]'(by rw [HLN.out]; exact hk) = slackO (timeP p) p[k] by simp [slackL])
  have HWL := Lib.hid (fun (k : Nat) (hk : k ≤ p.length) => show (waitsTo p k).length ≤ 4000 by
    unfold waitsTo
    rw [List.length_map]
    exact Nat.le_trans (List.length_filter_le _ _) (by simp; omega))
  clear hv hsm hve
  generalize waitsI p = WI at *
  generalize waitsTo p = WT at *
  go_enter Try.func20, Try.ntmps20
  go_wp2_with (first | (go_at_call 22; refine (HVL.out _ HP.out).mono ?_; go_must (rintro e w1 ⟨rfl, hb1⟩; have HB1 := Lib.hid hb1; clear hb1)) | (go_at_call 42; refine (HSL.out _ (HP.out.below HB1.out)).mono ?_; go_must (rintro e w2 ⟨⟨v2, rfl, hs2⟩, hb2⟩; obtain ⟨sa, sc, sg, so, rfl, hsl, hscm, hsx⟩ := SlOf.at (enc := encInt) (fun _ => rfl) un_int sz_int1 hs2; have HSX := Lib.hid hsx; have HB2 := Lib.hid (below_at HB1.out HB1.out.size hb2); clear hs2 hsx hb2)))
  unfold maxLen at hscm
  have hs2 := HB2.out.size
  have hsln : (slackL p).length ≤ 4000 := by rw [HLN.out]; exact hl4
  generalize hSL : slackL p = SL at *
  have HSLE := Lib.hid hSL; clear hSL
  go_loopw [4, 13] (fun t4 t13 wr => ∃ k : Nat, k ≤ SL.length ∧ t13 = .int .i64 (k : Nat) ∧ Hid (OwnOf wr w2.heap.size 3 1 encInt t4 (WT k)) ∧ Below w2.heap.size w2 wr) (fun t4 t13 _ => SL.length - (intOf t13).toNat)
  case atStart => exact ⟨0, Nat.zero_le _, rfl, Lib.hid (by rw [HW0.out]; exact OwnOf.nil _ _ _ _ _), Below.refl _ _⟩
  case round =>
    obtain ⟨k, hk, rfl, HO, hb⟩ := hrel
    have hs := hb.size
    by_cases hlt : k < SL.length
    rotate_left
    · have hke : k = p.length := by have := HLN.out; omega
      have hlz : ¬ (k : Int) < (SL.length : Int) := by omega
      have HSF := Lib.hid (show SlOf wr wr.heap.size 1 encInt u4 WI by have := HO.out.sl; rw [hke, HWE.out] at this; exact this)
      clear hke hlt HO
      go_wp2
      go_ret2
      exact ⟨HR.out _ _ HSF.out, HB2.out.trans (hb.mono hs2)⟩
    have hlz : (k : Int) < (SL.length : Int) := by omega
    have hkp : k < p.length := by have := HLN.out; omega
    obtain ⟨-, hix, hg, hc⟩ := HSX.out k hlt
    have r0 := (hb.cell (p := ⟨sg, so + 1 * k + 0, none⟩) hg).trans (hc 0 (by omega))
    simp only [Nat.one_mul, Nat.add_zero, encInt] at hix r0
    clear hc
    have hge := HGE.out k hkp
    have hbd := HBD.out k hkp
    have HTW := Lib.hid (HWT.out k hkp)
    have hacc : (WT k).length + 1 ≤ 1073741824 := by have := HWL.out k (by omega); omega
    have HLT := Lib.hid hlt
    rw [← hge] at hbd HTW
    clear hge
    have r1 : wr.cell? ⟨sg, so + k, none⟩ = some (.int .i64 SL[k]) := by rw [r0]; rfl
    clear r0
    generalize SL[k] = x at *
    obtain ⟨hx1, hx2⟩ := hbd
    have hs9 : w2.heap.size ≤ wr.heap.size := hs
    by_cases hneg : x < -1
    · have hd : decide (x < -1) = true := decide_eq_true hneg
      rw [if_pos hneg] at HTW
      clear hneg
      go_wp2_with (at_builtin; refine wpList_push rfl _ _ _ rfl slInts HO.out rfl rfl (by first | rfl | simp) rfl rfl hacc (by omega) hs9 ?_; intro g7 c7 w7 hown7 hg7 hat7)
      go_roundw
      case rel => exact ⟨k + 1, HLT.out, by simp, Lib.hid (by rw [HTW.out]; exact OwnOf.snoc (enc := encInt) (by simpa [encInt] using hown7) rfl), below_push hb HO.out (Nat.le_refl _) hs9 hg7⟩
      case measure => simp only [intOf]; have := HLT.out; omega
    · have hd : decide (x < -1) = false := decide_eq_false hneg
      rw [if_neg hneg, List.append_nil] at HTW
      clear hneg
      go_wp2
      go_roundw
      case rel => exact ⟨k + 1, HLT.out, by simp, Lib.hid (by rw [HTW.out]; exact HO.out), hb⟩
      case measure => simp only [intOf]; have := HLT.out; omega
def readyE (p : List OpD) : Int := if validP p = true then (if waitsP p = [] then 0 else 82) else 80
theorem ready_l (p : List OpD) (v : Value) (w : World) (hp : ProgRd w v p) : Calls Try.prog 37 #[v] w fun e w' => e = .returned (.int .i64 (readyE p)) ∧ Below w.heap.size w w' := by
  have H := Lib.hid ((Waits_l p v w hp).mono (fun e w' q => (⟨by
    obtain ⟨v', he, hs⟩ := q.1
    obtain ⟨a, c, rfl, -⟩ := hs.shape
    exact ⟨a, c, he⟩, q.2⟩ : (∃ a c, e = .returned (.tuple #[.slice a (if validP p = true then waitsI p else []).length c, .int .i64 (if validP p = true then 0 else 80)])) ∧ Below w.heap.size w w')))
  cases hv : validP p
  · have HE := Lib.hid (show readyE p = 80 by unfold readyE; rw [hv]; rfl)
    rw [hv] at H
    clear hv hp
    go_enter Try.func37, Try.ntmps37
    go_wp2_with (go_at_call 20; refine H.out.mono ?_; go_must (rintro e w1 ⟨⟨a, c, rfl⟩, hb1⟩))
    go_ret
    exact ⟨ret_int HE.out.symm, hb1⟩
  · by_cases hw : waitsP p = []
    · have HE := Lib.hid (show readyE p = 0 by unfold readyE; rw [hv, if_pos rfl, if_pos hw])
      have hwi : waitsI p = [] := by unfold waitsI; rw [hw]; rfl
      rw [hv, if_pos rfl, if_pos rfl, hwi] at H
      clear hv hp hw hwi
      go_enter Try.func37, Try.ntmps37
      go_wp2_with (go_at_call 20; refine H.out.mono ?_; go_must (rintro e w1 ⟨⟨a, c, rfl⟩, hb1⟩))
      go_ret
      exact ⟨ret_int HE.out.symm, hb1⟩
    · have HE := Lib.hid (show readyE p = 82 by unfold readyE; rw [hv, if_pos rfl, if_neg hw])
      have hwi : 0 < (waitsI p).length := by unfold waitsI; rw [List.length_map]; exact List.length_pos_iff.2 hw
      rw [hv, if_pos rfl, if_pos rfl] at H
      generalize (waitsI p).length = n at *
      have hn : (0 : Int) < (n : Int) := by omega
      clear hv hp hw
      go_enter Try.func37, Try.ntmps37
      go_wp2_with (go_at_call 20; refine H.out.mono ?_; go_must (rintro e w1 ⟨⟨a, c, rfl⟩, hb1⟩))
      go_ret
      exact ⟨ret_int HE.out.symm, hb1⟩
end Go.Proofs.Ytbjbdochffocoaa
