/- The reference's run, Run, Until: walks. -/
import Derived.Test.YtbjbdochffocoaaRunB
namespace Go.Proofs.Ytbjbdochffocoaa
open Go.RowKit Go.Lib
set_option linter.unusedVariables false
def RRunR (p : List OpD) (B : Nat) (e : Ending) (w' : World) : Prop := if runErr p = 0 then ∃ b m, e = .returned (.tuple #[.slice (some ⟨b, 0, none⟩) p.length p.length, .int .i64 0]) ∧ B ≤ b ∧ RowI w' b m ∧ RunOk p m else e = .returned (.tuple #[.slice none 0 0, .int .i64 (runErr p)])
theorem rrun_err {p : List OpD} {B : Nat} {k : Int} (h : runErr p = k) (hk : k ≠ 0) (w' : World) : RRunR p B (.returned (.tuple #[.slice none 0 0, .int .i64 k])) w' := by
  unfold RRunR; rw [h, if_neg hk]
theorem waitsI_len (p : List OpD) : (waitsI p).length = (waitsP p).length := by simp [waitsI]
theorem getD_ext {l m : List Int} (hl : l.length = m.length) (h : ∀ i, i < l.length → l.getD i 0 = m.getD i 0) : l = m := by
  refine List.ext_getElem hl (fun i h1 h2 => ?_)
  have := h i h1
  rwa [List.getD_eq_getElem?_getD, List.getD_eq_getElem?_getD, List.getElem?_eq_getElem h1, List.getElem?_eq_getElem h2] at this
set_option maxHeartbeats 16000000 in
set_option maxRecDepth 100000 in
theorem rrun_l (p : List OpD) (v : Value) (w : World) (hp : ProgRd w v p) : Calls Try.prog 35 #[v] w fun e w' => RRunR p w.heap.size e w' ∧ Below w.heap.size w w' := by
  have HP := Lib.hid hp
  have HVL := Lib.hid (fun (W : World) (h : ProgRd W v p) => rValid_l p v W h)
  cases hv : validP p
  · have HR := Lib.hid (fun w' => rrun_err (B := w.heap.size) (show runErr p = 80 by unfold runErr; rw [hv]; rfl) (by omega) w')
    rw [hv] at HVL
    clear hv hp
    go_enter Try.func35, Try.ntmps35
    go_wp2_with (go_at_call 17; refine (HVL.out _ HP.out).mono ?_; go_must (rintro e w1 ⟨rfl, hb1⟩))
    go_ret2
    exact ⟨HR.out _, hb1⟩
  rw [hv] at HVL
  have HML := Lib.hid (fun (W : World) (h : ProgRd W v p) => rmeet_l p hv v W h)
  cases hm : meetP p with
  | some x =>
    obtain ⟨i, k⟩ := x
    have HR := Lib.hid (fun w' => rrun_err (B := w.heap.size) (show runErr p = 81 by unfold runErr; rw [hv, hm]; rfl) (by omega) w')
    rw [hm] at HML
    simp only [meetV] at HML
    clear hv hp hm
    go_enter Try.func35, Try.ntmps35
    go_wp2_with (first | (go_at_call 17; refine (HVL.out _ HP.out).mono ?_; go_must (rintro e w1 ⟨rfl, hb1⟩; have HB1 := Lib.hid hb1; clear hb1)) | (go_at_call 41; refine (HML.out _ (HP.out.below HB1.out)).mono ?_; go_must (rintro e w2 ⟨rfl, hb2⟩)))
    go_ret2
    exact ⟨HR.out _, below_at HB1.out HB1.out.size hb2⟩
  | none =>
    rw [hm] at HML
    simp only [meetV] at HML
    have HWL := Lib.hid (fun (W : World) (h : ProgRd W v p) => (rwaits_l p (small_of hv) v W h).mono (fun e w' q => (⟨by
      obtain ⟨v', he, hs⟩ := q.1
      obtain ⟨a, c, rfl, -⟩ := hs.shape
      rw [waitsI_len] at he
      exact ⟨a, c, he⟩, q.2⟩ : (∃ a c, e = .returned (.slice a (waitsP p).length c)) ∧ Below W.heap.size W w')))
    by_cases hw : waitsP p = []
    rotate_left
    · have HR := Lib.hid (fun w' => rrun_err (B := w.heap.size) (show runErr p = 82 by unfold runErr; rw [hv, hm, if_pos rfl, if_neg (by simp), if_neg hw]) (by omega) w')
      have hpos : (0 : Int) < ((waitsP p).length : Int) := by have := List.length_pos_iff.2 hw; omega
      generalize (waitsP p).length = wl at *
      clear hv hp hm hw
      go_enter Try.func35, Try.ntmps35
      go_wp2_with (first | (go_at_call 17; refine (HVL.out _ HP.out).mono ?_; go_must (rintro e w1 ⟨rfl, hb1⟩; have HB1 := Lib.hid hb1; clear hb1)) | (go_at_call 41; refine (HML.out _ (HP.out.below HB1.out)).mono ?_; go_must (rintro e w2 ⟨rfl, hb2⟩; have HB2 := Lib.hid (below_at HB1.out HB1.out.size hb2); clear hb2)) | (go_at_call 43; refine (HWL.out _ (HP.out.below HB2.out)).mono ?_; go_must (rintro e w3 ⟨⟨a3, c3, rfl⟩, hb3⟩)))
      go_ret2
      exact ⟨HR.out _, below_at HB2.out HB2.out.size hb3⟩
    have hw0 : (waitsP p).length = 0 := by rw [hw]; rfl
    rw [hw0] at HWL
    have HE := Lib.hid (show runErr p = 0 by unfold runErr; rw [hv, hm, if_pos rfl, if_neg (by simp), if_pos hw])
    have hl4 := (small_of hv).len
    obtain ⟨Z, hmk, hrowz⟩ := make_ints p.length (by omega)
    have HRW := Lib.hid hrowz
    have HVC := Lib.hid (fun (w0 : World) (h : ProgRd w0 v p) => value_l p hv (ready_of hv hw) v w0 h w0.heap.size (Nat.le_refl _))
    have hvf : ∃ a cap, v = .slice a p.length cap := by obtain ⟨a, cap, g, off, rfl, -⟩ := ops_at hp; exact ⟨a, cap, rfl⟩
    obtain ⟨a, cap, rfl⟩ := hvf
    have hln : (p.length : Int) ≤ 4000 := by omega
    have HRR := Lib.hid (fun (w' : World) (b : Nat) (m : List Int) (hb : w.heap.size ≤ b) (hr : RowI w' b m) (h : RunOk p m) => show RRunR p w.heap.size (.returned (.tuple #[.slice (some ⟨b, 0, none⟩) p.length p.length, .int .i64 0])) w' by unfold RRunR; rw [if_pos HE.out]; exact ⟨b, m, rfl, hb, hr, h⟩)
    clear hv hp hm hw hw0 hrowz
    go_enter Try.func35, Try.ntmps35
    go_wp2_with (first | (go_at_call 17; refine (HVL.out _ HP.out).mono ?_; go_must (rintro e w1 ⟨rfl, hb1⟩; have HB1 := Lib.hid hb1; clear hb1)) | (go_at_call 41; refine (HML.out _ (HP.out.below HB1.out)).mono ?_; go_must (rintro e w2 ⟨rfl, hb2⟩; have HB2 := Lib.hid (below_at HB1.out HB1.out.size hb2); clear hb2)) | (go_at_call 43; refine (HWL.out _ (HP.out.below HB2.out)).mono ?_; go_must (rintro e w3 ⟨⟨a3, c3, rfl⟩, hb3⟩; have HB3 := Lib.hid (below_at HB2.out HB2.out.size hb3); clear hb3)))
    have hs3 := HB3.out.size
    have HVI := Lib.hid (HVC.out w3 (HP.out.below HB3.out))
    have HRZ := Lib.hid (HRW.out w3)
    clear hmk HRW
    go_loopw [8] (fun t8 wr => ∃ (k : Nat) (l : List Int), k ≤ p.length ∧ t8 = .int .i64 (k : Nat) ∧ Hid (RowI wr w3.heap.size l ∧ l.length = p.length ∧ ∀ j, j < k → l.getD j 0 = -1) ∧ Below w3.heap.size w3 wr) (fun t8 _ => p.length - (intOf t8).toNat)
    case atStart => exact ⟨0, _, Nat.zero_le _, rfl, Lib.hid ⟨HRZ.out, by simp, fun j hj => by omega⟩, (Below.refl _ _).alloc (Nat.le_refl _) _⟩
    case round =>
      obtain ⟨k, l, hk, rfl, HL, hb⟩ := hrel
      by_cases hlt : k < p.length
      · have hlz : (k : Int) < (p.length : Int) := by omega
        have hix := fun V => idx_of (P := Try.prog) un_int sz_int1 w3.heap.size 0 p.length p.length k hlt V
        simp only [Nat.one_mul, Nat.zero_add] at hix
        have hkl : k < l.length := by rw [HL.out.2.1]; exact hlt
        have oc := HL.out.1.cell k hkl
        have of := HL.out.1.free k hkl
        have HKL := Lib.hid hkl
        have HLT := Lib.hid hlt
        generalize l[k] = old at *
        clear hkl hlt
        go_wp2
        go_roundw
        case rel => exact ⟨k + 1, l.set k (-1), HLT.out, by simp, Lib.hid ⟨HL.out.1.set k HKL.out _, by rw [List.length_set]; exact HL.out.2.1, fun j hj => by
          by_cases e : k = j
          · subst e; exact getD_set_self _ _ _ HKL.out
          · rw [getD_set _ _ _ _ e]; exact HL.out.2.2 j (by omega)⟩, hb.setCell (p := ⟨w3.heap.size, k, none⟩) (Nat.le_refl _) _⟩
        case measure => simp only [intOf]; have := HLT.out; omega
      · have hke : k = p.length := by omega
        have hlz : ¬ (k : Int) < (p.length : Int) := by omega
        have HST := Lib.hid (show PartV p l by
          have : l = List.replicate p.length (-1) := getD_ext (by rw [HL.out.2.1]; simp) (fun i hi => by
            rw [HL.out.2.2 i (by rw [HL.out.2.1] at hi; omega)]
            rw [HL.out.2.1] at hi
            simp [List.getD_eq_getElem?_getD, hi])
          rw [this]; exact PartV.start p)
        have HRL := Lib.hid HL.out.1
        clear hke hlt HL
        go_wp2
        obtain ⟨w5, hw5⟩ : ∃ x : World, x = wr := ⟨_, rfl⟩
        subst hw5
        go_loopw [9] (fun t9 wr => ∃ (k : Nat) (m : List Int), k ≤ p.length ∧ t9 = .int .i64 (k : Nat) ∧ Hid (RowI wr w3.heap.size m ∧ PartV p m ∧ ∀ j, j < k → 0 ≤ m.getD j 0) ∧ Below w3.heap.size w3 wr) (fun t9 _ => p.length - (intOf t9).toNat)
        case atStart => exact ⟨0, l, Nat.zero_le _, rfl, Lib.hid ⟨HRL.out, HST.out, fun j hj => by omega⟩, hb⟩
        case round =>
          obtain ⟨j, m, hj, rfl, HM, hbr⟩ := hrel
          by_cases hlt : j < p.length
          · have hlz2 : (j : Int) < (p.length : Int) := by omega
            have HC := Lib.hid (HVI.out j hlt _ m hbr HM.out.1 HM.out.2.1)
            have HLT := Lib.hid hlt
            clear hlt
            go_wp2_with (go_at_call 55; refine HC.out.mono ?_; go_must (rintro e w6 ⟨m2, rfl, hrw6, hpe6, hb6, hk6⟩; have HPE := Lib.hid hpe6; have HRW6 := Lib.hid hrw6; clear hrw6 hpe6 hk6))
            go_roundw
            case rel => exact ⟨j + 1, m2, HLT.out, by simp, Lib.hid ⟨HRW6.out, HPE.out.1, fun i hi => by
              by_cases e : i = j
              · subst e; exact HPE.out.2.2
              · have h1 := HM.out.2.2 i (by omega)
                rw [HPE.out.2.1 i h1]; exact h1⟩, hbr.trans hb6⟩
            case measure => simp only [intOf]; have := HLT.out; omega
          · have hje : j = p.length := by omega
            have hlz2 : ¬ (j : Int) < (p.length : Int) := by omega
            have HOK := Lib.hid (show RunOk p m from HM.out.2.1.all (fun i hi => HM.out.2.2 i (by omega)))
            have HRM := Lib.hid HM.out.1
            clear hje hlt HM
            go_wp2
            go_ret2
            exact ⟨HRR.out _ _ m hs3 HRM.out HOK.out, HB3.out.trans (hbr.mono hs3)⟩
theorem rRun_l (p : List OpD) (v : Value) (w : World) (hp : ProgRd w v p) : Calls Try.prog 13 #[v] w fun e w' => RRunR p w.heap.size e w' ∧ Below w.heap.size w w' := by
  have H := Lib.hid (rrun_l p v w hp)
  clear hp
  generalize hQ : RRunR p w.heap.size = Q at *
  have HQ := Lib.hid (show ∀ e w', Q e w' → ∃ v' z, e = .returned (.tuple #[v', .int .i64 z]) from by
    subst hQ; intro e w' h; unfold RRunR at h; split at h
    · obtain ⟨b, m, he, -⟩ := h; exact ⟨_, _, he⟩
    · exact ⟨_, _, h⟩)
  clear hQ
  go_enter Try.func13, Try.ntmps13
  go_wp2_with (go_at_call 35; refine H.out.mono ?_; go_must (rintro e w1 ⟨hq, hb1⟩; obtain ⟨v', z, he⟩ := HQ.out _ _ hq; subst he; have HQ1 := Lib.hid hq; clear hq))
  go_ret2
  exact ⟨HQ1.out, hb1⟩
end Go.Proofs.Ytbjbdochffocoaa
