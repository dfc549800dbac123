/- The reference's Shift: its walk; the law MachShifts. -/
import Derived.Test.YtbjbdochffocoaaOwnH
namespace Go.Proofs.Ytbjbdochffocoaa
open Go.RowKit Go.Lib
set_option linter.unusedVariables false
theorem shB_no {p : List OpD} {d : Int} {k : Nat} (hk : k < p.length) (h : ¬ (-100000 ≤ p[k].t + d ∧ p[k].t + d ≤ 100000)) : shB p d = false := by
  cases hs : shB p d
  · rfl
  · exact absurd (shB_iff.1 hs k hk) h
set_option maxHeartbeats 16000000 in
set_option maxRecDepth 100000 in
theorem rShift_l (p : List OpD) (d : Int) (hd : -9223372036854775808 ≤ d ∧ d ≤ 9223372036854775807) (v : Value) (w : World) (hp : ProgRd w v p) : Calls Try.prog 32 #[v, .int .i64 d] w fun e w' => ShiftR p d w.heap.size e w' ∧ Below w.heap.size w w' := by
  obtain ⟨hd1, hd2⟩ := hd
  have HP := Lib.hid hp
  have HVL := Lib.hid (fun (W : World) (h : ProgRd W v p) => rValid_l p v W h)
  cases hv : validP p
  · have HR := Lib.hid (fun w' => shift_err (d := d) (B := w.heap.size) (show shErr p d = 80 by unfold shErr; rw [hv]; rfl) (by omega) w')
    rw [hv] at HVL
    clear hv hp
    go_enter Try.func32, Try.ntmps32
    go_wp2_with (go_at_call 17; refine (HVL.out _ HP.out).mono ?_; go_must (rintro e w1 ⟨rfl, hb1⟩))
    go_ret2
    exact ⟨HR.out _, hb1⟩
  rw [hv] at HVL
  have HCP := Lib.hid (fun (W : World) (h : ProgRd W v p) => rCopied_l p hv v W h)
  have hl4 := (small_of hv).len
  have HTB := Lib.hid (fun i (h : i < p.length) => show -100000 ≤ p[i].t ∧ p[i].t ≤ 100000 by have := (small_of hv).time i; rwa [timeP_at h] at this)
  have HR := Lib.hid (fun w' v' q (hsb : shB p d = true) (ho : ProgOwn w' w.heap.size v' q) (ht : Timed (fun i => timeP p i + d) p q) => shift_ok (show shErr p d = 0 by unfold shErr; rw [hv, if_pos rfl, hsb]; rfl) ho ht)
  have HE := Lib.hid (fun w' (hsb : shB p d = false) => shift_err (d := d) (B := w.heap.size) (show shErr p d = 2 by unfold shErr; rw [hv, if_pos rfl, hsb]; rfl) (by omega) w')
  by_cases h0 : p.length = 0
  · have hpe : p = [] := List.eq_nil_of_length_eq_zero h0
    subst hpe
    have HRN := Lib.hid (fun w' v' q ho (hs : SameP [] q) => HR.out w' v' q (show shB [] d = true from rfl) ho ⟨hs.len, fun i h => by rw [hs.len] at h; simp at h⟩)
    clear hv hp h0 HR HE
    go_enter Try.func32, Try.ntmps32
    go_wp2_with (first | (go_at_call 17; refine (HVL.out _ HP.out).mono ?_; go_must (rintro e w1 ⟨rfl, hb1⟩; have HB1 := Lib.hid hb1; clear hb1)) | (go_at_call 47; refine (HCP.out _ (HP.out.below HB1.out)).mono ?_; go_must (rintro e w3 ⟨⟨v3, q3, rfl, ho3, hs3⟩, hb3⟩; have HF := Lib.hid (HRN.out w3 v3 q3 (ho3.mono HB1.out.size) hs3); have hq0 := hs3.len; have HB3 := Lib.hid (below_at HB1.out HB1.out.size hb3); obtain ⟨a3, c3, hv3⟩ := OwnOf.shape ho3.1; subst hv3; have hlz : ¬ (0 : Int) < (q3.length : Int) := (by have : q3.length = 0 := hq0; omega); clear ho3 hs3 hb3 hq0)))
    refine wp_loop_rounds 1 ?_
    rw [rounds_succ]
    go_wp2
    go_ret2
    exact ⟨HF.out, HB3.out⟩
  have hpos : 0 < p.length := by omega
  have HPS := Lib.hid hpos
  have hln : (p.length : Int) ≤ 4000 := by omega
  have HB1 := Lib.hid (show btwM (-200000) d 200000 = false → shB p d = false from fun h => shB_no hpos (fun h2 => by
    have := HTB.out 0 hpos
    have : btwM (-200000) d 200000 = true := btwM_iff.2 (by omega)
    rw [h] at this; cases this))
  clear hv hp h0 hpos
  go_enter Try.func32, Try.ntmps32
  go_wp2_with (first | (go_at_call 17; refine (HVL.out _ HP.out).mono ?_; go_must (rintro e w1 ⟨rfl, hb1⟩; have HBA := Lib.hid hb1; clear hb1)) | (go_at_call 47; refine (HCP.out _ (HP.out.below HBA.out)).mono ?_; go_must (rintro e w3 ⟨⟨v3, q3, rfl, ho3, hs3⟩, hb3⟩; obtain ⟨g, cap, rfl, hg1, hg2⟩ := copy_some ho3 hs3 HPS.out; have HO3 := Lib.hid (ho3.mono HBA.out.size); have HSQ := Lib.hid (timed_same hs3); have HB3 := Lib.hid (below_at HBA.out HBA.out.size hb3); clear ho3 hs3 hb3)))
  have hg0 : w.heap.size ≤ g := by have := HBA.out.size; omega
  go_loopw [7] (fun t7 wr => ∃ (k : Nat) (q : List OpD), k ≤ p.length ∧ t7 = .int .i64 (k : Nat) ∧ Hid (Timed (fun i => if i < k then timeP p i + d else timeP p i) p q) ∧ Hid (∀ i (h : i < p.length), i < k → -100000 ≤ p[i].t + d ∧ p[i].t + d ≤ 100000) ∧ Hid (ProgOwn wr w.heap.size (.slice (some ⟨g, 0, none⟩) p.length cap) q) ∧ Below w.heap.size w wr) (fun t7 _ => p.length - (intOf t7).toNat)
  case atStart => exact ⟨0, q3, Nat.zero_le _, rfl, Lib.hid (HSQ.out.congr (fun i _ => by rw [if_neg (by omega)])), Lib.hid (fun i h h2 => by omega), HO3, HB3.out⟩
  case round =>
    obtain ⟨k, q, hk, rfl, HT, HC, HO, hb⟩ := hrel
    by_cases hlt : k < p.length
    rotate_left
    · have hke : k = p.length := by omega
      have hlz : ¬ (k : Int) < (p.length : Int) := by omega
      have HF := Lib.hid (HR.out wr _ q (shB_iff.2 (fun i hi => HC.out i hi (by omega))) HO.out (HT.out.congr (fun i hi => by rw [if_pos (by omega)])))
      clear hke hlt
      go_wp2
      go_ret2
      exact ⟨HF.out, hb⟩
    have hlz : (k : Int) < (p.length : Int) := by omega
    have HW1 := Lib.hid (fun W => within_l (-200000) d 200000 W)
    cases hb1 : btwM (-200000) d 200000
    · rw [hb1] at HW1
      have HF := Lib.hid (fun w' => HE.out w' (HB1.out hb1))
      clear hb1 hlt
      go_wp2_with (go_at_call 39; refine (HW1.out _).mono ?_; go_must (rintro e w2 ⟨rfl, rfl⟩))
      go_ret2
      exact ⟨HF.out _, hb⟩
    rw [hb1] at HW1
    obtain ⟨hdd1, hdd2⟩ := btwM_iff.1 hb1
    have hkq : k < q.length := by rw [HT.out.len]; exact hlt
    obtain ⟨hix, ⟨d0, -⟩, hfz⟩ := ops_own_at HO.out.1 HT.out.len k hlt q[k] (List.getElem?_eq_getElem hkq)
    have f0 := hfz (6 * k)
    have htk : q[k].t = p[k].t := by have := (HT.out.at_ k hkq hlt).1; rw [if_neg (by omega), timeP_at hlt] at this; exact this
    rw [htk] at d0
    have htb := HTB.out k hlt
    have HNX := Lib.hid (show ProgOwn (wr.setCell ⟨g, 6 * k, none⟩ (.int .i64 (p[k].t + d))) w.heap.size (.slice (some ⟨g, 0, none⟩) p.length cap) (q.set k { q[k] with t := p[k].t + d }) ∧ Timed (fun i => if i < k + 1 then timeP p i + d else timeP p i) p (q.set k { q[k] with t := p[k].t + d }) from ⟨HO.out.time HT.out.len k hlt hkq _, (HT.out.put hkq _).congr (fun i hi => by
      by_cases e : i = k
      · subst e; rw [if_pos rfl, if_pos (by omega), timeP_at hlt]
      · rw [if_neg e]
        by_cases e2 : i < k
        · rw [if_pos e2, if_pos (by omega)]
        · rw [if_neg e2, if_neg (by omega)])⟩)
    have HW2 := Lib.hid (fun W => within_l (-100000) (p[k].t + d) 100000 W)
    have HCN := Lib.hid (show btwM (-100000) (p[k].t + d) 100000 = true → ∀ i (h : i < p.length), i < k + 1 → -100000 ≤ p[i].t + d ∧ p[i].t + d ≤ 100000 from fun h2 i hi hik => by
      by_cases e : i = k
      · subst e; exact btwM_iff.1 h2
      · exact HC.out i hi (by omega))
    have HNO := Lib.hid (show btwM (-100000) (p[k].t + d) 100000 = false → shB p d = false from fun h2 => shB_no hlt (fun h3 => by rw [btwM_iff.2 h3] at h2; cases h2))
    have HLT := Lib.hid hlt
    clear hfz htk hb1
    generalize p[k].t = tk at *
    obtain ⟨ht1, ht2⟩ := htb
    generalize q.set k _ = q' at HNX
    clear hkq hlt
    cases hb2 : btwM (-100000) (tk + d) 100000
    · rw [hb2] at HW2
      have HF := Lib.hid (fun w' => HE.out w' (HNO.out hb2))
      clear hb2
      go_wp2_with (go_at_call 39; first | (refine (HW1.out _).mono ?_; clear HW1; go_must (rintro e w2 ⟨rfl, rfl⟩)) | (refine (HW2.out _).mono ?_; go_must (rintro e w2 ⟨rfl, rfl⟩)))
      go_ret2
      exact ⟨HF.out _, hb⟩
    · rw [hb2] at HW2
      have HC2 := Lib.hid (HCN.out hb2)
      obtain ⟨ht3, ht4⟩ := btwM_iff.1 hb2
      clear hb2
      go_wp2_with (go_at_call 39; first | (refine (HW1.out _).mono ?_; clear HW1; go_must (rintro e w2 ⟨rfl, rfl⟩)) | (refine (HW2.out _).mono ?_; go_must (rintro e w2 ⟨rfl, rfl⟩)))
      go_roundw
      case rel => exact ⟨k + 1, q', HLT.out, by simp, Lib.hid HNX.out.2, HC2, Lib.hid HNX.out.1, hb.setCell (p := ⟨g, 6 * k, none⟩) hg0 _⟩
      case measure => simp only [intOf]; have := HLT.out; omega
def ShQ (p : List OpD) (d : Int) (q : List OpD) : Prop := if shErr p d = 0 then Timed (fun i => timeP p i + d) p q else q = []
theorem shQ_same {p q r : List OpD} {d : Int} (h : ShQ p d q) (k : ShQ p d r) : SameP q r := by
  unfold ShQ at h k
  by_cases h0 : shErr p d = 0
  · rw [if_pos h0] at h k; exact h.same2 k
  · rw [if_neg h0] at h k; subst h; subst k; exact ⟨rfl, fun i h => by simp at h⟩
theorem shiftR_to {p : List OpD} {d : Int} {B : Nat} {e : Ending} {w' : World} (h : ShiftR p d B e w') : ∃ v' q, e = .returned (.tuple #[v', .int .i64 (shErr p d)]) ∧ ProgOwn w' B v' q ∧ ShQ p d q := by
  unfold ShiftR at h
  by_cases h0 : shErr p d = 0
  · rw [if_pos h0] at h
    obtain ⟨v', q, he, ho, ht⟩ := h
    exact ⟨v', q, by rw [h0]; exact he, ho, by unfold ShQ; rw [if_pos h0]; exact ht⟩
  · rw [if_neg h0] at h
    exact ⟨_, [], h, ProgOwn.nil _ _, by unfold ShQ; rw [if_neg h0]⟩
set_option maxHeartbeats 8000000 in
set_option maxRecDepth 100000 in
theorem MachShifts_any (p : List OpD) (v : Value) (d : Int) (hd : -9223372036854775808 ≤ d ∧ d ≤ 9223372036854775807) (w : World) (hp : ProgRd w v p) : Calls Try.prog 9 #[v, .int .i64 d] w fun e w' => e = .returned (.bool true) ∧ Below w.heap.size w w' := by
  have HP := Lib.hid hp
  have HWD := Lib.hid (Wide8_l p v w hp)
  clear hp
  cases hwd : wideP p
  rotate_left
  · rw [hwd] at HWD
    clear hwd
    go_enter Try.func9, Try.ntmps9
    go_wp2_with (first | (go_at_call 10; refine HWD.out.mono ?_; go_must (rintro e w1 ⟨rfl, hb1⟩; have HB1 := Lib.hid hb1; clear hb1)) | (go_at_call 11; refine (sane08 _).mono ?_; go_must (rintro e w2 ⟨rfl, hb2⟩)))
    go_ret
    exact ⟨rfl, below_at HB1.out HB1.out.size hb2⟩
  rw [hwd] at HWD
  clear hwd
  obtain ⟨C, hC⟩ : ∃ C : List OpD → Prop, C = ShQ p d := ⟨_, rfl⟩
  have HCC := Lib.hid (show ∀ q r, C q → C r → SameP q r from fun q r h k => by rw [hC] at h k; exact shQ_same h k)
  have HS1 := Lib.hid (fun (W : World) (h : ProgRd W v p) => (Shift_l p d hd v W h).mono (fun e w' q => (⟨by rw [hC]; obtain ⟨v', q', h1, h2, h3⟩ := shiftR_to q.1; exact ⟨v', q', h1, h2.rd, h3⟩, q.2⟩ : (∃ v' q, e = .returned (.tuple #[v', .int .i64 (shErr p d)]) ∧ ProgRd w' v' q ∧ C q) ∧ Below W.heap.size W w')))
  have HS2 := Lib.hid (fun (W : World) (h : ProgRd W v p) => (rShift_l p d hd v W h).mono (fun e w' q => (⟨by rw [hC]; obtain ⟨v', q', h1, h2, h3⟩ := shiftR_to q.1; exact ⟨v', q', h1, h2.rd, h3⟩, q.2⟩ : (∃ v' q, e = .returned (.tuple #[v', .int .i64 (shErr p d)]) ∧ ProgRd w' v' q ∧ C q) ∧ Below W.heap.size W w')))
  obtain ⟨tn, te, htv⟩ : ∃ tn te : Int, (if validP p = true then .tuple #[.int .i64 (trafP p), .int .i64 0] else .tuple #[.int .i64 0, .int .i64 80] : Value) = .tuple #[.int .i64 tn, .int .i64 te] := by split <;> exact ⟨_, _, rfl⟩
  have HT1 := Lib.hid (fun (W : World) (h : ProgRd W v p) => (Traffic_l p v W h).mono (fun e w' q => (⟨by have := q.1; unfold TrafR at this; rwa [htv] at this, q.2⟩ : e = .returned (.tuple #[.int .i64 tn, .int .i64 te]) ∧ Below W.heap.size W w')))
  have HT2 := Lib.hid (fun (W : World) (h : ProgRd W v p) => (rTraffic_l p v W h).mono (fun e w' q => (⟨by have := q.1; unfold TrafR at this; rwa [htv] at this, q.2⟩ : e = .returned (.tuple #[.int .i64 tn, .int .i64 te]) ∧ Below W.heap.size W w')))
  clear htv hC hd
  generalize shErr p d = E at *
  go_enter Try.func9, Try.ntmps9
  go_wp2_with (first | (go_at_call 10; refine HWD.out.mono ?_; go_must (rintro e w1 ⟨rfl, hb1⟩; have HB1 := Lib.hid hb1; clear hb1)) | (go_at_call 24; refine (HS1.out _ (HP.out.below HB1.out)).mono ?_; go_must (rintro e w2 ⟨⟨v2, q2, rfl, hr2, hc2⟩, hb2⟩; have HB2 := Lib.hid (below_at HB1.out HB1.out.size hb2); have HR2 := Lib.hid hr2; have HC2 := Lib.hid hc2; clear hb2 hr2 hc2)) | (go_at_call 32; refine (HS2.out _ (HP.out.below HB2.out)).mono ?_; go_must (rintro e w3 ⟨⟨v3, q3, rfl, hr3, hc3⟩, hb3⟩; have HB3 := Lib.hid (below_at HB2.out HB2.out.size hb3); have HR3 := Lib.hid hr3; have HR23 := Lib.hid (HR2.out.below hb3); have HC3 := Lib.hid hc3; clear hb3 hr3 hc3)) | (go_at_call 33; refine (HT1.out _ (HP.out.below HB3.out)).mono ?_; go_must (rintro e w4 ⟨rfl, hb4⟩; have HB4 := Lib.hid (below_at HB3.out HB3.out.size hb4); have HR24 := Lib.hid (HR23.out.below hb4); have HR34 := Lib.hid (HR3.out.below hb4); clear hb4)) | (go_at_call 34; refine (HT2.out _ (HP.out.below HB4.out)).mono ?_; go_must (rintro e w5 ⟨rfl, hb5⟩; have HB5 := Lib.hid (below_at HB4.out HB4.out.size hb5); have HR25 := Lib.hid (HR24.out.below hb5); have HR35 := Lib.hid (HR34.out.below hb5); clear hb5)) | (go_at_call 31; refine (SameOps_l _ _ (HCC.out _ _ HC2.out HC3.out) _ _ _ HR25.out HR35.out).mono ?_; go_must (rintro e w6 ⟨rfl, hb6⟩; have HB6 := Lib.hid (below_at HB5.out HB5.out.size hb6); clear hb6)) | (go_at_call 11; refine (sane08 _).mono ?_; go_must (rintro e w7 ⟨rfl, hb7⟩)))
  go_ret
  exact ⟨rfl, below_at HB6.out HB6.out.size hb7⟩
end Go.Proofs.Ytbjbdochffocoaa
