/- The reference's Early, Slack of both: walks. -/
import Derived.Test.YtbjbdochffocoaaEarC
namespace Go.Proofs.Ytbjbdochffocoaa
open Go.RowKit Go.Lib
set_option linter.unusedVariables false
theorem ProgOwn.keptS {w w' : World} {B vb : Nat} {v : Value} {q : List OpD} (h : ProgOwn w B v q) (hk : KeepS (fun b => b = vb) w.heap.size w w') (hv : vb < B) : ProgOwn w' B v q :=
  ⟨OwnOf.keptS h.1 hk hv, fun g e => ⟨fun i hi hik => ⟨OwnOf.keptS ((h.2 g e).own i hi hik).1 hk hv, ((h.2 g e).own i hi hik).2⟩, (h.2 g e).sep⟩⟩
set_option maxHeartbeats 16000000 in
set_option maxRecDepth 100000 in
theorem rEarly_l (p : List OpD) (v : Value) (w : World) (hp : ProgRd w v p) : Calls Try.prog 30 #[v] w fun e w' => EarlyR p w.heap.size e w' ∧ Below w.heap.size w w' := by
  have HP := Lib.hid hp
  have HVL := Lib.hid (fun (W : World) (h : ProgRd W v p) => rValid_l p v W h)
  cases hv : validP p
  · have HR := Lib.hid (fun w' => early_err (B := w.heap.size) (show readyE p = 80 by unfold readyE; rw [hv]; rfl) (by omega) w')
    rw [hv] at HVL
    clear hv hp
    go_enter Try.func30, Try.ntmps30
    go_wp2_with (go_at_call 17; refine (HVL.out _ HP.out).mono ?_; go_must (rintro e w1 ⟨rfl, hb1⟩))
    go_ret2
    exact ⟨HR.out _, hb1⟩
  rw [hv] at HVL
  have HWL := Lib.hid (fun (W : World) (h : ProgRd W v p) => (rwaits_l p (small_of hv) v W h).mono (fun e w' q => (⟨by
    obtain ⟨v', he, hs⟩ := q.1
    obtain ⟨a, c, rfl, -⟩ := hs.shape
    rw [waitsI_len] at he
    exact ⟨a, c, he⟩, q.2⟩ : (∃ a c, e = .returned (.slice a (waitsP p).length c)) ∧ Below W.heap.size W w')))
  by_cases hw : waitsP p = []
  rotate_left
  · have HR := Lib.hid (fun w' => early_err (B := w.heap.size) (show readyE p = 82 by unfold readyE; rw [hv, if_pos rfl, if_neg hw]) (by omega) w')
    have hpos : (0 : Int) < ((waitsP p).length : Int) := by have := List.length_pos_iff.2 hw; omega
    generalize (waitsP p).length = wl at *
    clear hv hp hw
    go_enter Try.func30, Try.ntmps30
    go_wp2_with (first | (go_at_call 17; refine (HVL.out _ HP.out).mono ?_; go_must (rintro e w1 ⟨rfl, hb1⟩; have HB1 := Lib.hid hb1; clear hb1)) | (go_at_call 43; refine (HWL.out _ (HP.out.below HB1.out)).mono ?_; go_must (rintro e w3 ⟨⟨a3, c3, rfl⟩, hb3⟩)))
    go_ret2
    exact ⟨HR.out _, below_at HB1.out HB1.out.size hb3⟩
  have hw0 : (waitsP p).length = 0 := by rw [hw]; rfl
  rw [hw0] at HWL
  have h0 : readyE p = 0 := by unfold readyE; rw [hv, if_pos rfl, if_pos hw]
  have HR := Lib.hid (fun w' v' q f (ho : ProgOwn w' w.heap.size v' q) (ht : Timed f p q) (he : Erl p f) => early_ok h0 ho ht he)
  have hl4 := (small_of hv).len
  obtain ⟨Z, hmk, hrowz⟩ := make_ints p.length (by omega)
  have HRW := Lib.hid hrowz
  have HVC := Lib.hid (fun (w0 : World) (h : ProgRd w0 v p) => rearly_l p hv (ready_of hv hw) v w0 h w0.heap.size (Nat.le_refl _))
  have HCP := Lib.hid (fun (W : World) (h : ProgRd W v p) => rCopied_l p hv v W h)
  have hvf : ∃ a cap, v = .slice a p.length cap := by obtain ⟨a, cap, g, off, rfl, -⟩ := ops_at hp; exact ⟨a, cap, rfl⟩
  obtain ⟨a, cap, rfl⟩ := hvf
  have hln : (p.length : Int) ≤ 4000 := by omega
  clear hv hp hw hw0 hrowz h0
  go_enter Try.func30, Try.ntmps30
  go_wp2_with (first | (go_at_call 17; refine (HVL.out _ HP.out).mono ?_; go_must (rintro e w1 ⟨rfl, hb1⟩; have HB1 := Lib.hid hb1; clear hb1)) | (go_at_call 43; refine (HWL.out _ (HP.out.below HB1.out)).mono ?_; go_must (rintro e w3 ⟨⟨a3, c3, rfl⟩, hb3⟩; have HB3 := Lib.hid (below_at HB1.out HB1.out.size hb3); clear hb3)))
  have hs3 := HB3.out.size
  have HVI := Lib.hid (HVC.out w3 (HP.out.below HB3.out))
  have HRZ := Lib.hid (HRW.out w3)
  clear hmk HRW
  go_loopw [5] (fun t5 wr => ∃ (k : Nat) (l : List Int), k ≤ p.length ∧ t5 = .int .i64 (k : Nat) ∧ Hid (RowI wr w3.heap.size l ∧ l.length = p.length ∧ ∀ j, j < k → l.getD j 0 = -1) ∧ Below w3.heap.size w3 wr) (fun t5 _ => p.length - (intOf t5).toNat)
  case atStart => exact ⟨0, _, Nat.zero_le _, rfl, Lib.hid ⟨HRZ.out, by simp, fun j hj => by omega⟩, (Below.refl _ _).alloc (Nat.le_refl _) _⟩
  case round =>
    obtain ⟨k, l, hk, rfl, HL, hb⟩ := hrel
    by_cases hlt : k < p.length
    · have hlz : (k : Int) < (p.length : Int) := by omega
      have hix := fun V => idx_of (P := Try.prog) un_int sz_int1 w3.heap.size 0 p.length p.length k hlt V
      simp only [Nat.one_mul, Nat.zero_add] at hix
      have hkl : k < l.length := by rw [HL.out.2.1]; exact hlt
      have oc := HL.out.1.cell k hkl
      have of := HL.out.1.free k hkl
      have HKL := Lib.hid hkl
      have HLT := Lib.hid hlt
      generalize l[k] = old at *
      clear hkl hlt
      go_wp2
      go_roundw
      case rel => exact ⟨k + 1, l.set k (-1), HLT.out, by simp, Lib.hid ⟨HL.out.1.set k HKL.out _, by rw [List.length_set]; exact HL.out.2.1, fun j hj => by
        by_cases e : k = j
        · subst e; exact getD_set_self _ _ _ HKL.out
        · rw [getD_set _ _ _ _ e]; exact HL.out.2.2 j (by omega)⟩, hb.setCell (p := ⟨w3.heap.size, k, none⟩) (Nat.le_refl _) _⟩
      case measure => simp only [intOf]; have := HLT.out; omega
    · have hke : k = p.length := by omega
      have hlz : ¬ (k : Int) < (p.length : Int) := by omega
      have HST := Lib.hid (show PartE p l by
        have : l = List.replicate p.length (-1) := getD_ext (by rw [HL.out.2.1]; simp) (fun i hi => by
          rw [HL.out.2.2 i (by rw [HL.out.2.1] at hi; omega)]
          rw [HL.out.2.1] at hi
          simp [List.getD_eq_getElem?_getD, hi])
        rw [this]; exact PartE.start p)
      have HRL := Lib.hid HL.out.1
      clear hke hlt HL
      obtain ⟨w5, hw5⟩ : ∃ x : World, x = wr := ⟨_, rfl⟩
      subst hw5
      have hvb : w3.heap.size < w5.heap.size := HRL.out.lt
      go_wp2_with (go_at_call 47; refine (HCP.out _ (HP.out.below (HB3.out.trans (hb.mono hs3)))).mono ?_; go_must (rintro e w6 ⟨⟨v6, q6, rfl, ho6, hs6⟩, hb6⟩; obtain ⟨a6, c6, hv6⟩ := OwnOf.shape ho6.1; rw [hs6.len] at hv6; subst hv6; have HO6 := Lib.hid ho6; have HSQ := Lib.hid hs6; have HB6 := Lib.hid hb6; have HRL6 := Lib.hid (HRL.out.kept hb6); clear ho6 hs6 hb6))
      go_loopw [7] (fun t7 wr => ∃ (k : Nat) (m : List Int) (q : List OpD), k ≤ p.length ∧ t7 = .int .i64 (k : Nat) ∧ Hid (RowI wr w3.heap.size m ∧ PartE p m ∧ ∀ j, j < k → 0 ≤ m.getD j 0) ∧ Hid (Timed (fun j => if j < k then m.getD j 0 else timeP p j) p q) ∧ Hid (ProgOwn wr w5.heap.size (.slice a6 p.length c6) q) ∧ Below w3.heap.size w3 wr) (fun t7 _ => p.length - (intOf t7).toNat)
      case atStart => exact ⟨0, l, q6, Nat.zero_le _, rfl, Lib.hid ⟨HRL6.out, HST.out, fun j hj => by omega⟩, Lib.hid ((timed_same HSQ.out).congr (fun i _ => by rw [if_neg (by omega)])), HO6, hb.trans (HB6.out.mono (by omega))⟩
      case round =>
        obtain ⟨j, m, q, hj, rfl, HM, HT, HO, hbr⟩ := hrel
        by_cases hlt : j < p.length
        · have hlz2 : (j : Int) < (p.length : Int) := by omega
          have HC := Lib.hid (HVI.out j hlt _ m hbr HM.out.1 HM.out.2.1)
          obtain ⟨g, rfl, hg1⟩ : ∃ g, a6 = some ⟨g, 0, none⟩ ∧ w5.heap.size ≤ g := by
            rcases ownR_some HO.out.1 with ⟨-, e⟩ | ⟨g, cap, e, h1, h2⟩
            · have := HT.out.len; rw [e] at this; simp at this; omega
            · simp only [Value.slice.injEq] at e; exact ⟨g, e.1, h1⟩
          have hjq : j < q.length := by rw [HT.out.len]; exact hlt
          obtain ⟨QF, hQF⟩ : ∃ F : Int → List OpD, F = fun x => q.set j { q[j] with t := x } := ⟨_, rfl⟩
          have HCE := Lib.hid (show ∀ V, KeepS (fun b => b = w3.heap.size) wr.heap.size wr V → (∀ W, (Instr.indexAt 22 (.slice (some ⟨g, 0, none⟩) p.length c6) (.int .i64 (j : Int))).run Try.prog W = .ok (.pointer (some ⟨g, 6 * j, none⟩)) W) ∧ V.cell? ⟨g, 6 * j, none⟩ = some (.int .i64 q[j].t) ∧ V.frozen? ⟨g, 6 * j, none⟩ = false ∧ ∀ x, ProgOwn (V.setCell ⟨g, 6 * j, none⟩ (.int .i64 x)) w5.heap.size (.slice (some ⟨g, 0, none⟩) p.length c6) (QF x) from fun V hV => by
            subst hQF
            have ho := HO.out.keptS hV hvb
            obtain ⟨h1, ⟨h2, -⟩, h3⟩ := ops_own_at ho.1 HT.out.len j hlt q[j] (List.getElem?_eq_getElem hjq)
            exact ⟨h1, h2, h3 _, fun x => ho.time HT.out.len j hlt hjq x⟩)
          have HTN := Lib.hid (show ∀ m2, ExtV m m2 → Timed (fun i => if i < j + 1 then m2.getD i 0 else timeP p i) p (QF (m2.getD j 0)) from fun m2 he => by
           subst hQF
           refine (HT.out.put hjq _).congr (fun i hi => ?_)
           (
            by_cases e : i = j
            · subst e; rw [if_pos rfl, if_pos (by omega)]
            · rw [if_neg e]
              by_cases e2 : i < j
              · rw [if_pos e2, if_pos (by omega)]; exact (he i (HM.out.2.2 i e2)).symm
              · rw [if_neg e2, if_neg (by omega)]))
          clear hQF
          have HLT := Lib.hid hlt
          generalize q[j].t = old at *
          clear hlt hjq
          go_wp2_with (go_at_call 54; refine HC.out.mono ?_; go_must (rintro e w7 ⟨m2, rfl, hrw7, hpe7, hb7, hk7⟩; obtain ⟨j1, j2, j3, j4⟩ := HCE.out w7 hk7; have HPE := Lib.hid hpe7; have HRW7 := Lib.hid hrw7; have HO7 := Lib.hid j4; clear hrw7 hpe7 hk7 j4))
          go_roundw
          case rel => exact ⟨j + 1, m2, QF (m2.getD j 0), HLT.out, by simp, Lib.hid ⟨HRW7.out.other _ _ _ (by omega), HPE.out.1, fun i hi => by
            by_cases e : i = j
            · subst e; exact HPE.out.2.2
            · have h1 := HM.out.2.2 i (by omega)
              rw [HPE.out.2.1 i h1]; exact h1⟩, Lib.hid (HTN.out m2 HPE.out.2.1), Lib.hid (by have := HO7.out (m2.getD j 0); simpa using this), (hbr.trans hb7).setCell (p := ⟨g, 6 * j, none⟩) (by simp; omega) _⟩
          case measure => simp only [intOf]; have := HLT.out; omega
        · have hje : j = p.length := by omega
          have hlz2 : ¬ (j : Int) < (p.length : Int) := by omega
          have HFN := Lib.hid (HR.out wr _ q (fun i => m.getD i 0) (HO.out.mono (by omega)) (HT.out.congr (fun i hi => by rw [if_pos (by omega)])) (HM.out.2.1.all (fun i hi => HM.out.2.2 i (by omega))))
          clear hje hlt HM
          go_wp2
          go_ret2
          exact ⟨HFN.out, HB3.out.trans (hbr.mono hs3)⟩
end Go.Proofs.Ytbjbdochffocoaa
