/- Slack of both: walks; the law MachSlacks. -/
import Derived.Test.YtbjbdochffocoaaEarD
namespace Go.Proofs.Ytbjbdochffocoaa
open Go.RowKit Go.Lib
set_option linter.unusedVariables false
/-- What Slack gives. -/
def SlackR (p : List OpD) (e : Ending) (w' : World) : Prop := ∃ v', e = .returned (.tuple #[v', .int .i64 (readyE p)]) ∧ SlOf w' w'.heap.size 1 encInt v' (if readyE p = 0 then slackL p else [])
theorem slack_err {p : List OpD} {k : Int} (h : readyE p = k) (hk : k ≠ 0) (w' : World) : SlackR p (.returned (.tuple #[.slice none 0 0, .int .i64 k])) w' := by
  unfold SlackR; rw [h, if_neg hk]; exact ⟨_, rfl, Sl.nil _ _ _⟩
theorem slack_ok {p : List OpD} (h : readyE p = 0) {w' : World} {v' : Value} (hs : SlOf w' w'.heap.size 1 encInt v' (slackL p)) : SlackR p (.returned (.tuple #[v', .int .i64 0])) w' := by
  unfold SlackR; rw [h, if_pos rfl]; exact ⟨_, rfl, hs⟩
theorem Slack_l (p : List OpD) (v : Value) (w : World) (hp : ProgRd w v p) : Calls Try.prog 25 #[v] w fun e w' => SlackR p e w' ∧ Below w.heap.size w w' := by
  have HP := Lib.hid hp
  have HRD := Lib.hid (ready_l p v w hp)
  by_cases h0 : readyE p = 0
  rotate_left
  · have HR := Lib.hid (fun w' => slack_err rfl h0 w')
    have hne : (readyE p != 0) = true := by simpa using h0
    clear hp h0
    generalize readyE p = E at *
    go_enter Try.func25, Try.ntmps25
    go_wp2_with (go_at_call 37; refine HRD.out.mono ?_; go_must (rintro e w1 ⟨rfl, hb1⟩))
    go_ret2
    exact ⟨HR.out _, hb1⟩
  obtain ⟨hv, hw, hr⟩ := ready_ok h0
  rw [h0] at HRD
  have HR := Lib.hid (fun w' v' h => slack_ok h0 (w' := w') (v' := v') h)
  have HSL := Lib.hid (fun (W : World) (h : ProgRd W v p) => slacks_l p (small_of hv) v W h)
  clear hp h0 hv hw hr
  go_enter Try.func25, Try.ntmps25
  go_wp2_with (first | (go_at_call 37; refine HRD.out.mono ?_; go_must (rintro e w1 ⟨rfl, hb1⟩; have HB1 := Lib.hid hb1; clear hb1)) | (go_at_call 42; refine (HSL.out _ (HP.out.below HB1.out)).mono ?_; go_must (rintro e w2 ⟨⟨v2, rfl, hs2⟩, hb2⟩; have HS2 := Lib.hid hs2; clear hs2)))
  go_ret2
  exact ⟨HR.out _ _ HS2.out, below_at HB1.out HB1.out.size hb2⟩
theorem slackO_ready {p : List OpD} (hr : Ready p) {k : Nat} (hk : k < p.length) : slackO (timeP p) p[k] = (match (arrF (timeP p) p[k].src).map fun a => p[k].t - a with
    | none => -1
    | some z => z) := by
  unfold slackO
  cases ha : arrF (timeP p) p[k].src with
  | none => rfl
  | some a =>
    simp only [Option.map_some]
    obtain ⟨s, hs, h0, e⟩ := (arrF_le ha).2
    have := (hr k hk s hs h0).2
    rw [if_neg (by omega)]
set_option maxHeartbeats 8000000 in
set_option maxRecDepth 100000 in
theorem rSlack_l (p : List OpD) (v : Value) (w : World) (hp : ProgRd w v p) : Calls Try.prog 26 #[v] w fun e w' => SlackR p e w' ∧ Below w.heap.size w w' := by
  have HP := Lib.hid hp
  have HVL := Lib.hid (fun (W : World) (h : ProgRd W v p) => rValid_l p v W h)
  cases hv : validP p
  · have HR := Lib.hid (fun w' => slack_err (show readyE p = 80 by unfold readyE; rw [hv]; rfl) (by omega) w')
    rw [hv] at HVL
    clear hv hp
    go_enter Try.func26, Try.ntmps26
    go_wp2_with (go_at_call 17; refine (HVL.out _ HP.out).mono ?_; go_must (rintro e w1 ⟨rfl, hb1⟩))
    go_ret2
    exact ⟨HR.out _, hb1⟩
  rw [hv] at HVL
  have HWL := Lib.hid (fun (W : World) (h : ProgRd W v p) => (rwaits_l p (small_of hv) v W h).mono (fun e w' q => (⟨by
    obtain ⟨v', he, hs⟩ := q.1
    obtain ⟨a, c, rfl, -⟩ := hs.shape
    rw [waitsI_len] at he
    exact ⟨a, c, he⟩, q.2⟩ : (∃ a c, e = .returned (.slice a (waitsP p).length c)) ∧ Below W.heap.size W w')))
  by_cases hw : waitsP p = []
  rotate_left
  · have HR := Lib.hid (fun w' => slack_err (show readyE p = 82 by unfold readyE; rw [hv, if_pos rfl, if_neg hw]) (by omega) w')
    have hpos : (0 : Int) < ((waitsP p).length : Int) := by have := List.length_pos_iff.2 hw; omega
    generalize (waitsP p).length = wl at *
    clear hv hp hw
    go_enter Try.func26, Try.ntmps26
    go_wp2_with (first | (go_at_call 17; refine (HVL.out _ HP.out).mono ?_; go_must (rintro e w1 ⟨rfl, hb1⟩; have HB1 := Lib.hid hb1; clear hb1)) | (go_at_call 43; refine (HWL.out _ (HP.out.below HB1.out)).mono ?_; go_must (rintro e w3 ⟨⟨a3, c3, rfl⟩, hb3⟩)))
    go_ret2
    exact ⟨HR.out _, below_at HB1.out HB1.out.size hb3⟩
  have hw0 : (waitsP p).length = 0 := by rw [hw]; rfl
  rw [hw0] at HWL
  have h0 : readyE p = 0 := by unfold readyE; rw [hv, if_pos rfl, if_pos hw]
  have HR := Lib.hid (fun w' v' h => slack_ok h0 (w' := w') (v' := v') h)
  have hl4 := (small_of hv).len
  have HRY := Lib.hid (ready_of hv hw)
  have HSL := Lib.hid (fun (i : Nat) (hi : i < p.length) (W : World) (h : ProgRd W v p) => slack_l p (small_of hv) v i hi W h)
  have HSB := Lib.hid (fun (k : Nat) (hk : k < p.length) => slack_bd (small_of hv) hk)
  have hvf : ∃ a cap, v = .slice a p.length cap := by obtain ⟨a, cap, g, off, rfl, -⟩ := ops_at hp; exact ⟨a, cap, rfl⟩
  obtain ⟨a, cap, rfl⟩ := hvf
  have hln : (p.length : Int) ≤ 4000 := by omega
  clear hv hp hw hw0 h0
  go_enter Try.func26, Try.ntmps26
  go_wp2_with (first | (go_at_call 17; refine (HVL.out _ HP.out).mono ?_; go_must (rintro e w1 ⟨rfl, hb1⟩; have HB1 := Lib.hid hb1; clear hb1)) | (go_at_call 43; refine (HWL.out _ (HP.out.below HB1.out)).mono ?_; go_must (rintro e w3 ⟨⟨a3, c3, rfl⟩, hb3⟩; have HB3 := Lib.hid (below_at HB1.out HB1.out.size hb3); clear hb3)))
  go_loopw [4, 5] (fun t4 t5 wr => ∃ k : Nat, k ≤ p.length ∧ t5 = .int .i64 (k : Nat) ∧ Hid (OwnOf wr w.heap.size 3 1 encInt t4 ((p.take k).map (slackO (timeP p)))) ∧ Below w.heap.size w wr) (fun t4 t5 _ => p.length - (intOf t5).toNat)
  case atStart => exact ⟨0, Nat.zero_le _, rfl, Lib.hid (OwnOf.nil _ _ _ _ _), HB3.out⟩
  case round =>
    obtain ⟨k, hk, rfl, HO, hb⟩ := hrel
    have hs := hb.size
    by_cases hlt : k < p.length
    rotate_left
    · have hke : k = p.length := by omega
      have hlz : ¬ (k : Int) < (p.length : Int) := by omega
      have HS := Lib.hid (show SlOf wr wr.heap.size 1 encInt u4 (slackL p) by have := HO.out.sl; rw [hke, List.take_length] at this; exact this)
      clear hke hlt HO
      go_wp2
      go_ret2
      exact ⟨HR.out _ _ HS.out, hb⟩
    have hlz : (k : Int) < (p.length : Int) := by omega
    have HSK := Lib.hid (HSL.out k hlt wr (HP.out.below hb))
    have HMT := Lib.hid (map_take (slackO (timeP p)) p k hlt)
    have HSO := Lib.hid (slackO_ready HRY.out hlt)
    have HLT := Lib.hid hlt
    have hacc : ((p.take k).map (slackO (timeP p))).length + 1 ≤ 1073741824 := by rw [List.length_map, List.length_take]; omega
    generalize (p.take k).map (slackO (timeP p)) = D at *
    generalize slackO (timeP p) p[k] = so at *
    generalize (arrF (timeP p) p[k].src).map (fun a => p[k].t - a) = ar at *
    clear hlt
    cases ar with
    | none =>
      have HS := Lib.hid (show so = -1 from HSO.out)
      clear HSO
      unfold optV at HSK
      go_wp2_with (first | (go_at_call 50; refine HSK.out.mono ?_; go_must (rintro e w5 ⟨rfl, hb5⟩; have HO5 := Lib.hid (HO.out.kept hb5); have hs5 : w.heap.size ≤ w5.heap.size := (by have := hb5.size; omega); have HBB := Lib.hid (hb.trans (hb5.mono hs)); simp only [Option.getD_none, Option.isSome_none])) | (at_builtin; refine wpList_push rfl _ _ _ rfl slInts HO5.out rfl rfl (by first | rfl | simp) rfl rfl hacc (by omega) hs5 ?_; intro g7 c7 w7 hown7 hg7 hat7))
      go_roundw
      case rel => exact ⟨k + 1, HLT.out, by simp, Lib.hid (by rw [HMT.out, HS.out]; exact OwnOf.snoc (enc := encInt) (by simpa [encInt] using hown7) rfl), below_push HBB.out HO5.out (Nat.le_refl _) hs5 hg7⟩
      case measure => simp only [intOf]; have := HLT.out; omega
    | some z =>
      have HS := Lib.hid (show so = z from HSO.out)
      clear HSO
      unfold optV at HSK
      go_wp2_with (first | (go_at_call 50; refine HSK.out.mono ?_; go_must (rintro e w5 ⟨rfl, hb5⟩; have HO5 := Lib.hid (HO.out.kept hb5); have hs5 : w.heap.size ≤ w5.heap.size := (by have := hb5.size; omega); have HBB := Lib.hid (hb.trans (hb5.mono hs)); simp only [Option.getD_some, Option.isSome_some])) | (at_builtin; refine wpList_push rfl _ _ _ rfl slInts HO5.out rfl rfl (by first | rfl | simp) rfl rfl hacc (by omega) hs5 ?_; intro g7 c7 w7 hown7 hg7 hat7))
      go_roundw
      case rel => exact ⟨k + 1, HLT.out, by simp, Lib.hid (by rw [HMT.out, HS.out]; exact OwnOf.snoc (enc := encInt) (by simpa [encInt] using hown7) rfl), below_push HBB.out HO5.out (Nat.le_refl _) hs5 hg7⟩
      case measure => simp only [intOf]; have := HLT.out; omega
def EarlQ (p : List OpD) (q : List OpD) : Prop := if readyE p = 0 then ∃ f, Timed f p q ∧ Erl p f else q = []
theorem earlQ_same {p q r : List OpD} (h : EarlQ p q) (k : EarlQ p r) : SameP q r := by
  unfold EarlQ at h k
  by_cases h0 : readyE p = 0
  · rw [if_pos h0] at h k
    obtain ⟨f, ht, he⟩ := h
    obtain ⟨g, ht2, he2⟩ := k
    exact ht.same2 (ht2.congr (fun i hi => Erl.same (ready_ok h0).2.2 he2 he i hi))
  · rw [if_neg h0] at h k; subst h; subst k; exact ⟨rfl, fun i h => by simp at h⟩
theorem earlyR_to {p : List OpD} {B : Nat} {e : Ending} {w' : World} (h : EarlyR p B e w') : ∃ v' q, e = .returned (.tuple #[v', .int .i64 (readyE p)]) ∧ ProgOwn w' B v' q ∧ EarlQ p q := by
  unfold EarlyR at h
  by_cases h0 : readyE p = 0
  · rw [if_pos h0] at h
    obtain ⟨v', q, f, he, ho, ht, hE⟩ := h
    exact ⟨v', q, by rw [h0]; exact he, ho, by unfold EarlQ; rw [if_pos h0]; exact ⟨f, ht, hE⟩⟩
  · rw [if_neg h0] at h
    exact ⟨_, [], h, ProgOwn.nil _ _, by unfold EarlQ; rw [if_neg h0]⟩
set_option maxHeartbeats 8000000 in
set_option maxRecDepth 100000 in
theorem MachSlacks_any (p : List OpD) (v : Value) (w : World) (hp : ProgRd w v p) : Calls Try.prog 7 #[v] w fun e w' => e = .returned (.bool true) ∧ Below w.heap.size w w' := by
  have HP := Lib.hid hp
  have HWD := Lib.hid (Wide8_l p v w hp)
  clear hp
  cases hwd : wideP p
  rotate_left
  · rw [hwd] at HWD
    clear hwd
    go_enter Try.func7, Try.ntmps7
    go_wp2_with (first | (go_at_call 10; refine HWD.out.mono ?_; go_must (rintro e w1 ⟨rfl, hb1⟩; have HB1 := Lib.hid hb1; clear hb1)) | (go_at_call 11; refine (sane08 _).mono ?_; go_must (rintro e w2 ⟨rfl, hb2⟩)))
    go_ret
    exact ⟨rfl, below_at HB1.out HB1.out.size hb2⟩
  rw [hwd] at HWD
  clear hwd
  obtain ⟨C, hC⟩ : ∃ C : List OpD → Prop, C = EarlQ p := ⟨_, rfl⟩
  have HCC := Lib.hid (show ∀ q r, C q → C r → SameP q r from fun q r h k => by rw [hC] at h k; exact earlQ_same h k)
  have HE1 := Lib.hid (fun (W : World) (h : ProgRd W v p) => (Early_l p v W h).mono (fun e w' q => (⟨by rw [hC]; obtain ⟨v', q', h1, h2, h3⟩ := earlyR_to q.1; exact ⟨v', q', h1, h2.rd, h3⟩, q.2⟩ : (∃ v' q, e = .returned (.tuple #[v', .int .i64 (readyE p)]) ∧ ProgRd w' v' q ∧ C q) ∧ Below W.heap.size W w')))
  have HE2 := Lib.hid (fun (W : World) (h : ProgRd W v p) => (rEarly_l p v W h).mono (fun e w' q => (⟨by rw [hC]; obtain ⟨v', q', h1, h2, h3⟩ := earlyR_to q.1; exact ⟨v', q', h1, h2.rd, h3⟩, q.2⟩ : (∃ v' q, e = .returned (.tuple #[v', .int .i64 (readyE p)]) ∧ ProgRd w' v' q ∧ C q) ∧ Below W.heap.size W w')))
  obtain ⟨SL, hSL⟩ : ∃ L, L = (if readyE p = 0 then slackL p else []) := ⟨_, rfl⟩
  have HS1 := Lib.hid (fun (W : World) (h : ProgRd W v p) => (Slack_l p v W h).mono (fun e w' q => (⟨by rw [hSL]; exact q.1, q.2⟩ : (∃ v', e = .returned (.tuple #[v', .int .i64 (readyE p)]) ∧ SlOf w' w'.heap.size 1 encInt v' SL) ∧ Below W.heap.size W w')))
  have HS2 := Lib.hid (fun (W : World) (h : ProgRd W v p) => (rSlack_l p v W h).mono (fun e w' q => (⟨by rw [hSL]; exact q.1, q.2⟩ : (∃ v', e = .returned (.tuple #[v', .int .i64 (readyE p)]) ∧ SlOf w' w'.heap.size 1 encInt v' SL) ∧ Below W.heap.size W w')))
  obtain ⟨pa, pb, pe, hsp⟩ : ∃ a b c : Int, ∀ e, SpanR p e → e = .returned (.tuple #[.int .i64 a, .int .i64 b, .int .i64 c]) := by
    by_cases h0 : spanErr p = 0
    · have hpos : 0 < p.length := by
        unfold spanErr at h0
        split at h0
        · split at h0
          · omega
          · omega
        · omega
      obtain ⟨lo, hi, hs⟩ := span_ex hpos
      refine ⟨lo, hi, 0, fun e h => ?_⟩
      unfold SpanR at h
      rw [if_pos h0] at h
      obtain ⟨lo2, hi2, hs2, rfl⟩ := h
      obtain ⟨rfl, rfl⟩ := hs.same hs2
      rfl
    · refine ⟨0, 0, spanErr p, fun e h => ?_⟩
      unfold SpanR at h
      rwa [if_neg h0] at h
  have HP1 := Lib.hid (fun (W : World) (h : ProgRd W v p) => (Span_l p v W h).mono (fun e w' q => (⟨hsp _ q.1, q.2⟩ : e = .returned (.tuple #[.int .i64 pa, .int .i64 pb, .int .i64 pe]) ∧ Below W.heap.size W w')))
  have HP2 := Lib.hid (fun (W : World) (h : ProgRd W v p) => (rSpan_l p v W h).mono (fun e w' q => (⟨hsp _ q.1, q.2⟩ : e = .returned (.tuple #[.int .i64 pa, .int .i64 pb, .int .i64 pe]) ∧ Below W.heap.size W w')))
  have HSM := Lib.hid (fun (W : World) (v1 v2 : Value) (h1 : SlOf W W.heap.size 1 encInt v1 SL) (h2 : SlOf W W.heap.size 1 encInt v2 SL) => by have := same8_l SL SL W v1 v2 h1 h2; rwa [decide_eq_true rfl] at this)
  clear hsp hSL hC
  generalize readyE p = E at *
  go_enter Try.func7, Try.ntmps7
  go_wp2_with (first | (go_at_call 10; refine HWD.out.mono ?_; go_must (rintro e w1 ⟨rfl, hb1⟩; have HB1 := Lib.hid hb1; clear hb1)) | (go_at_call 25; refine (HS1.out _ (HP.out.below HB1.out)).mono ?_; go_must (rintro e w2 ⟨⟨v2, rfl, hs2⟩, hb2⟩; have HB2 := Lib.hid (below_at HB1.out HB1.out.size hb2); have HA2 := Lib.hid hs2; clear hb2 hs2)) | (go_at_call 26; refine (HS2.out _ (HP.out.below HB2.out)).mono ?_; go_must (rintro e w3 ⟨⟨v3, rfl, hs3⟩, hb3⟩; have HB3 := Lib.hid (below_at HB2.out HB2.out.size hb3); have HD3 := Lib.hid hs3; have HA3 := Lib.hid (HA2.out.below hb3); clear hb3 hs3)) | (go_at_call 27; refine (HP1.out _ (HP.out.below HB3.out)).mono ?_; go_must (rintro e w4 ⟨rfl, hb4⟩; have HB4 := Lib.hid (below_at HB3.out HB3.out.size hb4); have HA4 := Lib.hid (HA3.out.below hb4); have HD4 := Lib.hid (HD3.out.below hb4); clear hb4)) | (go_at_call 28; refine (HP2.out _ (HP.out.below HB4.out)).mono ?_; go_must (rintro e w5 ⟨rfl, hb5⟩; have HB5 := Lib.hid (below_at HB4.out HB4.out.size hb5); have HA5 := Lib.hid (HA4.out.below hb5); have HD5 := Lib.hid (HD4.out.below hb5); clear hb5)) | (go_at_call 29; refine (HE1.out _ (HP.out.below HB5.out)).mono ?_; go_must (rintro e w6 ⟨⟨v6, q6, rfl, hr6, hc6⟩, hb6⟩; have HB6 := Lib.hid (below_at HB5.out HB5.out.size hb6); have HA6 := Lib.hid (HA5.out.below hb6); have HD6 := Lib.hid (HD5.out.below hb6); have HR6 := Lib.hid hr6; have HC6 := Lib.hid hc6; clear hb6 hr6 hc6)) | (go_at_call 30; refine (HE2.out _ (HP.out.below HB6.out)).mono ?_; go_must (rintro e w7 ⟨⟨v7, q7, rfl, hr7, hc7⟩, hb7⟩; have HB7 := Lib.hid (below_at HB6.out HB6.out.size hb7); have HA7 := Lib.hid (HA6.out.below hb7); have HD7 := Lib.hid (HD6.out.below hb7); have HR67 := Lib.hid (HR6.out.below hb7); have HR7 := Lib.hid hr7; have HC7 := Lib.hid hc7; clear hb7 hr7 hc7)) | (go_at_call 16; refine (HSM.out _ _ _ HA7.out HD7.out).mono ?_; go_must (rintro e w8 ⟨rfl, hb8⟩; have HB8 := Lib.hid (below_at HB7.out HB7.out.size hb8); have HR68 := Lib.hid (HR67.out.below hb8); have HR78 := Lib.hid (HR7.out.below hb8); clear hb8)) | (go_at_call 31; refine (SameOps_l _ _ (HCC.out _ _ HC6.out HC7.out) _ _ _ HR68.out HR78.out).mono ?_; go_must (rintro e w9 ⟨rfl, hb9⟩; have HB9 := Lib.hid (below_at HB8.out HB8.out.size hb9); clear hb9)) | (go_at_call 11; refine (sane08 _).mono ?_; go_must (rintro e wA ⟨rfl, hbA⟩)))
  go_ret
  exact ⟨rfl, below_at HB9.out HB9.out.size hbA⟩
end Go.Proofs.Ytbjbdochffocoaa
