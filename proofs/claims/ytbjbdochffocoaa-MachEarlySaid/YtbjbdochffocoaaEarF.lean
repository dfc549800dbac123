/- The law MachEarly: its walk. -/
import Derived.Test.YtbjbdochffocoaaEarE
namespace Go.Proofs.Ytbjbdochffocoaa
open Go.RowKit Go.Lib
set_option linter.unusedVariables false
/-- What is known of the program with the earliest times. -/
structure EarlyOk (p q : List OpD) (lo : Int) : Prop where
  len : q.length = p.length
  valid : validP q = true
  ready : Ready q
  time : ∀ i (h : i < p.length), 0 ≤ timeP q i ∧ timeP q i ≤ timeP p i - lo
  slack : ∀ i (h : i < p.length), (slackL q).getD i 0 = 0 ∨ ((slackL q).getD i 0 = -1 ∧ timeP q i = 0)
  run : ∀ l, RunOk p l → RunOk q l
theorem earlyOk_of {p q : List OpD} {f : Nat → Int} {lo : Int} (hv : validP p = true) (hr : Ready p) (ht : Timed f p q) (he : Erl p f) (hlo : ∀ i (h : i < p.length), lo ≤ p[i].t) : EarlyOk p q lo := by
  obtain ⟨h1, h2, h3, h4⟩ := early_law ht hv hr he (small_of hv).len hlo
  refine ⟨ht.len, h1, h2, fun i hi => ?_, fun i hi => ?_, fun l hl => ht.run hl⟩
  · have hi2 : i < q.length := by rw [ht.len]; exact hi
    rw [timeP_at hi2, timeP_at hi]; exact h3 i hi2 hi
  · have hi2 : i < q.length := by rw [ht.len]; exact hi
    have e : (slackL q).getD i 0 = slackO (timeP q) q[i] := by unfold slackL; simp [List.getD_eq_getElem?_getD, List.getElem?_map, List.getElem?_eq_getElem hi2]
    rw [e, timeP_at hi2]; exact h4 i hi2
theorem run_g (p : List OpD) (v : Value) (W : World) (h : ProgRd W v p) : Calls Try.prog 12 #[v] W fun e w' => (∃ v' l, e = .returned (.tuple #[v', .int .i64 (runErr p)]) ∧ SlOf w' w'.heap.size 1 encInt v' l ∧ (runErr p = 0 → RunOk p l)) ∧ Below W.heap.size W w' :=
  (Run_l p v W h).mono fun e w' k => by
    refine ⟨?_, k.2⟩
    obtain ⟨v', he, l, hs, hl⟩ := k.1
    refine ⟨v', l, he, hs, fun h0 => ?_⟩
    rw [if_pos h0] at hl
    obtain ⟨m, hm, rfl⟩ := hl
    rwa [untilL_run (runErr_ok h0).1 hm.len]
theorem run_two {p : List OpD} (hv : validP p = true) (hr : Ready p) : runErr p = 0 ∨ runErr p = 81 := by
  unfold runErr
  rw [hv, if_pos rfl]
  split
  · exact .inr rfl
  · rw [if_pos (waits_of hr)]; exact .inl rfl
set_option maxHeartbeats 16000000 in
set_option maxRecDepth 100000 in
theorem MachEarly_any (p : List OpD) (v : Value) (w : World) (hp : ProgRd w v p) : Calls Try.prog 8 #[v] w fun e w' => e = .returned (.bool true) ∧ Below w.heap.size w w' := by
  have HP := Lib.hid hp
  have HWD := Lib.hid (Wide8_l p v w hp)
  have HVD := Lib.hid (fun (W : World) (h : ProgRd W v p) => rValid_l p v W h)
  cases hwd : wideP p
  rotate_left
  · rw [hwd] at HWD
    clear hwd hp
    go_enter Try.func8, Try.ntmps8
    go_wp2_with (first | (go_at_call 10; refine HWD.out.mono ?_; go_must (rintro e w1 ⟨rfl, hb1⟩; have HB1 := Lib.hid hb1; clear hb1)) | (go_at_call 11; refine (sane08 _).mono ?_; go_must (rintro e w2 ⟨rfl, hb2⟩)))
    go_ret
    exact ⟨rfl, below_at HB1.out HB1.out.size hb2⟩
  rw [hwd] at HWD
  clear hwd
  cases hvd : validP p
  · rw [hvd] at HVD
    clear hvd hp
    go_enter Try.func8, Try.ntmps8
    go_wp2_with (first | (go_at_call 10; refine HWD.out.mono ?_; go_must (rintro e w1 ⟨rfl, hb1⟩; have HB1 := Lib.hid hb1; clear hb1)) | (go_at_call 17; refine (HVD.out _ (HP.out.below HB1.out)).mono ?_; go_must (rintro e w2 ⟨rfl, hb2⟩; have HB2 := Lib.hid (below_at HB1.out HB1.out.size hb2); clear hb2)) | (go_at_call 11; refine (sane08 _).mono ?_; go_must (rintro e w3 ⟨rfl, hb3⟩)))
    go_ret
    exact ⟨rfl, below_at HB2.out HB2.out.size hb3⟩
  rw [hvd] at HVD
  have HV := Lib.hid hvd
  have hl4 := (small_of hvd).len
  have HWT := Lib.hid (fun (q : List OpD) (n : Nat) (hv : validP q = true) (hn : (waitsP q).length = n) (v' : Value) (W : World) (h : ProgRd W v' q) => (Waits_l q v' W h).mono (fun e w' k => (⟨by
    obtain ⟨u, he, hs⟩ := k.1
    rw [hv, if_pos rfl] at he hs
    obtain ⟨a, c, rfl, -⟩ := hs.shape
    rw [waitsI_len, hn] at he
    exact ⟨a, c, he⟩, k.2⟩ : (∃ a c, e = .returned (.tuple #[.slice a n c, .int .i64 0])) ∧ Below W.heap.size W w')))
  have HEL := Lib.hid (fun (W : World) (h : ProgRd W v p) => Early_l p v W h)
  by_cases hw : waitsP p = []
  rotate_left
  · have hr82 : readyE p = 82 := by unfold readyE; rw [hvd, if_pos rfl, if_neg hw]
    have HE2 := Lib.hid (fun (W : World) (h : ProgRd W v p) => (HEL.out W h).mono (fun e w' k => (⟨by
      have h1 := k.1; unfold EarlyR at h1; rw [hr82, if_neg (by omega)] at h1; exact h1, k.2⟩ : e = .returned (.tuple #[.slice none 0 0, .int .i64 82]) ∧ Below W.heap.size W w')))
    obtain ⟨n, hn⟩ : ∃ n, (waitsP p).length = n + 1 := ⟨(waitsP p).length - 1, by have := List.length_pos_iff.2 hw; omega⟩
    have HW2 := Lib.hid (fun (W : World) (h : ProgRd W v p) => HWT.out p (n + 1) hvd hn v W h)
    have hpos : decide (0 < n + 1) = true := decide_eq_true (by omega)
    clear hvd hp hw hn HEL HWT hr82
    generalize n + 1 = n1 at *
    go_enter Try.func8, Try.ntmps8
    go_wp2_with (first | (go_at_call 10; refine HWD.out.mono ?_; go_must (rintro e w1 ⟨rfl, hb1⟩; have HB1 := Lib.hid hb1; clear hb1)) | (go_at_call 17; refine (HVD.out _ (HP.out.below HB1.out)).mono ?_; go_must (rintro e w2 ⟨rfl, hb2⟩; have HB2 := Lib.hid (below_at HB1.out HB1.out.size hb2); clear hb2)) | (go_at_call 29; refine (HE2.out _ (HP.out.below HB2.out)).mono ?_; go_must (rintro e w3 ⟨rfl, hb3⟩; have HB3 := Lib.hid (below_at HB2.out HB2.out.size hb3); clear hb3)) | (go_at_call 20; refine (HW2.out _ (HP.out.below HB3.out)).mono ?_; go_must (rintro e w4 ⟨⟨a4, c4, rfl⟩, hb4⟩; have HB4 := Lib.hid (below_at HB3.out HB3.out.size hb4); clear hb4)) | (go_at_call 11; refine (sane08 _).mono ?_; go_must (rintro e w5 ⟨rfl, hb5⟩)))
    go_ret
    exact ⟨rfl, below_at HB4.out HB4.out.size hb5⟩
  have h0 : readyE p = 0 := by unfold readyE; rw [hvd, if_pos rfl, if_pos hw]
  have hr := ready_of hvd hw
  obtain ⟨lo, hlo⟩ : ∃ lo : Int, ∀ i (h : i < p.length), lo ≤ p[i].t := ⟨-100000, fun i h => by have := (small_of hvd).time i; rw [timeP_at h] at this; omega⟩
  clear hlo lo
  obtain ⟨lo, hi, hsp, hsp2⟩ : ∃ lo hi : Int, (∀ i (h : i < p.length), lo ≤ p[i].t) ∧ (0 < p.length → SpanP p lo hi) := by
    by_cases hn : 0 < p.length
    · obtain ⟨lo, hi, hs⟩ := span_ex hn
      exact ⟨lo, hi, fun i h => (hs.all i h).1, fun _ => hs⟩
    · exact ⟨0, 0, fun i h => by omega, fun h => absurd h hn⟩
  obtain ⟨pa, pc, g0, off, rfl, hl, hm, hat⟩ := ops_at hp
  have HX := Lib.hid hat
  have HE2 := Lib.hid (fun (W : World) (h : ProgRd W (.slice pa p.length pc) p) => (HEL.out W h).mono (fun e w' k => (⟨by
    have h1 := k.1; unfold EarlyR at h1; rw [if_pos h0] at h1
    obtain ⟨v', q, f, he, ho, ht, hE⟩ := h1
    obtain ⟨a, c, rfl⟩ := OwnOf.shape ho.1
    rw [ht.len] at he
    refine ⟨a, c, q, he, ?_, earlyOk_of hvd hr ht hE hsp⟩
    have := ho.rd; rwa [ht.len] at this, k.2⟩ : (∃ a c q, e = .returned (.tuple #[.slice a p.length c, .int .i64 0]) ∧ ProgRd w' (.slice a p.length c) q ∧ EarlyOk p q lo) ∧ Below W.heap.size W w')))
  have HW2 := Lib.hid (fun (W : World) (h : ProgRd W (.slice pa p.length pc) p) => HWT.out p 0 hvd (by rw [hw]; rfl) _ W h)
  have HW3 := Lib.hid (fun (q : List OpD) (hq : EarlyOk p q lo) v' (W : World) (h : ProgRd W v' q) => HWT.out q 0 hq.valid (by rw [waits_of hq.ready]; rfl) v' W h)
  have HSL := Lib.hid (fun (q : List OpD) (hq : EarlyOk p q lo) v' (W : World) (h : ProgRd W v' q) => (Slack_l q v' W h).mono (fun e w' k => (⟨by
    have hq0 : readyE q = 0 := by unfold readyE; rw [hq.valid, if_pos rfl, if_pos (waits_of hq.ready)]
    obtain ⟨u, he, hs⟩ := k.1
    rw [hq0] at he; rw [if_pos hq0] at hs
    obtain ⟨a, c, g, o, rfl, hx⟩ := rdL_of hs
    have hlen : (slackL q).length = p.length := by unfold slackL; rw [List.length_map, hq.len]
    rw [hlen] at he hx
    exact ⟨a, c, g, o, he, hx⟩, k.2⟩ : (∃ a c g o, e = .returned (.tuple #[.slice a p.length c, .int .i64 0]) ∧ RdL w' a c p.length g o (fun i => (slackL q).getD i 0)) ∧ Below W.heap.size W w')))
  have HR1 := Lib.hid (fun (W : World) (h : ProgRd W (.slice pa p.length pc) p) => run_g p _ W h)
  have HR2 := Lib.hid (fun (q : List OpD) v' (W : World) (h : ProgRd W v' q) => run_g q v' W h)
  have HEP := Lib.hid (run_two hvd hr)
  have HEQ := Lib.hid (fun (q : List OpD) (hq : EarlyOk p q lo) => run_two hq.valid hq.ready)
  have HTB := Lib.hid (fun i (h : i < p.length) => show -100000 ≤ p[i].t ∧ p[i].t ≤ 100000 by have := (small_of hvd).time i; rwa [timeP_at h] at this)
  have HSN := Lib.hid (fun (hn : 0 < p.length) (W : World) (h : ProgRd W (.slice pa p.length pc) p) => (Span_l p _ W h).mono (fun e w' k => (⟨by
    have h1 := k.1; unfold SpanR at h1
    rw [if_pos (show spanErr p = 0 by unfold spanErr; rw [hvd, if_pos rfl, if_neg (by omega)])] at h1
    obtain ⟨l2, h2, hs2, he⟩ := h1
    obtain ⟨rfl, rfl⟩ := (hsp2 hn).same hs2
    exact he, k.2⟩ : e = .returned (.tuple #[.int .i64 lo, .int .i64 hi, .int .i64 0]) ∧ Below W.heap.size W w')))
  have hlb : 0 < p.length → -100000 ≤ lo ∧ lo ≤ 100000 := fun hn => by
    obtain ⟨i, h1, e1⟩ := (hsp2 hn).lo_; have := HTB.out i h1; omega
  have HLB := Lib.hid hlb
  have hln : (p.length : Int) ≤ 4000 := by omega
  have hnn : ((p.length : Int) != (p.length : Int)) = false := by simp
  clear hvd hp hw hr h0 hsp hsp2 HEL HWT hlb hat
  have HSM := Lib.hid (fun (W : World) (l : List Int) (v1 v2 : Value) (h1 : SlOf W W.heap.size 1 encInt v1 l) (h2 : SlOf W W.heap.size 1 encInt v2 l) => by have := same8_l l l W v1 v2 h1 h2; rwa [decide_eq_true rfl] at this)
  by_cases hn : 0 < p.length
  rotate_left
  · have hz0 : ((p.length : Int) == 0) = true := beq_iff_eq.2 (by omega)
    clear hn
    go_enter Try.func8, Try.ntmps8
    go_wp2_with (first | (go_at_call 10; refine HWD.out.mono ?_; go_must (rintro e w1 ⟨rfl, hb1⟩; have HB1 := Lib.hid hb1; clear hb1)) | (go_at_call 17; refine (HVD.out _ (HP.out.below HB1.out)).mono ?_; go_must (rintro e w2 ⟨rfl, hb2⟩; have HB2 := Lib.hid (below_at HB1.out HB1.out.size hb2); clear hb2)) | (go_at_call 29; refine (HE2.out _ (HP.out.below HB2.out)).mono ?_; go_must (rintro e w3 ⟨⟨a3, c3, q, rfl, hq3, hok3⟩, hb3⟩; have HB3 := Lib.hid (below_at HB2.out HB2.out.size hb3); have HQ3 := Lib.hid hq3; have HOK := Lib.hid hok3; clear hb3 hq3 hok3)) | (go_at_call 20; refine (HW2.out _ (HP.out.below HB3.out)).mono ?_; clear HW2; go_must (rintro e w4 ⟨⟨a4, c4, rfl⟩, hb4⟩; have HB4 := Lib.hid (below_at HB3.out HB3.out.size hb4); have HQ4 := Lib.hid (HQ3.out.below hb4); clear hb4)) | (go_at_call 20; refine (HW3.out q HOK.out _ _ HQ4.out).mono ?_; go_must (rintro e w5 ⟨⟨a5, c5, rfl⟩, hb5⟩; have HB5 := Lib.hid (below_at HB4.out HB4.out.size hb5); have HQ5 := Lib.hid (HQ4.out.below hb5); clear hb5)) | (go_at_call 25; refine (HSL.out q HOK.out _ _ HQ5.out).mono ?_; go_must (rintro e w6 ⟨⟨a6, c6, g6, o6, rfl, hx6⟩, hb6⟩; have HB6 := Lib.hid (below_at HB5.out HB5.out.size hb6); have HQ6 := Lib.hid (HQ5.out.below hb6); have HX6 := Lib.hid hx6; clear hb6 hx6)) | (go_at_call 11; refine (sane08 _).mono ?_; go_must (rintro e w8 ⟨rfl, hb8⟩)))
    go_ret
    exact ⟨rfl, below_at HB6.out HB6.out.size hb8⟩
  have hz0 : ((p.length : Int) == 0) = false := beq_eq_false_iff_ne.2 (by omega)
  have HSP := Lib.hid (HSN.out hn)
  obtain ⟨hlb1, hlb2⟩ := HLB.out hn
  clear hn HSN
  go_enter Try.func8, Try.ntmps8
  go_wp2_with (first | (go_at_call 10; refine HWD.out.mono ?_; go_must (rintro e w1 ⟨rfl, hb1⟩; have HB1 := Lib.hid hb1; clear hb1)) | (go_at_call 17; refine (HVD.out _ (HP.out.below HB1.out)).mono ?_; go_must (rintro e w2 ⟨rfl, hb2⟩; have HB2 := Lib.hid (below_at HB1.out HB1.out.size hb2); clear hb2)) | (go_at_call 29; refine (HE2.out _ (HP.out.below HB2.out)).mono ?_; go_must (rintro e w3 ⟨⟨a3, c3, q, rfl, hq3, hok3⟩, hb3⟩; have HB3 := Lib.hid (below_at HB2.out HB2.out.size hb3); have HQ3 := Lib.hid hq3; have HOK := Lib.hid hok3; clear hb3 hq3 hok3)) | (go_at_call 20; refine (HW2.out _ (HP.out.below HB3.out)).mono ?_; clear HW2; go_must (rintro e w4 ⟨⟨a4, c4, rfl⟩, hb4⟩; have HB4 := Lib.hid (below_at HB3.out HB3.out.size hb4); have HQ4 := Lib.hid (HQ3.out.below hb4); clear hb4)) | (go_at_call 20; refine (HW3.out q HOK.out _ _ HQ4.out).mono ?_; go_must (rintro e w5 ⟨⟨a5, c5, rfl⟩, hb5⟩; have HB5 := Lib.hid (below_at HB4.out HB4.out.size hb5); have HQ5 := Lib.hid (HQ4.out.below hb5); clear hb5)) | (go_at_call 25; refine (HSL.out q HOK.out _ _ HQ5.out).mono ?_; go_must (rintro e w6 ⟨⟨a6, c6, g6, o6, rfl, hx6⟩, hb6⟩; have HB6 := Lib.hid (below_at HB5.out HB5.out.size hb6); have HQ6 := Lib.hid (HQ5.out.below hb6); have HX6 := Lib.hid hx6; clear hb6 hx6)) | (go_at_call 27; refine (HSP.out _ (HP.out.below HB6.out)).mono ?_; go_must (rintro e w7 ⟨rfl, hb7⟩; have HB7 := Lib.hid (below_at HB6.out HB6.out.size hb7); have HQ7 := Lib.hid (HQ6.out.below hb7); have HX7 := Lib.hid (HX6.out.below hb7); clear hb7)))
  obtain ⟨b3, d3, g3, o3, hve, -, -, hat3⟩ := ops_at HQ7.out
  rw [HOK.out.len] at hve
  simp only [Value.slice.injEq] at hve
  obtain ⟨rfl, -, rfl⟩ := hve
  have HX3 := Lib.hid (show ∀ k (hk : k < p.length), (∀ W, (Instr.indexAt 22 (.slice a3 p.length c3) (.int .i64 (k : Int))).run Try.prog W = .ok (.pointer (some ⟨g3, o3 + 6 * k, none⟩)) W) ∧ g3 < w7.heap.size ∧ w7.cell? ⟨g3, o3 + 6 * k, none⟩ = some (.int .i64 (timeP q k)) from fun k hk => by
    have hk2 : k < q.length := by rw [HOK.out.len]; exact hk
    obtain ⟨h1, h2, h3, -⟩ := hat3 k hk2
    rw [timeP_at hk2]
    exact ⟨fun W => by have := h1 W; rwa [HOK.out.len] at this, h2, h3⟩)
  clear hat3
  go_loopw [12] (fun t12 wr => ∃ k : Nat, k ≤ p.length ∧ t12 = .int .i64 (k : Nat) ∧ Below w7.heap.size w7 wr) (fun t12 _ => p.length - (intOf t12).toNat)
  case atStart => exact ⟨0, Nat.zero_le _, rfl, Below.refl _ _⟩
  case round =>
    obtain ⟨k, hk, rfl, hb⟩ := hrel
    have hs := hb.size
    by_cases hlt : k < p.length
    rotate_left
    · have hlz : ¬ (k : Int) < (p.length : Int) := by omega
      have HB8 := Lib.hid (below_at HB7.out HB7.out.size hb)
      have HQ8 := Lib.hid (HQ7.out.below hb)
      have HEQ2 := Lib.hid (HEQ.out q HOK.out)
      have HRR := Lib.hid (fun l (h : RunOk p l) => HOK.out.run l h)
      have HRDY := Lib.hid HOK.out.ready
      clear hb hlt
      generalize runErr p = E1 at *
      have HR2q := Lib.hid (HR2.out q)
      generalize runErr q = E2 at *
      clear HR2 HEQ
      rcases HEP.out with rfl | rfl
      all_goals rcases HEQ2.out with rfl | rfl
      all_goals go_wp2_with (first | (go_at_call 12; refine (HR1.out _ (HP.out.below HB8.out)).mono ?_; clear HR1; go_must (rintro e w9 ⟨⟨v9, l9, rfl, hs9, hk9⟩, hb9⟩; have HB9 := Lib.hid (below_at HB8.out HB8.out.size hb9); have HS9 := Lib.hid hs9; have HK9 := Lib.hid hk9; have HQ9 := Lib.hid (HQ8.out.below hb9); clear hb9 hs9 hk9)) | (go_at_call 12; refine (HR2q.out _ _ HQ9.out).mono ?_; go_must (rintro e wA ⟨⟨vA, lA, rfl, hsA, hkA⟩, hbA⟩; have HBA := Lib.hid (below_at HB9.out HB9.out.size hbA); have HSA := Lib.hid hsA; have HKA := Lib.hid hkA; have HS9A := Lib.hid (HS9.out.below hbA); clear hbA hsA hkA)) | (go_at_call 16; have hll := RunOk.same HRDY.out (HRR.out _ (HK9.out (by trivial))) (HKA.out (by trivial)); subst hll; refine (HSM.out _ _ _ _ HS9A.out HSA.out).mono ?_; go_must (rintro e wB ⟨rfl, hbB⟩; have HBA := Lib.hid (below_at HBA.out HBA.out.size hbB); clear hbB)) | (go_at_call 11; refine (sane08 _).mono ?_; go_must (rintro e wC ⟨rfl, hbC⟩)))
      all_goals go_ret
      all_goals exact ⟨rfl, below_at HBA.out HBA.out.size hbC⟩
    have hlz : (k : Int) < (p.length : Int) := by omega
    obtain ⟨ip, hg0, q0, -⟩ := HX.out k hlt
    have r0 := (hb.cell (p := ⟨g0, off + 6 * k, none⟩) (by have := HB7.out.size; simp; omega)).trans ((HB7.out.cell (p := ⟨g0, off + 6 * k, none⟩) hg0).trans q0)
    obtain ⟨iq, hg3, s0⟩ := HX3.out k hlt
    have r1 := (hb.cell (p := ⟨g3, o3 + 6 * k, none⟩) hg3).trans s0
    obtain ⟨is, -, r2⟩ := (HX7.out.below hb) k hlt
    have ht := HOK.out.time k hlt
    have hsl := HOK.out.slack k hlt
    have htb := HTB.out k hlt
    rw [timeP_at hlt] at ht
    have HLT := Lib.hid hlt
    clear q0 s0
    simp only at r2
    generalize p[k].t = P at *
    generalize timeP q k = T at *
    generalize (slackL q).getD k 0 = S at *
    obtain ⟨ht1, ht2⟩ := ht
    obtain ⟨ht3, ht4⟩ := htb
    have wp : IntKind.i64.wrap (P - lo) = P - lo := IntWalk.i64_in _ (by omega)
    have e1 : decide (T < 0) = false := decide_eq_false (by omega)
    have e2 : decide (P - lo < T) = false := decide_eq_false (by omega)
    clear hlt HX HX3 HX7 HP HQ7 HOK HEQ HEP HR1 HR2 HTB HWD HVD HE2 HW3 HSL HSM
    rcases hsl with rfl | ⟨rfl, rfl⟩
    all_goals go_wp2
    all_goals go_quiet (fail)
    all_goals go_wp2
    all_goals go_roundw
    all_goals first
      | (case rel => exact ⟨k + 1, HLT.out, by simp, below_drewN hb _⟩)
      | (case measure => simp only [intOf]; have := HLT.out; omega)
end Go.Proofs.Ytbjbdochffocoaa
