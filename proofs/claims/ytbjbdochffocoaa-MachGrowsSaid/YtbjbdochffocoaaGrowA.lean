/- The law MachGrows: its walk. -/
import Derived.Test.YtbjbdochffocoaaRunD
namespace Go.Proofs.Ytbjbdochffocoaa
open Go.RowKit Go.Lib
set_option linter.unusedVariables false
theorem untilL_at {p : List OpD} {m : List Int} {t : Int} {k : Nat} (hk : k < p.length) : (untilL p m t).getD k 0 = if t < p[k].t then -1 else m.getD k 0 := by
  rw [← timeP_at hk]
  simp [untilL, List.getD_eq_getElem?_getD, hk]
set_option maxHeartbeats 8000000 in
set_option maxRecDepth 100000 in
theorem MachGrows_any (p : List OpD) (v : Value) (time more : Int) (ht : -9223372036854775808 ≤ time ∧ time ≤ 9223372036854775807) (hmo : 0 ≤ more ∧ more ≤ 65535) (w : World) (hp : ProgRd w v p) : Calls Try.prog 4 #[v, .int .i64 time, .int .u16 more] w fun e w' => e = .returned (.bool true) ∧ Below w.heap.size w w' := by
  have HP := Lib.hid hp
  have HWD := Lib.hid (Wide8_l p v w hp)
  have HVD := Lib.hid (fun (W : World) (h : ProgRd W v p) => rValid_l p v W h)
  clear hp
  obtain ⟨ht1, ht2⟩ := ht
  obtain ⟨hmo1, hmo2⟩ := hmo
  cases hwd : wideP p
  rotate_left
  · rw [hwd] at HWD
    clear hwd
    go_enter Try.func4, Try.ntmps4
    go_wp2_with (first | (go_at_call 10; refine HWD.out.mono ?_; go_must (rintro e w1 ⟨rfl, hb1⟩; have HB1 := Lib.hid hb1; clear hb1)) | (go_at_call 11; refine (sane08 _).mono ?_; go_must (rintro e w2 ⟨rfl, hb2⟩)))
    go_ret
    exact ⟨rfl, below_at HB1.out HB1.out.size hb2⟩
  rw [hwd] at HWD
  clear hwd
  cases hvd : validP p
  · rw [hvd] at HVD
    clear hvd
    go_enter Try.func4, Try.ntmps4
    go_wp2_with (first | (go_at_call 10; refine HWD.out.mono ?_; go_must (rintro e w1 ⟨rfl, hb1⟩; have HB1 := Lib.hid hb1; clear hb1)) | (go_at_call 17; refine (HVD.out _ (HP.out.below HB1.out)).mono ?_; go_must (rintro e w2 ⟨rfl, hb2⟩; have HB2 := Lib.hid (below_at HB1.out HB1.out.size hb2); clear hb2)) | (go_at_call 11; refine (sane08 _).mono ?_; go_must (rintro e w2 ⟨rfl, hb2⟩)))
    go_ret
    exact ⟨rfl, below_at HB2.out HB2.out.size hb2⟩
  have HVP := Lib.hid hvd
  rw [hvd] at HVD
  clear hvd
  by_cases hb1 : 1000000 < time
  · have hd1 : decide (1000000 < time) = true := decide_eq_true hb1
    go_enter Try.func4, Try.ntmps4
    go_wp2_with (first | (go_at_call 10; refine HWD.out.mono ?_; go_must (rintro e w1 ⟨rfl, hb1⟩; have HB1 := Lib.hid hb1; clear hb1)) | (go_at_call 17; refine (HVD.out _ (HP.out.below HB1.out)).mono ?_; go_must (rintro e w2 ⟨rfl, hb2⟩; have HB2 := Lib.hid (below_at HB1.out HB1.out.size hb2); clear hb2)) | (go_at_call 11; refine (sane08 _).mono ?_; go_must (rintro e w2 ⟨rfl, hb2⟩)))
    go_ret
    exact ⟨rfl, below_at HB2.out HB2.out.size hb2⟩
  have hd1 : decide (1000000 < time) = false := decide_eq_false hb1
  by_cases hb0 : time < -1000000
  · have hd2 : decide (time < -1000000) = true := decide_eq_true hb0
    go_enter Try.func4, Try.ntmps4
    go_wp2_with (first | (go_at_call 10; refine HWD.out.mono ?_; go_must (rintro e w1 ⟨rfl, hb1⟩; have HB1 := Lib.hid hb1; clear hb1)) | (go_at_call 17; refine (HVD.out _ (HP.out.below HB1.out)).mono ?_; go_must (rintro e w2 ⟨rfl, hb2⟩; have HB2 := Lib.hid (below_at HB1.out HB1.out.size hb2); clear hb2)) | (go_at_call 11; refine (sane08 _).mono ?_; go_must (rintro e w2 ⟨rfl, hb2⟩)))
    go_ret
    exact ⟨rfl, below_at HB2.out HB2.out.size hb2⟩
  have hd2 : decide (time < -1000000) = false := decide_eq_false hb0
  have wm : IntKind.i64.wrap more = more := IntWalk.i64_in _ (by omega)
  have wt : IntKind.i64.wrap (time + more) = time + more := IntWalk.i64_in _ (by omega)
  obtain ⟨m, hm⟩ := run_one p
  by_cases he : runErr p = 0
  rotate_left
  · have hU : ∀ (W : World) (h : ProgRd W v p) (t : Int), Calls Try.prog 14 #[v, .int .i64 t] W fun e w' => (∃ a c, e = .returned (.tuple #[.slice a 0 c, .int .i64 (runErr p)])) ∧ Below W.heap.size W w' := fun W h t => (Until_l p v t W h).mono fun e w' q => by
      obtain ⟨v', h1, h2, -⟩ := untR_to m hm q.1
      rw [if_neg he] at h2
      obtain ⟨a, c, rfl, -⟩ := h2.shape
      exact ⟨⟨a, c, h1⟩, q.2⟩
    have hR : ∀ (W : World) (h : ProgRd W v p), Calls Try.prog 12 #[v] W fun e w' => (∃ a c, e = .returned (.tuple #[.slice a 0 c, .int .i64 (runErr p)])) ∧ Below W.heap.size W w' := fun W h => (Run_l p v W h).mono fun e w' q => by
      obtain ⟨v', h1, h2, -⟩ := untR_to m hm q.1
      rw [if_neg he] at h2
      obtain ⟨a, c, rfl, -⟩ := h2.shape
      exact ⟨⟨a, c, h1⟩, q.2⟩
    have HU1 := Lib.hid (fun W h => hU W h time)
    have HU2 := Lib.hid (fun W h => hU W h (time + more))
    have HR := Lib.hid hR
    have hez : (runErr p != 0) = true := by simpa using he
    clear hU hR hm he
    generalize runErr p = E at *
    go_enter Try.func4, Try.ntmps4
    go_wp2_with (first | (go_at_call 10; refine HWD.out.mono ?_; go_must (rintro e w1 ⟨rfl, hb1⟩; have HB1 := Lib.hid hb1; clear hb1)) | (go_at_call 17; refine (HVD.out _ (HP.out.below HB1.out)).mono ?_; go_must (rintro e w2 ⟨rfl, hb2⟩; have HB2 := Lib.hid (below_at HB1.out HB1.out.size hb2); clear hb2)) | (go_at_call 12; refine (HR.out _ (HP.out.below HB2.out)).mono ?_; go_must (rintro e w3 ⟨⟨a3, c3, rfl⟩, hb3⟩; have HB3 := Lib.hid (below_at HB2.out HB2.out.size hb3); clear hb3)) | (go_at_call 14; refine (HU1.out _ (HP.out.below HB3.out)).mono ?_; clear HU1; go_must (rintro e w4 ⟨⟨a4, c4, rfl⟩, hb4⟩; have HB4 := Lib.hid (below_at HB3.out HB3.out.size hb4); clear hb4)) | (go_at_call 14; refine (HU2.out _ (HP.out.below HB4.out)).mono ?_; clear HU2; go_must (rintro e w5 ⟨⟨a5, c5, rfl⟩, hb5⟩; have HB5 := Lib.hid (below_at HB4.out HB4.out.size hb5); clear hb5)) | (go_at_call 11; refine (sane08 _).mono ?_; go_must (rintro e w6 ⟨rfl, hb6⟩)))
    go_ret
    exact ⟨rfl, below_at HB5.out HB5.out.size hb6⟩
  have hl : ∀ t, (untilL p m t).length = p.length := fun t => by simp [untilL]
  have hU : ∀ (W : World) (h : ProgRd W v p) (t : Int), Calls Try.prog 14 #[v, .int .i64 t] W fun e w' => (∃ a c g o, e = .returned (.tuple #[.slice a p.length c, .int .i64 0]) ∧ RdL w' a c p.length g o (fun k => (untilL p m t).getD k 0)) ∧ Below W.heap.size W w' := fun W h t => (Until_l p v t W h).mono fun e w' q => by
    obtain ⟨v', h1, h2, -⟩ := untR_to m hm q.1
    rw [if_pos he] at h2
    obtain ⟨a, c, g, o, rfl, h3⟩ := rdL_of h2
    rw [hl] at h1 h3
    rw [he] at h1
    exact ⟨⟨a, c, g, o, h1, h3⟩, q.2⟩
  have hR : ∀ (W : World) (h : ProgRd W v p), Calls Try.prog 12 #[v] W fun e w' => (∃ a c g o, e = .returned (.tuple #[.slice a p.length c, .int .i64 0]) ∧ RdL w' a c p.length g o (fun k => (untilL p m 100000).getD k 0) ∧ RunOk p m) ∧ Below W.heap.size W w' := fun W h => (Run_l p v W h).mono fun e w' q => by
    obtain ⟨v', h1, h2, h4⟩ := untR_to m hm q.1
    rw [if_pos he] at h2
    obtain ⟨a, c, g, o, rfl, h3⟩ := rdL_of h2
    rw [hl] at h1 h3
    rw [he] at h1
    exact ⟨⟨a, c, g, o, h1, h3, h4 he⟩, q.2⟩
  have HU1 := Lib.hid (fun W h => hU W h time)
  have HU2 := Lib.hid (fun W h => hU W h (time + more))
  have HR := Lib.hid hR
  have HE := Lib.hid he
  clear hU hR hm he hl
  obtain ⟨pa, pcap, pg, poff, rfl, hpl, hpm, hat⟩ := ops_at HP.out
  have HX := Lib.hid hat
  have hmx : (p.length : Int) ≤ 9223372036854775807 := by omega
  clear hat
  have hnn : ((p.length : Int) != (p.length : Int)) = false := by simp
  go_enter Try.func4, Try.ntmps4
  go_wp2_with (first | (go_at_call 10; refine HWD.out.mono ?_; go_must (rintro e w1 ⟨rfl, hb1⟩; have HB1 := Lib.hid hb1; clear hb1)) | (go_at_call 17; refine (HVD.out _ (HP.out.below HB1.out)).mono ?_; go_must (rintro e w2 ⟨rfl, hb2⟩; have HB2 := Lib.hid (below_at HB1.out HB1.out.size hb2); clear hb2)) | (go_at_call 12; refine (HR.out _ (HP.out.below HB2.out)).mono ?_; go_must (rintro e w3 ⟨⟨a3, c3, g3, o3, rfl, h3, hok⟩, hb3⟩; have HB3 := Lib.hid (below_at HB2.out HB2.out.size hb3); have H3 := Lib.hid h3; have HOK := Lib.hid hok; clear hb3 h3 hok)) | (go_at_call 14; refine (HU1.out _ (HP.out.below HB3.out)).mono ?_; clear HU1; go_must (rintro e w4 ⟨⟨a4, c4, g4, o4, rfl, h4⟩, hb4⟩; have HB4 := Lib.hid (below_at HB3.out HB3.out.size hb4); have H34 := Lib.hid (H3.out.below hb4); have H4 := Lib.hid h4; clear hb4 h4)) | (go_at_call 14; refine (HU2.out _ (HP.out.below HB4.out)).mono ?_; clear HU2; go_must (rintro e w5 ⟨⟨a5, c5, g5, o5, rfl, h5⟩, hb5⟩; have HB5 := Lib.hid (below_at HB4.out HB4.out.size hb5); have H35 := Lib.hid (H34.out.below hb5); have H45 := Lib.hid (H4.out.below hb5); have H5 := Lib.hid h5; clear hb5 h5)))
  go_loopw [13] (fun i wr => ∃ k : Nat, k ≤ p.length ∧ i = .int .i64 (k : Nat) ∧ Below w5.heap.size w5 wr) (fun i _ => p.length - (intOf i).toNat)
  case atStart => exact ⟨0, Nat.zero_le _, rfl, Below.refl _ _⟩
  case round =>
    obtain ⟨k, hk, rfl, hb⟩ := hrel
    have hs := hb.size
    by_cases hlt : k < p.length
    rotate_left
    · have hlz : ¬ (k : Int) < (p.length : Int) := by omega
      have HB6 := Lib.hid (below_at HB5.out HB5.out.size hb)
      clear hb hlt
      go_wp2_with (go_at_call 11; refine (sane08 _).mono ?_; go_must (rintro e w6 ⟨rfl, hb6⟩))
      go_ret
      exact ⟨rfl, below_at HB6.out HB6.out.size hb6⟩
    have hlz : (k : Int) < (p.length : Int) := by omega
    obtain ⟨hix, hpg, q0, -⟩ := HX.out k hlt
    have r0 := (hb.cell (p := ⟨pg, poff + 6 * k, none⟩) (by have := HB5.out.size; simp; omega)).trans ((HB5.out.cell (p := ⟨pg, poff + 6 * k, none⟩) hpg).trans q0)
    obtain ⟨i3, -, d3⟩ := (H35.out.below hb) k hlt
    obtain ⟨i4, -, d4⟩ := (H45.out.below hb) k hlt
    obtain ⟨i5, -, d5⟩ := (H5.out.below hb) k hlt
    simp only [untilL_at hlt] at d3 d4 d5
    have hbt := ((small_of HVP.out).time k).2
    have hmb := HOK.out.bd (i := k) (by rw [HOK.out.len]; exact hlt)
    rw [timeP_at hlt] at hbt
    have hmk : m.getD k 0 = m[k]'(by rw [HOK.out.len]; exact hlt) := by rw [List.getD_eq_getElem?_getD, List.getElem?_eq_getElem]; rfl
    rw [← hmk] at hmb
    have HLT := Lib.hid hlt
    clear q0 hmk
    generalize p[k].t = T at *
    generalize m.getD k 0 = M at *
    obtain ⟨hm1, hm2⟩ := hmb
    rw [if_neg (by omega)] at d3
    have e1 : (M == M) = true := by simp
    have e2 : (M != -1) = true := by simp; omega
    have e3 : decide (M < 0) = false := decide_eq_false (by omega)
    have e4 : decide (10007 ≤ M) = false := decide_eq_false (by omega)
    have e5 : ((-1 : Int) == M) = false := by simp; omega
    have e6 : (M != M) = false := by simp
    by_cases hT : T ≤ time
    · have t1 : decide (T ≤ time) = true := decide_eq_true hT
      have t2 : decide (time < T) = false := decide_eq_false (by omega)
      rw [if_neg (by omega)] at d4 d5
      clear hT hlt HX H35 H45 H5 H34 H4 H3 HVP HP HR HOK HE HVD HWD
      go_wp2
      simp only [List.append]
      go_quiet (fail)
      go_wp2
      go_roundw
      case rel => exact ⟨k + 1, HLT.out, by simp, below_drewN hb _⟩
      case measure => simp only [intOf]; have := HLT.out; omega
    · have t1 : decide (T ≤ time) = false := decide_eq_false hT
      have t2 : decide (time < T) = true := decide_eq_true (by omega)
      rw [if_pos (by omega)] at d4
      clear hT hlt d5 i5 HX H35 H45 H5 H34 H4 H3 HVP HP HR HOK HE HVD HWD
      go_wp2
      simp only [List.append]
      go_quiet (fail)
      go_wp2
      go_roundw
      case rel => exact ⟨k + 1, HLT.out, by simp, below_drewN hb _⟩
      case measure => simp only [intOf]; have := HLT.out; omega
end Go.Proofs.Ytbjbdochffocoaa
