/- The reference's Needs, within and Valid: their walks. -/
import Derived.Test.YtbjbdochffocoaaMachL
namespace Go.Proofs.Ytbjbdochffocoaa
open Go.RowKit Go.Lib
set_option linter.unusedVariables false
set_option linter.unusedSimpArgs false
theorem within_l (lo n hi : Int) (w : World) :
    Calls Try.prog 39 #[.int .i64 lo, .int .i64 n, .int .i64 hi] w fun e w' => e = .returned (.bool (btwM lo n hi)) ∧ w' = w := by
  by_cases h1 : lo ≤ n <;> by_cases h2 : n ≤ hi
  all_goals
    go_enter Try.func39, Try.ntmps39
    go_wp2
    go_ret
    exact ⟨ret_bool (by simp only [btwM]; rw [Bool.eq_iff_iff]; simp; try omega), rfl⟩
set_option maxHeartbeats 4000000 in
theorem rNeeds_l (k : Int) (w : World) : Calls Try.prog 40 #[.int .i64 k] w fun e w' => e = .returned (.int .i64 (needK k)) ∧ w' = w := by
  by_cases h : needK k = 0
  · have hk : k ≤ 0 ∨ 8 ≤ k := by
      unfold needK at h
      repeat' split at h
      all_goals omega
    have h1 : (k == 1) = false := by rw [beq_eq_false_iff_ne]; omega
    have h2 : (k == 2) = false := by rw [beq_eq_false_iff_ne]; omega
    have h3 : (k == 3) = false := by rw [beq_eq_false_iff_ne]; omega
    have h4 : (k == 4) = false := by rw [beq_eq_false_iff_ne]; omega
    have h5 : (k == 5) = false := by rw [beq_eq_false_iff_ne]; omega
    have h6 : (k == 6) = false := by rw [beq_eq_false_iff_ne]; omega
    have h7 : (k == 7) = false := by rw [beq_eq_false_iff_ne]; omega
    have H := Lib.hid h
    clear h hk
    go_enter Try.func40, Try.ntmps40
    go_wp2
    go_ret
    exact ⟨ret_int H.out.symm, rfl⟩
  · rcases need_cases h with rfl | rfl | rfl | rfl | rfl | rfl | rfl
    all_goals
      clear h
      go_enter Try.func40, Try.ntmps40
      go_wp2
      go_ret
      exact ⟨rfl, rfl⟩
def constB (s : SrcD) : Bool := decide (s.op = -1) && btwM 0 s.val 10006 && decide (s.hops = 0)
def operB (n : Int) (s : SrcD) : Bool := btwM 0 s.op (n - 1) && decide (s.val = 0) && btwM 0 s.hops 12
theorem src_two (n : Int) (s : SrcD) : srcB n s = (constB s || operB n s) := by
  unfold srcB constB operB
  by_cases h : s.op = -1
  · rw [if_pos h, decide_eq_true h]
    have : btwM 0 s.op (n - 1) = false := by rw [h]; unfold btwM; simp
    rw [this]; simp
  · rw [if_neg h, decide_eq_false h]; simp
theorem all_take {α : Type} (f : α → Bool) (l : List α) (k : Nat) (hk : k < l.length) : (l.take (k + 1)).all f = ((l.take k).all f && f l[k]) := by
  rw [List.take_succ_eq_append_getElem hk, List.all_append]; simp
theorem all_at {α : Type} {f : α → Bool} {l : List α} {k : Nat} (hk : k < l.length) (h : f l[k] = false) : l.all f = false := by
  rw [List.all_eq_false]; exact ⟨l[k], List.getElem_mem hk, by simp [h]⟩
set_option maxHeartbeats 16000000 in
set_option maxRecDepth 100000 in
theorem rValid_l (p : List OpD) (v : Value) (w : World) (hp : ProgRd w v p) : Calls Try.prog 17 #[v] w fun e w' => e = .returned (.bool (validP p)) ∧ Below w.heap.size w w' := by
  have HP := Lib.hid hp
  obtain ⟨a, cap, g, off, rfl, hl, hm, hat⟩ := ops_at hp
  have HX := Lib.hid hat
  have HV := Lib.hid (show validP p = (decide (p.length ≤ 4000) && p.all (opB p.length)) from rfl)
  clear hp hat
  by_cases hle : p.length ≤ 4000
  rotate_left
  · have hE := Lib.hid (show validP p = false by rw [HV.out, decide_eq_false hle]; rfl)
    have hlz : (4000 : Int) < (p.length : Int) := by omega
    clear hle
    go_enter Try.func17, Try.ntmps17
    go_wp2
    go_ret
    exact ⟨ret_bool hE.out.symm, Below.refl _ _⟩
  have hlz : ¬ (4000 : Int) < (p.length : Int) := by omega
  rw [decide_eq_true hle, Bool.true_and] at HV
  go_enter Try.func17, Try.ntmps17
  go_wp2
  go_loopw [3] (fun t3 wr => ∃ i : Nat, i ≤ p.length ∧ t3 = .int .i64 (i : Nat) ∧ Hid ((p.take i).all (opB p.length) = true) ∧ Below w.heap.size w wr) (fun t3 _ => p.length - (intOf t3).toNat)
  case atStart => exact ⟨0, Nat.zero_le _, rfl, Lib.hid (by simp), Below.refl _ _⟩
  case round =>
    obtain ⟨i, hi, rfl, HA, hb⟩ := hrel
    have hs := hb.size
    by_cases hlt : i < p.length
    rotate_left
    · have hie : i = p.length := by omega
      have hlz2 : ¬ (i : Int) < (p.length : Int) := by omega
      have HE := Lib.hid (show validP p = true by rw [HV.out]; have := HA.out; rwa [hie, List.take_length] at this)
      clear hie hlt
      go_wp2
      go_ret
      exact ⟨ret_bool HE.out.symm, hb⟩
    have hlz2 : (i : Int) < (p.length : Int) := by omega
    obtain ⟨hix, hg, q0, q1, q2, q3, q4, q5⟩ := HX.out i hlt
    have r0 := (hb.cell (p := ⟨g, off + 6 * i, none⟩) hg).trans q0
    have r1 := (hb.cell (p := ⟨g, off + 6 * i + 1, none⟩) hg).trans q1
    have r2 := (hb.cell (p := ⟨g, off + 6 * i + 2, none⟩) hg).trans q2
    have r3 := (hb.cell (p := ⟨g, off + 6 * i + 3, none⟩) hg).trans q3
    have r4 := (hb.cell (p := ⟨g, off + 6 * i + 4, none⟩) hg).trans q4
    have r5 := (hb.cell (p := ⟨g, off + 6 * i + 5, none⟩) hg).trans q5
    clear q0 q1 q2 q3 q4 q5
    have HSL := Lib.hid (HP.out.each p[i] (List.getElem_mem hlt))
    have HAT := Lib.hid (all_take (opB p.length) p i hlt)
    have HFF := Lib.hid (fun h => HV.out.trans (all_at (f := opB p.length) hlt h))
    have HOB := Lib.hid (show opB p.length p[i] = (headB p[i] && p[i].src.all (srcB p.length)) from rfl)
    have HHB := Lib.hid (show headB p[i] = (decide (needK p[i].kind ≠ 0) && decide ((p[i].src.length : Int) = needK p[i].kind) && (btwM (-100000) p[i].t 100000 && btwM 0 p[i].unit 3) && (btwM (-1000) p[i].c.1 1000 && btwM (-1000) p[i].c.2 1000)) from rfl)
    have HLT := Lib.hid hlt
    generalize hO : p[i] = o at *
    clear hO
    generalize opB p.length o = OB at *
    generalize headB o = HBO at *
    obtain ⟨t, ⟨c0, c1⟩, u, kd, fv, src⟩ := o
    simp only at r0 r1 r2 r3 r4 r5 HSL HOB HHB
    obtain ⟨fa, fc, fg, fo, rfl, hfl, hfm, hfx⟩ := src_at HSL.out
    have HFX := Lib.hid hfx; clear hfx
    go_upto_region 7 with fail
    obtain ⟨W1, hW1⟩ : ∃ W : World, wr.alloc (Obj.cells #[.int .i64 t, .int .i64 c0, .int .i64 c1, .int .i64 u, .int .i64 kd, .slice fa src.length fc] 37) = W := ⟨_, rfl⟩
    have y0 : W1.cell? ⟨wr.heap.size, 0, none⟩ = some (.int .i64 t) := by subst hW1; go_simp
    have y1 : W1.cell? ⟨wr.heap.size, 1, none⟩ = some (.int .i64 c0) := by subst hW1; go_simp
    have y2 : W1.cell? ⟨wr.heap.size, 2, none⟩ = some (.int .i64 c1) := by subst hW1; go_simp
    have y3 : W1.cell? ⟨wr.heap.size, 3, none⟩ = some (.int .i64 u) := by subst hW1; go_simp
    have y4 : W1.cell? ⟨wr.heap.size, 4, none⟩ = some (.int .i64 kd) := by subst hW1; go_simp
    have y5 : W1.cell? ⟨wr.heap.size, 5, none⟩ = some (.slice fa src.length fc) := by subst hW1; go_simp
    have K1 := Lib.hid (show Below wr.heap.size wr W1 by rw [← hW1]; exact (Below.refl _ _).alloc (Nat.le_refl _) _)
    have hs1 : wr.heap.size < W1.heap.size := by rw [← hW1]; simp
    rw [hW1]
    clear hW1 r0 r1 r2 r3 r4 r5
    have HBW := Lib.hid (show Below w.heap.size w W1 from hb.trans (K1.out.mono hs))
    cases hT : btwM (-100000) t 100000
    · have HE := Lib.hid (show validP p = false from HFF.out (by rw [HOB.out, HHB.out]; simp [hT]))
      go_quiet ((first | (go_at_call 39; exact Calls.quiet_of_same (within_l _ _ _ _)) | (go_at_call 40; exact Calls.quiet_of_same (rNeeds_l _ _))))
      go_wp2
      go_ret
      exact ⟨ret_bool HE.out.symm, below_drewN HBW.out _⟩
    cases hX : btwM (-1000) c0 1000
    · have HE := Lib.hid (show validP p = false from HFF.out (by rw [HOB.out, HHB.out]; simp [hX]))
      go_quiet ((first | (go_at_call 39; exact Calls.quiet_of_same (within_l _ _ _ _)) | (go_at_call 40; exact Calls.quiet_of_same (rNeeds_l _ _))))
      go_wp2
      go_ret
      exact ⟨ret_bool HE.out.symm, below_drewN HBW.out _⟩
    cases hY : btwM (-1000) c1 1000
    · have HE := Lib.hid (show validP p = false from HFF.out (by rw [HOB.out, HHB.out]; simp [hY]))
      go_quiet ((first | (go_at_call 39; exact Calls.quiet_of_same (within_l _ _ _ _)) | (go_at_call 40; exact Calls.quiet_of_same (rNeeds_l _ _))))
      go_wp2
      go_ret
      exact ⟨ret_bool HE.out.symm, below_drewN HBW.out _⟩
    cases hU : btwM 0 u 3
    · have HE := Lib.hid (show validP p = false from HFF.out (by rw [HOB.out, HHB.out]; simp [hU]))
      go_quiet ((first | (go_at_call 39; exact Calls.quiet_of_same (within_l _ _ _ _)) | (go_at_call 40; exact Calls.quiet_of_same (rNeeds_l _ _))))
      go_wp2
      go_ret
      exact ⟨ret_bool HE.out.symm, below_drewN HBW.out _⟩
    by_cases hK : needK kd = 0
    · have hKz : (needK kd == 0) = true := by rw [beq_iff_eq]; exact hK
      have HE := Lib.hid (show validP p = false from HFF.out (by rw [HOB.out, HHB.out]; simp [hK]))
      clear hK
      go_quiet ((first | (go_at_call 39; exact Calls.quiet_of_same (within_l _ _ _ _)) | (go_at_call 40; exact Calls.quiet_of_same (rNeeds_l _ _))))
      go_wp2
      go_ret
      exact ⟨ret_bool HE.out.symm, below_drewN HBW.out _⟩
    have hKz : (needK kd == 0) = false := by rw [beq_eq_false_iff_ne]; exact hK
    by_cases hL : (src.length : Int) = needK kd
    rotate_left
    · have hLz : ((src.length : Int) != needK kd) = true := by simpa using hL
      have HE := Lib.hid (show validP p = false from HFF.out (by rw [HOB.out, HHB.out]; simp [hL]))
      clear hK hL
      go_quiet ((first | (go_at_call 39; exact Calls.quiet_of_same (within_l _ _ _ _)) | (go_at_call 40; exact Calls.quiet_of_same (rNeeds_l _ _))))
      go_wp2
      go_ret
      exact ⟨ret_bool HE.out.symm, below_drewN HBW.out _⟩
    have hLz : ((src.length : Int) != needK kd) = false := by simpa using hL
    have HOB2 := Lib.hid (show OB = src.all (srcB p.length) by rw [HOB.out, HHB.out]; simp [hT, hX, hY, hU, hK, hL])
    clear hK hL
    go_quiet ((first | (go_at_call 39; exact Calls.quiet_of_same (within_l _ _ _ _)) | (go_at_call 40; exact Calls.quiet_of_same (rNeeds_l _ _))))
    have HBQ := Lib.hid (below_drewN HBW.out nq)
    have HKQ := Lib.hid (below_drewN K1.out nq)
    have x5 : (W1.drewN nq).cell? ⟨wr.heap.size, 5, none⟩ = some (.slice fa src.length fc) := by go_simp
    have hsq : wr.heap.size < (W1.drewN nq).heap.size := by simpa using hs1
    generalize W1.drewN nq = W2 at *
    clear hT hX hY hU hKz hLz y0 y1 y2 y3 y4 y5 hs1 HBW K1 HHB HOB
    obtain ⟨wo, hwo⟩ : ∃ x : World, x = wr := ⟨_, rfl⟩
    subst hwo
    go_wp2
    go_loopw [5] (fun t5 wq => ∃ j : Nat, j ≤ src.length ∧ t5 = .int .i64 (j : Nat) ∧ Hid ((src.take j).all (srcB p.length) = true) ∧ Below W2.heap.size W2 wq) (fun t5 _ => src.length - (intOf t5).toNat)
    case atStart => exact ⟨0, Nat.zero_le _, rfl, Lib.hid (by simp), Below.refl _ _⟩
    case round =>
      obtain ⟨j, hj, rfl, HAJ, hbq⟩ := hrel
      have hsz := hbq.size
      have z5 := (hbq.cell (p := ⟨wo.heap.size, 5, none⟩) hsq).trans x5
      by_cases hltj : j < src.length
      rotate_left
      · have hje : j = src.length := by omega
        have hlz3 : ¬ (j : Int) < (src.length : Int) := by omega
        have HN := Lib.hid (show (p.take (i + 1)).all (opB p.length) = true by rw [HAT.out, HA.out, HOB2.out]; have := HAJ.out; rw [hje, List.take_length] at this; rw [this]; rfl)
        clear hje hltj
        go_wp2
        go_roundw
        case rel => exact ⟨i + 1, HLT.out, by simp, HN, HBQ.out.trans (hbq.mono (by have := HBQ.out.size; omega))⟩
        case measure => simp only [intOf]; have := HLT.out; omega
      have hlz3 : (j : Int) < (src.length : Int) := by omega
      obtain ⟨hfi, hfg, s0, s1, s2⟩ := HFX.out j hltj
      have HBX := Lib.hid (show Below w.heap.size w wr from HBQ.out.trans (hbq.mono (by have := HBQ.out.size; omega)))
      have hbwq := HBX.out
      have u0 := (hbwq.cell (p := ⟨fg, fo + 3 * j, none⟩) hfg).trans s0
      have u1 := (hbwq.cell (p := ⟨fg, fo + 3 * j + 1, none⟩) hfg).trans s1
      have u2 := (hbwq.cell (p := ⟨fg, fo + 3 * j + 2, none⟩) hfg).trans s2
      clear s0 s1 s2 hbwq
      have HTJ := Lib.hid (all_take (srcB p.length) src j hltj)
      have HFJ := Lib.hid (fun h => HFF.out (HOB2.out.trans (all_at (f := srcB p.length) hltj h)))
      have HLJ := Lib.hid hltj
      have HST := Lib.hid (src_two p.length src[j])
      generalize hsj : src[j] = s at *
      clear hsj
      generalize srcB p.length s = SB at *
      obtain ⟨op, val, hops⟩ := s
      simp only [constB, operB] at u0 u1 u2 HST
      have hwz : w.heap.size ≤ wr.heap.size := HBX.out.size
      have hzo := z1 (show wo.heap.size + 1 ≤ wr.heap.size by omega)
      have HTRUE := Lib.hid (show SB = true → (src.take (j + 1)).all (srcB p.length) = true from fun h => by rw [HTJ.out, HAJ.out, h]; rfl)
      clear HTJ HAJ
      by_cases h1 : op = -1
      · have HQB := Lib.hid (show btwM 0 op ((p.length : Int) - 1) = false by rw [h1]; unfold btwM; simp)
        have k1 : (op == -1) = true := by rw [beq_iff_eq]; exact h1
        rw [decide_eq_true h1, HQB.out] at HST
        clear h1
        cases hA : btwM 0 val 10006
        all_goals
          have HQA := Lib.hid hA; clear hA
          rw [HQA.out] at HST
          by_cases h2 : hops = 0
          all_goals
            have k2 : (hops == 0) = decide (hops = 0) := rfl
            (try rw [decide_eq_true h2] at k2 HST); (try rw [decide_eq_false h2] at k2 HST)
            clear h2
            have HSB := Lib.hid (HST.out)
            simp only [Bool.and_true, Bool.and_false, Bool.true_and, Bool.false_and, Bool.or_true, Bool.or_false, Bool.true_or, Bool.false_or] at HSB
            go_wp2_with (go_at_call 39; refine (within_l _ _ _ _).mono ?_; go_must (rintro e w5 ⟨rfl, rfl⟩; first | rw [HQA.out] | rw [HQB.out]))
            first
            | (go_ret
               exact ⟨ret_bool (HFJ.out HSB.out).symm, HBX.out.alloc hwz _⟩)
            | (go_roundw
               case rel => exact ⟨j + 1, HLJ.out, by simp, Lib.hid (HTRUE.out HSB.out), hbq.alloc hsz _⟩
               case measure => simp only [intOf]; have := HLJ.out; omega)
      · have k1 : (op == -1) = false := by rw [beq_eq_false_iff_ne]; exact h1
        rw [decide_eq_false h1] at HST
        clear h1
        cases hB : btwM 0 op ((p.length : Int) - 1)
        all_goals
          have HQB := Lib.hid hB; clear hB
          cases hC : btwM 0 hops 12
          all_goals
            have HQC := Lib.hid hC; clear hC
            rw [HQB.out, HQC.out] at HST
            by_cases h3 : val = 0
            all_goals
              have k3 : (val == 0) = decide (val = 0) := rfl
              (try rw [decide_eq_true h3] at k3 HST); (try rw [decide_eq_false h3] at k3 HST)
              clear h3
              have HSB := Lib.hid (HST.out)
              simp only [Bool.and_true, Bool.and_false, Bool.true_and, Bool.false_and, Bool.or_true, Bool.or_false, Bool.true_or, Bool.false_or] at HSB
              go_wp2_with (go_at_call 39; refine (within_l _ _ _ _).mono ?_; go_must (rintro e w5 ⟨rfl, rfl⟩; first | rw [HQB.out] | rw [HQC.out]))
              first
              | (go_ret
                 exact ⟨ret_bool (HFJ.out HSB.out).symm, HBX.out.alloc hwz _⟩)
              | (go_roundw
                 case rel => exact ⟨j + 1, HLJ.out, by simp, Lib.hid (HTRUE.out HSB.out), hbq.alloc hsz _⟩
                 case measure => simp only [intOf]; have := HLJ.out; omega)
end Go.Proofs.Ytbjbdochffocoaa
