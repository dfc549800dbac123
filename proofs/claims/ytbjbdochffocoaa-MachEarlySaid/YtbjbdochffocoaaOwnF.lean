/- The reference's Span; Traffic of both: walks. -/
import Derived.Test.YtbjbdochffocoaaOwnE
namespace Go.Proofs.Ytbjbdochffocoaa
open Go.RowKit Go.Lib
set_option linter.unusedVariables false
set_option maxHeartbeats 8000000 in
set_option maxRecDepth 100000 in
theorem rSpan_l (p : List OpD) (v : Value) (w : World) (hp : ProgRd w v p) : Calls Try.prog 28 #[v] w fun e w' => SpanR p e ∧ Below w.heap.size w w' := by
  have HP := Lib.hid hp
  have HVL := Lib.hid (fun (W : World) (h : ProgRd W v p) => rValid_l p v W h)
  cases hv : validP p
  · have HR := Lib.hid (span_inv (show spanErr p = 80 by unfold spanErr; rw [hv]; rfl) (by omega))
    rw [hv] at HVL
    clear hv hp
    go_enter Try.func28, Try.ntmps28
    go_wp2_with (go_at_call 17; refine (HVL.out _ HP.out).mono ?_; go_must (rintro e w1 ⟨rfl, hb1⟩))
    go_ret3
    exact ⟨HR.out, hb1⟩
  rw [hv] at HVL
  have hl4 := (small_of hv).len
  have HTB := Lib.hid (fun i (h : i < p.length) => show -100000 ≤ p[i].t ∧ p[i].t ≤ 100000 by have := (small_of hv).time i; rwa [timeP_at h] at this)
  obtain ⟨a, cap, g, off, rfl, hl, hm, hat⟩ := ops_at hp
  have HX := Lib.hid hat
  clear hat hp
  by_cases h0 : p.length = 0
  · have HR := Lib.hid (span_inv (show spanErr p = 5 by unfold spanErr; rw [hv, if_pos rfl, if_pos h0]) (by omega))
    have hz : ((p.length : Int) == 0) = true := by simp [h0]
    clear hv h0
    go_enter Try.func28, Try.ntmps28
    go_wp2_with (go_at_call 17; refine (HVL.out _ HP.out).mono ?_; go_must (rintro e w1 ⟨rfl, hb1⟩))
    go_ret3
    exact ⟨HR.out, hb1⟩
  have HOK := Lib.hid (fun lo hi (h : SpanP p lo hi) => span_ok (show spanErr p = 0 by unfold spanErr; rw [hv, if_pos rfl, if_neg h0]) h)
  have hz : ((p.length : Int) == 0) = false := beq_eq_false_iff_ne.2 (by omega)
  have hpos : 0 < p.length := by omega
  have HST := Lib.hid (SpanTo.start hpos)
  obtain ⟨i0, hg0, q0, -⟩ := HX.out 0 hpos
  have j0 : ∀ W, (Instr.indexAt 22 (.slice a p.length cap) (.int .i64 0)).run Try.prog W = .ok (.pointer (some ⟨g, off, none⟩)) W := fun W => by simpa using i0 W
  have q00 : w.cell? ⟨g, off, none⟩ = some (.int .i64 p[0].t) := by simpa using q0
  have hln : (p.length : Int) ≤ 4000 := by omega
  clear hv h0 i0 q0
  generalize p[0].t = t0 at *
  clear hpos
  go_enter Try.func28, Try.ntmps28
  go_wp2_with (go_at_call 17; refine (HVL.out _ HP.out).mono ?_; go_must (rintro e w1 ⟨rfl, hb1⟩; have r0 := (hb1.cell (p := ⟨g, off, none⟩) hg0).trans q00))
  go_quiet (fail)
  go_wp2_with fail
  clear r0 q00 j0
  have hb2 := below_drewN hb1 nq
  generalize w1.drewN nq = w2 at *
  go_loopw [2, 3, 5] (fun t2 t3 t5 wr => ∃ (k : Nat) (lo hi : Int), k ≤ p.length ∧ t5 = .int .i64 (k : Nat) ∧ t2 = .int .i64 lo ∧ t3 = .int .i64 hi ∧ Hid (SpanTo p k lo hi) ∧ Below w.heap.size w wr) (fun t2 t3 t5 _ => p.length - (intOf t5).toNat)
  case atStart => exact ⟨0, _, _, Nat.zero_le _, rfl, rfl, rfl, HST, hb2⟩
  case round =>
    obtain ⟨k, lo, hi, hk, rfl, rfl, rfl, HS, hb⟩ := hrel
    by_cases hlt : k < p.length
    rotate_left
    · have hke : k = p.length := by omega
      have hlz : ¬ (k : Int) < (p.length : Int) := by omega
      have HFN := Lib.hid (HOK.out _ _ (show SpanTo p p.length lo hi by have := HS.out; rwa [hke] at this).done)
      clear hke hlt
      go_wp2
      go_ret3
      exact ⟨HFN.out, hb⟩
    have hlz : (k : Int) < (p.length : Int) := by omega
    obtain ⟨ik, hg, q0, -⟩ := HX.out k hlt
    have r0 := (hb.cell (p := ⟨g, off + 6 * k, none⟩) hg).trans q0
    have HSK := Lib.hid (HS.out.step hlt)
    have HLT := Lib.hid hlt
    clear q0
    generalize p[k].t = tk at *
    clear hlt
    go_wp2
    go_quiet (fail)
    go_wp2
    go_roundw
    case rel => exact ⟨k + 1, min lo tk, max hi tk, HLT.out, by simp, by first | rfl | (congr 1; omega) | (congr 1; split <;> omega), by first | rfl | (congr 1; omega) | (congr 1; split <;> omega), HSK, below_drewN hb _⟩
    case measure => simp only [intOf]; have := HLT.out; omega
def sumS (l : List SrcD) : Int := (l.map SrcD.hops).sum
def trafP (p : List OpD) : Int := (p.map fun o => sumS o.src).sum
theorem sumS_take (l : List SrcD) (k : Nat) (hk : k < l.length) : sumS (l.take (k + 1)) = sumS (l.take k) + l[k].hops := by
  unfold sumS; rw [List.take_succ_eq_append_getElem hk, List.map_append, List.sum_append]; simp
theorem traf_take (p : List OpD) (k : Nat) (hk : k < p.length) : trafP (p.take (k + 1)) = trafP (p.take k) + sumS p[k].src := by
  unfold trafP; rw [List.take_succ_eq_append_getElem hk, List.map_append, List.sum_append]; simp
theorem sumS_bd {l : List SrcD} (h : ∀ s ∈ l, 0 ≤ s.hops ∧ s.hops ≤ 12) : 0 ≤ sumS l ∧ sumS l ≤ 12 * (l.length : Int) := by
  induction l with
  | nil => simp [sumS]
  | cons s l ih =>
    have h1 := ih (fun x hx => h x (List.mem_cons_of_mem _ hx))
    have h2 := h s List.mem_cons_self
    have e : sumS (s :: l) = s.hops + sumS l := by simp [sumS]
    rw [e, List.length_cons]; omega
theorem traf_bd {p : List OpD} (h : ∀ o ∈ p, 0 ≤ sumS o.src ∧ sumS o.src ≤ 36) : 0 ≤ trafP p ∧ trafP p ≤ 36 * (p.length : Int) := by
  induction p with
  | nil => simp [trafP]
  | cons s l ih =>
    have h1 := ih (fun x hx => h x (List.mem_cons_of_mem _ hx))
    have h2 := h s List.mem_cons_self
    have e : trafP (s :: l) = sumS s.src + trafP l := by simp [trafP]
    rw [e, List.length_cons]; omega
theorem valid_hops {p : List OpD} (hv : validP p = true) {o : OpD} (ho : o ∈ p) {s : SrcD} (hs : s ∈ o.src) : 0 ≤ s.hops ∧ s.hops ≤ 12 := by
  obtain ⟨i, hi, rfl⟩ := List.getElem_of_mem ho
  have h := (valid_at hv hi).2 s hs
  by_cases h0 : s.op < 0
  · have := src_const h h0; omega
  · have := src_op h (by omega); omega
theorem valid_sum {p : List OpD} (hv : validP p = true) {o : OpD} (ho : o ∈ p) (j : Nat) : 0 ≤ sumS (o.src.take j) ∧ sumS (o.src.take j) ≤ 36 := by
  have h1 := sumS_bd (l := o.src.take j) (fun s hs => valid_hops hv ho (List.mem_of_mem_take hs))
  have h2 := (valid_src hv ho).2
  have h3 := List.length_take_le j o.src
  have h4 : (o.src.take j).length ≤ o.src.length := List.length_take_le' j o.src
  omega
theorem valid_traf {p : List OpD} (hv : validP p = true) (k : Nat) : 0 ≤ trafP (p.take k) ∧ trafP (p.take k) ≤ 144000 := by
  have h1 := traf_bd (p := p.take k) (fun o ho => by
    have := valid_sum hv (List.mem_of_mem_take ho) o.src.length
    rwa [List.take_length] at this)
  have h2 := (small_of hv).len
  have h4 : (p.take k).length ≤ p.length := List.length_take_le' k p
  omega
def TrafR (p : List OpD) (e : Ending) : Prop := e = .returned (if validP p = true then .tuple #[.int .i64 (trafP p), .int .i64 0] else .tuple #[.int .i64 0, .int .i64 80])
set_option maxHeartbeats 8000000 in
set_option maxRecDepth 100000 in
theorem Traffic_l (p : List OpD) (v : Value) (w : World) (hp : ProgRd w v p) : Calls Try.prog 33 #[v] w fun e w' => TrafR p e ∧ Below w.heap.size w w' := by
  have HP := Lib.hid hp
  have HVL := Lib.hid (fun (W : World) (h : ProgRd W v p) => Valid_l p v W h)
  cases hv : validP p
  · have HR := Lib.hid (show TrafR p (.returned (.tuple #[.int .i64 0, .int .i64 80])) by unfold TrafR; rw [hv]; rfl)
    rw [hv] at HVL
    clear hv hp
    go_enter Try.func33, Try.ntmps33
    go_wp2_with (go_at_call 22; refine (HVL.out _ HP.out).mono ?_; go_must (rintro e w1 ⟨rfl, hb1⟩))
    go_ret2
    exact ⟨HR.out, hb1⟩
  rw [hv] at HVL
  have HR := Lib.hid (show TrafR p (.returned (.tuple #[.int .i64 (trafP p), .int .i64 0])) by unfold TrafR; rw [hv]; rfl)
  have hl4 := (small_of hv).len
  have HTB := Lib.hid (fun k => valid_traf hv k)
  have HSB := Lib.hid (fun o (ho : o ∈ p) j => valid_sum hv ho j)
  have HHB := Lib.hid (fun o (ho : o ∈ p) s (hs : s ∈ o.src) => valid_hops hv ho hs)
  obtain ⟨a, cap, g, off, rfl, hl, hm, hat⟩ := ops_at hp
  have HX := Lib.hid hat
  have hln : (p.length : Int) ≤ 4000 := by omega
  clear hat hp hv
  go_enter Try.func33, Try.ntmps33
  go_wp2_with (go_at_call 22; refine (HVL.out _ HP.out).mono ?_; go_must (rintro e w1 ⟨rfl, hb1⟩))
  go_loopw [4, 14] (fun t4 t14 wr => ∃ k : Nat, k ≤ p.length ∧ t14 = .int .i64 (k : Nat) ∧ t4 = .int .i64 (trafP (p.take k)) ∧ Below w.heap.size w wr) (fun t4 t14 _ => p.length - (intOf t14).toNat)
  case atStart => exact ⟨0, Nat.zero_le _, rfl, rfl, hb1⟩
  case round =>
    obtain ⟨k, hk, rfl, rfl, hb⟩ := hrel
    have hs := hb.size
    by_cases hlt : k < p.length
    rotate_left
    · have hke : k = p.length := by omega
      have hlz : ¬ (k : Int) < (p.length : Int) := by omega
      have HE := Lib.hid (show trafP (p.take k) = trafP p by rw [hke, List.take_length])
      clear hke hlt
      rw [HE.out]
      go_wp2
      go_ret2
      exact ⟨HR.out, hb⟩
    have hlz : (k : Int) < (p.length : Int) := by omega
    obtain ⟨hix, hg, q0, q1, q2, q3, q4, q5⟩ := HX.out k hlt
    have hmem := List.getElem_mem hlt
    have r0 := (hb.cell (p := ⟨g, off + 6 * k, none⟩) hg).trans q0
    have r1 := (hb.cell (p := ⟨g, off + 6 * k + 1, none⟩) hg).trans q1
    have r2 := (hb.cell (p := ⟨g, off + 6 * k + 2, none⟩) hg).trans q2
    have r3 := (hb.cell (p := ⟨g, off + 6 * k + 3, none⟩) hg).trans q3
    have r4 := (hb.cell (p := ⟨g, off + 6 * k + 4, none⟩) hg).trans q4
    have r5 := (hb.cell (p := ⟨g, off + 6 * k + 5, none⟩) hg).trans q5
    clear q0 q1 q2 q3 q4 q5
    have HTT := Lib.hid (traf_take p k hlt)
    have htk := HTB.out k
    have HSK := Lib.hid (fun j => HSB.out p[k] hmem j)
    have HHK := Lib.hid (fun (s : SrcD) (hs : s ∈ p[k].src) => HHB.out p[k] hmem s hs)
    have HSL := Lib.hid (HP.out.each p[k] hmem)
    have HLT := Lib.hid hlt
    generalize trafP (p.take k) = S at *
    generalize p[k] = o at *
    obtain ⟨t, ⟨c0, c1⟩, u, kd, fv, src⟩ := o
    simp only at r0 r1 r2 r3 r4 r5 HTT HSK HHK HSL
    obtain ⟨fa, fc, fg, fo, rfl, hfl, hfm, hfx⟩ := src_at HSL.out
    have HFX := Lib.hid hfx; clear hfx hlt hmem
    obtain ⟨hs1, hs2⟩ := htk
    have HST := Lib.hid (fun j hj => sumS_take src j hj)
    have hsl : (src.length : Int) ≤ 9223372036854775807 := by omega
    obtain ⟨wo, hwo⟩ : ∃ x : World, x = wr := ⟨_, rfl⟩
    subst hwo
    have hgw : g < wo.heap.size := by omega
    go_wp2_with fail
    go_loopw [4, 21] (fun t4 t21 wr => ∃ j : Nat, j ≤ src.length ∧ t21 = .int .i64 (j : Nat) ∧ t4 = .int .i64 (S + sumS (src.take j)) ∧ Below wo.heap.size wo wr) (fun t4 t21 _ => src.length - (intOf t21).toNat)
    case atStart => exact ⟨0, Nat.zero_le _, rfl, (by simp [sumS]), (Below.refl _ _).alloc (Nat.le_refl _) _⟩
    case round =>
      obtain ⟨j, hj, rfl, rfl, hbj⟩ := hrel
      have hsj := hbj.size
      have hbw := hb.trans (hbj.mono hs)
      by_cases hlt2 : j < src.length
      rotate_left
      · have hke : j = src.length := by omega
        have hlz2 : ¬ (j : Int) < (src.length : Int) := by omega
        have HE := Lib.hid (show S + sumS (src.take j) = trafP (p.take (k + 1)) by rw [hke, List.take_length, HTT.out])
        rw [HE.out]
        clear hke hlt2
        go_wp2
        go_roundw
        case rel => exact ⟨k + 1, HLT.out, by simp, rfl, hbw⟩
        case measure => simp only [intOf]; have := HLT.out; omega
      have hlz2 : (j : Int) < (src.length : Int) := by omega
      obtain ⟨hfi, hfg, s0, s1, s2⟩ := HFX.out j hlt2
      have y0 := (hbw.cell (p := ⟨fg, fo + 3 * j, none⟩) hfg).trans s0
      have y1 := (hbw.cell (p := ⟨fg, fo + 3 * j + 1, none⟩) hfg).trans s1
      have y2 := (hbw.cell (p := ⟨fg, fo + 3 * j + 2, none⟩) hfg).trans s2
      clear s0 s1 s2
      have HTJ := Lib.hid (HST.out j hlt2)
      have hbj1 := HSK.out j
      have hbj2 := HHK.out src[j] (List.getElem_mem hlt2)
      have HLJ := Lib.hid hlt2
      generalize sumS (src.take j) = T at *
      generalize src[j] = s at *
      obtain ⟨op, val, hops⟩ := s
      simp only at y0 y1 y2 HTJ hbj2
      obtain ⟨b1, b2⟩ := hbj1
      obtain ⟨b3, b4⟩ := hbj2
      clear hlt2
      go_wp2
      go_roundw
      case rel => exact ⟨j + 1, HLJ.out, by simp, by rw [HTJ.out]; congr 1; omega, hbj.alloc hsj _⟩
      case measure => simp only [intOf]; have := HLJ.out; omega
set_option maxHeartbeats 8000000 in
set_option maxRecDepth 100000 in
theorem rTraffic_l (p : List OpD) (v : Value) (w : World) (hp : ProgRd w v p) : Calls Try.prog 34 #[v] w fun e w' => TrafR p e ∧ Below w.heap.size w w' := by
  have HP := Lib.hid hp
  have HVL := Lib.hid (fun (W : World) (h : ProgRd W v p) => rValid_l p v W h)
  cases hv : validP p
  · have HR := Lib.hid (show TrafR p (.returned (.tuple #[.int .i64 0, .int .i64 80])) by unfold TrafR; rw [hv]; rfl)
    rw [hv] at HVL
    clear hv hp
    go_enter Try.func34, Try.ntmps34
    go_wp2_with (go_at_call 17; refine (HVL.out _ HP.out).mono ?_; go_must (rintro e w1 ⟨rfl, hb1⟩))
    go_ret2
    exact ⟨HR.out, hb1⟩
  rw [hv] at HVL
  have HR := Lib.hid (show TrafR p (.returned (.tuple #[.int .i64 (trafP p), .int .i64 0])) by unfold TrafR; rw [hv]; rfl)
  have hl4 := (small_of hv).len
  have HTB := Lib.hid (fun k => valid_traf hv k)
  have HSB := Lib.hid (fun o (ho : o ∈ p) j => valid_sum hv ho j)
  have HHB := Lib.hid (fun o (ho : o ∈ p) s (hs : s ∈ o.src) => valid_hops hv ho hs)
  obtain ⟨a, cap, g, off, rfl, hl, hm, hat⟩ := ops_at hp
  have HX := Lib.hid hat
  have hln : (p.length : Int) ≤ 4000 := by omega
  clear hat hp hv
  go_enter Try.func34, Try.ntmps34
  go_wp2_with (go_at_call 17; refine (HVL.out _ HP.out).mono ?_; go_must (rintro e w1 ⟨rfl, hb1⟩))
  go_loopw [4, 5] (fun t4 t5 wr => ∃ k : Nat, k ≤ p.length ∧ t5 = .int .i64 (k : Nat) ∧ t4 = .int .i64 (trafP (p.take k)) ∧ Below w.heap.size w wr) (fun t4 t5 _ => p.length - (intOf t5).toNat)
  case atStart => exact ⟨0, Nat.zero_le _, rfl, rfl, hb1⟩
  case round =>
    obtain ⟨k, hk, rfl, rfl, hb⟩ := hrel
    have hs := hb.size
    by_cases hlt : k < p.length
    rotate_left
    · have hke : k = p.length := by omega
      have hlz : ¬ (k : Int) < (p.length : Int) := by omega
      have HE := Lib.hid (show trafP (p.take k) = trafP p by rw [hke, List.take_length])
      clear hke hlt
      rw [HE.out]
      go_wp2
      go_ret2
      exact ⟨HR.out, hb⟩
    have hlz : (k : Int) < (p.length : Int) := by omega
    obtain ⟨hix, hg, q0, q1, q2, q3, q4, q5⟩ := HX.out k hlt
    have hmem := List.getElem_mem hlt
    have r0 := (hb.cell (p := ⟨g, off + 6 * k, none⟩) hg).trans q0
    have r1 := (hb.cell (p := ⟨g, off + 6 * k + 1, none⟩) hg).trans q1
    have r2 := (hb.cell (p := ⟨g, off + 6 * k + 2, none⟩) hg).trans q2
    have r3 := (hb.cell (p := ⟨g, off + 6 * k + 3, none⟩) hg).trans q3
    have r4 := (hb.cell (p := ⟨g, off + 6 * k + 4, none⟩) hg).trans q4
    have r5 := (hb.cell (p := ⟨g, off + 6 * k + 5, none⟩) hg).trans q5
    clear q0 q1 q2 q3 q4 q5
    have HTT := Lib.hid (traf_take p k hlt)
    have htk := HTB.out k
    have HSK := Lib.hid (fun j => HSB.out p[k] hmem j)
    have HHK := Lib.hid (fun (s : SrcD) (hs : s ∈ p[k].src) => HHB.out p[k] hmem s hs)
    have HSL := Lib.hid (HP.out.each p[k] hmem)
    have HLT := Lib.hid hlt
    generalize trafP (p.take k) = S at *
    generalize p[k] = o at *
    obtain ⟨t, ⟨c0, c1⟩, u, kd, fv, src⟩ := o
    simp only at r0 r1 r2 r3 r4 r5 HTT HSK HHK HSL
    obtain ⟨fa, fc, fg, fo, rfl, hfl, hfm, hfx⟩ := src_at HSL.out
    have HFX := Lib.hid hfx; clear hfx hlt hmem
    obtain ⟨hs1, hs2⟩ := htk
    have HST := Lib.hid (fun j hj => sumS_take src j hj)
    have hsl : (src.length : Int) ≤ 9223372036854775807 := by omega
    obtain ⟨wo, hwo⟩ : ∃ x : World, x = wr := ⟨_, rfl⟩
    subst hwo
    have hgw : g < wo.heap.size := by omega
    go_wp2_with fail
    go_loopw [4, 6] (fun t4 t6 wr => ∃ j : Nat, j ≤ src.length ∧ t6 = .int .i64 (j : Nat) ∧ t4 = .int .i64 (S + sumS (src.take j)) ∧ Below wo.heap.size wo wr) (fun t4 t6 _ => src.length - (intOf t6).toNat)
    case atStart => exact ⟨0, Nat.zero_le _, rfl, (by simp [sumS]), Below.refl _ _⟩
    case round =>
      obtain ⟨j, hj, rfl, rfl, hbj⟩ := hrel
      have hsj := hbj.size
      have hbw := hb.trans (hbj.mono hs)
      by_cases hlt2 : j < src.length
      rotate_left
      · have hke : j = src.length := by omega
        have hlz2 : ¬ (j : Int) < (src.length : Int) := by omega
        have HE := Lib.hid (show S + sumS (src.take j) = trafP (p.take (k + 1)) by rw [hke, List.take_length, HTT.out])
        rw [HE.out]
        clear hke hlt2
        have p5 := (hbj.cell (p := ⟨g, off + 6 * k + 5, none⟩) hgw).trans r5
        go_wp2
        go_roundw
        case rel => exact ⟨k + 1, HLT.out, by simp, rfl, hbw⟩
        case measure => simp only [intOf]; have := HLT.out; omega
      have hlz2 : (j : Int) < (src.length : Int) := by omega
      obtain ⟨hfi, hfg, s0, s1, s2⟩ := HFX.out j hlt2
      have y0 := (hbw.cell (p := ⟨fg, fo + 3 * j, none⟩) hfg).trans s0
      have y1 := (hbw.cell (p := ⟨fg, fo + 3 * j + 1, none⟩) hfg).trans s1
      have y2 := (hbw.cell (p := ⟨fg, fo + 3 * j + 2, none⟩) hfg).trans s2
      clear s0 s1 s2
      have HTJ := Lib.hid (HST.out j hlt2)
      have hbj1 := HSK.out j
      have hbj2 := HHK.out src[j] (List.getElem_mem hlt2)
      have HLJ := Lib.hid hlt2
      generalize sumS (src.take j) = T at *
      generalize src[j] = s at *
      obtain ⟨op, val, hops⟩ := s
      simp only at y0 y1 y2 HTJ hbj2
      obtain ⟨b1, b2⟩ := hbj1
      obtain ⟨b3, b4⟩ := hbj2
      clear hlt2
      have p5 := (hbj.cell (p := ⟨g, off + 6 * k + 5, none⟩) hgw).trans r5
      go_wp2
      go_roundw
      case rel => exact ⟨j + 1, HLJ.out, by simp, by rw [HTJ.out]; congr 1; omega, hbj⟩
      case measure => simp only [intOf]; have := HLJ.out; omega
end Go.Proofs.Ytbjbdochffocoaa
