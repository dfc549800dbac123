/- Span, Traffic and SameOps: walks. -/
import Derived.Test.YtbjbdochffocoaaOwnD
namespace Go.Proofs.Ytbjbdochffocoaa
open Go.RowKit Go.Lib
set_option linter.unusedVariables false
/-- The least and the greatest time. -/
structure SpanP (p : List OpD) (lo hi : Int) : Prop where
  all : ∀ i (h : i < p.length), lo ≤ p[i].t ∧ p[i].t ≤ hi
  lo_ : ∃ i, ∃ (h : i < p.length), p[i].t = lo
  hi_ : ∃ i, ∃ (h : i < p.length), p[i].t = hi
theorem SpanP.same {p : List OpD} {a b c d : Int} (h : SpanP p a b) (k : SpanP p c d) : a = c ∧ b = d := by
  obtain ⟨i, h1, e1⟩ := h.lo_; obtain ⟨j, h2, e2⟩ := h.hi_
  obtain ⟨i', h3, e3⟩ := k.lo_; obtain ⟨j', h4, e4⟩ := k.hi_
  have a1 := (k.all i h1).1; have a2 := (h.all i' h3).1
  have a3 := (k.all j h2).2; have a4 := (h.all j' h4).2
  omega
/-- The least and the greatest time of the first k operations. -/
structure SpanTo (p : List OpD) (k : Nat) (lo hi : Int) : Prop where
  all : ∀ i (h : i < p.length), i < k → lo ≤ p[i].t ∧ p[i].t ≤ hi
  lo_ : ∃ i, ∃ (h : i < p.length), p[i].t = lo
  hi_ : ∃ i, ∃ (h : i < p.length), p[i].t = hi
theorem SpanTo.start {p : List OpD} (h : 0 < p.length) : SpanTo p 0 p[0].t p[0].t := ⟨fun i hi hk => by omega, ⟨0, h, rfl⟩, ⟨0, h, rfl⟩⟩
theorem SpanTo.step {p : List OpD} {k : Nat} {lo hi : Int} (h : SpanTo p k lo hi) (hk : k < p.length) : SpanTo p (k + 1) (min lo p[k].t) (max hi p[k].t) := by
  refine ⟨fun i hi hik => ?_, ?_, ?_⟩
  · by_cases e : i = k
    · subst e; omega
    · have := h.all i hi (by omega); omega
  · rcases Int.le_total lo p[k].t with e | e
    · rw [Int.min_eq_left e]; exact h.lo_
    · rw [Int.min_eq_right e]; exact ⟨k, hk, rfl⟩
  · rcases Int.le_total hi p[k].t with e | e
    · rw [Int.max_eq_right e]; exact ⟨k, hk, rfl⟩
    · rw [Int.max_eq_left e]; exact h.hi_
theorem SpanTo.done {p : List OpD} {lo hi : Int} (h : SpanTo p p.length lo hi) : SpanP p lo hi := ⟨fun i hi => h.all i hi hi, h.lo_, h.hi_⟩
theorem SpanTo.bd {p : List OpD} {k : Nat} {lo hi : Int} (h : SpanTo p k lo hi) (hb : ∀ i (h : i < p.length), -100000 ≤ p[i].t ∧ p[i].t ≤ 100000) : (-100000 ≤ lo ∧ lo ≤ 100000) ∧ (-100000 ≤ hi ∧ hi ≤ 100000) := by
  obtain ⟨i, h1, e1⟩ := h.lo_; obtain ⟨j, h2, e2⟩ := h.hi_
  have := hb i h1; have := hb j h2; omega
theorem span_ex {p : List OpD} (h : 0 < p.length) : ∃ lo hi, SpanP p lo hi := by
  have : ∀ k, k ≤ p.length → ∃ lo hi, SpanTo p k lo hi := fun k => by
    induction k with
    | zero => exact fun _ => ⟨_, _, SpanTo.start h⟩
    | succ k ih => intro hk; obtain ⟨lo, hi, hs⟩ := ih (by omega); exact ⟨_, _, hs.step (by omega)⟩
  obtain ⟨lo, hi, hs⟩ := this p.length (Nat.le_refl _)
  exact ⟨lo, hi, hs.done⟩
theorem ord_span {p : List OpD} {L : List Nat} (hL : OrdL (timeP p) p.length L) (hp : 0 < p.length) : ∃ (h0 : 0 < L.length) (h1 : L.length - 1 < L.length) (h2 : L[0] < p.length) (h3 : L[L.length - 1] < p.length), SpanP p p[L[0]].t p[L[L.length - 1]].t := by
  have hl := hL.len
  have h0 : 0 < L.length := by omega
  have h1 : L.length - 1 < L.length := by omega
  have h2 := (hL.mem _).1 (List.getElem_mem h0)
  have h3 := (hL.mem _).1 (List.getElem_mem h1)
  have hs := List.pairwise_iff_getElem.1 hL.srt
  have key : ∀ a b (ha : a < L.length) (hb : b < L.length), a ≤ b → timeP p L[a] ≤ timeP p L[b] := fun a b ha hb hab => by
    by_cases e : a = b
    · subst e; exact Int.le_refl _
    · have := hs a b ha hb (by omega); rcases this with h | h <;> omega
  refine ⟨h0, h1, h2, h3, fun i hi => ?_, ⟨_, h2, rfl⟩, ⟨_, h3, rfl⟩⟩
  obtain ⟨j, hj, e⟩ := List.getElem_of_mem ((hL.mem i).2 hi)
  have k1 := key 0 j h0 hj (by omega)
  have k2 := key j (L.length - 1) hj h1 (by omega)
  rw [e, timeP_at hi] at k1 k2
  rw [timeP_at h2] at k1
  rw [timeP_at h3] at k2
  exact ⟨k1, k2⟩
def spanErr (p : List OpD) : Int := if validP p = true then (if p.length = 0 then 5 else 0) else 80
def SpanR (p : List OpD) (e : Ending) : Prop := if spanErr p = 0 then ∃ lo hi, SpanP p lo hi ∧ e = .returned (.tuple #[.int .i64 lo, .int .i64 hi, .int .i64 0]) else e = .returned (.tuple #[.int .i64 0, .int .i64 0, .int .i64 (spanErr p)])
theorem span_inv {p : List OpD} {z : Int} (h : spanErr p = z) (h0 : z ≠ 0) : SpanR p (.returned (.tuple #[.int .i64 0, .int .i64 0, .int .i64 z])) := by
  unfold SpanR; rw [h, if_neg h0]
theorem span_ok {p : List OpD} (h : spanErr p = 0) {lo hi : Int} (hs : SpanP p lo hi) : SpanR p (.returned (.tuple #[.int .i64 lo, .int .i64 hi, .int .i64 0])) := by
  unfold SpanR; rw [if_pos h]; exact ⟨lo, hi, hs, rfl⟩
set_option maxHeartbeats 8000000 in
set_option maxRecDepth 100000 in
theorem Span_l (p : List OpD) (v : Value) (w : World) (hp : ProgRd w v p) : Calls Try.prog 27 #[v] w fun e w' => SpanR p e ∧ Below w.heap.size w w' := by
  have HP := Lib.hid hp
  have HVL := Lib.hid (fun (W : World) (h : ProgRd W v p) => Valid_l p v W h)
  cases hv : validP p
  · have HR := Lib.hid (span_inv (show spanErr p = 80 by unfold spanErr; rw [hv]; rfl) (by omega))
    rw [hv] at HVL
    clear hv hp
    go_enter Try.func27, Try.ntmps27
    go_wp2_with (go_at_call 22; refine (HVL.out _ HP.out).mono ?_; go_must (rintro e w1 ⟨rfl, hb1⟩))
    go_ret3
    exact ⟨HR.out, hb1⟩
  rw [hv] at HVL
  have hl4 := (small_of hv).len
  obtain ⟨a, cap, g, off, rfl, hl, hm, hat⟩ := ops_at hp
  have HX := Lib.hid hat
  clear hat hp
  by_cases h0 : p.length = 0
  · have HR := Lib.hid (span_inv (show spanErr p = 5 by unfold spanErr; rw [hv, if_pos rfl, if_pos h0]) (by omega))
    have hz : ((p.length : Int) == 0) = true := by simp [h0]
    clear hv h0
    go_enter Try.func27, Try.ntmps27
    go_wp2_with (go_at_call 22; refine (HVL.out _ HP.out).mono ?_; go_must (rintro e w1 ⟨rfl, hb1⟩))
    go_ret3
    exact ⟨HR.out, hb1⟩
  have HOK := Lib.hid (fun lo hi (h : SpanP p lo hi) => span_ok (show spanErr p = 0 by unfold spanErr; rw [hv, if_pos rfl, if_neg h0]) h)
  have hz : ((p.length : Int) == 0) = false := beq_eq_false_iff_ne.2 (by omega)
  obtain ⟨m, hm1⟩ : ∃ m, p.length = m + 1 := ⟨p.length - 1, by omega⟩
  have HOD := Lib.hid (fun (W : World) (h : ProgRd W (.slice a p.length cap) p) => (ordered_l p _ W h (by omega)).mono (fun e w' q => (⟨by
    obtain ⟨L, hL, b, he, hb, hR⟩ := q.1
    have hlen : (L.map fun i : Nat => (i : Int)).length = p.length := by rw [List.length_map, hL.len]
    rw [hlen] at he
    obtain ⟨h0, h1, h2, h3, hsp⟩ := ord_span hL (by omega)
    have hm2 : L.length - 1 = m := by rw [hL.len]; omega
    simp only [hm2] at h1 h3 hsp
    have c0 := hR.cell 0 (by simpa using h0)
    have cm := hR.cell m (by simpa using h1)
    simp only [List.getElem_map] at c0 cm
    exact ⟨b, L[0], L[m], he, c0, cm, h2, h3, hsp⟩, q.2⟩ : (∃ b x y, e = .returned (.slice (some ⟨b, 0, none⟩) p.length p.length) ∧ w'.cell? ⟨b, 0, none⟩ = some (.int .i64 (x : Nat)) ∧ w'.cell? ⟨b, m, none⟩ = some (.int .i64 (y : Nat)) ∧ ∃ (h2 : x < p.length) (h3 : y < p.length), SpanP p p[x].t p[y].t) ∧ Below W.heap.size W w')))
  have hmn : m < p.length := by omega
  have HI := Lib.hid (fun b W => idx_of (P := Try.prog) un_int sz_int1 b 0 p.length p.length 0 (by omega) W)
  have HJ := Lib.hid (fun b W => idx_of (P := Try.prog) un_int sz_int1 b 0 p.length p.length m hmn W)
  have wm : IntKind.i64.wrap ((p.length : Int) - 1) = (m : Int) := by rw [IntWalk.i64_in _ (by omega)]; omega
  have hln : (p.length : Int) ≤ 4000 := by omega
  have HWM := Lib.hid wm
  clear hv h0 hm1 wm hmn
  go_enter Try.func27, Try.ntmps27
  go_wp2_with (first | (go_at_call 22; refine (HVL.out _ HP.out).mono ?_; go_must (rintro e w1 ⟨rfl, hb1⟩; have HB1 := Lib.hid hb1; clear hb1)) | (go_at_call 51; refine (HOD.out _ (HP.out.below HB1.out)).mono ?_; go_must (rintro e w2 ⟨⟨b, x, y, rfl, c0, cm, hx, hy, hsp⟩, hb2⟩; have HSP := Lib.hid hsp; have HB2 := Lib.hid (below_at HB1.out HB1.out.size hb2); clear hb2 hsp)))
  have i0 : ∀ W, (Instr.indexAt 25 (.slice (some ⟨b, 0, none⟩) p.length p.length) (.int .i64 0)).run Try.prog W = .ok (.pointer (some ⟨b, 0, none⟩)) W := fun W => by simpa using HI.out b W
  have im : ∀ W, (Instr.indexAt 25 (.slice (some ⟨b, 0, none⟩) p.length p.length) (.int .i64 (m : Int))).run Try.prog W = .ok (.pointer (some ⟨b, m, none⟩)) W := fun W => by simpa using HJ.out b W
  obtain ⟨jx, hg, q0, -⟩ := HX.out x hx
  obtain ⟨jy, -, s0, -⟩ := HX.out y hy
  have r0 := (HB2.out.cell (p := ⟨g, off + 6 * x, none⟩) hg).trans q0
  have r1 := (HB2.out.cell (p := ⟨g, off + 6 * y, none⟩) hg).trans s0
  have wm := HWM.out
  have HFN := Lib.hid (HOK.out _ _ HSP.out)
  clear q0 s0 HSP HOK
  generalize p[x].t = tx at *
  generalize p[y].t = ty at *
  have hx1 : (x : Int) < (p.length : Int) := by omega
  have hy1 : (y : Int) < (p.length : Int) := by omega
  have hx0 : (0 : Int) ≤ (x : Int) := by omega
  have hy0 : (0 : Int) ≤ (y : Int) := by omega
  have hm0 : (0 : Int) ≤ (m : Int) := by omega
  go_quiet (fail)
  go_wp2
  go_ret3
  exact ⟨HFN.out, below_drewN HB2.out _⟩
end Go.Proofs.Ytbjbdochffocoaa
