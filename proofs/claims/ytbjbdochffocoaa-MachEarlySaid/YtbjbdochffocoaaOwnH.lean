/- Shift of both: walks; the law MachShifts. -/
import Derived.Test.YtbjbdochffocoaaOwnG
namespace Go.Proofs.Ytbjbdochffocoaa
open Go.RowKit Go.Lib
set_option linter.unusedVariables false
theorem timed_same {p q : List OpD} (h : SameP p q) : Timed (timeP p) p q := ⟨h.len, fun i h1 h2 => by obtain ⟨a, b, c, d, e⟩ := h.at_ i h1 h2; exact ⟨by rw [a, timeP_at h2], b, c, d, e⟩⟩
theorem Timed.congr {p q : List OpD} {f g : Nat → Int} (h : Timed f p q) (he : ∀ i, i < p.length → f i = g i) : Timed g p q :=
  ⟨h.len, fun i h1 h2 => by obtain ⟨a, r⟩ := h.at_ i h1 h2; exact ⟨by rw [a, he i h2], r⟩⟩
theorem Timed.put {p q : List OpD} {f : Nat → Int} (h : Timed f p q) {k : Nat} (hk : k < q.length) (x : Int) : Timed (fun i => if i = k then x else f i) p (q.set k { q[k] with t := x }) := by
  refine ⟨by rw [List.length_set]; exact h.len, fun i h1 h2 => ?_⟩
  have h3 : i < q.length := by rw [h.len]; exact h2
  obtain ⟨a, b, c, d, e⟩ := h.at_ i h3 h2
  by_cases e1 : k = i
  · subst e1; rw [List.getElem_set_self]; exact ⟨by rw [if_pos rfl], b, c, d, e⟩
  · rw [List.getElem_set_ne e1]; exact ⟨by rw [if_neg (fun e => e1 e.symm)]; exact a, b, c, d, e⟩
theorem Timed.later {p q : List OpD} {d : Int} (h : Timed (fun i => timeP p i + d) p q) : Later d p q :=
  ⟨h.len, fun i h1 h2 => by obtain ⟨a, r⟩ := h.at_ i h1 h2; exact ⟨by rw [a, timeP_at h2], r⟩⟩
theorem Timed.same2 {p q r : List OpD} {f : Nat → Int} (h : Timed f p q) (k : Timed f p r) : SameP q r :=
  ⟨k.len.trans h.len.symm, fun i h1 h2 => by
    have h3 : i < p.length := by rw [← h.len]; exact h2
    obtain ⟨a, b, c, d, e⟩ := h.at_ i h2 h3
    obtain ⟨a', b', c', d', e'⟩ := k.at_ i h1 h3
    exact ⟨a'.trans a.symm, b'.trans b.symm, c'.trans c.symm, d'.trans d.symm, e'.trans e.symm⟩⟩
theorem ProgOwn.time {w : World} {B g n cap : Nat} {q : List OpD} (h : ProgOwn w B (.slice (some ⟨g, 0, none⟩) n cap) q) (hn : q.length = n) (k : Nat) (hk : k < n) (hk2 : k < q.length) (x : Int) :
    ProgOwn (w.setCell ⟨g, 6 * k, none⟩ (.int .i64 x)) B (.slice (some ⟨g, 0, none⟩) n cap) (q.set k { q[k] with t := x }) := by
  refine ⟨?_, fun g' e => ?_⟩
  · have := OwnOf.put (enc := encOp) (fun _ => rfl) h.1 hn k 0 hk (by omega) { q[k] with t := x } (.int .i64 x) rfl
    exact this
  · cases e
    have h1 := (h.2 g rfl).store (6 * k) (.int .i64 x)
    rw [List.length_set]
    exact h1.same (by rw [List.length_set]) (fun i a b c => by
      by_cases e : k = i
      · subst e; rw [List.getElem_set_self]; exact ⟨rfl, rfl⟩
      · rw [List.getElem_set_ne e]; exact ⟨rfl, rfl⟩)
def shB (p : List OpD) (d : Int) : Bool := p.all fun o => btwM (-100000) (o.t + d) 100000
def shErr (p : List OpD) (d : Int) : Int := if validP p = true then (if shB p d = true then 0 else 2) else 80
theorem shB_iff {p : List OpD} {d : Int} : shB p d = true ↔ ∀ i (h : i < p.length), -100000 ≤ p[i].t + d ∧ p[i].t + d ≤ 100000 := by
  unfold shB
  rw [List.all_eq_true]
  constructor
  · intro h i hi; exact btwM_iff.1 (h p[i] (List.getElem_mem hi))
  · intro h o ho; obtain ⟨i, hi, rfl⟩ := List.getElem_of_mem ho; exact btwM_iff.2 (h i hi)
theorem shB_span {p : List OpD} {d lo hi : Int} (h : SpanP p lo hi) : shB p d = btwM (-100000 - lo) d (100000 - hi) := by
  rw [Bool.eq_iff_iff, shB_iff, btwM_iff]
  obtain ⟨i, h1, e1⟩ := h.lo_; obtain ⟨j, h2, e2⟩ := h.hi_
  constructor
  · intro k; have := k i h1; have := k j h2; omega
  · intro k i hi; have := h.all i hi; omega
def ShiftR (p : List OpD) (d : Int) (B : Nat) (e : Ending) (w' : World) : Prop := if shErr p d = 0 then ∃ v' q, e = .returned (.tuple #[v', .int .i64 0]) ∧ ProgOwn w' B v' q ∧ Timed (fun i => timeP p i + d) p q else e = .returned (.tuple #[.slice none 0 0, .int .i64 (shErr p d)])
theorem shift_err {p : List OpD} {d : Int} {B : Nat} {k : Int} (h : shErr p d = k) (hk : k ≠ 0) (w' : World) : ShiftR p d B (.returned (.tuple #[.slice none 0 0, .int .i64 k])) w' := by
  unfold ShiftR; rw [h, if_neg hk]
theorem shift_ok {p : List OpD} {d : Int} {B : Nat} {v' : Value} {q : List OpD} {w' : World} (h : shErr p d = 0) (ho : ProgOwn w' B v' q) (ht : Timed (fun i => timeP p i + d) p q) : ShiftR p d B (.returned (.tuple #[v', .int .i64 0])) w' := by
  unfold ShiftR; rw [if_pos h]; exact ⟨v', q, rfl, ho, ht⟩
theorem copy_some {p q : List OpD} {w : World} {B : Nat} {v : Value} (h : ProgOwn w B v q) (hs : SameP p q) (hp : 0 < p.length) : ∃ g cap, v = .slice (some ⟨g, 0, none⟩) p.length cap ∧ B ≤ g ∧ g < w.heap.size := by
  rcases ownR_some h.1 with ⟨-, e⟩ | ⟨g, cap, e, h1, h2⟩
  · have := hs.len; rw [e] at this; simp at this; omega
  · rw [hs.len] at e; exact ⟨g, cap, e, h1, h2⟩
set_option maxHeartbeats 16000000 in
set_option maxRecDepth 100000 in
theorem Shift_l (p : List OpD) (d : Int) (hd : -9223372036854775808 ≤ d ∧ d ≤ 9223372036854775807) (v : Value) (w : World) (hp : ProgRd w v p) : Calls Try.prog 24 #[v, .int .i64 d] w fun e w' => ShiftR p d w.heap.size e w' ∧ Below w.heap.size w w' := by
  obtain ⟨hd1, hd2⟩ := hd
  have HP := Lib.hid hp
  have HSP := Lib.hid (Span_l p v w hp)
  cases hv : validP p
  · have HR := Lib.hid (fun w' => shift_err (d := d) (B := w.heap.size) (show shErr p d = 80 by unfold shErr; rw [hv]; rfl) (by omega) w')
    have HS2 := Lib.hid (HSP.out.mono (fun e w' q => (⟨by have := q.1; unfold SpanR at this; rw [show spanErr p = 80 by unfold spanErr; rw [hv]; rfl, if_neg (by omega)] at this; exact this, q.2⟩ : e = .returned (.tuple #[.int .i64 0, .int .i64 0, .int .i64 80]) ∧ Below w.heap.size w w')))
    clear hv hp HSP
    go_enter Try.func24, Try.ntmps24
    go_wp2_with (go_at_call 27; refine HS2.out.mono ?_; go_must (rintro e w1 ⟨rfl, hb1⟩))
    go_ret2
    exact ⟨HR.out _, hb1⟩
  by_cases h0 : p.length = 0
  · have hpe : p = [] := List.eq_nil_of_length_eq_zero h0
    subst hpe
    have HR := Lib.hid (fun w' => shift_ok (d := d) (B := w.heap.size) (w' := w') (show shErr [] d = 0 from rfl) (ProgOwn.nil w' w.heap.size) (⟨rfl, fun i h => by simp at h⟩ : Timed (fun i => timeP [] i + d) [] []))
    have HS2 := Lib.hid (HSP.out.mono (fun e w' q => (⟨by have := q.1; unfold SpanR at this; rw [show spanErr [] = 5 from rfl, if_neg (by omega)] at this; exact this, q.2⟩ : e = .returned (.tuple #[.int .i64 0, .int .i64 0, .int .i64 5]) ∧ Below w.heap.size w w')))
    clear hv hp HSP h0
    go_enter Try.func24, Try.ntmps24
    go_wp2_with (go_at_call 27; refine HS2.out.mono ?_; go_must (rintro e w1 ⟨rfl, hb1⟩))
    go_ret2
    exact ⟨HR.out _, hb1⟩
  have hpos : 0 < p.length := by omega
  have hl4 := (small_of hv).len
  have HTB := Lib.hid (fun i (h : i < p.length) => show -100000 ≤ p[i].t ∧ p[i].t ≤ 100000 by have := (small_of hv).time i; rwa [timeP_at h] at this)
  obtain ⟨lo, hi, hsp⟩ := span_ex hpos
  have HS2 := Lib.hid (HSP.out.mono (fun e w' q => (⟨by
    have := q.1; unfold SpanR at this
    rw [if_pos (show spanErr p = 0 by unfold spanErr; rw [hv, if_pos rfl, if_neg h0])] at this
    obtain ⟨l2, h2, hs2, he⟩ := this
    obtain ⟨rfl, rfl⟩ := hsp.same hs2
    exact he, q.2⟩ : e = .returned (.tuple #[.int .i64 lo, .int .i64 hi, .int .i64 0]) ∧ Below w.heap.size w w')))
  have hlh : (-100000 ≤ lo ∧ lo ≤ 100000) ∧ (-100000 ≤ hi ∧ hi ≤ 100000) := by
    obtain ⟨i, h1, e1⟩ := hsp.lo_; obtain ⟨j, h2, e2⟩ := hsp.hi_
    have := HTB.out i h1; have := HTB.out j h2; omega
  obtain ⟨⟨hlo1, hlo2⟩, hhi1, hhi2⟩ := hlh
  have hsb := shB_span (d := d) hsp
  have HBT := Lib.hid (fun W => mbetween_l (-100000 - lo) d (100000 - hi) W)
  cases hbt : btwM (-100000 - lo) d (100000 - hi)
  · rw [hbt] at hsb HBT
    have HR := Lib.hid (fun w' => shift_err (d := d) (B := w.heap.size) (show shErr p d = 2 by unfold shErr; rw [hv, if_pos rfl, hsb]; rfl) (by omega) w')
    clear hv hp HSP h0 hsb hbt hsp hpos
    go_enter Try.func24, Try.ntmps24
    go_wp2_with (first | (go_at_call 27; refine HS2.out.mono ?_; go_must (rintro e w1 ⟨rfl, hb1⟩)) | (go_at_call 48; refine (HBT.out _).mono ?_; go_must (rintro e w2 ⟨rfl, rfl⟩)))
    go_ret2
    exact ⟨HR.out _, hb1⟩
  rw [hbt] at hsb HBT
  have HSB := Lib.hid (shB_iff.1 hsb)
  have HR := Lib.hid (fun w' v' q (ho : ProgOwn w' w.heap.size v' q) (ht : Timed (fun i => timeP p i + d) p q) => shift_ok (show shErr p d = 0 by unfold shErr; rw [hv, if_pos rfl, hsb]; rfl) ho ht)
  have HCP := Lib.hid (fun (W : World) (h : ProgRd W v p) => copied_l p hv v W h)
  have hdd : -200000 ≤ d ∧ d ≤ 200000 := by have := HSB.out 0 hpos; have := HTB.out 0 hpos; omega
  obtain ⟨hdd1, hdd2⟩ := hdd
  have HPS := Lib.hid hpos
  have hln : (p.length : Int) ≤ 4000 := by omega
  clear hv hp HSP h0 hsb hbt hsp hpos
  go_enter Try.func24, Try.ntmps24
  go_wp2_with (first | (go_at_call 27; refine HS2.out.mono ?_; go_must (rintro e w1 ⟨rfl, hb1⟩; have HB1 := Lib.hid hb1; clear hb1)) | (go_at_call 48; refine (HBT.out _).mono ?_; go_must (rintro e w2 ⟨rfl, rfl⟩)) | (go_at_call 49; refine (HCP.out _ (HP.out.below HB1.out)).mono ?_; go_must (rintro e w3 ⟨⟨v3, q3, rfl, ho3, hs3⟩, hb3⟩; obtain ⟨g, cap, rfl, hg1, hg2⟩ := copy_some ho3 hs3 HPS.out; have HO3 := Lib.hid (ho3.mono HB1.out.size); have HSQ := Lib.hid (timed_same hs3); have HB3 := Lib.hid (below_at HB1.out HB1.out.size hb3); clear ho3 hs3 hb3)))
  have hg0 : w.heap.size ≤ g := by have := HB1.out.size; omega
  go_loopw [36] (fun t36 wr => ∃ (k : Nat) (q : List OpD), k ≤ p.length ∧ t36 = .int .i64 (k : Nat) ∧ Hid (Timed (fun i => if i < k then timeP p i + d else timeP p i) p q) ∧ Hid (ProgOwn wr w.heap.size (.slice (some ⟨g, 0, none⟩) p.length cap) q) ∧ Below w.heap.size w wr) (fun t36 _ => p.length - (intOf t36).toNat)
  case atStart => exact ⟨0, q3, Nat.zero_le _, rfl, Lib.hid (HSQ.out.congr (fun i _ => by rw [if_neg (by omega)])), HO3, HB3.out⟩
  case round =>
    obtain ⟨k, q, hk, rfl, HT, HO, hb⟩ := hrel
    by_cases hlt : k < p.length
    rotate_left
    · have hke : k = p.length := by omega
      have hlz : ¬ (k : Int) < (p.length : Int) := by omega
      have HF := Lib.hid (HR.out wr _ q HO.out (HT.out.congr (fun i hi => by rw [if_pos (by omega)])))
      clear hke hlt
      go_wp2
      go_ret2
      exact ⟨HF.out, hb⟩
    have hlz : (k : Int) < (p.length : Int) := by omega
    have hkq : k < q.length := by rw [HT.out.len]; exact hlt
    obtain ⟨hix, ⟨d0, -⟩, hfz⟩ := ops_own_at HO.out.1 HT.out.len k hlt q[k] (List.getElem?_eq_getElem hkq)
    have f0 := hfz (6 * k)
    have htk : q[k].t = p[k].t := by have := (HT.out.at_ k hkq hlt).1; rw [if_neg (by omega), timeP_at hlt] at this; exact this
    rw [htk] at d0
    have htb := HTB.out k hlt
    have hsb2 := HSB.out k hlt
    have HNX := Lib.hid (show ProgOwn (wr.setCell ⟨g, 6 * k, none⟩ (.int .i64 (p[k].t + d))) w.heap.size (.slice (some ⟨g, 0, none⟩) p.length cap) (q.set k { q[k] with t := p[k].t + d }) ∧ Timed (fun i => if i < k + 1 then timeP p i + d else timeP p i) p (q.set k { q[k] with t := p[k].t + d }) from ⟨HO.out.time HT.out.len k hlt hkq _, (HT.out.put hkq _).congr (fun i hi => by
      by_cases e : i = k
      · subst e; rw [if_pos rfl, if_pos (by omega), timeP_at hlt]
      · rw [if_neg e]
        by_cases e2 : i < k
        · rw [if_pos e2, if_pos (by omega)]
        · rw [if_neg e2, if_neg (by omega)])⟩)
    have HLT := Lib.hid hlt
    clear hfz htk
    generalize p[k].t = tk at *
    obtain ⟨ht1, ht2⟩ := htb
    obtain ⟨ht3, ht4⟩ := hsb2
    generalize q.set k _ = q' at HNX
    clear hkq hlt
    go_wp2
    go_roundw
    case rel => exact ⟨k + 1, q', HLT.out, by simp, Lib.hid HNX.out.2, Lib.hid HNX.out.1, hb.setCell (p := ⟨g, 6 * k, none⟩) hg0 _⟩
    case measure => simp only [intOf]; have := HLT.out; omega
end Go.Proofs.Ytbjbdochffocoaa
