/- Package mach: Until, Run: their walks. -/
import Derived.Test.YtbjbdochffocoaaMachK
namespace Go.Proofs.Ytbjbdochffocoaa
open Go.RowKit Go.Lib
set_option linter.unusedVariables false
def untilTo (p : List OpD) (l : List Int) (t : Int) (k : Nat) : List Int := (List.range p.length).map fun i => if i < k ∧ t < timeP p i then -1 else l.getD i 0
def untilL (p : List OpD) (l : List Int) (t : Int) : List Int := (List.range p.length).map fun i => if t < timeP p i then -1 else l.getD i 0
theorem untilTo_len (p : List OpD) (l : List Int) (t : Int) (k : Nat) : (untilTo p l t k).length = p.length := by simp [untilTo]
theorem untilTo_zero {p : List OpD} {l : List Int} (t : Int) (h : l.length = p.length) : untilTo p l t 0 = l := by
  refine List.ext_getElem (by simp [untilTo, h]) (fun i h1 h2 => ?_)
  simp [untilTo, List.getD_eq_getElem?_getD, List.getElem?_eq_getElem h2]
theorem untilTo_all (p : List OpD) (l : List Int) (t : Int) : untilTo p l t p.length = untilL p l t := by
  unfold untilTo untilL
  refine List.map_congr_left (fun i hi => ?_)
  rw [List.mem_range] at hi
  simp [hi]
theorem untilTo_step (p : List OpD) (l : List Int) (t : Int) (k : Nat) (hk : k < p.length) : untilTo p l t (k + 1) = if t < p[k].t then (untilTo p l t k).set k (-1) else untilTo p l t k := by
  have ht := timeP_at hk
  by_cases h : t < p[k].t
  · rw [if_pos h]
    refine List.ext_getElem (by simp [untilTo]) (fun i h1 h2 => ?_)
    by_cases e : k = i
    · subst e; simp [untilTo, ht, h]
    · rw [List.getElem_set_ne e]
      simp only [untilTo, List.getElem_map, List.getElem_range]
      by_cases hi : i < k
      · simp [hi, show i < k + 1 by omega]
      · simp [hi, show ¬ i < k + 1 by omega]
  · rw [if_neg h]
    refine List.ext_getElem (by simp [untilTo]) (fun i h1 h2 => ?_)
    simp only [untilTo, List.getElem_map, List.getElem_range]
    by_cases e : i = k
    · subst e; simp [ht, h]
    · by_cases hi : i < k
      · simp [hi, show i < k + 1 by omega]
      · simp [hi, show ¬ i < k + 1 by omega]
theorem untilL_run {p : List OpD} (hv : validP p = true) {l : List Int} (h : l.length = p.length) : untilL p l 100000 = l := by
  refine List.ext_getElem (by simp [untilL, h]) (fun i h1 h2 => ?_)
  have := ((small_of hv).time i).2
  simp [untilL, List.getD_eq_getElem?_getD, List.getElem?_eq_getElem h2, show ¬ 100000 < timeP p i by omega]
def UntR (p : List OpD) (t : Int) (e : Ending) (w' : World) : Prop := ∃ v', e = .returned (.tuple #[v', .int .i64 (runErr p)]) ∧ ∃ l, SlOf w' w'.heap.size 1 encInt v' l ∧ (if runErr p = 0 then ∃ m, RunOk p m ∧ l = untilL p m t else l = [])
theorem untR_err {p : List OpD} {t k : Int} (h : runErr p = k) (hk : k ≠ 0) (w' : World) : UntR p t (.returned (.tuple #[.slice none 0 0, .int .i64 k])) w' := by
  unfold UntR
  rw [h]
  exact ⟨_, rfl, [], Sl.nil _ _ _, by rw [if_neg hk]⟩
/-- .. with the row that holds the values. -/
def UntW (p : List OpD) (t : Int) (B : Nat) (e : Ending) (w' : World) : Prop := if runErr p = 0 then ∃ b m, e = .returned (.tuple #[.slice (some ⟨b, 0, none⟩) p.length p.length, .int .i64 0]) ∧ B ≤ b ∧ RowI w' b (untilL p m t) ∧ RunOk p m else e = .returned (.tuple #[.slice none 0 0, .int .i64 (runErr p)])
theorem untW_err {p : List OpD} {t k : Int} {B : Nat} (h : runErr p = k) (hk : k ≠ 0) (w' : World) : UntW p t B (.returned (.tuple #[.slice none 0 0, .int .i64 k])) w' := by
  unfold UntW; rw [h, if_neg hk]
theorem untilL_len (p : List OpD) (l : List Int) (t : Int) : (untilL p l t).length = p.length := by simp [untilL]
theorem UntW.unt {p : List OpD} {t : Int} {B : Nat} {e : Ending} {w' : World} (h : UntW p t B e w') : UntR p t e w' := by
  unfold UntW at h
  by_cases h0 : runErr p = 0
  · rw [if_pos h0] at h
    obtain ⟨b, m, rfl, -, hr, hok⟩ := h
    have hl4 := (small_of (runErr_ok h0).1).len
    refine ⟨_, by rw [h0], _, ?_, by rw [if_pos h0]; exact ⟨m, hok, rfl⟩⟩
    have := hr.sl p.length (by rw [untilL_len]; exact Nat.le_refl _) (by unfold maxLen; omega)
    rwa [untilL_len] at this
  · rw [if_neg h0] at h
    subst h
    exact untR_err rfl h0 w'
set_option maxHeartbeats 8000000 in
set_option maxRecDepth 100000 in
theorem Until_w (p : List OpD) (v : Value) (t : Int) (w : World) (hp : ProgRd w v p) : Calls Try.prog 14 #[v, .int .i64 t] w fun e w' => UntW p t w.heap.size e w' ∧ Below w.heap.size w w' := by
  have HP := Lib.hid hp
  have HVL := Lib.hid (fun (W : World) (h : ProgRd W v p) => Valid_l p v W h)
  cases hv : validP p
  · have HR := Lib.hid (fun w' => untW_err (t := t) (B := w.heap.size) (show runErr p = 80 by unfold runErr; rw [hv]; rfl) (by omega) w')
    rw [hv] at HVL
    clear hv hp
    go_enter Try.func14, Try.ntmps14
    go_wp2_with (go_at_call 22; refine (HVL.out _ HP.out).mono ?_; go_must (rintro e w1 ⟨rfl, hb1⟩))
    go_ret2
    exact ⟨HR.out _, hb1⟩
  rw [hv] at HVL
  have HML := Lib.hid (fun (W : World) (h : ProgRd W v p) => meet_l p hv v W h)
  cases hm : meetP p with
  | some x =>
    obtain ⟨i, k⟩ := x
    have HR := Lib.hid (fun w' => untW_err (t := t) (B := w.heap.size) (show runErr p = 81 by unfold runErr; rw [hv, hm]; rfl) (by omega) w')
    rw [hm] at HML
    simp only [meetV] at HML
    clear hv hp hm
    go_enter Try.func14, Try.ntmps14
    go_wp2_with (first | (go_at_call 22; refine (HVL.out _ HP.out).mono ?_; go_must (rintro e w1 ⟨rfl, hb1⟩; have HB1 := Lib.hid hb1; clear hb1)) | (go_at_call 36; refine (HML.out _ (HP.out.below HB1.out)).mono ?_; go_must (rintro e w2 ⟨rfl, hb2⟩)))
    go_ret2
    exact ⟨HR.out _, below_at HB1.out HB1.out.size hb2⟩
  | none =>
    rw [hm] at HML
    simp only [meetV] at HML
    have HRL := Lib.hid (fun (W : World) (h : ProgRd W v p) => ready_l p v W h)
    by_cases hw : waitsP p = []
    rotate_left
    · have HR := Lib.hid (fun w' => untW_err (t := t) (B := w.heap.size) (show runErr p = 82 by unfold runErr; rw [hv, hm, if_pos rfl, if_neg (by simp), if_neg hw]) (by omega) w')
      rw [show readyE p = 82 by unfold readyE; rw [hv, if_pos rfl, if_neg hw]] at HRL
      clear hv hp hm hw
      go_enter Try.func14, Try.ntmps14
      go_wp2_with (first | (go_at_call 22; refine (HVL.out _ HP.out).mono ?_; go_must (rintro e w1 ⟨rfl, hb1⟩; have HB1 := Lib.hid hb1; clear hb1)) | (go_at_call 36; refine (HML.out _ (HP.out.below HB1.out)).mono ?_; go_must (rintro e w2 ⟨rfl, hb2⟩; have HB2 := Lib.hid (below_at HB1.out HB1.out.size hb2); clear hb2)) | (go_at_call 37; refine (HRL.out _ (HP.out.below HB2.out)).mono ?_; go_must (rintro e w3 ⟨rfl, hb3⟩)))
      go_ret2
      exact ⟨HR.out _, below_at HB2.out HB2.out.size hb3⟩
    rw [show readyE p = 0 by unfold readyE; rw [hv, if_pos rfl, if_pos hw]] at HRL
    have HE := Lib.hid (show runErr p = 0 by unfold runErr; rw [hv, hm, if_pos rfl, if_neg (by simp), if_pos hw])
    have HRU := Lib.hid (fun (W : World) (h : ProgRd W v p) => run_l p hv hw v W h)
    have hl4 := (small_of hv).len
    obtain ⟨a, cap, g, off, rfl, hl, hmx, hat⟩ := ops_at hp
    have HX := Lib.hid hat
    have HUT := Lib.hid (fun l k hk => untilTo_step p l t k hk)
    have HUA := Lib.hid (fun l => untilTo_all p l t)
    have HUL := Lib.hid (fun l k => untilTo_len p l t k)
    have HU0 := Lib.hid (fun l h => untilTo_zero (p := p) (l := l) t h)
    have hln : (p.length : Int) ≤ 4000 := by omega
    have HUR := Lib.hid (fun (w' : World) (b : Nat) (l : List Int) (h : RunOk p l) (hb : w.heap.size ≤ b) (hs : RowI w' b (untilL p l t)) => show UntW p t w.heap.size (.returned (.tuple #[.slice (some ⟨b, 0, none⟩) p.length p.length, .int .i64 0])) w' by unfold UntW; rw [if_pos HE.out]; exact ⟨b, l, rfl, hb, hs, h⟩)
    clear hv hp hm hw hat
    generalize untilL p = UL at *
    generalize untilTo p = UT at *
    go_enter Try.func14, Try.ntmps14
    go_wp2_with (first | (go_at_call 22; refine (HVL.out _ HP.out).mono ?_; go_must (rintro e w1 ⟨rfl, hb1⟩; have HB1 := Lib.hid hb1; clear hb1)) | (go_at_call 36; refine (HML.out _ (HP.out.below HB1.out)).mono ?_; go_must (rintro e w2 ⟨rfl, hb2⟩; have HB2 := Lib.hid (below_at HB1.out HB1.out.size hb2); clear hb2)) | (go_at_call 37; refine (HRL.out _ (HP.out.below HB2.out)).mono ?_; go_must (rintro e w3 ⟨rfl, hb3⟩; have HB3 := Lib.hid (below_at HB2.out HB2.out.size hb3); clear hb3)) | (go_at_call 38; refine (HRU.out _ (HP.out.below HB3.out)).mono ?_; go_must (rintro e w4 ⟨⟨l, hrok, ob, he, hob, hrow⟩, hb4⟩; subst he; have HOK := Lib.hid hrok; have HROW := Lib.hid hrow; have HB4 := Lib.hid (below_at HB3.out HB3.out.size hb4); clear hb4 hrok hrow)))
    have hob1 : w.heap.size ≤ ob := by have := HB3.out.size; omega
    have hs4 := HB4.out.size
    have hlen := HOK.out.len
    have HLN := Lib.hid hlen
    rw [hlen]
    clear hlen hob
    have hl1 : ob < w4.heap.size := HROW.out.lt
    go_loopw [32] (fun t32 wr => ∃ k : Nat, k ≤ p.length ∧ t32 = .int .i64 (k : Nat) ∧ Hid (RowI wr ob (UT l t k)) ∧ Below w.heap.size w wr) (fun t32 _ => p.length - (intOf t32).toNat)
    case atStart => exact ⟨0, Nat.zero_le _, rfl, Lib.hid (by rw [HU0.out l HLN.out]; exact HROW.out), HB4.out⟩
    case round =>
      obtain ⟨k, hk, rfl, HR, hb⟩ := hrel
      have hs := hb.size
      by_cases hlt : k < p.length
      rotate_left
      · have hke : k = p.length := by omega
        have hlz : ¬ (k : Int) < (p.length : Int) := by omega
        have HF := Lib.hid (show RowI wr ob (UL l t) by have h1 := HR.out; rwa [hke, HUA.out l] at h1)
        clear hke hlt
        go_wp2
        go_ret2
        exact ⟨HUR.out _ _ l HOK.out hob1 HF.out, hb⟩
      have hlz : (k : Int) < (p.length : Int) := by omega
      obtain ⟨hix, hg, q0, q1, q2, q3, q4, q5⟩ := HX.out k hlt
      have r0 := (hb.cell (p := ⟨g, off + 6 * k, none⟩) hg).trans q0
      have r1 := (hb.cell (p := ⟨g, off + 6 * k + 1, none⟩) hg).trans q1
      have r2 := (hb.cell (p := ⟨g, off + 6 * k + 2, none⟩) hg).trans q2
      have r3 := (hb.cell (p := ⟨g, off + 6 * k + 3, none⟩) hg).trans q3
      have r4 := (hb.cell (p := ⟨g, off + 6 * k + 4, none⟩) hg).trans q4
      have r5 := (hb.cell (p := ⟨g, off + 6 * k + 5, none⟩) hg).trans q5
      clear q0 q1 q2 q3 q4 q5
      obtain ⟨fa, fc, hfe, -⟩ := (HP.out.each p[k] (List.getElem_mem hlt)).shape
      have HSTP := Lib.hid (HUT.out l k hlt)
      have hio := fun W => idx_of (P := Try.prog) un_int sz_int1 ob 0 p.length p.length k hlt W
      simp only [Nat.one_mul, Nat.zero_add] at hio
      have oc := HR.out.cell k (by rw [HUL.out]; exact hlt)
      have of := HR.out.free k (by rw [HUL.out]; exact hlt)
      generalize (UT l t k)[k]'(by rw [HUL.out]; exact hlt) = old at *
      have HLT := Lib.hid hlt
      have HL3 := Lib.hid (show k < (UT l t k).length by rw [HUL.out]; exact hlt)
      have hzo := z1 (show ob + 1 ≤ wr.heap.size from HR.out.lt)
      generalize p[k] = o at *
      obtain ⟨tt, ⟨c0, c1⟩, u, kd, fv, src⟩ := o
      simp only at r0 r1 r2 r3 r4 r5 hfe HSTP
      subst hfe
      by_cases hgt : t < tt
      · have hd : decide (t < tt) = true := decide_eq_true hgt
        rw [if_pos hgt] at HSTP
        clear hgt
        go_wp2
        go_roundw
        case rel => exact ⟨k + 1, HLT.out, by simp, Lib.hid (by rw [HSTP.out]; exact (HR.out.set k HL3.out _).alloc _), (hb.setCell (p := ⟨ob, k, none⟩) hob1 _).alloc (by simp; omega) _⟩
        case measure => simp only [intOf]; have := HLT.out; omega
      · have hd : decide (t < tt) = false := decide_eq_false hgt
        rw [if_neg hgt] at HSTP
        clear hgt
        go_wp2
        go_roundw
        case rel => exact ⟨k + 1, HLT.out, by simp, Lib.hid (by rw [HSTP.out]; exact HR.out.alloc _), hb.alloc hs _⟩
        case measure => simp only [intOf]; have := HLT.out; omega
theorem Until_l (p : List OpD) (v : Value) (t : Int) (w : World) (hp : ProgRd w v p) : Calls Try.prog 14 #[v, .int .i64 t] w fun e w' => UntR p t e w' ∧ Below w.heap.size w w' := (Until_w p v t w hp).mono fun e w' q => ⟨q.1.unt, q.2⟩
theorem Run_w (p : List OpD) (v : Value) (w : World) (hp : ProgRd w v p) : Calls Try.prog 12 #[v] w fun e w' => UntW p 100000 w.heap.size e w' ∧ Below w.heap.size w w' := by
  have H := Lib.hid (Until_w p v 100000 w hp)
  clear hp
  generalize hQ : UntW p 100000 w.heap.size = Q at *
  have HQ := Lib.hid (show ∀ e w', Q e w' → ∃ v' z, e = .returned (.tuple #[v', .int .i64 z]) from by
    subst hQ; intro e w' h; unfold UntW at h; split at h
    · obtain ⟨b, m, he, -⟩ := h; exact ⟨_, _, he⟩
    · exact ⟨_, _, h⟩)
  clear hQ
  go_enter Try.func12, Try.ntmps12
  go_wp2_with (go_at_call 14; refine H.out.mono ?_; go_must (rintro e w1 ⟨hq, hb1⟩; obtain ⟨v', z, he⟩ := HQ.out _ _ hq; subst he; have HQ1 := Lib.hid hq; clear hq))
  go_ret2
  exact ⟨HQ1.out, hb1⟩
theorem Run_l (p : List OpD) (v : Value) (w : World) (hp : ProgRd w v p) : Calls Try.prog 12 #[v] w fun e w' => UntR p 100000 e w' ∧ Below w.heap.size w w' := (Run_w p v w hp).mono fun e w' q => ⟨q.1.unt, q.2⟩
end Go.Proofs.Ytbjbdochffocoaa
