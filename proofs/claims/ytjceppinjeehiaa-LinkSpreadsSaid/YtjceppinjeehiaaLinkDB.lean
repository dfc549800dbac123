/- The walk of the law LinkSpreads: it returns true. -/
import Derived.Test.YtjceppinjeehiaaLinkDA
namespace Go.Proofs.Ytjceppinjeehiaa
open Go.RowKit
theorem grid_near (links : List C2) (k : Nat) : ∀ c ∈ gridL links k, Near 36 c := fun c hc => by
  simp only [gridL, gridTo, List.mem_filter, List.mem_map, List.mem_range] at hc
  obtain ⟨⟨q, hq, rfl⟩, -⟩ := hc
  simp only [Near, qc, plc]
  omega
set_option maxHeartbeats 4000000 in
set_option maxRecDepth 100000 in
theorem LinkSpreads_any (links : List C2) (h8 : Int) (hh : 0 ≤ h8 ∧ h8 ≤ 255) (m0 m1 : Int) (w : World) (g off : Nat) (v : Value) (hv : CRd w v g off links) :
    Calls Try.prog 5 #[v, .int .u8 h8, .agg #[.int .i64 (m0), .int .i64 (m1)]] w fun e w' => e = .returned (.bool true) ∧ Below w.heap.size w w' := by
  have HV := Lib.hid hv
  obtain ⟨a, cap, rfl, -⟩ := hv.at
  clear hv
  obtain ⟨hh1, hh2⟩ := hh
  by_cases h30 : 30 < links.length
  · have H30 := Lib.hid (decide_eq_true h30); clear h30
    go_enter Try.func5, Try.ntmps5
    go_wp2_with (first | (go_at_call 6; refine (many_l links _ _ _).mono ?_; go_must (rintro e0 w0 ⟨rfl, rfl⟩; rw [H30.out])) | (go_at_call 7; refine (Awake_l _).mono ?_; go_must (rintro e9 w9 ⟨rfl, hb9⟩)))
    go_ret
    exact ⟨rfl, by repeat (first | exact Below.refl _ _ | assumption | (refine Below.drew ?_) | (refine below_drewN ?_ _) | (refine Below.alloc ?_ (by first | (simp; done) | (simp; omega) | omega) _) | (refine Below.setCell ?_ (by first | (simp; done) | (simp; omega) | omega) _) | (refine Below.trans ?_ (Below.mono (by assumption) (by first | (simp; done) | (simp; omega) | omega))))⟩
  have hl : links.length ≤ 1000 := by omega
  have H30 := Lib.hid (decide_eq_false h30); clear h30
  obtain ⟨k, hk⟩ : ∃ k : Nat, h8 % 5 = k := ⟨(h8 % 5).toNat, by omega⟩
  have hk4 : k ≤ 4 := by omega
  have K := Below.refl (w.heap.size + 1) (w.alloc (.cells #[.int .i64 m0, .int .i64 m1] 24))
  cases hval : validL links
  · have HR := Lib.hid (fun w' (hb : Below w.heap.size w w') => Reach_l links hl (h8 % 5) w' g off (.slice a links.length cap) (HV.out.below hb))
    have HB := Lib.hid (fun w' (hb : Below w.heap.size w w') => Back_l links hl w' g off (.slice a links.length cap) (HV.out.below hb))
    have H := Lib.hid hval
    clear hval hl hk
    go_enter Try.func5, Try.ntmps5
    go_wp2_with (first | (go_at_call 6; refine (many_l links _ _ _).mono ?_; go_must (rintro e0 w0 ⟨rfl, rfl⟩; rw [H30.out])) | (go_at_call 14; refine (HR.out _ (by repeat (first | exact Below.refl _ _ | assumption | (refine Below.drew ?_) | (refine below_drewN ?_ _) | (refine Below.alloc ?_ (by first | (simp; done) | (simp; omega) | omega) _) | (refine Below.setCell ?_ (by first | (simp; done) | (simp; omega) | omega) _) | (refine Below.trans ?_ (Below.mono (by assumption) (by first | (simp; done) | (simp; omega) | omega)))))).mono ?_; go_must (rintro e w1 ⟨hr, hb1⟩; obtain rfl := (hr.resolve_right (fun h => by rcases h with ⟨h, _⟩ | ⟨h, _⟩ <;> (rw [H.out] at h; cases h))).2; clear hr; have K' := K.trans (c := w1) (by repeat (first | exact Below.refl _ _ | assumption | (refine Below.drew ?_) | (refine below_drewN ?_ _) | (refine Below.alloc ?_ (by first | (simp; done) | (simp; omega) | omega) _) | (refine Below.setCell ?_ (by first | (simp; done) | (simp; omega) | omega) _) | (refine Below.trans ?_ (Below.mono (by assumption) (by first | (simp; done) | (simp; omega) | omega))))); clear K; (try clear hc); (try clear hf); (try clear hz); (try clear hz0); have K := K'; clear K'; obtain ⟨hc, hf⟩ := bcellB K; have hz0 := K.size; (try simp at hz0); have hz := z1 hz0; clear hb1)) | (go_at_call 16; refine (HB.out _ (by repeat (first | exact Below.refl _ _ | assumption | (refine Below.drew ?_) | (refine below_drewN ?_ _) | (refine Below.alloc ?_ (by first | (simp; done) | (simp; omega) | omega) _) | (refine Below.setCell ?_ (by first | (simp; done) | (simp; omega) | omega) _) | (refine Below.trans ?_ (Below.mono (by assumption) (by first | (simp; done) | (simp; omega) | omega)))))).mono ?_; go_must (rintro e w2 ⟨hr, hb2⟩; obtain rfl := (hr.resolve_right (fun h => by have := h.1; rw [H.out] at this; cases this)).2; clear hr; have K' := K.trans (c := w2) (by repeat (first | exact Below.refl _ _ | assumption | (refine Below.drew ?_) | (refine below_drewN ?_ _) | (refine Below.alloc ?_ (by first | (simp; done) | (simp; omega) | omega) _) | (refine Below.setCell ?_ (by first | (simp; done) | (simp; omega) | omega) _) | (refine Below.trans ?_ (Below.mono (by assumption) (by first | (simp; done) | (simp; omega) | omega))))); clear K; (try clear hc); (try clear hf); (try clear hz); (try clear hz0); have K := K'; clear K'; obtain ⟨hc, hf⟩ := bcellB K; have hz0 := K.size; (try simp at hz0); have hz := z1 hz0; clear hb2)) | (go_at_call 7; refine (Awake_l _).mono ?_; go_must (rintro e9 w9 ⟨rfl, hb9⟩)))
    go_ret
    exact ⟨rfl, by repeat (first | exact Below.refl _ _ | assumption | (refine Below.drew ?_) | (refine below_drewN ?_ _) | (refine Below.alloc ?_ (by first | (simp; done) | (simp; omega) | omega) _) | (refine Below.setCell ?_ (by first | (simp; done) | (simp; omega) | omega) _) | (refine Below.trans ?_ (Below.mono (by assumption) (by first | (simp; done) | (simp; omega) | omega))))⟩
  have hv2 := valid_neg hval
  have hrv : reachV links (h8 % 5) = (gridL links k, 0) := by rw [hk, reachV, if_pos hval, if_pos (by omega), Int.toNat_natCast]
  have hrv2 : reachV (links.map neg2) (h8 % 5) = (gridL (links.map neg2) k, 0) := by rw [hk, reachV, if_pos hv2, if_pos (by omega), Int.toNat_natCast]
  have hbv : backV links = (links.map neg2, 0) := by rw [backV, if_pos hval]
  have hr := fun w' (hb : Below w.heap.size w w') => (Reach_l links hl (h8 % 5) w' g off (.slice a links.length cap) (HV.out.below hb)).mono fun e w2 ⟨h, hb2⟩ => (⟨by have := reachV_of h; rw [hrv] at this; exact this, hb2⟩ : (∃ v' g', CRd w2 v' g' 0 (gridL links k) ∧ e = Ending.returned (.tuple #[v', .int .i64 0])) ∧ Below w'.heap.size w' w2)
  have hbk := fun w' (hb : Below w.heap.size w w') => (Back_l links hl w' g off (.slice a links.length cap) (HV.out.below hb)).mono fun e w2 ⟨h, hb2⟩ => (⟨by have := backV_of h; rw [hbv] at this; exact this, hb2⟩ : (∃ v' g', CRd w2 v' g' 0 (links.map neg2) ∧ e = Ending.returned (.tuple #[v', .int .i64 0])) ∧ Below w'.heap.size w' w2)
  have hlm : (links.map neg2).length ≤ 1000 := by rw [List.length_map]; exact hl
  have hr2 := fun w' g' v' (hc : CRd w' v' g' 0 (links.map neg2)) => (Reach_l (links.map neg2) hlm (h8 % 5) w' g' 0 v' hc).mono fun e w2 ⟨h, hb2⟩ => (⟨by have := reachV_of h; rw [hrv2] at this; exact this, hb2⟩ : (∃ v' g', CRd w2 v' g' 0 (gridL (links.map neg2) k) ∧ e = Ending.returned (.tuple #[v', .int .i64 0])) ∧ Below w'.heap.size w' w2)
  have HH := Lib.hid (fun w' (hb : Below w.heap.size w w') => Hops_l links hl m0 m1 w' g off (.slice a links.length cap) (HV.out.below hb))
  obtain ⟨nn, ee, hr0⟩ := hopsR_ex links (m0, m1)
  have HR0 := Lib.hid hr0
  have HF := Lib.hid (fun (he : ee ≠ 2) => found_hops hval hk4 hr0 he)
  have HG := Lib.hid (back_grid hval hk4)
  have HLL := Lib.hid (show (gridL links k).length ≤ 5329 from gridTo_len links k 5329)
  have HSO := Lib.hid (gridL_sorted links k)
  have HNR := Lib.hid (grid_near links k)
  rw [HG.out] at hr2
  have HML := Lib.hid (show ((gridL links k).map neg2).reverse.length = (gridL links k).length by simp)
  have HMA := Lib.hid (show ∀ i (hi : i < (gridL links k).length), ∃ hj : (gridL links k).length - 1 - i < ((gridL links k).map neg2).reverse.length, ((gridL links k).map neg2).reverse[(gridL links k).length - 1 - i] = neg2 (gridL links k)[i] from fun i hi => ⟨by simp; omega, by
    rw [List.getElem_reverse]
    simp only [List.getElem_map, List.length_map]
    congr 2
    omega⟩)
  clear hr0 hrv hrv2 hbv HG hv2 hl hval
  generalize ((gridL links k).map neg2).reverse = M at *
  generalize gridL links k = L at *
  have HR1 := Lib.hid hr; have HBK := Lib.hid hbk; have HR2 := Lib.hid hr2
  have HKE := Lib.hid hk
  clear hr hbk hr2 hlm hk
  go_enter Try.func5, Try.ntmps5
  go_wp2_with (first | (go_at_call 6; refine (many_l links _ _ _).mono ?_; go_must (rintro e0 w0 ⟨rfl, rfl⟩; rw [H30.out])) | (go_at_call 14; refine (HR1.out _ (by repeat (first | exact Below.refl _ _ | assumption | (refine Below.drew ?_) | (refine below_drewN ?_ _) | (refine Below.alloc ?_ (by first | (simp; done) | (simp; omega) | omega) _) | (refine Below.setCell ?_ (by first | (simp; done) | (simp; omega) | omega) _) | (refine Below.trans ?_ (Below.mono (by assumption) (by first | (simp; done) | (simp; omega) | omega)))))).mono ?_; clear HR1; go_must (rintro e w1 ⟨⟨v1, g1, hc1, rfl⟩, hb1⟩; obtain ⟨a1, c1, rfl, -⟩ := hc1.at; have C1 := Lib.hid hc1; clear hc1; have K' := K.trans (c := w1) (by repeat (first | exact Below.refl _ _ | assumption | (refine Below.drew ?_) | (refine below_drewN ?_ _) | (refine Below.alloc ?_ (by first | (simp; done) | (simp; omega) | omega) _) | (refine Below.setCell ?_ (by first | (simp; done) | (simp; omega) | omega) _) | (refine Below.trans ?_ (Below.mono (by assumption) (by first | (simp; done) | (simp; omega) | omega))))); clear K; (try clear hc); (try clear hf); (try clear hz); (try clear hz0); have K := K'; clear K'; obtain ⟨hc, hf⟩ := bcellB K; have hz0 := K.size; (try simp at hz0); have hz := z1 hz0; clear hb1)) | (go_at_call 16; refine (HBK.out _ (by repeat (first | exact Below.refl _ _ | assumption | (refine Below.drew ?_) | (refine below_drewN ?_ _) | (refine Below.alloc ?_ (by first | (simp; done) | (simp; omega) | omega) _) | (refine Below.setCell ?_ (by first | (simp; done) | (simp; omega) | omega) _) | (refine Below.trans ?_ (Below.mono (by assumption) (by first | (simp; done) | (simp; omega) | omega)))))).mono ?_; go_must (rintro e w2 ⟨⟨v2, g2, hc2, rfl⟩, hb2⟩; obtain ⟨a2, c2, rfl, -⟩ := hc2.at; rw [List.length_map] at hc2; have C2 := Lib.hid hc2; have C1 := Lib.hid (C1.out.below hb2); clear hc2; rw [List.length_map]; have K' := K.trans (c := w2) (by repeat (first | exact Below.refl _ _ | assumption | (refine Below.drew ?_) | (refine below_drewN ?_ _) | (refine Below.alloc ?_ (by first | (simp; done) | (simp; omega) | omega) _) | (refine Below.setCell ?_ (by first | (simp; done) | (simp; omega) | omega) _) | (refine Below.trans ?_ (Below.mono (by assumption) (by first | (simp; done) | (simp; omega) | omega))))); clear K; (try clear hc); (try clear hf); (try clear hz); (try clear hz0); have K := K'; clear K'; obtain ⟨hc, hf⟩ := bcellB K; have hz0 := K.size; (try simp at hz0); have hz := z1 hz0; clear hb2)) | (go_at_call 14; refine (HR2.out _ _ _ C2.out).mono ?_; clear HR2; go_must (rintro e w3 ⟨⟨v3, g3, hc3, rfl⟩, hb3⟩; obtain ⟨a3, c3, rfl, -⟩ := hc3.at; rw [HML.out] at hc3; rw [HML.out]; have C3 := Lib.hid hc3; have C1 := Lib.hid (C1.out.below hb3); clear hc3; have K' := K.trans (c := w3) (by repeat (first | exact Below.refl _ _ | assumption | (refine Below.drew ?_) | (refine below_drewN ?_ _) | (refine Below.alloc ?_ (by first | (simp; done) | (simp; omega) | omega) _) | (refine Below.setCell ?_ (by first | (simp; done) | (simp; omega) | omega) _) | (refine Below.trans ?_ (Below.mono (by assumption) (by first | (simp; done) | (simp; omega) | omega))))); clear K; (try clear hc); (try clear hf); (try clear hz); (try clear hz0); have K := K'; clear K'; obtain ⟨hc, hf⟩ := bcellB K; have hz0 := K.size; (try simp at hz0); have hz := z1 hz0; clear hb3)) | (go_at_call 8; refine (HH.out _ (by repeat (first | exact Below.refl _ _ | assumption | (refine Below.drew ?_) | (refine below_drewN ?_ _) | (refine Below.alloc ?_ (by first | (simp; done) | (simp; omega) | omega) _) | (refine Below.setCell ?_ (by first | (simp; done) | (simp; omega) | omega) _) | (refine Below.trans ?_ (Below.mono (by assumption) (by first | (simp; done) | (simp; omega) | omega)))))).mono ?_; go_must (rintro e w4 ⟨n4, e4, hr4, rfl, hb4⟩; obtain ⟨rfl, rfl⟩ := hopsR_uniq HR0.out hr4; clear hr4; have C1 := Lib.hid (C1.out.below hb4); have C3 := Lib.hid (C3.out.below hb4); have K' := K.trans (c := w4) (by repeat (first | exact Below.refl _ _ | assumption | (refine Below.drew ?_) | (refine below_drewN ?_ _) | (refine Below.alloc ?_ (by first | (simp; done) | (simp; omega) | omega) _) | (refine Below.setCell ?_ (by first | (simp; done) | (simp; omega) | omega) _) | (refine Below.trans ?_ (Below.mono (by assumption) (by first | (simp; done) | (simp; omega) | omega))))); clear K; (try clear hc); (try clear hf); (try clear hz); (try clear hz0); have K := K'; clear K'; obtain ⟨hc, hf⟩ := bcellB K; have hz0 := K.size; (try simp at hz0); have hz := z1 hz0; clear hb4)))
  obtain ⟨a1', c1', he1, hx1⟩ := C1.out.at
  injection he1 with q1 _ q2
  subst q1 q2
  obtain ⟨a3', c3', he3, hx3⟩ := C3.out.at
  rw [HML.out] at he3
  injection he3 with q1 _ q2
  subst q1 q2
  have X1 := Lib.hid hx1; have X3 := Lib.hid hx3
  have gm0 : w4.cell? ⟨w.heap.size, 0, none⟩ = some (.int .i64 m0) := (K.cell (p := ⟨w.heap.size, 0, none⟩) (by simp)).trans (by go_simp)
  have gm1 : w4.cell? ⟨w.heap.size, 1, none⟩ = some (.int .i64 m1) := (K.cell (p := ⟨w.heap.size, 1, none⟩) (by simp)).trans (by go_simp)
  have HKK := Lib.hid K
  have hlb := HLL.out
  clear hx1 hx3 hc hf hz K
  go_loopw [16, 72] (fun t16 t72 wr => ∃ i : Nat, i ≤ L.length ∧ t72 = .int .i64 (i : Nat) ∧ t16 = .bool (decide ((m0, m1) ∈ L.take i)) ∧ Below w4.heap.size w4 wr) (fun _ t72 _ => L.length - (intOf t72).toNat)
  case atStart => exact ⟨0, Nat.zero_le _, rfl, by simp, Below.refl _ _⟩
  case round =>
    obtain ⟨i, hi, rfl, rfl, hb⟩ := hrel
    have hbF : Below w.heap.size w wr := ((Below.refl _ _).alloc (Nat.le_refl _) _).trans ((HKK.out.mono (by omega)).trans (hb.mono (by omega)))
    by_cases hlt : i < L.length
    rotate_left
    · obtain rfl : i = L.length := by omega
      by_cases he2 : e4 = 2
      · subst he2
        go_wp2_with (first | (go_at_call 7; refine (Awake_l _).mono ?_; go_must (rintro e9 w9 ⟨rfl, hb9⟩)))
        go_ret
        exact ⟨rfl, hbF.trans (hb9.mono hbF.size)⟩
      · have hff := HF.out he2
        rw [← HKE.out] at hff
        rw [List.take_length, hff]
        have he2b : (e4 == 2) = false := by simpa using he2
        clear hff he2
        by_cases he0 : e4 = 0
        · subst he0
          by_cases hle : n4 ≤ h8 % 5
          · have hd : decide (n4 ≤ h8 % 5) = true := decide_eq_true hle
            go_wp2_with (first | (go_at_call 7; refine (Awake_l _).mono ?_; go_must (rintro e9 w9 ⟨rfl, hb9⟩)))
            go_ret
            exact ⟨rfl, hbF.trans (hb9.mono hbF.size)⟩
          · have hd : decide (n4 ≤ h8 % 5) = false := decide_eq_false hle
            go_wp2_with (first | (go_at_call 7; refine (Awake_l _).mono ?_; go_must (rintro e9 w9 ⟨rfl, hb9⟩)))
            go_ret
            exact ⟨rfl, hbF.trans (hb9.mono hbF.size)⟩
        · have hd : decide (e4 = 0) = false := decide_eq_false he0
          have he0b : (e4 == 0) = false := by simpa using he0
          go_wp2_with (first | (go_at_call 7; refine (Awake_l _).mono ?_; go_must (rintro e9 w9 ⟨rfl, hb9⟩)))
          go_ret
          exact ⟨rfl, hbF.trans (hb9.mono hbF.size)⟩
    obtain ⟨hi1, hg1, d0, d1⟩ := X1.out i hlt
    obtain ⟨hj, hjm⟩ := HMA.out i hlt
    obtain ⟨hi3, hg3, d2, d3⟩ := X3.out _ hj
    rw [hjm] at d2 d3
    rw [HML.out] at hi3
    simp only [neg2, Nat.zero_add] at d0 d1 d2 d3 hi1 hi3
    have r0 := (hb.cell (p := ⟨g1, 2 * i, none⟩) hg1).trans d0
    have r1 := (hb.cell (p := ⟨g1, 2 * i + 1, none⟩) hg1).trans d1
    have r2 := (hb.cell (p := ⟨g3, 2 * (L.length - 1 - i), none⟩) hg3).trans d2
    have r3 := (hb.cell (p := ⟨g3, 2 * (L.length - 1 - i) + 1, none⟩) hg3).trans d3
    have hi4 : ∀ W, (Instr.indexAt 22 (.slice a3 L.length c3) (.int .i64 ((L.length : Int) - 1 - (i : Int)))).run Try.prog W = .ok (.pointer (some ⟨g3, 2 * (L.length - 1 - i), none⟩)) W := fun W => by
      rw [← hi3 W, show ((L.length - 1 - i : Nat) : Int) = (L.length : Int) - 1 - (i : Int) by omega]
    clear d0 d1 d2 d3 hjm hj hi3
    have hnc := HNR.out _ (List.getElem_mem hlt)
    have HT := Lib.hid (show decide ((m0, m1) ∈ L.take (i + 1)) = (decide ((m0, m1) ∈ L.take i) || decide ((m0, m1) = L[i])) by
      have ht : L.take (i + 1) = L.take i ++ [L[i]] := by simp
      rw [ht, Bool.eq_iff_iff]
      simp only [decide_eq_true_eq, Bool.or_eq_true, List.mem_append, List.mem_singleton])
    have r4 := (hb.cell (p := ⟨w.heap.size, 0, none⟩) (by simp; omega)).trans gm0
    have r5 := (hb.cell (p := ⟨w.heap.size, 1, none⟩) (by simp; omega)).trans gm1
    have hsz := hb.size
    have hz4 : w.heap.size + 1 ≤ wr.heap.size := by omega
    have hz := z1 hz4
    have hy := yy hz.1
    have hy1 := yy (show g1 < wr.heap.size by omega)
    have hy3 := yy (show g3 < wr.heap.size by omega)
    have hz1 := z1 (show g1 + 1 ≤ wr.heap.size by omega)
    have hz3 := z1 (show g3 + 1 ≤ wr.heap.size by omega)
    have HL := Lib.hid hlt
    have HPREV := Lib.hid (show 0 < i → lt2 (L.getD (i - 1) (0, 0)) L[i] from fun h0 => by
      have := List.pairwise_iff_getElem.1 HSO.out (i - 1) i (by omega) hlt (by omega)
      rw [show L.getD (i - 1) (0, 0) = L[i - 1] from by rw [List.getD_eq_getElem?_getD, List.getElem?_eq_getElem (by omega), Option.getD_some]]
      exact this)
    generalize hc9 : L[i] = c at *
    have HC9 := Lib.hid hc9; clear hc9
    obtain ⟨q1, q2, q3, q4⟩ := hnc
    have e1 : IntKind.i64.wrap (-c.1) = -c.1 := IntWalk.i64_in _ (by omega)
    have e2 : IntKind.i64.wrap (-c.2) = -c.2 := IntWalk.i64_in _ (by omega)
    have heq := fun W => eq_cell (-c.1) (-c.2) (-c.1) (-c.2) W
    have hxt : (decide (-c.1 = -c.1) && decide (-c.2 = -c.2)) = true := by simp
    rw [hxt] at heq
    have heq2 := fun W => eq_cell c.1 c.2 m0 m1 W
    have HT2 := Lib.hid (show (decide (c.1 = m0) && decide (c.2 = m1)) = decide ((m0, m1) = c) by
      obtain ⟨x, y⟩ := c
      rw [Bool.eq_iff_iff]
      simp only [Bool.and_eq_true, decide_eq_true_eq, Prod.mk.injEq]
      exact ⟨fun ⟨a, b⟩ => ⟨a.symm, b.symm⟩, fun ⟨a, b⟩ => ⟨a.symm, b.symm⟩⟩)
    generalize decide ((m0, m1) ∈ L.take i) = fd at *
    have HB9 := Lib.hid hb
    rcases Nat.eq_zero_or_pos i with hi0 | hi0
    · subst hi0
      have hg0 : decide ((0 : Int) < 0) = false := rfl
      simp only [show ((0 : Nat) : Int) = 0 from rfl, Nat.mul_zero, Nat.zero_add, Nat.sub_zero, Int.sub_zero] at hi1 hi4 r0 r1 r2 r3 ⊢
      go_wp2
      go_quiet (fail)
      cases fd
      · go_wp2
        refine ⟨⟨0 + 1, by omega, by first | rfl | (push_cast; rfl), by rw [HT.out, HT2.out]; rfl, HB9.out.trans (by repeat (first | exact Below.refl _ _ | assumption | (refine Below.drew ?_) | (refine below_drewN ?_ _) | (refine Below.alloc ?_ (by first | (simp; done) | (simp; omega) | omega) _) | (refine Below.setCell ?_ (by first | (simp; done) | (simp; omega) | omega) _) | (refine Below.trans ?_ (Below.mono (by assumption) (by first | (simp; done) | (simp; omega) | omega)))))⟩, ?_⟩
        simp only [intOf]
        omega
      · go_wp2
        refine ⟨⟨0 + 1, by omega, by first | rfl | (push_cast; rfl), by rw [HT.out]; rfl, HB9.out.trans (by repeat (first | exact Below.refl _ _ | assumption | (refine Below.drew ?_) | (refine below_drewN ?_ _) | (refine Below.alloc ?_ (by first | (simp; done) | (simp; omega) | omega) _) | (refine Below.setCell ?_ (by first | (simp; done) | (simp; omega) | omega) _) | (refine Below.trans ?_ (Below.mono (by assumption) (by first | (simp; done) | (simp; omega) | omega)))))⟩, ?_⟩
        simp only [intOf]
        omega
    · have hg0 : decide ((0 : Int) < (i : Int)) = true := decide_eq_true (by omega)
      have hp := HPREV.out hi0
      have hw1 : IntKind.i64.wrap ((i : Int) - 1) = (i : Int) - 1 := IntWalk.i64_in _ (by omega)
      obtain ⟨hi5, -, d4, d5⟩ := X1.out (i - 1) (by omega)
      rw [show L[i - 1] = L.getD (i - 1) (0, 0) from by rw [List.getD_eq_getElem?_getD, List.getElem?_eq_getElem (by omega), Option.getD_some]] at d4 d5
      simp only [Nat.zero_add] at d4 d5 hi5
      rw [show ((i - 1 : Nat) : Int) = (i : Int) - 1 by omega] at hi5
      have r6 := (hb.cell (p := ⟨g1, 2 * (i - 1), none⟩) hg1).trans d4
      have r7 := (hb.cell (p := ⟨g1, 2 * (i - 1) + 1, none⟩) hg1).trans d5
      clear d4 d5
      generalize L.getD (i - 1) (0, 0) = p at *
      rcases hp with hp | ⟨hp1, hp2⟩
      · have b1 : decide (c.1 < p.1) = false := decide_eq_false (by omega)
        have b2 : decide (c.1 = p.1) = false := decide_eq_false (by omega)
        have b3 : (c.1 == p.1) = false := beq_eq_false_iff_ne.2 (by omega)
        have b4 : decide (p.1 < c.1) = true := decide_eq_true hp
        go_wp2
        go_quiet (fail)
        cases fd
        · go_wp2
          refine ⟨⟨i + 1, by omega, by first | rfl | (push_cast; rfl), by rw [HT.out, HT2.out]; rfl, HB9.out.trans (by repeat (first | exact Below.refl _ _ | assumption | (refine Below.drew ?_) | (refine below_drewN ?_ _) | (refine Below.alloc ?_ (by first | (simp; done) | (simp; omega) | omega) _) | (refine Below.setCell ?_ (by first | (simp; done) | (simp; omega) | omega) _) | (refine Below.trans ?_ (Below.mono (by assumption) (by first | (simp; done) | (simp; omega) | omega)))))⟩, ?_⟩
          simp only [intOf]
          omega
        · go_wp2
          refine ⟨⟨i + 1, by omega, by first | rfl | (push_cast; rfl), by rw [HT.out]; rfl, HB9.out.trans (by repeat (first | exact Below.refl _ _ | assumption | (refine Below.drew ?_) | (refine below_drewN ?_ _) | (refine Below.alloc ?_ (by first | (simp; done) | (simp; omega) | omega) _) | (refine Below.setCell ?_ (by first | (simp; done) | (simp; omega) | omega) _) | (refine Below.trans ?_ (Below.mono (by assumption) (by first | (simp; done) | (simp; omega) | omega)))))⟩, ?_⟩
          simp only [intOf]
          omega
      · have b1 : decide (c.1 < p.1) = false := decide_eq_false (by omega)
        have b2 : decide (c.1 = p.1) = true := decide_eq_true (by omega)
        have b3 : (c.1 == p.1) = true := beq_iff_eq.2 (by omega)
        have b4 : decide (c.2 ≤ p.2) = false := decide_eq_false (by omega)
        have b5 : decide (p.2 < c.2) = true := decide_eq_true hp2
        go_wp2
        go_quiet (fail)
        cases fd
        · go_wp2
          refine ⟨⟨i + 1, by omega, by first | rfl | (push_cast; rfl), by rw [HT.out, HT2.out]; rfl, HB9.out.trans (by repeat (first | exact Below.refl _ _ | assumption | (refine Below.drew ?_) | (refine below_drewN ?_ _) | (refine Below.alloc ?_ (by first | (simp; done) | (simp; omega) | omega) _) | (refine Below.setCell ?_ (by first | (simp; done) | (simp; omega) | omega) _) | (refine Below.trans ?_ (Below.mono (by assumption) (by first | (simp; done) | (simp; omega) | omega)))))⟩, ?_⟩
          simp only [intOf]
          omega
        · go_wp2
          refine ⟨⟨i + 1, by omega, by first | rfl | (push_cast; rfl), by rw [HT.out]; rfl, HB9.out.trans (by repeat (first | exact Below.refl _ _ | assumption | (refine Below.drew ?_) | (refine below_drewN ?_ _) | (refine Below.alloc ?_ (by first | (simp; done) | (simp; omega) | omega) _) | (refine Below.setCell ?_ (by first | (simp; done) | (simp; omega) | omega) _) | (refine Below.trans ?_ (Below.mono (by assumption) (by first | (simp; done) | (simp; omega) | omega)))))⟩, ?_⟩
          simp only [intOf]
          omega
end Go.Proofs.Ytjceppinjeehiaa
