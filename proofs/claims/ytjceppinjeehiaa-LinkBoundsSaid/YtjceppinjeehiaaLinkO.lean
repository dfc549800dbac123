/- The walk of link.IsWay. -/
import Derived.Test.YtjceppinjeehiaaLinkN
namespace Go.Proofs.Ytjceppinjeehiaa
open Go.RowKit
def okIdx (n : Nat) (i : Int) : Bool := decide (0 ≤ i) && decide (i ≤ (n : Int) - 1)
def sumW (links : List C2) (way : List Int) : C2 := way.foldl (fun c i => add2 c (links.getD i.toNat (0, 0))) (0, 0)
theorem sumW_snoc (links : List C2) (way : List Int) (i : Int) : sumW links (way ++ [i]) = add2 (sumW links way) (links.getD i.toNat (0, 0)) := by simp [sumW, List.foldl_append]
theorem sumW_near {links : List C2} (hl : ∀ l ∈ links, Near 3 l) (way : List Int) : Near (3 * way.length) (sumW links way) := by
  have key : ∀ (way : List Int) (c : C2) (m : Int), Near m c → Near (m + 3 * way.length) (way.foldl (fun c i => add2 c (links.getD i.toNat (0, 0))) c) := by
    intro way
    induction way with
    | nil => intro c m h; simpa using h
    | cons i r ih =>
      intro c m h
      have hn : Near 3 (links.getD i.toNat (0, 0)) := by
        by_cases hi : i.toNat < links.length
        · simp only [List.getD_eq_getElem?_getD, List.getElem?_eq_getElem hi, Option.getD_some]; exact hl _ (List.getElem_mem hi)
        · simp only [List.getD_eq_getElem?_getD, List.getElem?_eq_none (Nat.le_of_not_lt hi), Option.getD_none, Near]; omega
      have := ih (add2 c (links.getD i.toNat (0, 0))) (m + 3) (h.add hn)
      simp only [List.foldl_cons, List.length_cons]
      exact this.mono (by omega)
  have := key way (0, 0) 0 (by simp [Near])
  simpa [sumW] using this
/-- What IsWay says. -/
def wayV (links : List C2) (m : C2) (way : List Int) : Bool × Int :=
  if chkL links m = 0 then (if 100 < way.length then (false, 2) else (way.all (okIdx links.length) && (sortedB way && decide (sumW links way = m)), 0)) else (false, chkL links m)
set_option maxHeartbeats 4000000 in
set_option maxRecDepth 100000 in
theorem isWay_l (links : List C2) (hl : links.length ≤ 1000) (m0 m1 : Int) (way : List Int) (w : World) (g off : Nat) (v vw : Value) (hv : CRd w v g off links) (hw : ISl w w.heap.size vw way) :
    Calls Try.prog 11 #[v, .agg #[.int .i64 (m0), .int .i64 (m1)], vw] w fun e w' => e = .returned (.tuple #[.bool (wayV links (m0, m1) way).1, .int .i64 (wayV links (m0, m1) way).2]) ∧ Below w.heap.size w w' := by
  have HV := Lib.hid hv
  have HW := Lib.hid hw
  obtain ⟨a, cap, rfl, hx⟩ := hv.at
  obtain ⟨aw, capw, gw, ow, rfl, hmw, hxw⟩ := hw.at
  have HX := Lib.hid hx; have HXW := Lib.hid hxw
  clear hv hw hx hxw
  unfold maxLen at hmw
  have HC := Lib.hid (fun w' (hb : Below w.heap.size w w') => checked_l links hl m0 m1 w' g off (.slice a links.length cap) (HV.out.below hb))
  have K := Below.refl (w.heap.size + 1) (w.alloc (.cells #[.int .i64 m0, .int .i64 m1] 24))
  by_cases h : chkL links (m0, m1) = 0
  rotate_left
  · have HR := Lib.hid (show wayV links (m0, m1) way = (false, chkL links (m0, m1)) by rw [wayV, if_neg h])
    have hne : (chkL links (m0, m1) != 0) = true := by simpa using h
    clear h
    generalize chkL links (m0, m1) = er at *
    go_enter Try.func11, Try.ntmps11
    go_wp2_with ((go_at_call 19; refine (HC.out _ (by repeat (first | exact Below.refl _ _ | assumption | (refine Below.drew ?_) | (refine below_drewN ?_ _) | (refine Below.alloc ?_ (by first | (simp; done) | (simp; omega) | omega) _) | (refine Below.setCell ?_ (by first | (simp; done) | (simp; omega) | omega) _) | (refine Below.trans ?_ (Below.mono (by assumption) (by first | (simp; done) | (simp; omega) | omega)))))).mono ?_; go_must (rintro e w1 ⟨rfl, hb1⟩; have K' := K.trans (c := w1) (by repeat (first | exact Below.refl _ _ | assumption | (refine Below.drew ?_) | (refine below_drewN ?_ _) | (refine Below.alloc ?_ (by first | (simp; done) | (simp; omega) | omega) _) | (refine Below.setCell ?_ (by first | (simp; done) | (simp; omega) | omega) _) | (refine Below.trans ?_ (Below.mono (by assumption) (by first | (simp; done) | (simp; omega) | omega))))); clear K; (try clear hc); (try clear hf); (try clear hz); (try clear hz0); have K := K'; clear K'; obtain ⟨hc, hf⟩ := bcellB K; have hz0 := K.size; (try simp at hz0); have hz := z1 hz0; clear hb1)))
    exact bodyPost_ret (v := .tuple #[.bool false, .int .i64 er]) (by simp only [results, Try.results11]; first | (go_simp; done) | (go_simp; rfl)) rfl ⟨by rw [HR.out], by repeat (first | exact Below.refl _ _ | assumption | (refine Below.drew ?_) | (refine below_drewN ?_ _) | (refine Below.alloc ?_ (by first | (simp; done) | (simp; omega) | omega) _) | (refine Below.setCell ?_ (by first | (simp; done) | (simp; omega) | omega) _) | (refine Below.trans ?_ (Below.mono (by assumption) (by first | (simp; done) | (simp; omega) | omega))))⟩
  obtain ⟨⟨h8, hv8⟩, hm20⟩ := chk_ok h
  by_cases h100 : 100 < way.length
  · have HR := Lib.hid (show wayV links (m0, m1) way = (false, 2) by rw [wayV, if_pos h, if_pos h100])
    have H := Lib.hid h; clear h hv8 hm20
    go_enter Try.func11, Try.ntmps11
    go_wp2_with ((go_at_call 19; refine (HC.out _ (by repeat (first | exact Below.refl _ _ | assumption | (refine Below.drew ?_) | (refine below_drewN ?_ _) | (refine Below.alloc ?_ (by first | (simp; done) | (simp; omega) | omega) _) | (refine Below.setCell ?_ (by first | (simp; done) | (simp; omega) | omega) _) | (refine Below.trans ?_ (Below.mono (by assumption) (by first | (simp; done) | (simp; omega) | omega)))))).mono ?_; go_must (rintro e w1 ⟨rfl, hb1⟩; have K' := K.trans (c := w1) (by repeat (first | exact Below.refl _ _ | assumption | (refine Below.drew ?_) | (refine below_drewN ?_ _) | (refine Below.alloc ?_ (by first | (simp; done) | (simp; omega) | omega) _) | (refine Below.setCell ?_ (by first | (simp; done) | (simp; omega) | omega) _) | (refine Below.trans ?_ (Below.mono (by assumption) (by first | (simp; done) | (simp; omega) | omega))))); clear K; (try clear hc); (try clear hf); (try clear hz); (try clear hz0); have K := K'; clear K'; obtain ⟨hc, hf⟩ := bcellB K; have hz0 := K.size; (try simp at hz0); have hz := z1 hz0; clear hb1; rw [H.out])))
    exact bodyPost_ret (v := .tuple #[.bool false, .int .i64 2]) (by simp only [results, Try.results11]; first | (go_simp; done) | (go_simp; rfl)) rfl ⟨by rw [HR.out], by repeat (first | exact Below.refl _ _ | assumption | (refine Below.drew ?_) | (refine below_drewN ?_ _) | (refine Below.alloc ?_ (by first | (simp; done) | (simp; omega) | omega) _) | (refine Below.setCell ?_ (by first | (simp; done) | (simp; omega) | omega) _) | (refine Below.trans ?_ (Below.mono (by assumption) (by first | (simp; done) | (simp; omega) | omega))))⟩
  have HR := Lib.hid (show wayV links (m0, m1) way = (way.all (okIdx links.length) && (sortedB way && decide (sumW links way = (m0, m1))), 0) by rw [wayV, if_pos h, if_neg h100])
  have H := Lib.hid h
  have HN := Lib.hid (fun l hl => (hv8 l hl).1)
  clear h hv8 hm20
  go_enter Try.func11, Try.ntmps11
  go_wp2_with ((go_at_call 19; refine (HC.out _ (by repeat (first | exact Below.refl _ _ | assumption | (refine Below.drew ?_) | (refine below_drewN ?_ _) | (refine Below.alloc ?_ (by first | (simp; done) | (simp; omega) | omega) _) | (refine Below.setCell ?_ (by first | (simp; done) | (simp; omega) | omega) _) | (refine Below.trans ?_ (Below.mono (by assumption) (by first | (simp; done) | (simp; omega) | omega)))))).mono ?_; go_must (rintro e w1 ⟨rfl, hb1⟩; have K' := K.trans (c := w1) (by repeat (first | exact Below.refl _ _ | assumption | (refine Below.drew ?_) | (refine below_drewN ?_ _) | (refine Below.alloc ?_ (by first | (simp; done) | (simp; omega) | omega) _) | (refine Below.setCell ?_ (by first | (simp; done) | (simp; omega) | omega) _) | (refine Below.trans ?_ (Below.mono (by assumption) (by first | (simp; done) | (simp; omega) | omega))))); clear K; (try clear hc); (try clear hf); (try clear hz); (try clear hz0); have K := K'; clear K'; obtain ⟨hc, hf⟩ := bcellB K; have hz0 := K.size; (try simp at hz0); have hz := z1 hz0; clear hb1; rw [H.out])))
  have K0 : Below w.heap.size w w1 := (Below.refl _ _).alloc (Nat.le_refl _) _ |>.trans (K.mono (by omega))
  go_loopw [23] (fun i wr => ∃ k : Nat, k ≤ way.length ∧ i = .int .i64 (k : Nat) ∧ (∀ j (h : j < way.length), j < k → okIdx links.length way[j] = true) ∧ wr.cell? ⟨w1.heap.size, 0, none⟩ = some (.int .i64 (sumW links (way.take k)).1) ∧ wr.cell? ⟨w1.heap.size, 1, none⟩ = some (.int .i64 (sumW links (way.take k)).2) ∧ wr.frozen? ⟨w1.heap.size, 0, none⟩ = false ∧ wr.frozen? ⟨w1.heap.size, 1, none⟩ = false ∧ w1.heap.size < wr.heap.size ∧ Below w1.heap.size w1 wr) (fun i _ => way.length - (intOf i).toNat)
  case atStart => exact ⟨0, Nat.zero_le _, rfl, fun j _ h => absurd h (by omega), by go_simp; rfl, by go_simp; rfl, by go_simp, by go_simp, by simp, (Below.refl _ _).alloc (Nat.le_refl _) _⟩
  case round =>
    obtain ⟨k, hk, rfl, hok, c0, c1, f0, f1, hlt1, hb⟩ := hrel
    have HOK := Lib.hid hok; clear hok
    have hb0 : Below w.heap.size w wr := K0.trans (hb.mono (by omega))
    have gm0 : wr.cell? ⟨w.heap.size, 0, none⟩ = some (.int .i64 m0) := (hb.cell (p := ⟨w.heap.size, 0, none⟩) (by simp; omega)).trans ((K.cell (p := ⟨w.heap.size, 0, none⟩) (by simp)).trans (by go_simp))
    have gm1 : wr.cell? ⟨w.heap.size, 1, none⟩ = some (.int .i64 m1) := (hb.cell (p := ⟨w.heap.size, 1, none⟩) (by simp; omega)).trans ((K.cell (p := ⟨w.heap.size, 1, none⟩) (by simp)).trans (by go_simp))
    clear hc hf K
    have HS := Lib.hid (sumW_near HN.out (way.take k))
    by_cases hlt : k < way.length
    rotate_left
    · obtain rfl : k = way.length := by omega
      rw [List.take_length] at *
      have HWW := Lib.hid (show way.all (okIdx links.length) = true from List.all_eq_true.2 (fun c hc => by
        obtain ⟨j, hj, rfl⟩ := List.getElem_of_mem hc
        exact HOK.out j hj hj))
      generalize sumW links way = s at *
      obtain ⟨s0, s1⟩ := s
      simp only at c0 c1
      have heq := fun W => eq_cell s0 s1 m0 m1 W
      have HSO := Lib.hid (IsSorted_l way wr (.slice aw way.length capw) (Sl.mono (ISl.kept HW.out hb0) hb0.size))
      have HV2 := Lib.hid (show wayV links (m0, m1) way = (sortedB way && (decide (s0 = m0) && decide (s1 = m1)), 0) by rw [HR.out, HWW.out, Bool.true_and]; congr 2; simp [Prod.ext_iff])
      clear HOK
      cases hso : sortedB way
      all_goals
        rw [hso] at HSO HV2
        clear hso
        go_wp2_with (go_at_call 27; refine HSO.out.mono ?_; go_must (rintro e w2 ⟨rfl, hb2⟩; have y0 := (hb2.cell (p := ⟨w1.heap.size, 0, none⟩) (by simp; omega)).trans c0; have y1 := (hb2.cell (p := ⟨w1.heap.size, 1, none⟩) (by simp; omega)).trans c1; have y2 := (hb2.cell (p := ⟨w.heap.size, 0, none⟩) (by simp; omega)).trans gm0; have y3 := (hb2.cell (p := ⟨w.heap.size, 1, none⟩) (by simp; omega)).trans gm1))
      · exact bodyPost_ret (v := .tuple #[.bool false, .int .i64 0]) (by simp only [results, Try.results11]; first | (go_simp; done) | (go_simp; rfl)) rfl ⟨by rw [HV2.out]; rfl, by repeat (first | exact Below.refl _ _ | assumption | (refine Below.drew ?_) | (refine below_drewN ?_ _) | (refine Below.alloc ?_ (by first | (simp; done) | (simp; omega) | omega) _) | (refine Below.setCell ?_ (by first | (simp; done) | (simp; omega) | omega) _) | (refine Below.trans ?_ (Below.mono (by assumption) (by first | (simp; done) | (simp; omega) | omega))))⟩
      · exact bodyPost_ret (v := .tuple #[.bool (decide (s0 = m0) && decide (s1 = m1)), .int .i64 0]) (by simp only [results, Try.results11]; first | (go_simp; done) | (go_simp; rfl)) rfl ⟨by rw [HV2.out]; rfl, by repeat (first | exact Below.refl _ _ | assumption | (refine Below.drew ?_) | (refine below_drewN ?_ _) | (refine Below.alloc ?_ (by first | (simp; done) | (simp; omega) | omega) _) | (refine Below.setCell ?_ (by first | (simp; done) | (simp; omega) | omega) _) | (refine Below.trans ?_ (Below.mono (by assumption) (by first | (simp; done) | (simp; omega) | omega))))⟩
    obtain ⟨hi, hg, hci⟩ := HXW.out k hlt
    have r := (hb0.cell (p := ⟨gw, ow + k, none⟩) hg).trans hci
    clear hci hg
    have HT := Lib.hid (show sumW links (way.take (k + 1)) = add2 (sumW links (way.take k)) (links.getD (way[k]).toNat (0, 0)) by rw [List.take_succ_eq_append_getElem hlt, sumW_snoc])
    cases hx : okIdx links.length way[k]
    · have HA := Lib.hid (show way.all (okIdx links.length) = false from List.all_eq_false.2 ⟨_, List.getElem_mem hlt, by simp [hx]⟩)
      generalize way[k] = x at *
      have HX1 := Lib.hid hx; clear hx
      go_wp2_with (go_at_call 25; refine (between_l _ _ _ _).mono ?_; go_must (rintro e w3 ⟨rfl, rfl⟩; rw [show (decide (0 ≤ x) && decide (x ≤ (links.length : Int) - 1)) = false from HX1.out]))
      exact bodyPost_ret (v := .tuple #[.bool false, .int .i64 0]) (by simp only [results, Try.results11]; first | (go_simp; done) | (go_simp; rfl)) rfl ⟨by rw [HR.out, HA.out]; rfl, by repeat (first | exact Below.refl _ _ | assumption | (refine Below.drew ?_) | (refine below_drewN ?_ _) | (refine Below.alloc ?_ (by first | (simp; done) | (simp; omega) | omega) _) | (refine Below.setCell ?_ (by first | (simp; done) | (simp; omega) | omega) _) | (refine Below.trans ?_ (Below.mono (by assumption) (by first | (simp; done) | (simp; omega) | omega))))⟩
    · have HA := Lib.hid (show ∀ j (h : j < way.length), j < k + 1 → okIdx links.length way[j] = true from fun j h h2 => by
        rcases Nat.lt_or_ge j k with h3 | h3
        · exact HOK.out j h h3
        · obtain rfl : j = k := by omega
          exact hx)
      generalize way[k] = x at *
      have HX1 := Lib.hid hx
      obtain ⟨x1, x2⟩ : 0 ≤ x ∧ x ≤ (links.length : Int) - 1 := by simpa [okIdx] using hx
      obtain ⟨n, rfl⟩ := Int.eq_ofNat_of_zero_le x1
      have hn : n < links.length := by omega
      clear hx x1 x2
      obtain ⟨hi2, hg2, d0, d1⟩ := HX.out n hn
      have r0 := (hb0.cell (p := ⟨g, off + 2 * n, none⟩) hg2).trans d0
      have r1 := (hb0.cell (p := ⟨g, off + 2 * n + 1, none⟩) hg2).trans d1
      clear d0 d1
      have HT2 := Lib.hid (show sumW links (way.take (k + 1)) = add2 (sumW links (way.take k)) links[n] by rw [HT.out]; simp [hn])
      have hnl := HN.out _ (List.getElem_mem hn)
      have hlk : (way.take k).length ≤ 100 := by simp; omega
      have hs := HS.out.mono (show 3 * ((way.take k).length : Int) ≤ 300 by omega)
      clear hlk
      generalize links[n] = c at *
      generalize sumW links (way.take k) = s at *
      obtain ⟨c0', c1'⟩ := c
      obtain ⟨s0, s1⟩ := s
      obtain ⟨p1, p2, p3, p4⟩ := hs
      obtain ⟨q1, q2, q3, q4⟩ := hnl
      simp only at *
      go_wp2_with (go_at_call 25; refine (between_l _ _ _ _).mono ?_; go_must (rintro e w3 ⟨rfl, rfl⟩; rw [show (decide (0 ≤ (n : Int)) && decide ((n : Int) ≤ (links.length : Int) - 1)) = true from HX1.out]))
      (refine stilld 5 (by kernel_rfl) (by kernel_rfl) ?_; simp only [List.take_succ_cons, List.take_zero, List.drop_succ_cons, List.drop_zero]; repeat (first | still_step | (refine wpStill_step (fun K hK => ?_); go_simp; refine ⟨_, fail, hK _ ?_⟩; clear hK K)); (try refine wpStill_nil ?_))
      go_wp2_with (go_at_call 26; refine (plus_l s0 s1 c0' c1' (by omega) (by omega) (by omega) (by omega) _).mono ?_; go_must (rintro e w2 ⟨rfl, hb2⟩; have y0 := (hb2.cell (p := ⟨w1.heap.size, 0, none⟩) (by simp; omega)).trans c0; have y1 := (hb2.cell (p := ⟨w1.heap.size, 1, none⟩) (by simp; omega)).trans c1; have y2 := (hb2.frozen (p := ⟨w1.heap.size, 0, none⟩) (by simp; omega)).trans f0; have y3 := (hb2.frozen (p := ⟨w1.heap.size, 1, none⟩) (by simp; omega)).trans f1; have y4 := hb2.size; simp at y4; have y5 : w1.heap.size < w2.heap.size := (by omega)))
      go_roundw
      case rel =>
        refine ⟨k + 1, hlt, by simp, HA.out, ?_, ?_, by simp [y2], by simp [y3], by simpa using y5, ?_⟩
        · rw [HT2.out]
          exact (World.cell?_setCell_other _ _ _ _ (by simp)).trans (World.cell?_setCell_same' _ _ _ (by rw [y0]; rfl))
        · rw [HT2.out]
          exact World.cell?_setCell_same' _ _ _ (by rw [World.cell?_setCell_other _ _ _ _ (by simp), y1]; rfl)
        · exact ((hb.drew.trans (hb2.mono (by simp; omega))).setCell (p := ⟨w1.heap.size, 0, none⟩) (by simp) _).setCell (p := ⟨w1.heap.size, 1, none⟩) (by simp) _
      case measure => simp only [intOf]; omega
end Go.Proofs.Ytjceppinjeehiaa
