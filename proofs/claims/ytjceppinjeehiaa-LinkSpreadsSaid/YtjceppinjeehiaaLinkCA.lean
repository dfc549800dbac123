/- The walks of the reference's Back and SameCells. -/
import Derived.Test.YtjceppinjeehiaaLinkZ
import Derived.Test.YtjceppinjeehiaaLinkJ
namespace Go.Proofs.Ytjceppinjeehiaa
open Go.RowKit
set_option maxHeartbeats 4000000 in
set_option maxRecDepth 100000 in
theorem BackR_l (links : List C2) (hl : links.length ≤ 1000) (w : World) (g off : Nat) (v : Value) (hv : CRd w v g off links) :
    Calls Try.prog 17 #[v] w fun e w' => ((validL links = false ∧ e = .returned (.tuple #[.slice none 0 0, .int .i64 50])) ∨ (validL links = true ∧ ∃ v' g', CRd w' v' g' 0 (links.map neg2) ∧ e = .returned (.tuple #[v', .int .i64 0]))) ∧ Below w.heap.size w w' := by
  have HV := Lib.hid (validR_l links hl w g off v hv)
  obtain ⟨a, cap, rfl, hx⟩ := hv.at
  have HX := Lib.hid hx; clear hx hv
  cases h : validL links
  · have H := Lib.hid h; clear h
    go_enter Try.func17, Try.ntmps17
    go_wp2_with (first | (go_at_call 32; refine HV.out.mono ?_; go_must (rintro e w1 ⟨rfl, hb1⟩; rw [H.out])))
    refine bodyPost_ret (v := .tuple #[.slice none 0 0, .int .i64 50]) (by simp only [results, Try.results17]; first | (go_simp; done) | (go_simp; rfl)) rfl ⟨.inl ⟨by trivial, rfl⟩, hb1⟩
  · have hvl := (validL_iff links).1 h
    have H := Lib.hid h; clear h
    have HL := Lib.hid hvl.2; clear hvl
    go_enter Try.func17, Try.ntmps17
    go_wp2_with (first | (go_at_call 32; refine HV.out.mono ?_; go_must (rintro e w1 ⟨rfl, hb1⟩; rw [H.out])))
    have hz1 := hb1.size
    go_loopw [4, 12] (fun v4 i wr => ∃ k : Nat, k ≤ links.length ∧ i = .int .i64 (k : Nat) ∧ wr.ownsRow w1.heap.size 24 2 v4 ((links.take k).map neg2).length (flatC ((links.take k).map neg2)) ∧ Below w1.heap.size w1 wr) (fun _ i _ => links.length - (intOf i).toNat)
    case atStart => exact ⟨0, Nat.zero_le _, rfl, World.ownsRow_nil _ _ _ _, Below.refl _ _⟩
    case round =>
      obtain ⟨k, hk, rfl, hown, hb⟩ := hrel
      have hs0 := hb.size
      have hlen : ((links.take k).map neg2).length = k := by simp; omega
      obtain ⟨a4, c4, rfl⟩ := row_shape hown
      by_cases hlt : k < links.length
      rotate_left
      · obtain rfl : k = links.length := by omega
        rw [List.take_length] at *
        go_wp2
        refine bodyPost_ret (v := .tuple #[.slice a4 (links.map neg2).length c4, .int .i64 0]) (by simp only [results, Try.results17]; first | (go_simp; done) | (go_simp; rfl)) rfl ?_
        obtain ⟨g', hg'⟩ := crd_of_row hown
        exact ⟨.inr ⟨by trivial, _, g', hg', rfl⟩, hb1.trans (hb.mono hz1)⟩
      obtain ⟨hi, hg, hc0, hc1⟩ := HX.out k hlt
      have hb2 := hb1.trans (hb.mono hz1)
      have r0 := (hb2.cell (p := ⟨g, off + 2 * k, none⟩) hg).trans hc0
      have r1 := (hb2.cell (p := ⟨g, off + 2 * k + 1, none⟩) hg).trans hc1
      have hn := HL.out _ (List.getElem_mem hlt)
      have HNL := Lib.hid hn.1; clear hn hc0 hc1
      have HT := Lib.hid (show (links.take (k + 1)).map neg2 = (links.take k).map neg2 ++ [neg2 links[k]] by rw [List.take_succ_eq_append_getElem hlt]; simp only [List.map_append, List.map_cons, List.map_nil])
      generalize links[k] = c at *
      have hcb : -3 ≤ c.1 ∧ c.1 ≤ 3 ∧ -3 ≤ c.2 ∧ c.2 ≤ 3 := HNL.out
      generalize hD : (links.take k).map neg2 = D at *
      have HD := Lib.hid hD; clear hD
      have HLN := Lib.hid hlen
      clear hlen
      have e1 : IntKind.i64.wrap (-c.1) = -c.1 := IntWalk.i64_in _ (by omega)
      have e2 : IntKind.i64.wrap (-c.2) = -c.2 := IntWalk.i64_in _ (by omega)
      have hbs : w1.heap.size ≤ (wr.alloc (.cells #[.int .i64 c.1, .int .i64 c.2] 24)).heap.size := Nat.le_trans hs0 (by simp)
      have ho2 := hown.alloc (.cells #[.int .i64 c.1, .int .i64 c.2] 24)
      go_wp2_with (at_builtin; refine wpList_push rfl _ _ _ rfl slCs ho2 rfl rfl (by first | rfl | simp) rfl rfl (by have := HLN.out; omega) (by omega) hbs ?_; intro g5 c5 w5 hown5 hg5 hat5)
      go_roundw
      case rel =>
        have hbE := hb.trans (((Below.refl wr.heap.size wr).alloc (Nat.le_refl _) (.cells #[.int .i64 c.1, .int .i64 c.2] 24)).mono hs0)
        refine ⟨k + 1, hlt, by simp, ?_, below_push hbE ho2 (Nat.le_refl _) hbs hg5⟩
        rw [HT.out, flatC_snoc, List.length_append]
        simpa [neg2] using hown5
      case measure => simp only [intOf]; omega
set_option maxHeartbeats 4000000 in
set_option maxRecDepth 100000 in
theorem sameCells_l (l m : List C2) (w : World) (v u : Value) (gv ov gu ou : Nat) (hv : CRd w v gv ov l) (hu : CRd w u gu ou m) (hl9 : l.length ≤ 100000) :
    Calls Try.prog 18 #[v, u] w fun e w' => e = .returned (.bool (decide (l = m))) ∧ Below w.heap.size w w' := by
  obtain ⟨a, cap, rfl, hx⟩ := hv.at
  obtain ⟨a2, cap2, rfl, hx2⟩ := hu.at
  have HX := Lib.hid hx; have HX2 := Lib.hid hx2; clear hx hx2 hv hu
  by_cases hlen : l.length = m.length
  rotate_left
  · have hne : ¬ ((l.length : Int) = (m.length : Int)) := by omega
    have HF := Lib.hid (show decide (l = m) = false by rw [decide_eq_false_iff_not]; intro e; exact hlen (by rw [e]))
    clear hlen
    go_enter Try.func18, Try.ntmps18
    go_wp2
    go_ret
    exact ⟨ret_bool HF.out.symm, by repeat (first | exact Below.refl _ _ | assumption | (refine Below.drew ?_) | (refine below_drewN ?_ _) | (refine Below.alloc ?_ (by first | (simp; done) | (simp; omega) | omega) _) | (refine Below.setCell ?_ (by first | (simp; done) | (simp; omega) | omega) _) | (refine Below.trans ?_ (Below.mono (by assumption) (by first | (simp; done) | (simp; omega) | omega))))⟩
  have HLEN := Lib.hid hlen
  rw [← hlen]
  clear hlen
  go_enter Try.func18, Try.ntmps18
  go_wp2
  go_loopw [13] (fun i wr => ∃ k : Nat, k ≤ l.length ∧ i = .int .i64 (k : Nat) ∧ (∀ j, j < k → l[j]? = m[j]?) ∧ Below w.heap.size w wr) (fun i _ => l.length - (intOf i).toNat)
  case atStart => exact ⟨0, by omega, rfl, fun j h => absurd h (by omega), Below.refl _ _⟩
  case round =>
    obtain ⟨k, hk, rfl, hs, hb⟩ := hrel
    have HS := Lib.hid hs; clear hs
    by_cases hlt : k < l.length
    rotate_left
    · obtain rfl : k = l.length := by omega
      have HT := Lib.hid (show decide (l = m) = true by
        rw [decide_eq_true_eq]
        refine List.ext_getElem? (fun j => ?_)
        rcases Nat.lt_or_ge j l.length with h | h
        · exact HS.out j h
        · rw [List.getElem?_eq_none h, List.getElem?_eq_none (by rw [← HLEN.out]; exact h)])
      go_wp2
      go_ret
      exact ⟨ret_bool HT.out.symm, hb⟩
    have hlt2 : k < m.length := by rw [← HLEN.out]; exact hlt
    obtain ⟨hi, hg, hc, hd⟩ := HX.out k hlt
    obtain ⟨hi2, hg2, hc2, hd2⟩ := HX2.out k hlt2
    rw [← HLEN.out] at hi2
    have r0 := (hb.cell (p := ⟨gv, ov + 2 * k, none⟩) hg).trans hc
    have r1 := (hb.cell (p := ⟨gv, ov + 2 * k + 1, none⟩) hg).trans hd
    have r2 := (hb.cell (p := ⟨gu, ou + 2 * k, none⟩) hg2).trans hc2
    have r3 := (hb.cell (p := ⟨gu, ou + 2 * k + 1, none⟩) hg2).trans hd2
    have HE := Lib.hid (show l[k]? = some l[k] ∧ m[k]? = some m[k] by simp [hlt, hlt2])
    clear hc hc2 hd hd2
    generalize l[k] = x at *
    generalize m[k] = y at *
    have heq := fun W => eq_cell x.1 x.2 y.1 y.2 W
    by_cases hxy : x = y
    · have hxf : (decide (x.1 = y.1) && decide (x.2 = y.2)) = true := by rw [hxy]; simp
      have HXY := Lib.hid hxy
      rw [hxf] at heq
      clear hlt2 hxy hxf
      go_wp2
      go_quiet (fail)
      go_wp2
      go_roundw
      case rel =>
        refine ⟨k + 1, by omega, by simp, fun j hj => ?_, by repeat (first | exact Below.refl _ _ | assumption | (refine Below.drew ?_) | (refine below_drewN ?_ _) | (refine Below.alloc ?_ (by first | (simp; done) | (simp; omega) | omega) _) | (refine Below.setCell ?_ (by first | (simp; done) | (simp; omega) | omega) _) | (refine Below.trans ?_ (Below.mono (by assumption) (by first | (simp; done) | (simp; omega) | omega))))⟩
        rcases Nat.lt_or_ge j k with h3 | h3
        · exact HS.out j h3
        · obtain rfl : j = k := by omega
          rw [HE.out.1, HE.out.2, HXY.out]
      case measure => simp only [intOf]; omega
    · have HF := Lib.hid (show decide (l = m) = false by
        rw [decide_eq_false_iff_not]
        intro e
        have h1 := HE.out.1
        rw [e, HE.out.2] at h1
        injection h1 with h1
        exact hxy h1.symm)
      have hxf : (decide (x.1 = y.1) && decide (x.2 = y.2)) = false := by
        rw [Bool.and_eq_false_iff, decide_eq_false_iff_not, decide_eq_false_iff_not]
        rcases Decidable.em (x.1 = y.1) with h1 | h1
        · exact .inr (fun h2 => hxy (Prod.ext h1 h2))
        · exact .inl h1
      rw [hxf] at heq
      clear hlt2 hxy hxf
      go_wp2
      go_quiet (fail)
      go_wp2
      go_ret
      exact ⟨ret_bool HF.out.symm, by repeat (first | exact Below.refl _ _ | assumption | (refine Below.drew ?_) | (refine below_drewN ?_ _) | (refine Below.alloc ?_ (by first | (simp; done) | (simp; omega) | omega) _) | (refine Below.setCell ?_ (by first | (simp; done) | (simp; omega) | omega) _) | (refine Below.trans ?_ (Below.mono (by assumption) (by first | (simp; done) | (simp; omega) | omega))))⟩
end Go.Proofs.Ytjceppinjeehiaa
