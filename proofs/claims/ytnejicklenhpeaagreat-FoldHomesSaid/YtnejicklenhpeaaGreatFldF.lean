/- slices.BinarySearchFunc on cells in strict order, with fold.compare; slices.Max of whole numbers: their walks. Conditions: none. -/
import Derived.Test.YtnejicklenhpeaaGreatFldE
import Derived.Test.YtnejicklenhpeaaGreatRowA
namespace Go.Proofs.YtnejicklenhpeaaGreat
open Go.RowKit Go.Lib Go.Sort
set_option linter.unusedVariables false
theorem fcmp_cases (a b : Int × Int) : (cltC a b ∧ cmpC a b = -1) ∨ (a = b ∧ cmpC a b = 0) ∨ (cltC b a ∧ cmpC a b = 1) := by
  obtain ⟨a0, a1⟩ := a
  obtain ⟨b0, b1⟩ := b
  unfold cmpC cmpI cltC
  by_cases h1 : a0 < b0
  · left; rw [if_pos h1]; simp [h1]
  · by_cases h2 : b0 < a0
    · right; right; rw [if_neg h1, if_pos h2]; simp [h2]
    · have h0 : a0 = b0 := by omega
      subst h0
      rw [if_neg h1]
      by_cases h3 : a1 < b1
      · left; simp [h3]
      · by_cases h4 : b1 < a1
        · right; right; simp [h3, h4]
        · right; left; have : a1 = b1 := by omega
          subst this; simp
theorem strict_lt {M : List (Int × Int)} (hM : StrictC M) {i j : Nat} (hij : i < j) (hj : j < M.length) : cltC M[i] M[j] := List.pairwise_iff_getElem.1 hM i j (by omega) hj hij
theorem Gw.belowF {W w' : World} (h : ∃ q os', w' = grow (W.drewN q) os') : Below W.heap.size W w' := by
  obtain ⟨q, os', rfl⟩ := h
  exact ⟨rfl, rfl, rfl, by simp [grow], fun k hk => by show (W.heap ++ os')[k]? = _; rw [Array.getElem?_append_left hk]⟩
set_option maxHeartbeats 8000000 in
set_option maxRecDepth 100000 in
theorem bsearch_l (M : List (Int × Int)) (hM : StrictC M) (hlen : M.length ≤ 100000) (t : Int × Int) (ht : t ∈ M) (v : Value) (w : World) (hv : SlOf w w.heap.size 2 encC v M) :
    Calls Tryz.prog 52 #[v, .agg #[.int .i64 t.1, .int .i64 t.2], .func (.func 53) #[] #[]] w fun e w' => (∃ i : Nat, M[i]? = some t ∧ e = .returned (.tuple #[.int .i64 (i : Int), .bool true])) ∧ Below w.heap.size w w' := by
  obtain ⟨va, vc, g, off, rfl, hlc, hcm, hx⟩ := SlOf.at (enc := encC) (fun _ => rfl) un_ce sz_ce hv
  have HX := Lib.hid hx
  clear hx hv
  obtain ⟨q, hq, hqt⟩ := List.getElem_of_mem ht
  have HQ := Lib.hid (show ∀ i, i < M.length → (∀ m (h : m < M.length), m < i → cltC M[m] t) → (∀ m (h : m < M.length), i ≤ m → ¬ cltC M[m] t) → i = q from fun i hi h1 h2 => by
    rcases Nat.lt_trichotomy i q with h | h | h
    · exact absurd (hqt ▸ strict_lt hM h hq) (h2 i hi (Nat.le_refl _))
    · exact h
    · exact absurd (hqt ▸ h1 q hq h) (cltC_irr _))
  have HQE := Lib.hid (show ∀ i, i = M.length → (∀ m (h : m < M.length), m < i → cltC M[m] t) → False from fun i hi h1 => cltC_irr _ (hqt ▸ h1 q hq (by omega)))
  have HQT := Lib.hid (show M[q]? = some t by rw [List.getElem?_eq_getElem hq, hqt])
  have HMT := Lib.hid (show ∀ m (h : m < M.length), m ≤ q → q ≤ m → M[m] = t from fun m h h1 h2 => by obtain rfl : m = q := (by omega); exact hqt)
  have HMS := Lib.hid (show ∀ a b (ha : a < M.length) (hb : b < M.length), a < b → cltC M[a] M[b] from fun a b ha hb h => strict_lt hM h hb)
  obtain ⟨W0, hW0⟩ : ∃ W : World, w.alloc (Obj.cells #[.int .i64 t.1, .int .i64 t.2] 31) = W := ⟨_, rfl⟩
  have kw0 : Below w.heap.size w W0 := by rw [← hW0]; exact (by repeat (first | exact Below.refl _ _ | assumption | (refine Below.drew ?_) | (refine below_drewN ?_ _) | (refine Below.alloc ?_ (by first | (simp; done) | (simp; omega) | omega) _) | (refine Below.setCell ?_ (by first | (simp; done) | (simp; omega) | omega) _) | (refine Below.trans ?_ (Below.mono (by assumption) (by first | (simp; done) | (simp; omega) | omega)))))
  have ks0 : W0.heap.size = w.heap.size + 1 := by rw [← hW0]; simp
  have RD0 := Lib.hid (show ∀ V, Below W0.heap.size W0 V → V.cell? ⟨w.heap.size, 0, none⟩ = some (.int .i64 t.1) ∧ V.cell? ⟨w.heap.size, 1, none⟩ = some (.int .i64 t.2) from fun V h => by
      refine ⟨(h.cell (p := ⟨w.heap.size, 0, none⟩) (by simp; omega)).trans ?_, (h.cell (p := ⟨w.heap.size, 1, none⟩) (by simp; omega)).trans ?_⟩ <;> (subst hW0; go_simp))
  have HW0 := Lib.hid hW0; have KW0 := Lib.hid kw0; clear hW0 kw0
  have hks : w.heap.size ≤ W0.heap.size := by omega
  clear hM ht hqt
  go_enter Tryz.func52, Tryz.ntmps52
  go_wp2_with fail
  rw [HW0.out]
  go_loopw [9, 10, 11] (fun t9 t10 t11 wr => ∃ i j : Nat, i ≤ j ∧ j ≤ M.length ∧ t9 = .int .i64 (i : Int) ∧ t10 = .int .i64 (j : Int) ∧ Hid (∀ m (h : m < M.length), m < i → cltC M[m] t) ∧ Hid (∀ m (h : m < M.length), j ≤ m → ¬ cltC M[m] t) ∧ Hid (Below W0.heap.size W0 wr)) (fun t9 t10 _ _ => (intOf t10).toNat - (intOf t9).toNat)
  case atStart => exact ⟨0, M.length, Nat.zero_le _, Nat.le_refl _, rfl, rfl, Lib.hid (fun m h h2 => by omega), Lib.hid (fun m h h2 => by omega), Lib.hid (Below.refl _ _)⟩
  case round =>
    obtain ⟨i, j, hij, hj, rfl, rfl, H1, H2, HB⟩ := hrel
    obtain ⟨b0, b1⟩ := RD0.out wr HB.out
    have hsw := HB.out.size
    by_cases hlt : i < j
    rotate_left
    · obtain rfl : i = j := by omega
      have hil : i < M.length := by
        rcases Nat.lt_or_ge i M.length with h | h
        · exact h
        · exact (HQE.out i (by omega) H1.out).elim
      obtain rfl : i = q := HQ.out i hil H1.out H2.out
      obtain ⟨-, hi, hg, hc⟩ := HX.out i hil
      have hmi := HMT.out i hil (Nat.le_refl _) (Nat.le_refl _)
      have r0 : wr.cell? ⟨g, off + 2 * i, none⟩ = some (.int .i64 t.1) := by rw [← hmi]; exact ((below_at KW0.out hks HB.out).cell (p := ⟨g, off + 2 * i + 0, none⟩) hg).trans (hc 0 (by omega))
      have r1 : wr.cell? ⟨g, off + 2 * i + 1, none⟩ = some (.int .i64 t.2) := by rw [← hmi]; exact ((below_at KW0.out hks HB.out).cell (p := ⟨g, off + 2 * i + 1, none⟩) hg).trans (hc 1 (by omega))
      have HCM := Lib.hid (fun (W : World) => (fcompare_l t t W).mono (fun e w' h => (⟨by rcases fcmp_cases t t with h1 | h1 | h1; exact absurd h1.1 (cltC_irr _); (rw [h.1, h1.2]); exact absurd h1.1 (cltC_irr _), Gw.belowF h.2⟩ : e = .returned (.int .i64 0) ∧ Below W.heap.size W w')))
      have HBW := Lib.hid (below_at KW0.out hks HB.out)
      have HIQ := Lib.hid (show (i : Int) < (M.length : Int) by omega)
      have hil2 := HIQ.out
      have hi0 : (0 : Int) ≤ (i : Int) := by omega
      clear hc hmi
      have hgl : g < wr.heap.size := by omega
      have hwl : w.heap.size < wr.heap.size := by omega
      have HSS := Lib.hid (fun (W : World) (kb : Below wr.heap.size wr W) => And.intro ((kb.cell (p := ⟨w.heap.size, 0, none⟩) hwl).trans b0) (And.intro ((kb.cell (p := ⟨w.heap.size, 1, none⟩) hwl).trans b1) (And.intro ((kb.cell (p := ⟨g, off + 2 * i, none⟩) hgl).trans r0) ((kb.cell (p := ⟨g, off + 2 * i + 1, none⟩) hgl).trans r1))))
      go_wp2_with fail
      go_region_held3 (fun w' => Below wr.heap.size wr w' ∧ w'.cell? ⟨w.heap.size, 0, none⟩ = some (.int .i64 t.1) ∧ w'.cell? ⟨w.heap.size, 1, none⟩ = some (.int .i64 t.2) ∧ w'.cell? ⟨g, off + 2 * i, none⟩ = some (.int .i64 t.1) ∧ w'.cell? ⟨g, off + 2 * i + 1, none⟩ = some (.int .i64 t.2)) (((refine (fun kb => (⟨kb, HSS.out _ kb⟩)) (?_ : Below wr.heap.size wr _); exact (by repeat (first | (with_reducible exact Below.refl _ _) | (with_reducible assumption) | (with_reducible refine Below.drew ?_) | (with_reducible refine Below.setCell ?_ (by first | (simp; done) | (simp; omega) | omega) _) | (with_reducible refine Below.alloc ?_ (by first | (simp; done) | (simp; omega) | omega) _) | (with_reducible refine below_drewN ?_ _) | (refine Below.trans ?_ (Below.mono (by with_reducible assumption) (by first | (simp; done) | (simp; omega) | omega)))))))) (first | (go_at_call 53; refine (HCM.out _).mono ?_; go_must (rintro e w5 ⟨rfl, hb5⟩; have hbE : Below wr.heap.size wr w5 := (by exact (by repeat (first | (with_reducible exact Below.refl _ _) | (with_reducible assumption) | (with_reducible refine Below.drew ?_) | (with_reducible refine Below.setCell ?_ (by first | (simp; done) | (simp; omega) | omega) _) | (with_reducible refine Below.alloc ?_ (by first | (simp; done) | (simp; omega) | omega) _) | (with_reducible refine below_drewN ?_ _) | (refine Below.trans ?_ (Below.mono (by with_reducible assumption) (by first | (simp; done) | (simp; omega) | omega)))))); have HBE := Lib.hid hbE; clear hb5)))
      go_wp2_with fail
      go_ret2
      exact ⟨⟨i, HQT.out, rfl⟩, HBW.out.trans (HBE.out.mono (by omega))⟩
    obtain ⟨h, hh⟩ : ∃ h, (i + j) / 2 = h := ⟨_, rfl⟩
    have hih : i ≤ h := by omega
    have hhj : h < j := by omega
    have hhM : h < M.length := by omega
    obtain ⟨-, hi, hg, hc⟩ := HX.out h hhM
    have r0 : wr.cell? ⟨g, off + 2 * h, none⟩ = some (.int .i64 M[h].1) := ((below_at KW0.out hks HB.out).cell (p := ⟨g, off + 2 * h + 0, none⟩) hg).trans (hc 0 (by omega))
    have r1 : wr.cell? ⟨g, off + 2 * h + 1, none⟩ = some (.int .i64 M[h].2) := ((below_at KW0.out hks HB.out).cell (p := ⟨g, off + 2 * h + 1, none⟩) hg).trans (hc 1 (by omega))
    have hcm2 := fcmp_cases M[h] t
    have HN1 := Lib.hid (show cltC M[h] t → ∀ m (hm : m < M.length), m < h + 1 → cltC M[m] t from fun hl m hm hle => by
      rcases Nat.lt_or_eq_of_le (Nat.le_of_lt_succ hle) with e | e
      · exact cltC_trans (HMS.out m h hm hhM e) hl
      · subst e; exact hl)
    have HN2 := Lib.hid (show ¬ cltC M[h] t → ∀ m (hm : m < M.length), h ≤ m → ¬ cltC M[m] t from fun hl m hm hle hx => by
      rcases Nat.lt_or_eq_of_le hle with e | e
      · exact hl (cltC_trans (HMS.out h m hhM hm e) hx)
      · subst e; exact hl hx)
    have HCM := Lib.hid (fun (W : World) => (fcompare_l M[h] t W).mono (fun e w' k => (⟨k.1, Gw.belowF k.2⟩ : e = .returned (.int .i64 (cmpC M[h] t)) ∧ Below W.heap.size W w')))
    generalize hx : M[h] = x at *
    generalize hz : cmpC x t = z at *
    obtain ⟨x0, x1⟩ := x
    simp only at r0 r1
    have hgl : g < wr.heap.size := by omega
    have hwl : w.heap.size < wr.heap.size := by omega
    have HSS := Lib.hid (fun (W : World) (kb : Below wr.heap.size wr W) => And.intro ((kb.cell (p := ⟨w.heap.size, 0, none⟩) hwl).trans b0) (And.intro ((kb.cell (p := ⟨w.heap.size, 1, none⟩) hwl).trans b1) (And.intro ((kb.cell (p := ⟨g, off + 2 * h, none⟩) hgl).trans r0) ((kb.cell (p := ⟨g, off + 2 * h + 1, none⟩) hgl).trans r1))))
    have hij2 : (i : Int) < (j : Int) := by omega
    have hhl : (h : Int) < (M.length : Int) := by omega
    have hh0 : (0 : Int) ≤ (h : Int) := by omega
    have hh2 : ((i : Int) + (j : Int)) / 2 = (h : Int) := by omega
    have hor : (cltC (x0, x1) t ∧ z = -1) ∨ (¬ cltC (x0, x1) t ∧ (z = 0 ∨ z = 1)) := by
      rcases hcm2 with ⟨h1, h2⟩ | ⟨h1, h2⟩ | ⟨h1, h2⟩
      · exact .inl ⟨h1, h2⟩
      · exact .inr ⟨fun h => by rw [h1] at h; exact cltC_irr _ h, .inl h2⟩
      · exact .inr ⟨fun h => cltC_irr _ (cltC_trans h h1), .inr h2⟩
    have HZ := Lib.hid hor
    have hmu : h + 1 ≤ j := by omega
    clear hc HQ HQE hcm2 hx hz hor hh 
    go_wp2_with fail
    try simp only [hh2]
    rcases HZ.out with ⟨hl, rfl⟩ | ⟨hl, rfl | rfl⟩
    · have HL := Lib.hid (HN1.out hl)
      clear hl
      go_region_held3 (fun w' => Below wr.heap.size wr w' ∧ w'.cell? ⟨w.heap.size, 0, none⟩ = some (.int .i64 t.1) ∧ w'.cell? ⟨w.heap.size, 1, none⟩ = some (.int .i64 t.2) ∧ w'.cell? ⟨g, off + 2 * h, none⟩ = some (.int .i64 x0) ∧ w'.cell? ⟨g, off + 2 * h + 1, none⟩ = some (.int .i64 x1)) (((refine (fun kb => (⟨kb, HSS.out _ kb⟩)) (?_ : Below wr.heap.size wr _); exact (by repeat (first | (with_reducible exact Below.refl _ _) | (with_reducible assumption) | (with_reducible refine Below.drew ?_) | (with_reducible refine Below.setCell ?_ (by first | (simp; done) | (simp; omega) | omega) _) | (with_reducible refine Below.alloc ?_ (by first | (simp; done) | (simp; omega) | omega) _) | (with_reducible refine below_drewN ?_ _) | (refine Below.trans ?_ (Below.mono (by with_reducible assumption) (by first | (simp; done) | (simp; omega) | omega)))))))) (first | (go_at_call 53; refine (HCM.out _).mono ?_; go_must (rintro e w5 ⟨rfl, hb5⟩; have hbE : Below wr.heap.size wr w5 := (by exact (by repeat (first | (with_reducible exact Below.refl _ _) | (with_reducible assumption) | (with_reducible refine Below.drew ?_) | (with_reducible refine Below.setCell ?_ (by first | (simp; done) | (simp; omega) | omega) _) | (with_reducible refine Below.alloc ?_ (by first | (simp; done) | (simp; omega) | omega) _) | (with_reducible refine below_drewN ?_ _) | (refine Below.trans ?_ (Below.mono (by with_reducible assumption) (by first | (simp; done) | (simp; omega) | omega)))))); have HBE := Lib.hid hbE; clear hb5)))
      go_wp2_with fail
      go_roundw
      case rel => exact ⟨h + 1, j, hmu, hj, by simp, rfl, HL, H2, Lib.hid (HB.out.trans (HBE.out.mono hsw))⟩
      case measure => simp only [intOf]; omega
    · have HL := Lib.hid (HN2.out hl)
      clear hl
      go_region_held3 (fun w' => Below wr.heap.size wr w' ∧ w'.cell? ⟨w.heap.size, 0, none⟩ = some (.int .i64 t.1) ∧ w'.cell? ⟨w.heap.size, 1, none⟩ = some (.int .i64 t.2) ∧ w'.cell? ⟨g, off + 2 * h, none⟩ = some (.int .i64 x0) ∧ w'.cell? ⟨g, off + 2 * h + 1, none⟩ = some (.int .i64 x1)) (((refine (fun kb => (⟨kb, HSS.out _ kb⟩)) (?_ : Below wr.heap.size wr _); exact (by repeat (first | (with_reducible exact Below.refl _ _) | (with_reducible assumption) | (with_reducible refine Below.drew ?_) | (with_reducible refine Below.setCell ?_ (by first | (simp; done) | (simp; omega) | omega) _) | (with_reducible refine Below.alloc ?_ (by first | (simp; done) | (simp; omega) | omega) _) | (with_reducible refine below_drewN ?_ _) | (refine Below.trans ?_ (Below.mono (by with_reducible assumption) (by first | (simp; done) | (simp; omega) | omega)))))))) (first | (go_at_call 53; refine (HCM.out _).mono ?_; go_must (rintro e w5 ⟨rfl, hb5⟩; have hbE : Below wr.heap.size wr w5 := (by exact (by repeat (first | (with_reducible exact Below.refl _ _) | (with_reducible assumption) | (with_reducible refine Below.drew ?_) | (with_reducible refine Below.setCell ?_ (by first | (simp; done) | (simp; omega) | omega) _) | (with_reducible refine Below.alloc ?_ (by first | (simp; done) | (simp; omega) | omega) _) | (with_reducible refine below_drewN ?_ _) | (refine Below.trans ?_ (Below.mono (by with_reducible assumption) (by first | (simp; done) | (simp; omega) | omega)))))); have HBE := Lib.hid hbE; clear hb5)))
      go_wp2_with fail
      go_roundw
      case rel => exact ⟨i, h, hih, by omega, rfl, rfl, H1, HL, Lib.hid (HB.out.trans (HBE.out.mono hsw))⟩
      case measure => simp only [intOf]; omega
    · have HL := Lib.hid (HN2.out hl)
      clear hl
      go_region_held3 (fun w' => Below wr.heap.size wr w' ∧ w'.cell? ⟨w.heap.size, 0, none⟩ = some (.int .i64 t.1) ∧ w'.cell? ⟨w.heap.size, 1, none⟩ = some (.int .i64 t.2) ∧ w'.cell? ⟨g, off + 2 * h, none⟩ = some (.int .i64 x0) ∧ w'.cell? ⟨g, off + 2 * h + 1, none⟩ = some (.int .i64 x1)) (((refine (fun kb => (⟨kb, HSS.out _ kb⟩)) (?_ : Below wr.heap.size wr _); exact (by repeat (first | (with_reducible exact Below.refl _ _) | (with_reducible assumption) | (with_reducible refine Below.drew ?_) | (with_reducible refine Below.setCell ?_ (by first | (simp; done) | (simp; omega) | omega) _) | (with_reducible refine Below.alloc ?_ (by first | (simp; done) | (simp; omega) | omega) _) | (with_reducible refine below_drewN ?_ _) | (refine Below.trans ?_ (Below.mono (by with_reducible assumption) (by first | (simp; done) | (simp; omega) | omega)))))))) (first | (go_at_call 53; refine (HCM.out _).mono ?_; go_must (rintro e w5 ⟨rfl, hb5⟩; have hbE : Below wr.heap.size wr w5 := (by exact (by repeat (first | (with_reducible exact Below.refl _ _) | (with_reducible assumption) | (with_reducible refine Below.drew ?_) | (with_reducible refine Below.setCell ?_ (by first | (simp; done) | (simp; omega) | omega) _) | (with_reducible refine Below.alloc ?_ (by first | (simp; done) | (simp; omega) | omega) _) | (with_reducible refine below_drewN ?_ _) | (refine Below.trans ?_ (Below.mono (by with_reducible assumption) (by first | (simp; done) | (simp; omega) | omega)))))); have HBE := Lib.hid hbE; clear hb5)))
      go_wp2_with fail
      go_roundw
      case rel => exact ⟨i, h, hih, by omega, rfl, rfl, H1, HL, Lib.hid (HB.out.trans (HBE.out.mono hsw))⟩
      case measure => simp only [intOf]; omega
end Go.Proofs.YtnejicklenhpeaaGreat
