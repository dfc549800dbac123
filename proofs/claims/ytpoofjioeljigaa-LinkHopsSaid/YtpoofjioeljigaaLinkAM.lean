/- The walk of the reference's Way. -/
import Derived.Test.YtpoofjioeljigaaLinkAL
namespace Go.Proofs.Ytpoofjioeljigaa
open Go.RowKit
theorem dist_zero {links : List C2} {m : C2} (h : Dist links m 0) (links' : List C2) : Dist links' m 0 := ⟨h.1, fun k hk => absurd hk (by omega)⟩
set_option maxHeartbeats 4000000 in
set_option maxRecDepth 100000 in
theorem WayR_l (links : List C2) (hl : links.length ≤ 1000) (m0 m1 : Int) (w : World) (g off : Nat) (v : Value) (hv : CRd w v g off links) :
    Calls Try.prog 40 #[v, .agg #[.int .i64 (m0), .int .i64 (m1)]] w fun e w' => ∃ out er v', WayR links (m0, m1) out er ∧ e = .returned (.tuple #[v', .int .i64 er]) ∧ ISl w' w'.heap.size v' out ∧ Below w.heap.size w w' := by
  have HV := Lib.hid hv
  obtain ⟨a, cap, rfl, hx⟩ := hv.at
  have HX := Lib.hid hx
  clear hv hx
  have HO := Lib.hid (fun w' (hb : Below w.heap.size w w') => HopsR_l links hl m0 m1 w' g off (.slice a links.length cap) (HV.out.below hb))
  have K := Below.refl (w.heap.size + 1) (w.alloc (.cells #[.int .i64 m0, .int .i64 m1] 23))
  obtain ⟨n, er, hr⟩ := hopsR_ex links (m0, m1)
  have HRR := Lib.hid hr
  by_cases h : er = 0
  rotate_left
  · have hne : (er != 0) = true := by simpa using h
    have HW := Lib.hid (show WayR links (m0, m1) [] er by
      rcases hr with ⟨h1, -, h2⟩ | ⟨h1, ⟨k, -, -, -, h2⟩ | ⟨h2, -, h3⟩⟩
      · exact .inl ⟨h1, rfl, h2⟩
      · exact absurd h2 h
      · exact .inr ⟨h1, .inr ⟨h2, rfl, h3⟩⟩)
    clear hr h
    go_enter Try.func40, Try.ntmps40
    go_wp2_with (go_at_call 38; refine (HO.out _ (by repeat (first | exact Below.refl _ _ | assumption | (refine Below.drew ?_) | (refine below_drewN ?_ _) | (refine Below.alloc ?_ (by first | (simp; done) | (simp; omega) | omega) _) | (refine Below.setCell ?_ (by first | (simp; done) | (simp; omega) | omega) _) | (refine Below.trans ?_ (Below.mono (by assumption) (by first | (simp; done) | (simp; omega) | omega)))))).mono ?_; go_must (rintro e w1 ⟨n1, e1, hr1, rfl, hb1⟩; obtain ⟨rfl, rfl⟩ := hopsR_uniq HRR.out hr1; clear hr1; have K' := K.trans (c := w1) (by repeat (first | exact Below.refl _ _ | assumption | (refine Below.drew ?_) | (refine below_drewN ?_ _) | (refine Below.alloc ?_ (by first | (simp; done) | (simp; omega) | omega) _) | (refine Below.setCell ?_ (by first | (simp; done) | (simp; omega) | omega) _) | (refine Below.trans ?_ (Below.mono (by assumption) (by first | (simp; done) | (simp; omega) | omega))))); clear K; (try clear hc); (try clear hf); (try clear hz); (try clear hz0); have K := K'; clear K'; obtain ⟨hc, hf⟩ := bcellB K; have hz0 := K.size; (try simp at hz0); have hz := z1 hz0; clear hb1))
    exact bodyPost_ret (v := .tuple #[.slice none 0 0, .int .i64 e1]) (by simp only [results, Try.results40]; first | (go_simp; done) | (go_simp; rfl)) rfl ⟨_, _, _, HW.out, rfl, Sl.nil _ _ _, by repeat (first | exact Below.refl _ _ | assumption | (refine Below.drew ?_) | (refine below_drewN ?_ _) | (refine Below.alloc ?_ (by first | (simp; done) | (simp; omega) | omega) _) | (refine Below.setCell ?_ (by first | (simp; done) | (simp; omega) | omega) _) | (refine Below.trans ?_ (Below.mono (by assumption) (by first | (simp; done) | (simp; omega) | omega))))⟩
  subst h
  have hck : chkL links (m0, m1) = 0 ∧ ∃ k : Nat, k ≤ 12 ∧ Dist links (m0, m1) k ∧ n = k := by
    rcases hr with ⟨h1, -, h2⟩ | ⟨h1, ⟨k, h2, h3, h4, -⟩ | ⟨-, -, h3⟩⟩
    · exact absurd h2.symm h1
    · exact ⟨h1, k, h2, h3, h4⟩
    · cases h3
  clear hr
  obtain ⟨hc0, k, hk12, hdist, rfl⟩ := hck
  obtain ⟨⟨h8, hv8⟩, hm20⟩ := chk_ok hc0
  have HN := Lib.hid (fun l hl => (hv8 l hl).1)
  have HD := Lib.hid hdist; have HC0 := Lib.hid hc0
  clear hc0 hdist hv8 hm20
  go_enter Try.func40, Try.ntmps40
  go_wp2_with (go_at_call 38; refine (HO.out _ (by repeat (first | exact Below.refl _ _ | assumption | (refine Below.drew ?_) | (refine below_drewN ?_ _) | (refine Below.alloc ?_ (by first | (simp; done) | (simp; omega) | omega) _) | (refine Below.setCell ?_ (by first | (simp; done) | (simp; omega) | omega) _) | (refine Below.trans ?_ (Below.mono (by assumption) (by first | (simp; done) | (simp; omega) | omega)))))).mono ?_; go_must (rintro e w1 ⟨n1, e1, hr1, rfl, hb1⟩; obtain ⟨rfl, rfl⟩ := hopsR_uniq HRR.out hr1; clear hr1; have K' := K.trans (c := w1) (by repeat (first | exact Below.refl _ _ | assumption | (refine Below.drew ?_) | (refine below_drewN ?_ _) | (refine Below.alloc ?_ (by first | (simp; done) | (simp; omega) | omega) _) | (refine Below.setCell ?_ (by first | (simp; done) | (simp; omega) | omega) _) | (refine Below.trans ?_ (Below.mono (by assumption) (by first | (simp; done) | (simp; omega) | omega))))); clear K; (try clear hc); (try clear hf); (try clear hz); (try clear hz0); have K := K'; clear K'; obtain ⟨hc, hf⟩ := bcellB K; have hz0 := K.size; (try simp at hz0); have hz := z1 hz0; clear hb1))
  have K0 : Below w.heap.size w w1 := (Below.refl _ _).alloc (Nat.le_refl _) _ |>.trans (K.mono (by omega))
  have hk0 := hz0
  clear hc hf
  go_loopw [6, 8, 21] (fun t6 t8 t21 wr => ∃ i : Nat, t21 = .int .i64 (i : Nat) ∧ i ≤ links.length ∧ ∃ (n : Nat) (m : C2) (out : List Int), t6 = .int .i64 (n : Nat) ∧ n ≤ 12 ∧ Dist (links.drop i) m n ∧ out ++ wayG links i m n = wayG links 0 (m0, m1) k ∧ out.length + n = k ∧ wr.cell? ⟨w.heap.size, 0, none⟩ = some (.int .i64 m.1) ∧ wr.cell? ⟨w.heap.size, 1, none⟩ = some (.int .i64 m.2) ∧ wr.frozen? ⟨w.heap.size, 0, none⟩ = false ∧ wr.frozen? ⟨w.heap.size, 1, none⟩ = false ∧ wr.ownsRow w1.heap.size 3 1 t8 out.length (ints out) ∧ w1.heap.size ≤ wr.heap.size ∧ Below w.heap.size w wr) (fun _ _ t21 _ => links.length - (intOf t21).toNat)
  case atStart => exact ⟨0, rfl, Nat.zero_le _, k, (m0, m1), [], rfl, hk12, HD.out, rfl, by simp, (K.cell (p := ⟨w.heap.size, 0, none⟩) (by simp)).trans (by go_simp), (K.cell (p := ⟨w.heap.size, 1, none⟩) (by simp)).trans (by go_simp), (K.frozen (p := ⟨w.heap.size, 0, none⟩) (by simp)).trans (by go_simp), (K.frozen (p := ⟨w.heap.size, 1, none⟩) (by simp)).trans (by go_simp), World.ownsRow_nil _ _ _ _, Nat.le_refl _, K0⟩
  case round =>
    obtain ⟨i, rfl, hil, hrest⟩ := hrel
    obtain ⟨wo, rfl⟩ : ∃ x : World, x = wr := ⟨_, rfl⟩
    clear K
    by_cases hilt : i < links.length
    rotate_left
    · obtain rfl : i = links.length := by omega
      obtain ⟨n, m, out, rfl, hn12, hdi, hway, hlen, c0, c1, f0, f1, hown, hsz, hb⟩ := hrest
      obtain rfl : n = 0 := by
        rcases Nat.eq_zero_or_pos n with h | h
        · exact h
        · obtain ⟨p, rfl⟩ : ∃ p, n = p + 1 := ⟨n - 1, by omega⟩
          exact absurd (dist_lt hdi) (by omega)
      obtain ⟨a8, c8, rfl⟩ := irow_shape hown
      have HWR := Lib.hid (show WayR links (m0, m1) out 0 from .inr ⟨HC0.out, .inl ⟨k, by omega, HD.out, by have := hway; rw [wayG_zero, List.append_nil] at this; exact this, rfl⟩⟩)
      have HOWN := Lib.hid hown
      clear hdi hway hlen hown c0 c1 f0 f1
      go_wp2
      exact bodyPost_ret (v := .tuple #[.slice a8 out.length c8, .int .i64 0]) (by simp only [results, Try.results40]; first | (go_simp; done) | (go_simp; rfl)) rfl ⟨_, _, _, HWR.out, rfl, Sl.of_own HOWN.out, hb⟩
    have HREST := Lib.hid hrest; clear hrest
    go_wp2
    go_loopw [6, 8] (fun t6 t8 wr => ∃ (n : Nat) (m : C2) (out : List Int), t6 = .int .i64 (n : Nat) ∧ n ≤ 12 ∧ Dist (links.drop i) m n ∧ out ++ wayG links i m n = wayG links 0 (m0, m1) k ∧ out.length + n = k ∧ wr.cell? ⟨w.heap.size, 0, none⟩ = some (.int .i64 m.1) ∧ wr.cell? ⟨w.heap.size, 1, none⟩ = some (.int .i64 m.2) ∧ wr.frozen? ⟨w.heap.size, 0, none⟩ = false ∧ wr.frozen? ⟨w.heap.size, 1, none⟩ = false ∧ wr.ownsRow w1.heap.size 3 1 t8 out.length (ints out) ∧ w1.heap.size ≤ wr.heap.size ∧ Below w.heap.size w wr) (fun t6 _ _ => (intOf t6).toNat)
    case atStart => exact HREST.out
    case round =>
      clear HREST
      obtain ⟨n, m, out, rfl, hn12, hdi, hway, hlen, c0, c1, f0, f1, hown, hsz, hb⟩ := hrel
      have HWAY := Lib.hid hway
      obtain ⟨a8, c8, rfl⟩ := irow_shape hown
      have HDI := Lib.hid hdi; have HOWN := Lib.hid hown; have HLEN := Lib.hid hlen
      have hout : out.length ≤ 12 := by omega
      have hl9 : w.heap.size < wr.heap.size := by omega
      rcases Nat.eq_zero_or_pos n with hn0 | hpos
      · subst hn0
        have hg0 : decide (0 < (0 : Int)) = false := rfl
        clear hdi hway hlen hown
        go_wp2
        go_quiet (fail)
        go_wp2
        go_roundw
        case rel => exact ⟨i + 1, by simp, by omega, 0, m, out, rfl, by omega, dist_zero HDI.out _, by have := HWAY.out; rw [wayG_zero] at this ⊢; exact this, HLEN.out, c0, c1, f0, f1, HOWN.out, hsz, below_drewN hb _⟩
        case measure => simp only [intOf]; omega
      obtain ⟨n, rfl⟩ : ∃ p, n = p + 1 := ⟨n - 1, by omega⟩
      clear hdi hway hlen hown hpos
      have hmn := HDI.out.1.near (fun l hl => HN.out l (List.mem_of_mem_drop hl))
      have hln := HN.out _ (List.getElem_mem hilt)
      obtain ⟨cap', e1, hcap, hcrd⟩ := (HV.out.below hb).drop hilt
      obtain ⟨hi, hg, d0, d1⟩ := HX.out i hilt
      injection e1 with e1 _ e2
      subst e1
      subst e2
      have r0 := (hb.cell (p := ⟨g, off + 2 * i, none⟩) hg).trans d0
      have r1 := (hb.cell (p := ⟨g, off + 2 * i + 1, none⟩) hg).trans d1
      clear d0 d1
      have hsl := fun W => slice_cs g off links.length cap i hilt hcap W
      have HCRD := Lib.hid hcrd; clear hcrd hcap
      have HGD := Lib.hid (show links.getD i (0, 0) = links[i] by simp [hilt])
      have hm1 := hmn.mono (show 3 * ((n + 1 : Nat) : Int) ≤ 36 by omega)
      clear hmn
      obtain ⟨p1, p2, p3, p4⟩ := hm1
      obtain ⟨q1, q2, q3, q4⟩ := hln
      have HCN := Lib.hid (show cnd links i m n = decide (sub2 m links[i] ∈ sumsL (links.drop i) n) by rw [cnd, HGD.out])
      have hca := fun w' (hb' : Below wr.heap.size wr w') => can_l (links.drop i) (by simp; omega) (fun l hl => HN.out l (List.mem_of_mem_drop hl)) (m.1 - links[i].1) (m.2 - links[i].2) (by omega) (by omega) n (by omega) w' g (off + 2 * i) (.slice (some ⟨g, off + 2 * i, none⟩) (links.length - i) (cap - i)) (HCRD.out.below hb')
      have hHT := show wayG links i m (n + 1) = (if cnd links i m n = true then (i : Int) :: wayG links i (sub2 m (links.getD i (0, 0))) n else wayG links (i + 1) m (n + 1)) by
        cases hcn : cnd links i m n
        · simp only [Bool.false_eq_true, if_false]; exact wayG_skip hilt hcn
        · simp only [if_true]; exact wayG_take hcn
      rw [HGD.out] at hHT
      have HHT := Lib.hid hHT; clear hHT
      have hdt := fun (hc : cnd links i m n = true) => dist_take HDI.out hc
      rw [HGD.out] at hdt
      have HDT := Lib.hid hdt; clear hdt
      generalize links[i] = c at *
      have hg9 : g < wr.heap.size := by omega
      have e1 : IntKind.i64.wrap (n : Int) = (n : Int) := IntWalk.i64_in _ (by omega)
      have e2 : IntKind.i64.wrap ((n : Int) + 1 - 1) = (n : Int) := by rw [IntWalk.i64_in _ (by omega)]; omega
      have e3 : IntKind.i64.wrap (m.1 - c.1) = m.1 - c.1 := IntWalk.i64_in _ (by omega)
      have e4 : IntKind.i64.wrap (m.2 - c.2) = m.2 - c.2 := IntWalk.i64_in _ (by omega)
      have E1 := Lib.hid e1; have E2 := Lib.hid e2; have E3 := Lib.hid e3; have E4 := Lib.hid e4
      have hpos2 : (0 : Int) < (n : Int) + 1 := by omega
      cases hcn : cnd links i m n
      · have hr := HCN.out.symm.trans hcn
        have HR := Lib.hid (fun (w' : World) (hb' : Below wr.heap.size wr w') => (hca w' hb').mono fun e w3 ⟨he, hb3⟩ => (⟨by rw [he]; exact ret_bool hr, hb3⟩ : e = Ending.returned (.bool false) ∧ Below w'.heap.size w' w3))
        have HW2 := Lib.hid (show wayG links i m (n + 1) = wayG links (i + 1) m (n + 1) by rw [HHT.out, hcn]; rfl)
        have HD2 := Lib.hid (dist_skip HDI.out hcn)
        clear hr hcn hca
        go_wp2
        go_region_held3 (fun w' => Below wr.heap.size wr w' ∧ w'.cell? ⟨w.heap.size, 0, none⟩ = some (.int .i64 m.1) ∧ w'.cell? ⟨w.heap.size, 1, none⟩ = some (.int .i64 m.2) ∧ w'.cell? ⟨g, off + 2 * i, none⟩ = some (.int .i64 c.1) ∧ w'.cell? ⟨g, off + 2 * i + 1, none⟩ = some (.int .i64 c.2)) (((refine (fun kb => ⟨kb, (kb.cell (p := ⟨w.heap.size, 0, none⟩) hl9).trans c0, (kb.cell (p := ⟨w.heap.size, 1, none⟩) hl9).trans c1, (kb.cell (p := ⟨g, off + 2 * i, none⟩) hg9).trans r0, (kb.cell (p := ⟨g, off + 2 * i + 1, none⟩) hg9).trans r1⟩) (?_ : Below wr.heap.size wr _)); exact (by repeat (first | exact Below.refl _ _ | assumption | (refine Below.drew ?_) | (refine below_drewN ?_ _) | (refine Below.alloc ?_ (by first | (simp; done) | (simp; omega) | omega) _) | (refine Below.setCell ?_ (by first | (simp; done) | (simp; omega) | omega) _) | (refine Below.trans ?_ (Below.mono (by assumption) (by first | (simp; done) | (simp; omega) | omega))))))) (first | (go_at_call 77; refine (HR.out _ (by repeat (first | exact Below.refl _ _ | assumption | (refine Below.drew ?_) | (refine below_drewN ?_ _) | (refine Below.alloc ?_ (by first | (simp; done) | (simp; omega) | omega) _) | (refine Below.setCell ?_ (by first | (simp; done) | (simp; omega) | omega) _) | (refine Below.trans ?_ (Below.mono (by assumption) (by first | (simp; done) | (simp; omega) | omega)))))).mono ?_; go_must (rintro e w3 ⟨rfl, hb3⟩)))
        have hbE : Below wr.heap.size wr w3 := (Below.refl _ _).drew.trans (hb3.mono (Nat.le_refl _))
        have d0 := (hbE.cell (p := ⟨w.heap.size, 0, none⟩) hl9).trans c0
        have d1 := (hbE.cell (p := ⟨w.heap.size, 1, none⟩) hl9).trans c1
        have g0 := (hbE.frozen (p := ⟨w.heap.size, 0, none⟩) hl9).trans f0
        have g1 := (hbE.frozen (p := ⟨w.heap.size, 1, none⟩) hl9).trans f1
        have s0 := (hbE.cell (p := ⟨g, off + 2 * i, none⟩) hg9).trans r0
        have s1 := (hbE.cell (p := ⟨g, off + 2 * i + 1, none⟩) hg9).trans r1
        have hs3 := hbE.size
        have ho3 := row_kept HOWN.out hbE
        have HB3 := Lib.hid hb3
        clear hb3 c0 c1 f0 f1 r0 r1 e1 e2 e3 e4
        go_wp2
        go_roundw
        case rel => exact ⟨i + 1, by simp, by omega, n + 1, m, out, by simp, hn12, HD2.out, by rw [← HW2.out]; exact HWAY.out, HLEN.out, d0, d1, g0, g1, ho3, by omega, hb.trans (hbE.mono (by omega))⟩
        case measure => simp only [intOf]; omega
      · have hr := HCN.out.symm.trans hcn
        have HR := Lib.hid (fun (w' : World) (hb' : Below wr.heap.size wr w') => (hca w' hb').mono fun e w3 ⟨he, hb3⟩ => (⟨by rw [he]; exact ret_bool hr, hb3⟩ : e = Ending.returned (.bool true) ∧ Below w'.heap.size w' w3))
        have HW2 := Lib.hid (show wayG links i m (n + 1) = (i : Int) :: wayG links i (sub2 m c) n by rw [HHT.out, hcn]; rfl)
        have HD2 := Lib.hid (HDT.out hcn)
        clear hr hcn hca
        go_wp2
        go_region_held3 (fun w' => Below wr.heap.size wr w' ∧ w'.cell? ⟨w.heap.size, 0, none⟩ = some (.int .i64 m.1) ∧ w'.cell? ⟨w.heap.size, 1, none⟩ = some (.int .i64 m.2) ∧ w'.cell? ⟨g, off + 2 * i, none⟩ = some (.int .i64 c.1) ∧ w'.cell? ⟨g, off + 2 * i + 1, none⟩ = some (.int .i64 c.2)) (((refine (fun kb => ⟨kb, (kb.cell (p := ⟨w.heap.size, 0, none⟩) hl9).trans c0, (kb.cell (p := ⟨w.heap.size, 1, none⟩) hl9).trans c1, (kb.cell (p := ⟨g, off + 2 * i, none⟩) hg9).trans r0, (kb.cell (p := ⟨g, off + 2 * i + 1, none⟩) hg9).trans r1⟩) (?_ : Below wr.heap.size wr _)); exact (by repeat (first | exact Below.refl _ _ | assumption | (refine Below.drew ?_) | (refine below_drewN ?_ _) | (refine Below.alloc ?_ (by first | (simp; done) | (simp; omega) | omega) _) | (refine Below.setCell ?_ (by first | (simp; done) | (simp; omega) | omega) _) | (refine Below.trans ?_ (Below.mono (by assumption) (by first | (simp; done) | (simp; omega) | omega))))))) (first | (go_at_call 77; refine (HR.out _ (by repeat (first | exact Below.refl _ _ | assumption | (refine Below.drew ?_) | (refine below_drewN ?_ _) | (refine Below.alloc ?_ (by first | (simp; done) | (simp; omega) | omega) _) | (refine Below.setCell ?_ (by first | (simp; done) | (simp; omega) | omega) _) | (refine Below.trans ?_ (Below.mono (by assumption) (by first | (simp; done) | (simp; omega) | omega)))))).mono ?_; go_must (rintro e w3 ⟨rfl, hb3⟩)))
        have hbE : Below wr.heap.size wr w3 := (Below.refl _ _).drew.trans (hb3.mono (Nat.le_refl _))
        have d0 := (hbE.cell (p := ⟨w.heap.size, 0, none⟩) hl9).trans c0
        have d1 := (hbE.cell (p := ⟨w.heap.size, 1, none⟩) hl9).trans c1
        have g0 := (hbE.frozen (p := ⟨w.heap.size, 0, none⟩) hl9).trans f0
        have g1 := (hbE.frozen (p := ⟨w.heap.size, 1, none⟩) hl9).trans f1
        have s0 := (hbE.cell (p := ⟨g, off + 2 * i, none⟩) hg9).trans r0
        have s1 := (hbE.cell (p := ⟨g, off + 2 * i + 1, none⟩) hg9).trans r1
        have hs3 := hbE.size
        have ho3 := row_kept HOWN.out hbE
        have HB3 := Lib.hid hb3
        clear hb3 c0 c1 f0 f1 r0 r1 e1 e2 e3 e4
        have hl3 : w.heap.size < w3.heap.size := by omega
        have hlb : w1.heap.size ≤ w3.heap.size := by omega
        have hg4 : g < w1.heap.size := by omega
        have hg5' : g < w3.heap.size := by omega
        go_wp2_with (at_builtin; refine wpList_push rfl _ _ _ rfl slI ho3 rfl rfl (by first | rfl | simp) rfl rfl (by omega) (by omega) hlb ?_; intro g5 c5 w5 hown5 hg5 hat5; have v0 := (grown_c ho3 hg5 (show w.heap.size < w1.heap.size by omega) hl3 0).1.trans d0; have v1 := (grown_c ho3 hg5 (show w.heap.size < w1.heap.size by omega) hl3 1).1.trans d1; have v2 := (grown_c ho3 hg5 (show w.heap.size < w1.heap.size by omega) hl3 0).2.trans g0; have v3 := (grown_c ho3 hg5 (show w.heap.size < w1.heap.size by omega) hl3 1).2.trans g1; have v4 := (grown_c ho3 hg5 hg4 hg5' (off + 2 * i)).1.trans s0; have v5 := (grown_c ho3 hg5 hg4 hg5' (off + 2 * i + 1)).1.trans s1)
        have e3 := E3.out; have e4 := E4.out
        (refine stilld 17 (by kernel_rfl) (by kernel_rfl) ?_; simp only [List.take_succ_cons, List.take_zero, List.drop_succ_cons, List.drop_zero]; repeat (first | still_step | (refine wpStill_step (fun K hK => ?_); go_simp; refine ⟨_, fail, hK _ ?_⟩; clear hK K)); (try refine wpStill_nil ?_))
        go_wp2
        clear e3 e4
        go_roundw
        case rel =>
          have hs5 := hg5.size
          refine ⟨n, sub2 m c, out ++ [(i : Int)], by simp, by omega, HD2.out, by rw [List.append_assoc, List.singleton_append, ← HW2.out]; exact HWAY.out, by have := HLEN.out; simp; omega, ?_, ?_, by simp [v2], by simp [v3], ?_, ?_, ?_⟩
          · exact (World.cell?_setCell_other _ _ _ _ (by simp)).trans (World.cell?_setCell_same' _ _ _ (by simp [v0]))
          · exact World.cell?_setCell_same' _ _ _ (by rw [World.cell?_setCell_other _ _ _ _ (by simp)]; simp [v1])
          · have hnr : ∀ r, (Value.slice (some ⟨g5, 0, none⟩) (out.length + 1) c5).ownBlock = some r → (Value.slice (some ⟨g5, 0, none⟩) (out.length + 1) c5).ownBlock ≠ some w.heap.size := fun r hr he => by
              have := (hown5.lt _ he).1
              omega
            rw [ints_snoc, List.length_append]
            refine World.ownsRow.kept (World.ownsRow.kept hown5 (grown_set _ _ _ _) (.inr (hnr g5 rfl))) (grown_drew (grown_set _ _ _ _)) (.inr (hnr g5 rfl))
          · simp; omega
          · have hb5 : Below w.heap.size w w5 := below_push (hb.trans (hbE.mono (by omega))) ho3 (by omega) (by omega) hg5
            exact (hb5.drew.setCell (p := ⟨w.heap.size, 0, none⟩) (Nat.le_refl _) _).setCell (p := ⟨w.heap.size, 1, none⟩) (Nat.le_refl _) _
        case measure => simp only [intOf]; omega
end Go.Proofs.Ytpoofjioeljigaa
