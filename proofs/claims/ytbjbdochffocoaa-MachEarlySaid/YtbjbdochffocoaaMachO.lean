/- The reference's meet, Meet: their walks. -/
import Derived.Test.YtbjbdochffocoaaMachN
namespace Go.Proofs.Ytbjbdochffocoaa
open Go.RowKit Go.WideMaps Go.Lib
set_option linter.unusedVariables false
set_option maxHeartbeats 8000000 in
set_option maxRecDepth 100000 in
theorem rmeet_l (p : List OpD) (hv : validP p = true) (v : Value) (w : World) (hp : ProgRd w v p) : Calls Try.prog 41 #[v] w fun e w' => e = .returned (meetV (meetP p)) ∧ Below w.heap.size w w' := by
  have HP := Lib.hid hp
  obtain ⟨a, cap, g, off, rfl, hl, hm, hat⟩ := ops_at hp
  have HX := Lib.hid hat
  have hl4 := (small_of hv).len
  have HWF := Lib.hid (fun i (hi : i < p.length) => spot_wf hv hi)
  have HMP := Lib.hid (show meetP p = clashF (p.map spotO) from rfl)
  clear hp hat hv
  have hmm := @run_makeMap Try.prog
  go_enter Try.func41, Try.ntmps41
  go_wp2
  go_loopw [6] (fun t6 wr => ∃ k : Nat, k ≤ p.length ∧ t6 = .int .i64 (k : Nat) ∧ Hid (MetR8 wr w.heap.size w.heap.size k ((p.take k).map spotO)) ∧ Below w.heap.size w wr) (fun t6 _ => p.length - (intOf t6).toNat)
  case atStart => exact ⟨0, Nat.zero_le _, rfl, Lib.hid (MetG.made w w.heap.size), (Below.refl _ _).alloc (Nat.le_refl _) _⟩
  case round =>
    obtain ⟨k, hk, rfl, HM, hb⟩ := hrel
    have hs := hb.size
    by_cases hlt : k < p.length
    rotate_left
    · have hke : k = p.length := by omega
      have hlz : ¬ (k : Int) < (p.length : Int) := by omega
      have HM2 := Lib.hid (show MetR8 wr w.heap.size w.heap.size p.length (p.map spotO) by have := HM.out; rwa [hke, List.take_length] at this)
      clear HM hmm hke hlt
      obtain ⟨w0, hw0⟩ : ∃ x : World, x = wr := ⟨_, rfl⟩
      subst hw0
      go_wp2
      go_loopw [8] (fun t8 wr => ∃ i : Nat, i ≤ p.length ∧ t8 = .int .i64 (i : Nat) ∧ Hid (lone (p.map spotO) i) ∧ Below w0.heap.size w0 wr) (fun t8 _ => p.length - (intOf t8).toNat)
      case atStart => exact ⟨0, Nat.zero_le _, rfl, Lib.hid (fun j a hj => by omega), Below.refl _ _⟩
      case round =>
        obtain ⟨i, hil, rfl, HLO, hb2⟩ := hrel
        have hs2 := hb2.size
        by_cases hlt2 : i < p.length
        rotate_left
        · have hlz2 : ¬ (i : Int) < (p.length : Int) := by omega
          have HR := Lib.hid (show meetP p = none by
            rw [HMP.out]
            refine clash_none ?_
            rw [List.length_map, show p.length = i by omega]
            exact HLO.out)
          go_wp2
          refine bodyPost_ret (v := .tuple #[.int .i64 0, .int .i64 0, .bool false]) (by simp only [results, Try.results41]; first | (go_simp; done) | (go_simp; rfl)) rfl ⟨by rw [HR.out]; rfl, below_at hb hs hb2⟩
        have hlz2 : (i : Int) < (p.length : Int) := by omega
        have hi0 : (0 : Int) ≤ (i : Int) := by omega
        have K0 := below_at hb hs hb2
        obtain ⟨hix, hg, q0, q1, q2, q3, q4, q5⟩ := HX.out i hlt2
        have r0 := (K0.cell (p := ⟨g, off + 6 * i, none⟩) hg).trans q0
        have r1 := (K0.cell (p := ⟨g, off + 6 * i + 1, none⟩) hg).trans q1
        have r2 := (K0.cell (p := ⟨g, off + 6 * i + 2, none⟩) hg).trans q2
        have r3 := (K0.cell (p := ⟨g, off + 6 * i + 3, none⟩) hg).trans q3
        clear q0 q1 q2 q3 q4 q5
        have HWK := Lib.hid (HWF.out i hlt2)
        have HAT := Lib.hid (show (p.map spotO)[i]? = some (spotO p[i]) by rw [List.getElem?_map, List.getElem?_eq_getElem hlt2]; rfl)
        have HLT := Lib.hid hlt2
        generalize p[i] = o at *
        obtain ⟨t, ⟨c0, c1⟩, u, kd, fv, src⟩ := o
        simp only [spotO] at r0 r1 r2 r3 HWK HAT
        obtain ⟨kl, hkl⟩ := key_rspot8 (t, c0, c1, u) HWK.out
        obtain ⟨v, hlk⟩ := HM2.out.look law_rspot8 (T := 75) Try.underlying75 zv_intsM (t, c0, c1, u) hkl
        simp only [kvR] at hlk
        have hlk0 := (hlk wr hb2).1
        have hlk1 := fun n => (hlk (wr.drewN n) (below_drewN hb2 n)).1
        have HLK := Lib.hid hlk; clear hlk hkl
        go_wp2_with fail
        go_quiet (fail)
        have KW : Below w0.heap.size w0 (wr.drewN nq) := below_drewN hb2 nq
        have hown := (HLK.out _ KW).2
        generalize wr.drewN nq = wc at *
        have h0 := clash_head HLO.out HAT.out
        have h1 := clash_one HAT.out
        have HS := Lib.hid (fun h => lone_step HLO.out HAT.out h)
        have HCS := Lib.hid (fun b => clash_some (b := b) HLO.out HAT.out)
        rw [← HMP.out] at HCS
        generalize idxs (p.map spotO) (t, c0, c1, u) = I at *
        obtain ⟨va, vc, vg, voff, rfl, hvl, hvm, hvx⟩ := SlOf.at (enc := encNat) (fun _ => rfl) un_int sz_int1 hown.sl
        unfold maxLen at hvm
        clear HLK hown hlk0 hlk1 r0 r1 r2 r3
        have hI0 : I[0] = i := Option.some.inj ((List.getElem?_eq_getElem h1).symm.trans h0)
        have j0 : ∀ W, (Instr.indexAt 25 (.slice va I.length vc) (.int .i64 0)).run Try.prog W = .ok (.pointer (some ⟨vg, voff, none⟩)) W := fun W => by simpa using (hvx 0 h1).2.1 W
        have x0 : wc.cell? ⟨vg, voff, none⟩ = some (.int .i64 (i : Int)) := by
          have := (hvx 0 h1).2.2.2 0 (Nat.lt_succ_self 0)
          rw [hI0] at this
          simpa [encNat] using this
        have KX := Lib.hid (below_at hb hs KW)
        have KWH := Lib.hid KW; clear KW
        by_cases h2 : I.length = 1
        · have HI := Lib.hid h2
          have hone : ¬ (1 : Int) < (I.length : Int) := by omega
          clear hvx HCS h1 h2 hI0 h0
          go_wp2
          go_roundw
          case rel => exact ⟨i + 1, HLT.out, by simp, Lib.hid (HS.out (by rw [HI.out]; exact Nat.le_refl _)), KWH.out⟩
          case measure => simp only [intOf]; have := HLT.out; omega
        · have h3 : 1 < I.length := by omega
          have HR := Lib.hid (HCS.out I[1] (List.getElem?_eq_getElem h3))
          have j1 : ∀ W, (Instr.indexAt 25 (.slice va I.length vc) (.int .i64 1)).run Try.prog W = .ok (.pointer (some ⟨vg, voff + 1, none⟩)) W := fun W => by simpa using (hvx 1 h3).2.1 W
          have x1 : wc.cell? ⟨vg, voff + 1, none⟩ = some (.int .i64 (I[1] : Int)) := by
            have := (hvx 1 h3).2.2.2 0 (Nat.lt_succ_self 0)
            simpa [encNat] using this
          clear hvx HCS h2 h1 hI0 h0
          generalize I[1] = b at *
          generalize I.length = n at *
          have h3' : (1 : Int) < (n : Int) := by omega
          go_wp2
          go_quiet (fail)
          go_wp2
          refine bodyPost_ret (v := .tuple #[.int .i64 (i : Int), .int .i64 (b : Int), .bool true]) (by simp only [results, Try.results41]; first | (go_simp; done) | (go_simp; rfl)) rfl ⟨by rw [HR.out]; rfl, below_drewN KX.out _⟩
    have hlz : (k : Int) < (p.length : Int) := by omega
    have hk0 : (0 : Int) ≤ (k : Int) := by omega
    obtain ⟨hix, hg, q0, q1, q2, q3, q4, q5⟩ := HX.out k hlt
    have r0 := (hb.cell (p := ⟨g, off + 6 * k, none⟩) hg).trans q0
    have r1 := (hb.cell (p := ⟨g, off + 6 * k + 1, none⟩) hg).trans q1
    have r2 := (hb.cell (p := ⟨g, off + 6 * k + 2, none⟩) hg).trans q2
    have r3 := (hb.cell (p := ⟨g, off + 6 * k + 3, none⟩) hg).trans q3
    clear q0 q1 q2 q3 q4 q5
    have HWK := Lib.hid (HWF.out k hlt)
    have HT := Lib.hid (map_take spotO p k hlt)
    have HTL := Lib.hid (show ((p.take k).map spotO).length = k by rw [List.length_map, List.length_take]; omega)
    have HLT := Lib.hid hlt
    generalize (p.take k).map spotO = D at *
    generalize p[k] = o at *
    obtain ⟨t, ⟨c0, c1⟩, u, kd, fv, src⟩ := o
    simp only [spotO] at r0 r1 r2 r3 HWK HT
    have hgw : g < wr.heap.size := by omega
    have S5 := Lib.hid (show ∀ V, Below wr.heap.size wr V → Below wr.heap.size wr V ∧ V.cell? ⟨g, off + 6 * k, none⟩ = some (.int .i64 t) ∧ V.cell? ⟨g, off + 6 * k + 1, none⟩ = some (.int .i64 c0) ∧ V.cell? ⟨g, off + 6 * k + 2, none⟩ = some (.int .i64 c1) ∧ V.cell? ⟨g, off + 6 * k + 3, none⟩ = some (.int .i64 u) from fun V h =>
      ⟨h, (h.cell (p := ⟨g, off + 6 * k, none⟩) hgw).trans r0, (h.cell (p := ⟨g, off + 6 * k + 1, none⟩) hgw).trans r1, (h.cell (p := ⟨g, off + 6 * k + 2, none⟩) hgw).trans r2, (h.cell (p := ⟨g, off + 6 * k + 3, none⟩) hgw).trans r3⟩)
    clear hmm
    go_wp2_with fail
    go_cut [6, 7] from 11 to 40 (fun t6 t7 wx => ∃ g8, t7 = .pointer (some ⟨g8, 0, none⟩) ∧ t6 = .int .i64 (k : Nat) ∧ wr.heap.size ≤ g8 ∧ g8 < wx.heap.size ∧ wx.cell? ⟨g8, 0, none⟩ = some (.int .i64 t) ∧ wx.cell? ⟨g8, 1, none⟩ = some (.int .i64 u) ∧ wx.cell? ⟨g8, 2, none⟩ = some (.int .i64 c0) ∧ wx.cell? ⟨g8, 3, none⟩ = some (.int .i64 c1) ∧ Below wr.heap.size wr wx)
    case first =>
      go_region_held3 (fun V => Below wr.heap.size wr V ∧ V.cell? ⟨g, off + 6 * k, none⟩ = some (.int .i64 t) ∧ V.cell? ⟨g, off + 6 * k + 1, none⟩ = some (.int .i64 c0) ∧ V.cell? ⟨g, off + 6 * k + 2, none⟩ = some (.int .i64 c1) ∧ V.cell? ⟨g, off + 6 * k + 3, none⟩ = some (.int .i64 u)) ((refine S5.out _ ?_; exact (by repeat (first | (with_reducible exact Below.refl _ _) | (with_reducible assumption) | (with_reducible refine Below.drew ?_) | (with_reducible refine Below.setCell ?_ (by first | (simp; done) | (simp; omega) | omega) _) | (with_reducible refine Below.alloc ?_ (by first | (simp; done) | (simp; omega) | omega) _) | (with_reducible refine below_drewN ?_ _) | (refine Below.trans ?_ (Below.mono (by with_reducible assumption) (by first | (simp; done) | (simp; omega) | omega))))))) (fail)
      all_goals (try go_wp2_with fail)
      all_goals go_meet
      all_goals (refine ⟨_, rfl, rfl, by omega, by first | (simp; done) | (simp; omega), by go_simp, by go_simp, by go_simp, by go_simp, by repeat (first | (with_reducible exact Below.refl _ _) | (with_reducible assumption) | (with_reducible refine Below.drew ?_) | (with_reducible refine Below.setCell ?_ (by first | (simp; done) | (simp; omega) | omega) _) | (with_reducible refine Below.alloc ?_ (by first | (simp; done) | (simp; omega) | omega) _) | (with_reducible refine below_drewN ?_ _) | (refine Below.trans ?_ (Below.mono (by with_reducible assumption) (by first | (simp; done) | (simp; omega) | omega))))⟩)
    case rest =>
      obtain ⟨g8, rfl, rfl, hg8, hg8', y0, y1, y2, y3, K⟩ := hcut
      have hsx := K.size
      obtain ⟨W2, hW2⟩ : ∃ W : World, wc.alloc (Obj.cells #[.int .i64 (k : Int)] 3) = W := ⟨_, rfl⟩
      have K2 : Below wr.heap.size wr W2 := by rw [← hW2]; exact K.alloc hsx _
      have hs2 : W2.heap.size = wc.heap.size + 1 := by rw [← hW2]; simp
      have hn2 : W2.heap[wc.heap.size]? = some (Obj.cells #[.int .i64 (k : Int)] 3) := by rw [← hW2]; exact heap_alloc_new _ _
      obtain ⟨kl, hkl⟩ := key_rspot8 (t, c0, c1, u) HWK.out
      obtain ⟨v, st, w1, hr, hg1, hown1, hst⟩ := (HM.out.kept K2).step law_rspot8 (T := 75) Try.underlying75 zv_intsM kvR_inj (by omega) (t, c0, c1, u) hkl
      have hlt2 := HM.out.lt
      have hn1 : w1.heap[wc.heap.size]? = some (Obj.cells #[.int .i64 (k : Int)] 3) := (hg1.block _ (by omega) (by intro e; simp only [Option.some.injEq] at e; omega)).trans hn2
      have hs1 := hg1.size
      simp only [kvR] at hr
      rw [← hW2] at hr
      have HST := Lib.hid hst
      have HW2 := Lib.hid hW2
      have hil := idxs_len D (t, c0, c1, u)
      rw [HTL.out] at hil
      have hil2 : (idxs D (t, c0, c1, u)).length + 1 ≤ 1073741824 := by omega
      have hbs1 : w.heap.size ≤ w1.heap.size := by omega
      have hbs2 : w.heap.size ≤ W2.heap.size := by omega
      clear hst hW2 hn2 hs2 hkl
      go_wp2_with (at_builtin; refine wpList_pushAt rfl _ _ _ rfl slInts hown1 (by rfl) (by rfl) hn1 rfl rfl hil2 (by omega) hbs1 ?_; intro g5 c5 w6 hown6 hg6 hat6; obtain ⟨w7, hr7, hM7, hg7, hB7⟩ := HST.out g5 c5 w6 (by simpa [HTL.out] using hown6) hg6 hat6; simp only [goInt] at hr7)
      go_roundw
      case rel => exact ⟨k + 1, HLT.out, by simp, Lib.hid (by rw [HT.out]; exact hM7), (below_at hb hs K2).trans (hB7 w.heap.size (Nat.le_refl _) (Nat.le_refl _) hbs2)⟩
      case measure => simp only [intOf]; have := HLT.out; omega
theorem rMeet_l (p : List OpD) (v : Value) (w : World) (hp : ProgRd w v p) : Calls Try.prog 19 #[v] w fun e w' => e = .returned (meetX p) ∧ Below w.heap.size w w' := by
  have HP := Lib.hid hp
  have HVL := Lib.hid (fun (W : World) (h : ProgRd W v p) => rValid_l p v W h)
  obtain ⟨a, cap, hve, -⟩ := hp.ops.shape
  clear hp
  cases hv : validP p
  · have HR := Lib.hid (show meetX p = .tuple #[.int .i64 0, .int .i64 0, .int .i64 80] by unfold meetX; rw [hv]; rfl)
    rw [hv] at HVL
    clear hv hve
    go_enter Try.func19, Try.ntmps19
    go_wp2_with (go_at_call 17; refine (HVL.out _ HP.out).mono ?_; go_must (rintro e w1 ⟨rfl, hb1⟩))
    refine bodyPost_ret (v := .tuple #[.int .i64 0, .int .i64 0, .int .i64 80]) (by simp only [results, Try.results19]; first | (go_simp; done) | (go_simp; rfl)) rfl ⟨by rw [HR.out], hb1⟩
  have HML := Lib.hid (fun (W : World) (h : ProgRd W v p) => rmeet_l p hv v W h)
  rw [hv] at HVL
  cases hm : meetP p with
  | none =>
    have HR := Lib.hid (show meetX p = .tuple #[.int .i64 0, .int .i64 0, .int .i64 5] by unfold meetX; rw [hv, hm]; rfl)
    rw [hm] at HML
    simp only [meetV] at HML
    clear hv hve hm
    go_enter Try.func19, Try.ntmps19
    go_wp2_with (first | (go_at_call 17; refine (HVL.out _ HP.out).mono ?_; go_must (rintro e w1 ⟨rfl, hb1⟩; have HB1 := Lib.hid hb1; clear hb1)) | (go_at_call 41; refine (HML.out _ (HP.out.below HB1.out)).mono ?_; go_must (rintro e w2 ⟨rfl, hb2⟩)))
    refine bodyPost_ret (v := .tuple #[.int .i64 0, .int .i64 0, .int .i64 5]) (by simp only [results, Try.results19]; first | (go_simp; done) | (go_simp; rfl)) rfl ⟨by rw [HR.out], below_at HB1.out HB1.out.size hb2⟩
  | some x =>
    obtain ⟨i, k⟩ := x
    have HR := Lib.hid (show meetX p = .tuple #[.int .i64 (i : Int), .int .i64 (k : Int), .int .i64 0] by unfold meetX; rw [hv, hm]; rfl)
    rw [hm] at HML
    simp only [meetV] at HML
    clear hv hve hm
    go_enter Try.func19, Try.ntmps19
    go_wp2_with (first | (go_at_call 17; refine (HVL.out _ HP.out).mono ?_; go_must (rintro e w1 ⟨rfl, hb1⟩; have HB1 := Lib.hid hb1; clear hb1)) | (go_at_call 41; refine (HML.out _ (HP.out.below HB1.out)).mono ?_; go_must (rintro e w2 ⟨rfl, hb2⟩)))
    refine bodyPost_ret (v := .tuple #[.int .i64 (i : Int), .int .i64 (k : Int), .int .i64 0]) (by simp only [results, Try.results19]; first | (go_simp; done) | (go_simp; rfl)) rfl ⟨by rw [HR.out], below_at HB1.out HB1.out.size hb2⟩
end Go.Proofs.Ytbjbdochffocoaa
