/- Package space: the plan's clash: its walk. The reference's spotOf: its walk; counts and second points of keys: plain. The reference's clash: its walk. Conditions: none. -/
import Derived.Test.YtnejicklenhpeaaGreatSafeP
import Derived.Test.YtnejicklenhpeaaGreatRecAB
import Derived.Test.YtnejicklenhpeaaGreatKitA
namespace Go.Proofs.YtnejicklenhpeaaGreat
open Go.RowKit Go.WideMaps
theorem slIn : SlT Tryz.prog 39 3 (.int .i64 0) 1 8 := ⟨Tryz.underlying39, by kernel_rfl, rfl, by decide⟩
set_option maxHeartbeats 4000000 in
set_option maxRecDepth 100000 in
theorem clash_l (r : RecD) (s : SchedD) (u : P3) (ha : askS r s u = 0) (bp bv : Nat) (pv : Value) (w : World) (hp : PlanAt w bp bv r s u pv) :
    Calls Tryz.prog 70 #[.pointer (some ⟨bp, 0, none⟩)] w fun e w' => e = .returned (clashV (clashL r s u)) ∧ Below w.heap.size w w' := by
  obtain ⟨qa, qc, g, off, hqe, hlc, hcm, hx⟩ := SlOf.at (enc := encP) (fun _ => rfl) un_pts sz_pts hp.view.pts
  subst hqe
  unfold maxLen at hcm
  have HX := Lib.hid hx; clear hx
  have hplt := hp.lt; have hvlt := hp.view.lt
  have c0 := hp.c0; have c1 := hp.c1; have c2 := hp.c2; have c3 := hp.c3
  have f0 := hp.view.c0; have f1 := hp.view.c1; have f2 := hp.view.c2; have f3 := hp.view.c3; have f4 := hp.view.c4; have f8 := hp.view.c8
  clear hp
  have HD := Lib.hid (fun p (hp : p ∈ ptsL r.n r.l) (W : World) => dot_key (u := u) ha hp W)
  have HC := Lib.hid (fun (p : P3) (W : World) => show Calls Tryz.prog 108 #[.agg #[.int .i64 r.n, .int .i64 (axK r.n u), .int .i64 u.1, .int .i64 u.2.1, .int .i64 u.2.2], .agg #[.int .i64 p.1, .int .i64 p.2.1, .int .i64 p.2.2]] W fun e w' => e = .returned (.agg #[.int .i64 (keyS r s u p).2.1, .int .i64 (keyS r s u p).2.2]) ∧ Below W.heap.size W w' from cell_l r.n u p (askS_ok ha).2.2.1 W)
  have HWF := Lib.hid (fun p (hp : p ∈ ptsL r.n r.l) => key_wf (u := u) ha hp)
  have HPL := Lib.hid (ptsL_len r.n r.l)
  have HCL := Lib.hid (show clashL r s u = clashF ((ptsL r.n r.l).map (keyS r s u)) from rfl)
  clear ha
  generalize keyS r s u = F at *
  generalize clashL r s u = R at *
  generalize axK r.n u = kk at *
  generalize ptsL r.n r.l = L at *
  have VD := Lib.hid (show ∀ V, Below w.heap.size w V → V.cell? ⟨bp, 0, none⟩ = some (.pointer (some ⟨bv, 0, none⟩)) ∧ V.cell? ⟨bp, 1, none⟩ = some (.int .i64 s.f.1) ∧ V.cell? ⟨bp, 2, none⟩ = some (.int .i64 s.f.2.1) ∧ V.cell? ⟨bp, 3, none⟩ = some (.int .i64 s.f.2.2) ∧ V.cell? ⟨bv, 0, none⟩ = some (.int .i64 r.n) ∧ V.cell? ⟨bv, 1, none⟩ = some (.int .i64 kk) ∧ V.cell? ⟨bv, 2, none⟩ = some (.int .i64 u.1) ∧ V.cell? ⟨bv, 3, none⟩ = some (.int .i64 u.2.1) ∧ V.cell? ⟨bv, 4, none⟩ = some (.int .i64 u.2.2) from fun V h => ⟨(h.cell (p := ⟨bp, 0, none⟩) hplt).trans (by assumption), (h.cell (p := ⟨bp, 1, none⟩) hplt).trans (by assumption), (h.cell (p := ⟨bp, 2, none⟩) hplt).trans (by assumption), (h.cell (p := ⟨bp, 3, none⟩) hplt).trans (by assumption), (h.cell (p := ⟨bv, 0, none⟩) hvlt).trans (by assumption), (h.cell (p := ⟨bv, 1, none⟩) hvlt).trans (by assumption), (h.cell (p := ⟨bv, 2, none⟩) hvlt).trans (by assumption), (h.cell (p := ⟨bv, 3, none⟩) hvlt).trans (by assumption), (h.cell (p := ⟨bv, 4, none⟩) hvlt).trans (by assumption)⟩)
  clear c1 c2 c3 f0 f1 f2 f3 f4
  have hmm := @run_makeMap Tryz.prog
  go_enter Tryz.func70, Tryz.ntmps70
  go_wp2
  go_loopw [21] (fun t21 wr => ∃ k : Nat, k ≤ L.length ∧ t21 = .int .i64 (k : Nat) ∧ Hid (Met wr w.heap.size w.heap.size k ((L.take k).map F)) ∧ Below w.heap.size w wr) (fun t21 _ => L.length - (intOf t21).toNat)
  case atStart => exact ⟨0, Nat.zero_le _, rfl, Lib.hid (by simpa using Met.made w w.heap.size), by repeat (first | exact Below.refl _ _ | assumption | (refine Below.drew ?_) | (refine below_drewN ?_ _) | (refine Below.alloc ?_ (by first | (simp; done) | (simp; omega) | omega) _) | (refine Below.setCell ?_ (by first | (simp; done) | (simp; omega) | omega) _) | (refine Below.trans ?_ (Below.mono (by assumption) (by first | (simp; done) | (simp; omega) | omega))))⟩
  case round =>
    obtain ⟨k, hk, rfl, HM, hb⟩ := hrel
    have hs := hb.size
    by_cases hlt : k < L.length
    rotate_left
    · have hke : k = L.length := by omega
      subst hke
      have HM2 := Lib.hid (show Met wr w.heap.size w.heap.size L.length (L.map F) by have := HM.out; rwa [List.take_length] at this)
      clear HM hmm
      have d0 := (hb.cell (p := ⟨bp, 0, none⟩) hplt).trans c0
      have d8 := (hb.cell (p := ⟨bv, 8, none⟩) hvlt).trans f8
      obtain ⟨w0, hw0⟩ : ∃ x : World, x = wr := ⟨_, rfl⟩
      subst hw0
      go_wp2
      clear d0 d8
      go_loopw [60] (fun t60 wr => ∃ i : Nat, i ≤ L.length ∧ t60 = .int .i64 (i : Nat) ∧ Hid (lone (L.map F) i) ∧ Below w0.heap.size w0 wr) (fun t60 _ => L.length - (intOf t60).toNat)
      case atStart => exact ⟨0, Nat.zero_le _, rfl, Lib.hid (fun j a hj => by omega), Below.refl _ _⟩
      case round =>
        obtain ⟨i, hil, rfl, HLO, hb2⟩ := hrel
        have hs2 := hb2.size
        by_cases hlt2 : i < L.length
        rotate_left
        · have HR := Lib.hid (show R = none by
            rw [HCL.out]
            refine clash_none ?_
            rw [List.length_map, show L.length = i by omega]
            exact HLO.out)
          go_wp2
          refine bodyPost_ret (v := .tuple #[.int .i64 0, .int .i64 0, .bool false]) (by simp only [results, Tryz.results70]; first | (go_simp; done) | (go_simp; rfl)) rfl ⟨by rw [HR.out]; rfl, below_at hb hs hb2⟩
        have K0 := below_at hb hs hb2
        obtain ⟨-, hi, hg, hc⟩ := HX.out i hlt2
        have rd := fun j hj => (K0.cell (p := ⟨g, off + 3 * i + j, none⟩) hg).trans (hc j hj)
        clear hc
        have hmem : L[i] ∈ L := List.getElem_mem hlt2
        have HDK := Lib.hid (HD.out L[i] hmem)
        have HCK := Lib.hid (HC.out L[i])
        have HWK := Lib.hid (HWF.out L[i] hmem)
        have HAT := Lib.hid (show (L.map F)[i]? = some (F L[i]) by rw [List.getElem?_map, List.getElem?_eq_getElem hlt2]; rfl)
        have HLT := Lib.hid hlt2
        clear hmem
        generalize L[i] = p at *
        generalize F p = a at *
        obtain ⟨p0, p1, p2⟩ := p
        obtain ⟨a0, a1, a2⟩ := a
        simp only at HDK HCK
        have r0 : wr.cell? ⟨g, off + 3 * i, none⟩ = some (.int .i64 p0) := rd 0 (by omega)
        have r1 : wr.cell? ⟨g, off + 3 * i + 1, none⟩ = some (.int .i64 p1) := rd 1 (by omega)
        have r2 : wr.cell? ⟨g, off + 3 * i + 2, none⟩ = some (.int .i64 p2) := rd 2 (by omega)
        clear rd
        obtain ⟨v, hlk⟩ := HM2.out.look (a0, a1, a2) HWK.out
        simp only [ptV] at hlk
        have HLK := Lib.hid hlk; clear hlk
        obtain ⟨W2, hW2⟩ : ∃ W : World, wr.alloc (Obj.cells #[.int .i64 p0, .int .i64 p1, .int .i64 p2] 29) = W := ⟨_, rfl⟩
        have kw2 : Below wr.heap.size wr W2 := by rw [← hW2]; exact (by repeat (first | exact Below.refl _ _ | assumption | (refine Below.drew ?_) | (refine below_drewN ?_ _) | (refine Below.alloc ?_ (by first | (simp; done) | (simp; omega) | omega) _) | (refine Below.setCell ?_ (by first | (simp; done) | (simp; omega) | omega) _) | (refine Below.trans ?_ (Below.mono (by assumption) (by first | (simp; done) | (simp; omega) | omega)))))
        have ks2 : W2.heap.size = wr.heap.size + 1 := by rw [← hW2]; simp
        have RD2 := Lib.hid (show ∀ V, Below W2.heap.size W2 V → V.cell? ⟨wr.heap.size, 0, none⟩ = some (.int .i64 p0) ∧ V.cell? ⟨wr.heap.size, 1, none⟩ = some (.int .i64 p1) ∧ V.cell? ⟨wr.heap.size, 2, none⟩ = some (.int .i64 p2) from fun V h => by
            refine ⟨(h.cell (p := ⟨wr.heap.size, 0, none⟩) (by simp; omega)).trans ?_, (h.cell (p := ⟨wr.heap.size, 1, none⟩) (by simp; omega)).trans ?_, (h.cell (p := ⟨wr.heap.size, 2, none⟩) (by simp; omega)).trans ?_⟩ <;> (subst hW2; go_simp))
        have HW2 := Lib.hid hW2; have KW2 := Lib.hid kw2; clear hW2 kw2
        have KB := Lib.hid (below_at K0 (by omega) KW2.out)
        have KC := Lib.hid (below_at hb2 hs2 KW2.out)
        have hsW : w.heap.size ≤ W2.heap.size := by omega
        have hsV : w0.heap.size ≤ W2.heap.size := by omega
        go_wp2_with fail
        rw [HW2.out]
        have HK2 := Lib.hid ks2
        clear r0 r1 r2 hi ks2
        go_cut [11, 60] from 60 to 98 (fun t11 t60 wx => t11 = v ∧ t60 = .int .i64 (i : Nat) ∧ Below W2.heap.size W2 wx)
        case first =>
          go_region_held3 (fun w' => Below W2.heap.size W2 w' ∧ (w'.cell? ⟨wr.heap.size, 0, none⟩ = some (.int .i64 p0) ∧ w'.cell? ⟨wr.heap.size, 1, none⟩ = some (.int .i64 p1) ∧ w'.cell? ⟨wr.heap.size, 2, none⟩ = some (.int .i64 p2)) ∧ (w'.cell? ⟨bp, 0, none⟩ = some (.pointer (some ⟨bv, 0, none⟩)) ∧ w'.cell? ⟨bp, 1, none⟩ = some (.int .i64 s.f.1) ∧ w'.cell? ⟨bp, 2, none⟩ = some (.int .i64 s.f.2.1) ∧ w'.cell? ⟨bp, 3, none⟩ = some (.int .i64 s.f.2.2) ∧ w'.cell? ⟨bv, 0, none⟩ = some (.int .i64 r.n) ∧ w'.cell? ⟨bv, 1, none⟩ = some (.int .i64 kk) ∧ w'.cell? ⟨bv, 2, none⟩ = some (.int .i64 u.1) ∧ w'.cell? ⟨bv, 3, none⟩ = some (.int .i64 u.2.1) ∧ w'.cell? ⟨bv, 4, none⟩ = some (.int .i64 u.2.2))) (((refine (fun kb => (⟨kb, RD2.out _ kb, VD.out _ (below_at KB.out hsW kb)⟩)) (?_ : Below W2.heap.size W2 _); exact (by repeat (first | exact Below.refl _ _ | assumption | (refine Below.drew ?_) | (refine below_drewN ?_ _) | (refine Below.alloc ?_ (by first | (simp; done) | (simp; omega) | omega) _) | (refine Below.setCell ?_ (by first | (simp; done) | (simp; omega) | omega) _) | (refine Below.trans ?_ (Below.mono (by assumption) (by first | (simp; done) | (simp; omega) | omega)))))))) (first | (go_at_call 125; refine (HDK.out _).mono ?_; go_must (rintro e w5 ⟨rfl, hb5⟩; have hs5 := hb5.size; (try simp at hs5); have hlk5 := (HLK.out w5 (below_at KC.out hsV (by repeat (first | exact Below.refl _ _ | assumption | (refine Below.drew ?_) | (refine below_drewN ?_ _) | (refine Below.alloc ?_ (by first | (simp; done) | (simp; omega) | omega) _) | (refine Below.setCell ?_ (by first | (simp; done) | (simp; omega) | omega) _) | (refine Below.trans ?_ (Below.mono (by assumption) (by first | (simp; done) | (simp; omega) | omega))))))).1)) | (go_at_call 108; refine (HCK.out _).mono ?_; go_must (rintro e w6 ⟨rfl, hb6⟩; have hs6 := hb6.size; (try simp at hs6); have hlk6 := (HLK.out w6 (below_at KC.out hsV (by repeat (first | exact Below.refl _ _ | assumption | (refine Below.drew ?_) | (refine below_drewN ?_ _) | (refine Below.alloc ?_ (by first | (simp; done) | (simp; omega) | omega) _) | (refine Below.setCell ?_ (by first | (simp; done) | (simp; omega) | omega) _) | (refine Below.trans ?_ (Below.mono (by assumption) (by first | (simp; done) | (simp; omega) | omega))))))).1)))
          all_goals (try go_wp2_with fail)
          all_goals go_meet
          all_goals (refine ⟨rfl, rfl, by repeat (first | exact Below.refl _ _ | assumption | (refine Below.drew ?_) | (refine below_drewN ?_ _) | (refine Below.alloc ?_ (by first | (simp; done) | (simp; omega) | omega) _) | (refine Below.setCell ?_ (by first | (simp; done) | (simp; omega) | omega) _) | (refine Below.trans ?_ (Below.mono (by assumption) (by first | (simp; done) | (simp; omega) | omega))))⟩)
        case rest =>
          obtain ⟨rfl, rfl, hbx⟩ := hcut
          have hKC := below_at KC.out hsV hbx
          have hown := (HLK.out wc hKC).2
          have h0 := clash_head HLO.out HAT.out
          have h1 := clash_one HAT.out
          have HS := Lib.hid (fun h => lone_step HLO.out HAT.out h)
          have HCS := Lib.hid (fun b => clash_some (b := b) HLO.out HAT.out)
          rw [← HCL.out] at HCS
          generalize idxs (L.map F) (a0, a1, a2) = I at *
          obtain ⟨va, vc, vg, voff, rfl, hvl, hvm, hvx⟩ := SlOf.at (enc := encNat) (fun _ => rfl) un_sf1 sz_sf1 hown.sl
          unfold maxLen at hvm
          clear HLK hown
          have hI0 : I[0] = i := Option.some.inj ((List.getElem?_eq_getElem h1).symm.trans h0)
          have j0 : ∀ W, (Instr.indexAt 39 (.slice va I.length vc) (.int .i64 0)).run Tryz.prog W = .ok (.pointer (some ⟨vg, voff, none⟩)) W := fun W => by simpa using (hvx 0 h1).2.1 W
          have x0 : wc.cell? ⟨vg, voff, none⟩ = some (.int .i64 (i : Int)) := by
            have := (hvx 0 h1).2.2.2 0 (Nat.lt_succ_self 0)
            rw [hI0] at this
            simpa [encNat] using this
          have HRR := Lib.hid (below_at hb hs hKC)
          by_cases h2 : I.length = 1
          · have HI := Lib.hid h2
            clear hvx hI0 h0 HCS
            rw [h2] at j0 hvl
            rw [h2]
            clear h1 h2
            go_wp2
            go_roundw
            case rel => exact ⟨i + 1, HLT.out, by simp, Lib.hid (HS.out (by rw [HI.out]; exact Nat.le_refl _)), hKC⟩
            case measure => simp only [intOf]; have := HLT.out; omega
          · have h3 : 1 < I.length := by omega
            have hI1 : I[1]? = some I[1] := List.getElem?_eq_getElem h3
            have HR := Lib.hid (HCS.out I[1] hI1)
            have j1 : ∀ W, (Instr.indexAt 39 (.slice va I.length vc) (.int .i64 1)).run Tryz.prog W = .ok (.pointer (some ⟨vg, voff + 1, none⟩)) W := fun W => by simpa using (hvx 1 h3).2.1 W
            have x1 : wc.cell? ⟨vg, voff + 1, none⟩ = some (.int .i64 (I[1] : Int)) := by
              have := (hvx 1 h3).2.2.2 0 (Nat.lt_succ_self 0)
              simpa [encNat] using this
            clear hvx hI0 h0 HCS h2 hI1 h1
            generalize I[1] = b at *
            generalize I.length = n at *
            have h3' : (1 : Int) < (n : Int) := by omega
            go_wp2
            go_region
            all_goals
              go_wp2
              refine bodyPost_ret (v := .tuple #[.int .i64 (i : Int), .int .i64 (b : Int), .bool true]) (by simp only [results, Tryz.results70]; first | (go_simp; done) | (go_simp; rfl)) rfl ⟨by rw [HR.out]; rfl, by have KK := HRR.out; exact (by repeat (first | exact Below.refl _ _ | assumption | (refine Below.drew ?_) | (refine below_drewN ?_ _) | (refine Below.alloc ?_ (by first | (simp; done) | (simp; omega) | omega) _) | (refine Below.setCell ?_ (by first | (simp; done) | (simp; omega) | omega) _) | (refine Below.trans ?_ (Below.mono (by assumption) (by first | (simp; done) | (simp; omega) | omega)))))⟩
    obtain ⟨-, hi, hg, hc⟩ := HX.out k hlt
    have rd := fun j hj => (hb.cell (p := ⟨g, off + 3 * k + j, none⟩) hg).trans (hc j hj)
    clear hc
    have hmem : L[k] ∈ L := List.getElem_mem hlt
    have HDK := Lib.hid (HD.out L[k] hmem)
    have HCK := Lib.hid (HC.out L[k])
    have HWK := Lib.hid (HWF.out L[k] hmem)
    have HT := Lib.hid (show (L.take (k + 1)).map F = (L.take k).map F ++ [F L[k]] by rw [List.take_succ_eq_append_getElem hlt, List.map_append]; rfl)
    have HTL := Lib.hid (show ((L.take k).map F).length = k by rw [List.length_map, List.length_take]; omega)
    have HKL := Lib.hid (show k ≤ 68921 by have := HPL.out; omega)
    have HLT := Lib.hid hlt
    clear hmem
    generalize (L.take k).map F = D at *
    generalize L[k] = p at *
    generalize F p = a at *
    obtain ⟨p0, p1, p2⟩ := p
    obtain ⟨a0, a1, a2⟩ := a
    simp only at HDK HCK
    have r0 : wr.cell? ⟨g, off + 3 * k, none⟩ = some (.int .i64 p0) := rd 0 (by omega)
    have r1 : wr.cell? ⟨g, off + 3 * k + 1, none⟩ = some (.int .i64 p1) := rd 1 (by omega)
    have r2 : wr.cell? ⟨g, off + 3 * k + 2, none⟩ = some (.int .i64 p2) := rd 2 (by omega)
    clear rd
    obtain ⟨W1, hW1⟩ : ∃ W : World, wr.alloc (Obj.cells #[.int .i64 p0, .int .i64 p1, .int .i64 p2] 29) = W := ⟨_, rfl⟩
    have kw1 : Below wr.heap.size wr W1 := by rw [← hW1]; exact (by repeat (first | exact Below.refl _ _ | assumption | (refine Below.drew ?_) | (refine below_drewN ?_ _) | (refine Below.alloc ?_ (by first | (simp; done) | (simp; omega) | omega) _) | (refine Below.setCell ?_ (by first | (simp; done) | (simp; omega) | omega) _) | (refine Below.trans ?_ (Below.mono (by assumption) (by first | (simp; done) | (simp; omega) | omega)))))
    have ks1 : W1.heap.size = wr.heap.size + 1 := by rw [← hW1]; simp
    have RD1 := Lib.hid (show ∀ V, Below W1.heap.size W1 V → V.cell? ⟨wr.heap.size, 0, none⟩ = some (.int .i64 p0) ∧ V.cell? ⟨wr.heap.size, 1, none⟩ = some (.int .i64 p1) ∧ V.cell? ⟨wr.heap.size, 2, none⟩ = some (.int .i64 p2) from fun V h => by
        refine ⟨(h.cell (p := ⟨wr.heap.size, 0, none⟩) (by simp; omega)).trans ?_, (h.cell (p := ⟨wr.heap.size, 1, none⟩) (by simp; omega)).trans ?_, (h.cell (p := ⟨wr.heap.size, 2, none⟩) (by simp; omega)).trans ?_⟩ <;> (subst hW1; go_simp))
    have HW1 := Lib.hid hW1; have KW1 := Lib.hid kw1; clear hW1 kw1
    have KB := Lib.hid (below_at hb hs KW1.out)
    go_wp2_with fail
    rw [HW1.out]
    have hsW : w.heap.size ≤ W1.heap.size := by omega
    have HK1 := Lib.hid ks1
    clear r0 r1 r2 hi hmm ks1
    go_cut [8, 21] from 21 to 51 (fun t8 t21 wx => ∃ g8, t8 = .pointer (some ⟨g8, 0, none⟩) ∧ t21 = .int .i64 (k : Nat) ∧ W1.heap.size ≤ g8 ∧ g8 < wx.heap.size ∧ wx.cell? ⟨g8, 0, none⟩ = some (.int .i64 a0) ∧ wx.cell? ⟨g8, 1, none⟩ = some (.int .i64 a1) ∧ wx.cell? ⟨g8, 2, none⟩ = some (.int .i64 a2) ∧ Below W1.heap.size W1 wx)
    case first =>
      go_region_held3 (fun w' => Below W1.heap.size W1 w' ∧ (w'.cell? ⟨wr.heap.size, 0, none⟩ = some (.int .i64 p0) ∧ w'.cell? ⟨wr.heap.size, 1, none⟩ = some (.int .i64 p1) ∧ w'.cell? ⟨wr.heap.size, 2, none⟩ = some (.int .i64 p2)) ∧ (w'.cell? ⟨bp, 0, none⟩ = some (.pointer (some ⟨bv, 0, none⟩)) ∧ w'.cell? ⟨bp, 1, none⟩ = some (.int .i64 s.f.1) ∧ w'.cell? ⟨bp, 2, none⟩ = some (.int .i64 s.f.2.1) ∧ w'.cell? ⟨bp, 3, none⟩ = some (.int .i64 s.f.2.2) ∧ w'.cell? ⟨bv, 0, none⟩ = some (.int .i64 r.n) ∧ w'.cell? ⟨bv, 1, none⟩ = some (.int .i64 kk) ∧ w'.cell? ⟨bv, 2, none⟩ = some (.int .i64 u.1) ∧ w'.cell? ⟨bv, 3, none⟩ = some (.int .i64 u.2.1) ∧ w'.cell? ⟨bv, 4, none⟩ = some (.int .i64 u.2.2))) (((refine (fun kb => (⟨kb, RD1.out _ kb, VD.out _ (below_at KB.out (by omega) kb)⟩)) (?_ : Below W1.heap.size W1 _); exact (by repeat (first | exact Below.refl _ _ | assumption | (refine Below.drew ?_) | (refine below_drewN ?_ _) | (refine Below.alloc ?_ (by first | (simp; done) | (simp; omega) | omega) _) | (refine Below.setCell ?_ (by first | (simp; done) | (simp; omega) | omega) _) | (refine Below.trans ?_ (Below.mono (by assumption) (by first | (simp; done) | (simp; omega) | omega)))))))) (first | (go_at_call 125; refine (HDK.out _).mono ?_; go_must (rintro e w5 ⟨rfl, hb5⟩; have hs5 := hb5.size; (try simp at hs5); obtain ⟨hc5, hf5⟩ := bcell hb5; (first | have z := z10 hs5 | have z := z9 hs5 | have z := z8 hs5 | have z := z7 hs5 | have z := z6 hs5 | have z := z5 hs5 | have z := z4 hs5 | have z := z3 hs5 | have z := z2 hs5 | have z := z1 hs5 | skip); (try (have hq := Nat.le_trans hs6 (show w6.heap.size ≤ w5.heap.size by omega); (first | have z := z10 hq | have z := z9 hq | have z := z8 hq | have z := z7 hq | have z := z6 hq | have z := z5 hq | have z := z4 hq | have z := z3 hq | have z := z2 hq | have z := z1 hq | skip))))) | (go_at_call 108; refine (HCK.out _).mono ?_; go_must (rintro e w6 ⟨rfl, hb6⟩; have hs6 := hb6.size; (try simp at hs6); obtain ⟨hc6, hf6⟩ := bcell hb6; (first | have z := z10 hs6 | have z := z9 hs6 | have z := z8 hs6 | have z := z7 hs6 | have z := z6 hs6 | have z := z5 hs6 | have z := z4 hs6 | have z := z3 hs6 | have z := z2 hs6 | have z := z1 hs6 | skip); (try (have hq := Nat.le_trans hs5 (show w5.heap.size ≤ w6.heap.size by omega); (first | have z := z10 hq | have z := z9 hq | have z := z8 hq | have z := z7 hq | have z := z6 hq | have z := z5 hq | have z := z4 hq | have z := z3 hq | have z := z2 hq | have z := z1 hq | skip))))))
      all_goals (try go_wp2_with fail)
      all_goals go_meet
      all_goals (refine ⟨_, rfl, rfl, by omega, by first | (simp; done) | (simp; omega), by go_simp, by go_simp, by go_simp, by repeat (first | exact Below.refl _ _ | assumption | (refine Below.drew ?_) | (refine below_drewN ?_ _) | (refine Below.alloc ?_ (by first | (simp; done) | (simp; omega) | omega) _) | (refine Below.setCell ?_ (by first | (simp; done) | (simp; omega) | omega) _) | (refine Below.trans ?_ (Below.mono (by assumption) (by first | (simp; done) | (simp; omega) | omega))))⟩)
    case rest =>
      obtain ⟨g8, rfl, rfl, hg8, hg8', y0, y1, y2, hbx⟩ := hcut
      have K := below_at KW1.out (by have := HK1.out; omega) hbx
      have hsx := K.size
      obtain ⟨W2, hW2⟩ : ∃ W : World, wc.alloc (Obj.cells #[.int .i64 (k : Int)] 3) = W := ⟨_, rfl⟩
      have K2 : Below wr.heap.size wr W2 := by rw [← hW2]; exact K.alloc hsx _
      have hs2 : W2.heap.size = wc.heap.size + 1 := by rw [← hW2]; simp
      have hn2 : W2.heap[wc.heap.size]? = some (Obj.cells #[.int .i64 (k : Int)] 3) := by rw [← hW2]; exact heap_alloc_new _ _
      obtain ⟨v, st, w1, hr, hg1, hown1, hst⟩ := (HM.out.kept K2).step (by have := HKL.out; omega) (a0, a1, a2) HWK.out
      have hlt2 := HM.out.lt
      have hn1 : w1.heap[wc.heap.size]? = some (Obj.cells #[.int .i64 (k : Int)] 3) := (hg1.block _ (by omega) (by intro e; simp only [Option.some.injEq] at e; omega)).trans hn2
      have hs1 := hg1.size
      simp only [ptV] at hr
      rw [← hW2] at hr
      have HST := Lib.hid hst
      have HW2 := Lib.hid hW2
      have hil := idxs_len D (a0, a1, a2)
      rw [HTL.out] at hil
      have hil2 : (idxs D (a0, a1, a2)).length + 1 ≤ 1073741824 := by have := HKL.out; omega
      have hbs1 : w.heap.size ≤ w1.heap.size := by omega
      have hbs2 : w.heap.size ≤ W2.heap.size := by omega
      clear hst hW2 hn2 hs2
      go_wp2_with (at_builtin; refine wpList_pushAt rfl _ _ _ rfl slIn hown1 (by rfl) (by rfl) hn1 rfl rfl hil2 (by omega) hbs1 ?_; intro g5 c5 w6 hown6 hg6 hat6; obtain ⟨w7, hr7, hM7, hg7, hB7⟩ := HST.out g5 c5 w6 (by simpa [HTL.out] using hown6) hg6 hat6; simp only [goInt] at hr7)
      go_roundw
      case rel => exact ⟨k + 1, HLT.out, by simp, Lib.hid (by rw [HT.out]; exact hM7), (below_at hb hs K2).trans (hB7 w.heap.size (Nat.le_refl _) (Nat.le_refl _) hbs2)⟩
      case measure => simp only [intOf]; have := HLT.out; omega
end Go.Proofs.YtnejicklenhpeaaGreat
namespace Go.Proofs.YtnejicklenhpeaaGreat
open Go.RowKit Go.WideMaps
theorem rdot_key {r : RecD} {s : SchedD} {u : P3} (h : askS r s u = 0) {p : P3} (hp : p ∈ ptsL r.n r.l) (w : World) :
    Calls Tryz.prog 137 #[ptV s.f, ptV p] w fun e w' => e = .returned (.int .i64 (keyS r s u p).1) ∧ Below w.heap.size w w' := by
  obtain ⟨h1, h2, h3, -⟩ := askS_ok h
  obtain ⟨f0, f1, f2⟩ := form_sm h2
  obtain ⟨p0, p1, p2⟩ := pts_sm h1 hp
  have := sm_mul f0 p0; have := sm_mul f1 p1; have := sm_mul f2 p2
  exact rdot_l _ _ _ _ _ _ (by omega) (by omega) (by omega) w
theorem rfold_key {r : RecD} {s : SchedD} {u : P3} (h : askS r s u = 0) {p : P3} (hp : p ∈ ptsL r.n r.l) (w : World) :
    Calls Tryz.prog 55 #[.int .i64 r.n, ptV u, ptV p] w fun e w' => e = .returned (.agg #[.int .i64 (keyS r s u p).2.1, .int .i64 (keyS r s u p).2.2]) ∧ Below w.heap.size w w' := by
  obtain ⟨h1, h2, h3, -⟩ := askS_ok h
  exact rFold_l r.n u p h3 20 ((mem_ptsL (validD_out (validR_out h1).1).1 p).1 hp).1 w
set_option maxHeartbeats 4000000 in
set_option maxRecDepth 100000 in
theorem spotOf_l (r : RecD) (s : SchedD) (u p : P3) (h : askS r s u = 0) (hp : p ∈ ptsL r.n r.l) (w : World) :
    Calls Tryz.prog 165 #[.agg #[.int .i64 r.n, r.lv, r.vv], .agg #[.int .i64 s.f.1, .int .i64 s.f.2.1, .int .i64 s.f.2.2, s.ov], .agg #[.int .i64 u.1, .int .i64 u.2.1, .int .i64 u.2.2], .agg #[.int .i64 p.1, .int .i64 p.2.1, .int .i64 p.2.2]] w fun e w' => e = .returned (.agg #[.int .i64 (keyS r s u p).1, .int .i64 (keyS r s u p).2.1, .int .i64 (keyS r s u p).2.2]) ∧ Below w.heap.size w w' := by
  have HD := Lib.hid (fun (W : World) => rdot_key (u := u) h hp W)
  have HF := Lib.hid (fun (W : World) => rfold_key (s := s) h hp W)
  clear h hp
  generalize keyS r s u p = a at *
  obtain ⟨a0, a1, a2⟩ := a
  obtain ⟨W0, hW0⟩ : ∃ W : World, (((w.alloc (Obj.cells #[.int .i64 r.n, r.lv, r.vv] 27)).alloc (Obj.cells #[.int .i64 s.f.1, .int .i64 s.f.2.1, .int .i64 s.f.2.2, s.ov] 47)).alloc (Obj.cells #[.int .i64 u.1, .int .i64 u.2.1, .int .i64 u.2.2] 29)).alloc (Obj.cells #[.int .i64 p.1, .int .i64 p.2.1, .int .i64 p.2.2] 29) = W := ⟨_, rfl⟩
  have kw0 : Below w.heap.size w W0 := by rw [← hW0]; exact (by repeat (first | exact Below.refl _ _ | assumption | (refine Below.drew ?_) | (refine below_drewN ?_ _) | (refine Below.alloc ?_ (by first | (simp; done) | (simp; omega) | omega) _) | (refine Below.setCell ?_ (by first | (simp; done) | (simp; omega) | omega) _) | (refine Below.trans ?_ (Below.mono (by assumption) (by first | (simp; done) | (simp; omega) | omega)))))
  have ks0 : W0.heap.size = w.heap.size + 4 := by rw [← hW0]; simp
  have RD0 := Lib.hid (show ∀ V, Below W0.heap.size W0 V → V.cell? ⟨w.heap.size, 0, none⟩ = some (.int .i64 r.n) ∧ V.cell? ⟨w.heap.size, 1, none⟩ = some (r.lv) ∧ V.cell? ⟨w.heap.size, 2, none⟩ = some (r.vv) ∧ V.cell? ⟨w.heap.size + 1, 0, none⟩ = some (.int .i64 s.f.1) ∧ V.cell? ⟨w.heap.size + 1, 1, none⟩ = some (.int .i64 s.f.2.1) ∧ V.cell? ⟨w.heap.size + 1, 2, none⟩ = some (.int .i64 s.f.2.2) ∧ V.cell? ⟨w.heap.size + 1, 3, none⟩ = some (s.ov) ∧ V.cell? ⟨w.heap.size + 1 + 1, 0, none⟩ = some (.int .i64 u.1) ∧ V.cell? ⟨w.heap.size + 1 + 1, 1, none⟩ = some (.int .i64 u.2.1) ∧ V.cell? ⟨w.heap.size + 1 + 1, 2, none⟩ = some (.int .i64 u.2.2) ∧ V.cell? ⟨w.heap.size + 1 + 1 + 1, 0, none⟩ = some (.int .i64 p.1) ∧ V.cell? ⟨w.heap.size + 1 + 1 + 1, 1, none⟩ = some (.int .i64 p.2.1) ∧ V.cell? ⟨w.heap.size + 1 + 1 + 1, 2, none⟩ = some (.int .i64 p.2.2) from fun V h => by
      refine ⟨(h.cell (p := ⟨w.heap.size, 0, none⟩) (by simp; omega)).trans ?_, (h.cell (p := ⟨w.heap.size, 1, none⟩) (by simp; omega)).trans ?_, (h.cell (p := ⟨w.heap.size, 2, none⟩) (by simp; omega)).trans ?_, (h.cell (p := ⟨w.heap.size + 1, 0, none⟩) (by simp; omega)).trans ?_, (h.cell (p := ⟨w.heap.size + 1, 1, none⟩) (by simp; omega)).trans ?_, (h.cell (p := ⟨w.heap.size + 1, 2, none⟩) (by simp; omega)).trans ?_, (h.cell (p := ⟨w.heap.size + 1, 3, none⟩) (by simp; omega)).trans ?_, (h.cell (p := ⟨w.heap.size + 1 + 1, 0, none⟩) (by simp; omega)).trans ?_, (h.cell (p := ⟨w.heap.size + 1 + 1, 1, none⟩) (by simp; omega)).trans ?_, (h.cell (p := ⟨w.heap.size + 1 + 1, 2, none⟩) (by simp; omega)).trans ?_, (h.cell (p := ⟨w.heap.size + 1 + 1 + 1, 0, none⟩) (by simp; omega)).trans ?_, (h.cell (p := ⟨w.heap.size + 1 + 1 + 1, 1, none⟩) (by simp; omega)).trans ?_, (h.cell (p := ⟨w.heap.size + 1 + 1 + 1, 2, none⟩) (by simp; omega)).trans ?_⟩ <;> (subst hW0; go_simp))
  have HW0 := Lib.hid hW0; have KW0 := Lib.hid kw0; clear hW0 kw0
  have hsW : w.heap.size ≤ W0.heap.size := by omega
  go_enter Tryz.func165, Tryz.ntmps165
  go_wp2_with fail
  rw [HW0.out]
  have HK0 := Lib.hid ks0
  go_region_held3 (fun w' => Below W0.heap.size W0 w' ∧ w'.cell? ⟨w.heap.size, 0, none⟩ = some (.int .i64 r.n) ∧ w'.cell? ⟨w.heap.size, 1, none⟩ = some (r.lv) ∧ w'.cell? ⟨w.heap.size, 2, none⟩ = some (r.vv) ∧ w'.cell? ⟨w.heap.size + 1, 0, none⟩ = some (.int .i64 s.f.1) ∧ w'.cell? ⟨w.heap.size + 1, 1, none⟩ = some (.int .i64 s.f.2.1) ∧ w'.cell? ⟨w.heap.size + 1, 2, none⟩ = some (.int .i64 s.f.2.2) ∧ w'.cell? ⟨w.heap.size + 1, 3, none⟩ = some (s.ov) ∧ w'.cell? ⟨w.heap.size + 1 + 1, 0, none⟩ = some (.int .i64 u.1) ∧ w'.cell? ⟨w.heap.size + 1 + 1, 1, none⟩ = some (.int .i64 u.2.1) ∧ w'.cell? ⟨w.heap.size + 1 + 1, 2, none⟩ = some (.int .i64 u.2.2) ∧ w'.cell? ⟨w.heap.size + 1 + 1 + 1, 0, none⟩ = some (.int .i64 p.1) ∧ w'.cell? ⟨w.heap.size + 1 + 1 + 1, 1, none⟩ = some (.int .i64 p.2.1) ∧ w'.cell? ⟨w.heap.size + 1 + 1 + 1, 2, none⟩ = some (.int .i64 p.2.2)) (((refine (fun kb => (⟨kb, RD0.out _ kb⟩)) (?_ : Below W0.heap.size W0 _); exact (by repeat (first | exact Below.refl _ _ | assumption | (refine Below.drew ?_) | (refine below_drewN ?_ _) | (refine Below.alloc ?_ (by first | (simp; done) | (simp; omega) | omega) _) | (refine Below.setCell ?_ (by first | (simp; done) | (simp; omega) | omega) _) | (refine Below.trans ?_ (Below.mono (by assumption) (by first | (simp; done) | (simp; omega) | omega)))))))) (first | (go_at_call 137; refine (HD.out _).mono ?_; go_must (rintro e w5 ⟨rfl, hb5⟩; obtain ⟨hc5, hf5⟩ := bcell hb5; have hs5 := hb5.size; (try simp at hs5); have hq : w.heap.size + 1 + 1 + 1 + 1 + 1 ≤ w5.heap.size := (by have := HK0.out; (first | omega | (have := hs6; omega))); (first | have z := z10 hq | have z := z9 hq | have z := z8 hq | have z := z7 hq | have z := z6 hq | have z := z5 hq | have z := z4 hq | have z := z3 hq | have z := z2 hq | have z := z1 hq | skip))) | (go_at_call 55; refine (HF.out _).mono ?_; go_must (rintro e w6 ⟨rfl, hb6⟩; obtain ⟨hc6, hf6⟩ := bcell hb6; have hs6 := hb6.size; (try simp at hs6); have hq : w.heap.size + 1 + 1 + 1 + 1 + 1 ≤ w6.heap.size := (by have := HK0.out; omega); (first | have z := z10 hq | have z := z9 hq | have z := z8 hq | have z := z7 hq | have z := z6 hq | have z := z5 hq | have z := z4 hq | have z := z3 hq | have z := z2 hq | have z := z1 hq | skip))))
  all_goals
    go_wp2
    refine bodyPost_ret (v := .agg #[.int .i64 a0, .int .i64 a1, .int .i64 a2]) (by simp only [results, Tryz.results165]; first | (go_simp; done) | (go_simp; rfl)) rfl ⟨rfl, KW0.out.trans (Below.mono (show Below W0.heap.size W0 _ from (by repeat (first | exact Below.refl _ _ | assumption | (refine Below.drew ?_) | (refine below_drewN ?_ _) | (refine Below.alloc ?_ (by first | (simp; done) | (simp; omega) | omega) _) | (refine Below.setCell ?_ (by first | (simp; done) | (simp; omega) | omega) _) | (refine Below.trans ?_ (Below.mono (by assumption) (by first | (simp; done) | (simp; omega) | omega)))))) hsW)⟩
/-- How often each key comes. -/
def cntF (K : List P3) (a : P3) : Option Value := if idxs K a = [] then none else some (.int .i64 ((idxs K a).length : Int))
/-- The second point of each key. -/
def secF (L K : List P3) (a : P3) : Option Value := ((idxs K a)[1]?).map fun i => ptV (L.getD i (0, 0, 0))
theorem cntF_get (K : List P3) (a : P3) : (cntF K a).getD (.int .i64 0) = .int .i64 ((idxs K a).length : Int) := by
  unfold cntF
  by_cases h : idxs K a = []
  · simp [h]
  · simp [h]
theorem cntF_snoc (K : List P3) (a : P3) : cntF (K ++ [a]) = fun x => if x = a then some (.int .i64 (((idxs K a).length + 1 : Nat) : Int)) else cntF K x := by
  funext x
  unfold cntF
  rw [idxs_snoc]
  by_cases h : x = a
  · subst h; simp
  · have : ¬ (a = x) := fun e => h e.symm
    simp [h, this]
theorem secF_snoc2 (L K : List P3) (a : P3) (h : (idxs K a).length = 1) : secF L (K ++ [a]) = fun x => if x = a then some (ptV (L.getD K.length (0, 0, 0))) else secF L K x := by
  funext x
  unfold secF
  rw [idxs_snoc]
  by_cases hx : x = a
  · subst hx
    rw [if_pos rfl, if_pos rfl, List.getElem?_append_right (by omega), h]
    rfl
  · have : ¬ (a = x) := fun e => hx e.symm
    simp [hx, this]
theorem secF_snoc (L K : List P3) (a : P3) (h : (idxs K a).length ≠ 1) : secF L (K ++ [a]) = secF L K := by
  funext x
  unfold secF
  rw [idxs_snoc]
  by_cases hx : a = x
  · subst hx
    rw [if_pos rfl]
    by_cases h0 : (idxs K a).length = 0
    · rw [List.eq_nil_of_length_eq_zero h0]; rfl
    · rw [List.getElem?_append_left (by omega)]
  · simp [hx]
theorem secF_get (L K : List P3) (a : P3) {b : Nat} (h : (idxs K a)[1]? = some b) (z : Value) : (secF L K a).getD z = ptV (L.getD b (0, 0, 0)) := by
  unfold secF
  rw [h]
  rfl
def elV (p : P3) : Value := .agg #[.int .i64 0, .int .i64 p.1, .int .i64 p.2.1, .int .i64 p.2.2]
def clashPts (L : List P3) (o : Option (Nat × Nat)) : P3 × P3 × Bool := match o with
  | none => ((0, 0, 0), (0, 0, 0), false)
  | some (i, k) => (L.getD i (0, 0, 0), L.getD k (0, 0, 0), true)
def rclashV (L : List P3) (o : Option (Nat × Nat)) : Value := .tuple #[elV (clashPts L o).1, elV (clashPts L o).2.1, .bool (clashPts L o).2.2]
end Go.Proofs.YtnejicklenhpeaaGreat
namespace Go.Proofs.YtnejicklenhpeaaGreat
open Go.RowKit Go.WideMaps
theorem zv_int (u : World) : (zeroValue 3).run Tryz.prog u = .ok (.int .i64 0) u := by kernel_rfl
theorem zv_pt (u : World) : (zeroValue 29).run Tryz.prog u = .ok (.agg #[.int .i64 0, .int .i64 0, .int .i64 0]) u := by kernel_rfl
abbrev CntM (w : World) (b n : Nat) (K : List P3) : Prop := MapV Tryz.prog 249 ptV w b n (cntF K)
abbrev SecM (w : World) (b n : Nat) (L K : List P3) : Prop := MapV Tryz.prog 249 ptV w b n (secF L K)
theorem CntM.made (w : World) : CntM (w.alloc (.map #[] 0)) w.heap.size 0 [] := by
  have := MapV.made Tryz.prog 249 ptV w
  simpa [CntM, show cntF [] = fun _ => none from by funext a; simp [cntF, idxs_nil]] using this
theorem SecM.made (w : World) (L : List P3) : SecM (w.alloc (.map #[] 0)) w.heap.size 0 L [] := by
  have := MapV.made Tryz.prog 249 ptV w
  simpa [SecM, show secF L [] = fun _ => none from by funext a; simp [secF, idxs_nil]] using this
set_option maxRecDepth 100000 in
theorem CntM.look {w : World} {b n : Nat} {K : List P3} (h : CntM w b n K) (a : P3) (ha : wf3 a) (V : World) (hV : Below w.heap.size w V) :
    (Instr.lookup 247 (.map (some b)) (ptV a) false).run Tryz.prog V = .ok (.int .i64 ((idxs K a).length : Int)) V := by
  obtain ⟨kl, hk⟩ := key_rspot a ha
  have := MapV.look (h.kept hV) (Maps.Keyed.of_law law_rspot) (t := 247) Tryz.underlying247 (zv_int V) hk
  rw [this, cntF_get]
set_option maxRecDepth 100000 in
theorem SecM.look {w : World} {b n : Nat} {L K : List P3} (h : SecM w b n L K) (a : P3) (ha : wf3 a) {i : Nat} (hi : (idxs K a)[1]? = some i) (V : World) (hV : V.heap[b]? = w.heap[b]?) :
    (Instr.lookup 246 (.map (some b)) (ptV a) false).run Tryz.prog V = .ok (ptV (L.getD i (0, 0, 0))) V := by
  obtain ⟨kl, hk⟩ := key_rspot a ha
  have := MapV.look (h.of_block hV) (Maps.Keyed.of_law law_rspot) (t := 246) Tryz.underlying246 (zv_pt V) hk
  rw [this, secF_get L K a hi]
set_option maxRecDepth 100000 in
/-- 'n[a]++': the entry, the number that is read ahead of it or behind it, the store. -/
theorem CntM.step {w : World} {b n : Nat} {K : List P3} (h : CntM w b n K) (hn : n < 1000000) (a : P3) (ha : wf3 a) :
    ∃ (st : Nat) (w1 : World), (Instr.mapEntry 247 (.map (some b)) (ptV a)).run Tryz.prog w = .ok (.tuple #[.int .i64 ((idxs K a).length : Int), goInt st]) w1 ∧ w.grownBy w1 (some b) ∧
      (Instr.lookup 247 (.map (some b)) (ptV a) false).run Tryz.prog w1 = .ok (.int .i64 ((idxs K a).length : Int)) w1 ∧
      ∀ w2, w2.heap[b]? = w1.heap[b]? → ∃ w3, (Instr.entryStore 247 (.map (some b)) (goInt st) (.int .i64 (((idxs K a).length : Int) + 1))).run Tryz.prog w2 = .ok () w3 ∧ CntM w3 b (n + 1) (K ++ [a]) ∧ w2.grownBy w3 (some b) := by
  obtain ⟨kl, hk⟩ := key_rspot a ha
  obtain ⟨st, w1, hr, hg1, hst⟩ := MapV.entry h law_rspot (t := 247) Tryz.underlying247 ptV_inj hn zv_int hk
  rw [cntF_get] at hr
  have he := MapV.entered h law_rspot (t := 247) Tryz.underlying247 ptV_inj hn zv_int hk hr
  have hl := MapV.look he (Maps.Keyed.of_law law_rspot) (t := 247) Tryz.underlying247 (zv_int w1) hk
  simp only [if_pos, Option.getD_some] at hl
  refine ⟨st, w1, hr, hg1, hl, fun w2 hw2 => ?_⟩
  obtain ⟨w3, h3, hm, hg3⟩ := hst w2 (.int .i64 (((idxs K a).length : Int) + 1)) hw2
  exact ⟨w3, h3, by unfold CntM; rw [cntF_snoc]; exact hm, hg3⟩
set_option maxRecDepth 100000 in
theorem SecM.step {w : World} {b n : Nat} {L K : List P3} (h : SecM w b n L K) (hn : n < 1000000) (a : P3) (ha : wf3 a) (h1 : (idxs K a).length = 1) {p : P3} (hp : L.getD K.length (0, 0, 0) = p) :
    ∃ w1, (Instr.mapUpdate 246 (.map (some b)) (ptV a) (ptV p)).run Tryz.prog w = .ok () w1 ∧ SecM w1 b (n + 1) L (K ++ [a]) ∧ w.grownBy w1 (some b) := by
  obtain ⟨kl, hk⟩ := key_rspot a ha
  obtain ⟨w1, hr, hm, hg⟩ := MapV.put h (Maps.Keyed.of_law law_rspot) (t := 246) Tryz.underlying246 ptV_inj hn hk (ptV p)
  exact ⟨w1, hr, by unfold SecM; rw [secF_snoc2 L K a h1, hp]; exact hm, hg⟩
end Go.Proofs.YtnejicklenhpeaaGreat
