/- The reference's All: its walk. -/
import Derived.Test.YtndfdgdahinkpaaRecE
namespace Go.Proofs.Ytndfdgdahinkpaa
open Go.RowKit
theorem slPt : SlT Try.prog 34 29 (.agg #[.int .i64 0, .int .i64 0, .int .i64 0]) 3 24 := ⟨Try.underlying34, by kernel_rfl, rfl, by decide⟩
/-- The row of points that a call has so far. -/
abbrev OwnP (w : World) (base : Nat) (v : Value) (l : List P3) : Prop := OwnOf w base 29 3 encP v l
set_option maxHeartbeats 4000000 in
set_option maxRecDepth 100000 in
theorem rAll_l (n : Int) (l : List IneqD) (hn : 1 ≤ n ∧ n ≤ 3) (hq : ∀ q ∈ l, SmQ q) (w : World) (v : Value) (hv : SlOf w w.heap.size 4 encI v l) :
    Calls Try.prog 37 #[.agg #[.int .i64 n, v]] w fun e w' => (∃ v', e = .returned v' ∧ SlOf w' w'.heap.size 3 encP v' (ptsL n l)) ∧ Below w.heap.size w w' := by
  have HV := Lib.hid hv; clear hv
  have HQ := Lib.hid hq; clear hq
  have HN := Lib.hid hn; clear hn
  have HL := Lib.hid (ptsL_len n l)
  have HP := Lib.hid (show ptsL n l = boxL (fun p => holdsB l p 1) (rngL (farI n 0)) (rngL (farI n 1)) (rngL (farI n 2)) from rfl)
  have F0 := far_cases n 0
  have F1 := far_cases n 1
  have F2 := far_cases n 2
  have HM := Lib.hid (fun x y z (hx : x ∈ rngL (farI n 0)) (hy : y ∈ rngL (farI n 1)) (hz : z ∈ rngL (farI n 2)) => flat_box HN.out hx hy hz)
  generalize hPd : (fun p => holdsB l p 1) = P at *
  have HPd := Lib.hid hPd; clear hPd
  have L0 := rngL_len (farI n 0)
  have L1 := rngL_len (farI n 1)
  have L2 := rngL_len (farI n 2)
  have A0 := rngL_at (farI n 0)
  have A1 := rngL_at (farI n 1)
  have A2 := rngL_at (farI n 2)
  have HF := Lib.hid (fun i (W : World) => rfar_l n i v W)
  generalize farI n = f at *
  generalize rngL (f 0) = xs at *
  generalize rngL (f 1) = ys at *
  generalize rngL (f 2) = zs at *
  have L0 := Lib.hid L0; have L1 := Lib.hid L1; have L2 := Lib.hid L2
  have A0 := Lib.hid A0; have A1 := Lib.hid A1; have A2 := Lib.hid A2
  have b0 : 0 ≤ f 0 ∧ f 0 ≤ 20 := by omega
  have b1 : 0 ≤ f 1 ∧ f 1 ≤ 20 := by omega
  have b2 : 0 ≤ f 2 ∧ f 2 ≤ 20 := by omega
  obtain ⟨b00, b01⟩ := b0; obtain ⟨b10, b11⟩ := b1; obtain ⟨b20, b21⟩ := b2
  clear F0 F1 F2
  obtain ⟨W1, hW1⟩ : ∃ W : World, w.alloc (Obj.cells #[.int .i64 n, v] 24) = W := ⟨_, rfl⟩
  have kw : Below w.heap.size w W1 := by rw [← hW1]; exact (by repeat (first | exact Below.refl _ _ | assumption | (refine Below.drew ?_) | (refine below_drewN ?_ _) | (refine Below.alloc ?_ (by first | (simp; done) | (simp; omega) | omega) _) | (refine Below.setCell ?_ (by first | (simp; done) | (simp; omega) | omega) _) | (refine Below.trans ?_ (Below.mono (by assumption) (by first | (simp; done) | (simp; omega) | omega)))))
  have ks : W1.heap.size = w.heap.size + 1 := by rw [← hW1]; simp
  have d0 : W1.cell? ⟨w.heap.size, 0, none⟩ = some (.int .i64 n) := by subst hW1; go_simp
  have d1 : W1.cell? ⟨w.heap.size, 1, none⟩ = some v := by subst hW1; go_simp
  have KW := Lib.hid kw; clear kw
  have HW := Lib.hid hW1; clear hW1
  have RD := Lib.hid (show ∀ wr, Below W1.heap.size W1 wr → wr.cell? ⟨w.heap.size, 0, none⟩ = some (.int .i64 n) ∧ wr.cell? ⟨w.heap.size, 1, none⟩ = some v from fun wr hb => ⟨(hb.cell (p := ⟨w.heap.size, 0, none⟩) (by simp; omega)).trans d0, (hb.cell (p := ⟨w.heap.size, 1, none⟩) (by simp; omega)).trans d1⟩)
  have HV1 := Lib.hid (show ∀ wr, Below W1.heap.size W1 wr → SlOf wr wr.heap.size 4 encI v l from fun wr hb => (HV.out.below KW.out).below hb)
  go_enter Try.func37, Try.ntmps37
  go_wp2_with (first | (go_at_call 64; rw [HW.out]; refine (HF.out _ _).mono ?_; go_must (rintro e w1 ⟨rfl, hb1⟩)))
  clear d0 d1
  go_loopw [3, 4] (fun v3 v4 wr => ∃ (i : Nat) (vo : Value), i ≤ xs.length ∧ v4 = .int .i64 ((i : Int) - f 0) ∧ vo = v3 ∧ Hid (OwnP wr W1.heap.size vo ((xs.take i).flatMap (slabL P ys zs))) ∧ Below W1.heap.size W1 wr) (fun _ v4 _ => (f 0 + 1 - intOf v4).toNat)
  case atStart => exact ⟨0, _, Nat.zero_le _, by simp, rfl, Lib.hid (OwnOf.nil _ _ _ _ _), hb1⟩
  case round =>
    obtain ⟨i, vo, hi, rfl, rfl, O, K⟩ := hrel
    obtain ⟨r0, r1⟩ := RD.out wr K
    have hL0 := L0.out
    obtain ⟨w2, rfl⟩ : ∃ x : World, x = wr := ⟨_, rfl⟩
    have ks2 := K.size
    by_cases hlt : (i : Int) - f 0 ≤ f 0
    rotate_left
    · have HI := Lib.hid (show i = xs.length by omega)
      go_wp2_with (first | (go_at_call 64; refine (HF.out _ _).mono ?_; go_must (rintro e w3 ⟨rfl, hb3⟩; have K' := below_at K (by omega) hb3; have O' := Lib.hid (O.out.kept hb3); clear K O r0 r1; have K := K'; have O := O'; clear K' O'; have ks2 := K.size; have zq := z1 (show w.heap.size + 1 ≤ w3.heap.size by omega); clear hb3; obtain ⟨r0, r1⟩ := RD.out _ K)))
      refine bodyPost_ret (v := vo) (by simp only [results, Try.results37]; first | (go_simp; done) | (go_simp; rfl)) rfl ⟨⟨_, rfl, ?_⟩, below_at KW.out (by omega) K⟩
      have := O.out.sl
      rw [HP.out]
      unfold boxL
      rw [HI.out, List.take_length] at this
      exact this
    have hil : i < xs.length := by omega
    have HX := Lib.hid (A0.out i hil)
    have HXM := Lib.hid (List.getElem_mem hil)
    have HTI := Lib.hid (take_flat (slabL P ys zs) xs i hil)
    have HBI := Lib.hid (fun j k hj => box_pre P xs ys zs i j k hil hj)
    have HILT := Lib.hid hil
    generalize hA : (xs.take i).flatMap (slabL P ys zs) = A at *
    clear hA
    generalize xs[i] = x at *
    go_wp2_with (first | (go_at_call 64; refine (HF.out _ _).mono ?_; go_must (rintro e w3 ⟨rfl, hb3⟩; have K' := below_at K (by omega) hb3; have O' := Lib.hid (O.out.kept hb3); clear K O r0 r1; have K := K'; have O := O'; clear K' O'; have ks2 := K.size; have zq := z1 (show w.heap.size + 1 ≤ w3.heap.size by omega); clear hb3; obtain ⟨r0, r1⟩ := RD.out _ K)))
    go_loopw [3, 5] (fun v3 v5 wr => ∃ (j : Nat) (vo : Value), j ≤ ys.length ∧ v5 = .int .i64 ((j : Int) - f 1) ∧ vo = v3 ∧ Hid (OwnP wr W1.heap.size vo (A ++ (ys.take j).flatMap (rowL P zs x))) ∧ Below W1.heap.size W1 wr) (fun _ v5 _ => (f 1 + 1 - intOf v5).toNat)
    case atStart => exact ⟨0, _, Nat.zero_le _, by simp, rfl, by simpa using O, K⟩
    case round =>
      clear K O r0 r1 ks2
      obtain ⟨j, vo2, hj, rfl, rfl, O, K⟩ := hrel
      obtain ⟨r0, r1⟩ := RD.out wr K
      have hL1 := L1.out
      obtain ⟨w3, rfl⟩ : ∃ x : World, x = wr := ⟨_, rfl⟩
      have ks2 := K.size
      by_cases hlt2 : (j : Int) - f 1 ≤ f 1
      rotate_left
      · have HI := Lib.hid (show j = ys.length by omega)
        go_wp2_with (first | (go_at_call 64; refine (HF.out _ _).mono ?_; go_must (rintro e w3 ⟨rfl, hb3⟩; have K' := below_at K (by omega) hb3; have O' := Lib.hid (O.out.kept hb3); clear K O r0 r1; have K := K'; have O := O'; clear K' O'; have ks2 := K.size; have zq := z1 (show w.heap.size + 1 ≤ w3.heap.size by omega); clear hb3; obtain ⟨r0, r1⟩ := RD.out _ K)))
        go_roundw
        case rel =>
          refine ⟨i + 1, _, HILT.out, by rw [show ((i + 1 : Nat) : Int) - f 0 = (i : Int) - f 0 + 1 by omega], rfl, Lib.hid ?_, K⟩
          rw [HTI.out]
          have := O.out
          rw [HI.out, List.take_length] at this
          exact this
        case measure => simp only [intOf]; omega
      have hjl : j < ys.length := by omega
      have HY := Lib.hid (A1.out j hjl)
      have HYM := Lib.hid (List.getElem_mem hjl)
      have HTJ := Lib.hid (take_flat (rowL P zs x) ys j hjl)
      have HBJ := Lib.hid (fun k => HBI.out j k hjl)
      have HJLT := Lib.hid hjl
      generalize hB : (ys.take j).flatMap (rowL P zs x) = B at *
      clear hB
      generalize ys[j] = y at *
      go_wp2_with (first | (go_at_call 64; refine (HF.out _ _).mono ?_; go_must (rintro e w3 ⟨rfl, hb3⟩; have K' := below_at K (by omega) hb3; have O' := Lib.hid (O.out.kept hb3); clear K O r0 r1; have K := K'; have O := O'; clear K' O'; have ks2 := K.size; have zq := z1 (show w.heap.size + 1 ≤ w3.heap.size by omega); clear hb3; obtain ⟨r0, r1⟩ := RD.out _ K)))
      go_loopw [3, 6] (fun v3 v6 wr => ∃ (k : Nat) (vo : Value), k ≤ zs.length ∧ v6 = .int .i64 ((k : Int) - f 2) ∧ vo = v3 ∧ Hid (OwnP wr W1.heap.size vo (A ++ (B ++ rowL P (zs.take k) x y))) ∧ Below W1.heap.size W1 wr) (fun _ v6 _ => (f 2 + 1 - intOf v6).toNat)
      case atStart => exact ⟨0, _, Nat.zero_le _, by simp, rfl, by simpa [rowL] using O, K⟩
      case round =>
        clear K O r0 r1 ks2
        obtain ⟨k, vo3, hk, rfl, rfl, O, K⟩ := hrel
        obtain ⟨r0, r1⟩ := RD.out wr K
        have hL2 := L2.out
        obtain ⟨w4, rfl⟩ : ∃ x : World, x = wr := ⟨_, rfl⟩
        have ks2 := K.size
        by_cases hlt3 : (k : Int) - f 2 ≤ f 2
        rotate_left
        · have HI := Lib.hid (show k = zs.length by omega)
          go_wp2_with (first | (go_at_call 64; refine (HF.out _ _).mono ?_; go_must (rintro e w3 ⟨rfl, hb3⟩; have K' := below_at K (by omega) hb3; have O' := Lib.hid (O.out.kept hb3); clear K O r0 r1; have K := K'; have O := O'; clear K' O'; have ks2 := K.size; have zq := z1 (show w.heap.size + 1 ≤ w3.heap.size by omega); clear hb3; obtain ⟨r0, r1⟩ := RD.out _ K)))
          go_roundw
          case rel =>
            refine ⟨j + 1, _, HJLT.out, by rw [show ((j + 1 : Nat) : Int) - f 1 = (j : Int) - f 1 + 1 by omega], rfl, Lib.hid ?_, K⟩
            rw [HTJ.out]
            have := O.out
            rw [HI.out, List.take_length] at this
            exact this
          case measure => simp only [intOf]; omega
        have hkl : k < zs.length := by omega
        have HZ := Lib.hid (A2.out k hkl)
        have hfl := HM.out x y zs[k] HXM.out HYM.out (List.getElem_mem hkl)
        have HTK := Lib.hid (row_take P zs x y k hkl)
        have HLB := Lib.hid (HBJ.out k)
        have HKLT := Lib.hid hkl
        generalize hC : rowL P (zs.take k) x y = C at *
        clear hC
        generalize zs[k] = z at *
        have hx := HX.out; have hy := HY.out; have hzz := HZ.out
        have HLN := Lib.hid (show (A ++ (B ++ C)).length ≤ 68921 from by have := HL.out; rw [HP.out] at this; exact Nat.le_trans HLB.out.length_le this)
        subst hx hy hzz
        have HPT := Lib.hid (show P ((i : Int) - f 0, (j : Int) - f 1, (k : Int) - f 2) = holdsB l ((i : Int) - f 0, (j : Int) - f 1, (k : Int) - f 2) 1 by rw [← HPd.out])
        have HH := Lib.hid (fun (W : World) (hw : SlOf W W.heap.size 4 encI v l) => rhas_l n l ((i : Int) - f 0, (j : Int) - f 1, (k : Int) - f 2) HN.out HQ.out W v hw)
        have hpv : (flatB n ((i : Int) - f 0) ((j : Int) - f 1) ((k : Int) - f 2) 20 && holdsB l ((i : Int) - f 0, (j : Int) - f 1, (k : Int) - f 2) 1) = P ((i : Int) - f 0, (j : Int) - f 1, (k : Int) - f 2) := by rw [hfl, HPT.out]; rfl
        clear hfl
        cases hpp : P ((i : Int) - f 0, (j : Int) - f 1, (k : Int) - f 2)
        · have HPV := Lib.hid (hpv.trans hpp)
          rw [hpp] at HTK
          clear hpp hpv
          go_wp2_with (first | (go_at_call 64; refine (HF.out _ _).mono ?_; go_must (rintro e w3 ⟨rfl, hb3⟩; have K' := below_at K (by omega) hb3; have O' := Lib.hid (O.out.kept hb3); clear K O r0 r1; have K := K'; have O := O'; clear K' O'; have ks2 := K.size; have zq := z1 (show w.heap.size + 1 ≤ w3.heap.size by omega); clear hb3; obtain ⟨r0, r1⟩ := RD.out _ K)) | (go_at_call 65; refine (HH.out _ (SlOf.below (HV1.out _ K) (by repeat (first | exact Below.refl _ _ | assumption | (refine Below.drew ?_) | (refine below_drewN ?_ _) | (refine Below.alloc ?_ (by first | (simp; done) | (simp; omega) | omega) _) | (refine Below.setCell ?_ (by first | (simp; done) | (simp; omega) | omega) _) | (refine Below.trans ?_ (Below.mono (by assumption) (by first | (simp; done) | (simp; omega) | omega))))))).mono ?_; go_must (rintro e w5 ⟨rfl, hb5⟩; rw [HPV.out]; obtain ⟨hc5, hf5⟩ := bcell hb5; have hz5 := hb5.size; (try simp at hz5); (first | have z := z10 hz5 | have z := z9 hz5 | have z := z8 hz5 | have z := z7 hz5 | have z := z6 hz5 | have z := z5 hz5 | have z := z4 hz5 | have z := z3 hz5 | have z := z2 hz5 | have z := z1 hz5 | skip))))
          have hbE : Below w3.heap.size w3 w5 := ((Below.refl w3.heap.size w3).alloc (Nat.le_refl _) (.cells #[.int .i64 ((i : Int) - f 0), .int .i64 ((j : Int) - f 1), .int .i64 ((k : Int) - f 2)] 29)).trans (hb5.mono (by simp))
          go_roundw
          case rel =>
            refine ⟨k + 1, _, HKLT.out, by rw [show ((k + 1 : Nat) : Int) - f 2 = (k : Int) - f 2 + 1 by omega], rfl, Lib.hid ?_, below_at K (by omega) hbE⟩
            rw [HTK.out]
            simpa using O.out.kept hbE
          case measure => simp only [intOf]; omega
        · have HPV := Lib.hid (hpv.trans hpp)
          rw [hpp] at HTK
          clear hpp hpv
          have HO := Lib.hid (fun (w3 w5 : World) (O : Hid (OwnP w3 W1.heap.size vo3 (A ++ (B ++ C)))) (hb5 : Below (w3.alloc (.cells #[.int .i64 ((i : Int) - f 0), .int .i64 ((j : Int) - f 1), .int .i64 ((k : Int) - f 2)] 29)).heap.size (w3.alloc (.cells #[.int .i64 ((i : Int) - f 0), .int .i64 ((j : Int) - f 1), .int .i64 ((k : Int) - f 2)] 29)) w5) => O.out.kept (((Below.refl w3.heap.size w3).alloc (Nat.le_refl _) (.cells #[.int .i64 ((i : Int) - f 0), .int .i64 ((j : Int) - f 1), .int .i64 ((k : Int) - f 2)] 29)).trans (hb5.mono (by simp))))
          go_wp2_with (first | (go_at_call 64; refine (HF.out _ _).mono ?_; go_must (rintro e w3 ⟨rfl, hb3⟩; have K' := below_at K (by omega) hb3; have O' := Lib.hid (O.out.kept hb3); clear K O r0 r1; have K := K'; have O := O'; clear K' O'; have ks2 := K.size; have zq := z1 (show w.heap.size + 1 ≤ w3.heap.size by omega); clear hb3; obtain ⟨r0, r1⟩ := RD.out _ K)) | (go_at_call 65; refine (HH.out _ (SlOf.below (HV1.out _ K) (by repeat (first | exact Below.refl _ _ | assumption | (refine Below.drew ?_) | (refine below_drewN ?_ _) | (refine Below.alloc ?_ (by first | (simp; done) | (simp; omega) | omega) _) | (refine Below.setCell ?_ (by first | (simp; done) | (simp; omega) | omega) _) | (refine Below.trans ?_ (Below.mono (by assumption) (by first | (simp; done) | (simp; omega) | omega))))))).mono ?_; go_must (rintro e w5 ⟨rfl, hb5⟩; rw [HPV.out]; obtain ⟨hc5, hf5⟩ := bcell hb5; have hz5 := hb5.size; (try simp at hz5); (first | have z := z10 hz5 | have z := z9 hz5 | have z := z8 hz5 | have z := z7 hz5 | have z := z6 hz5 | have z := z5 hz5 | have z := z4 hz5 | have z := z3 hz5 | have z := z2 hz5 | have z := z1 hz5 | skip))) | (at_builtin; refine wpList_push rfl _ _ _ rfl slPt (HO.out _ _ O hb5) rfl rfl (by first | rfl | simp) rfl rfl (by have := HLN.out; omega) (by omega) (by omega) ?_; intro g5 c5 w6 hown6 hg6 hat6))
          go_roundw
          case rel =>
            have hbE : Below w3.heap.size w3 w5 := ((Below.refl w3.heap.size w3).alloc (Nat.le_refl _) (.cells #[.int .i64 ((i : Int) - f 0), .int .i64 ((j : Int) - f 1), .int .i64 ((k : Int) - f 2)] 29)).trans (hb5.mono (by simp))
            refine ⟨k + 1, _, HKLT.out, by rw [show ((k + 1 : Nat) : Int) - f 2 = (k : Int) - f 2 + 1 by omega], rfl, Lib.hid ?_, OwnOf.push (below_at K (by omega) hbE) (O.out.kept hbE) (Nat.le_refl _) (by omega) hg6⟩
            rw [HTK.out]
            have := OwnOf.snoc (l := A ++ (B ++ C)) (x := ((i : Int) - f 0, (j : Int) - f 1, (k : Int) - f 2)) (enc := encP) (by simpa [encP] using hown6) rfl
            simpa [List.append_assoc] using this
          case measure => simp only [intOf]; omega
end Go.Proofs.Ytndfdgdahinkpaa
