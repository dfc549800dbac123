/- The walk of the iterator of poly.points: it gives just the points of the domain. -/
import Derived.Shelf.Abstract
import Derived.Shelf.RegionOpen
import Derived.OwnWalkIn
import Derived.TacticsInMore
import Derived.LoopNIn
import Derived.LoopIn
import Derived.Test.YtndfdgdahinkpaaKitI
import Derived.Test.YtndfdgdahinkpaaRecF
namespace Go.Proofs.Ytndfdgdahinkpaa
open Go.RowKit Go.Shelf
attribute [local go_sem] Oper.semAt_some
def encPt (p : P3) : Array Value := #[ptV p]
set_option maxHeartbeats 4000000 in
set_option maxRecDepth 100000 in
theorem points_stops (m : Nat) (hm : 3 ≤ m) (n : Int) (l : List IneqD) (hn : 1 ≤ n ∧ n ≤ 3) (hq : ∀ q ∈ l, SmQ q) (S : Nat → Prop) (N0 B0 b1 b2 : Nat) (v : Value) (w : World) (hN : N0 ≤ w.heap.size) (h1 : b1 < N0) (h2 : b2 < N0) (hB0 : B0 ≤ N0) (s1 : ¬ S b1) (s2 : ¬ S b2) (s3 : ∀ b, S b → B0 ≤ b)
    (c0 : w.cell? ⟨b1, 0, none⟩ = some (.int .i64 (farI n 0))) (c1 : w.cell? ⟨b1, 1, none⟩ = some (.int .i64 (farI n 1))) (c2 : w.cell? ⟨b1, 2, none⟩ = some (.int .i64 (farI n 2)))
    (d1 : w.cell? ⟨b2, 1, none⟩ = some v) (hv : SlOf w B0 4 encI v l) :
    SeqMine Fence.wide m Try.prog 87 #[.pointer (some ⟨b1, 0, none⟩), .pointer (some ⟨b2, 0, none⟩)] encPt (MineFrom S N0) (ptsL n l) w := by
  intro ly J Jx W hW hmlt hJ hJx hY h0
  have hn1 : 1 ≤ m := by omega
  have h88 : Fence.wide.fn 88 := trivial
  have HJ := Lib.hid hJ; clear hJ
  have HJx := Lib.hid hJx; clear hJx
  have HY := Lib.hid hY; clear hY
  have HQ := Lib.hid hq; clear hq
  have hNW : N0 ≤ W.heap.size := Nat.le_trans hN hW.size
  have c0 := (hW.cell (p := ⟨b1, 0, none⟩) (by simp; omega)).trans c0
  have c1 := (hW.cell (p := ⟨b1, 1, none⟩) (by simp; omega)).trans c1
  have c2 := (hW.cell (p := ⟨b1, 2, none⟩) (by simp; omega)).trans c2
  have d1 := (hW.cell (p := ⟨b2, 1, none⟩) (by simp; omega)).trans d1
  have hv := hv.kept (hW.mono (Nat.le_trans hB0 hN))
  have RD := Lib.hid (show ∀ wr, FX S N0 W wr → wr.cell? ⟨b1, 0, none⟩ = some (.int .i64 (farI n 0)) ∧ wr.cell? ⟨b1, 1, none⟩ = some (.int .i64 (farI n 1)) ∧ wr.cell? ⟨b1, 2, none⟩ = some (.int .i64 (farI n 2)) ∧ wr.cell? ⟨b2, 1, none⟩ = some v from
    fun wr h => ⟨h.cell h1 s1 c0, h.cell h1 s1 c1, h.cell h1 s1 c2, h.cell h2 s2 d1⟩)
  have SL := Lib.hid (show ∀ wr, FX S N0 W wr → SlOf wr B0 4 encI v l from fun wr h => h.sl hB0 s3 hv (fun _ => rfl))
  clear hv hW hN
  have HP := Lib.hid (show ptsL n l = boxL (fun p => holdsB l p 1) (rngL (farI n 0)) (rngL (farI n 1)) (rngL (farI n 2)) from rfl)
  have F0 := far_cases n 0
  have F1 := far_cases n 1
  have F2 := far_cases n 2
  have HM := Lib.hid (fun x y z (hx : x ∈ rngL (farI n 0)) (hy : y ∈ rngL (farI n 1)) (hz : z ∈ rngL (farI n 2)) => flat_box hn hx hy hz)
  generalize hPd : (fun p => holdsB l p 1) = P at *
  have HPd := Lib.hid hPd; clear hPd
  have L0 := rngL_len (farI n 0)
  have L1 := rngL_len (farI n 1)
  have L2 := rngL_len (farI n 2)
  have A0 := rngL_at (farI n 0)
  have A1 := rngL_at (farI n 1)
  have A2 := rngL_at (farI n 2)
  generalize hf : farI n = f at *
  clear hf
  generalize rngL (f 0) = xs at *
  generalize rngL (f 1) = ys at *
  generalize rngL (f 2) = zs at *
  have L0 := Lib.hid L0; have L1 := Lib.hid L1; have L2 := Lib.hid L2
  have A0 := Lib.hid A0; have A1 := Lib.hid A1; have A2 := Lib.hid A2
  have b0 : 0 ≤ f 0 ∧ f 0 ≤ 20 := by omega
  have b1' : 0 ≤ f 1 ∧ f 1 ≤ 20 := by omega
  have b2' : 0 ≤ f 2 ∧ f 2 ≤ 20 := by omega
  obtain ⟨b00, b01⟩ := b0; obtain ⟨b10, b11⟩ := b1'; obtain ⟨b20, b21⟩ := b2'
  clear F0 F1 F2
  refine callsIn_of_wp Try.func87 rfl trivial ?_ rfl
  simp only [Try.ntmps87, List.size_toArray, List.length_cons, List.length_nil, Nat.reduceAdd, Nat.reduceSub, Array.replicate_succ, Array.replicate_zero, List.push_toArray, List.append_toArray, List.nil_append, List.cons_append]
  gi_wp2
  gi_loopw [4] (fun v4 wr => ∃ (i : Nat), i ≤ xs.length ∧ v4 = .int .i64 ((i : Int) - f 0) ∧ J ((xs.take i).flatMap (slabL P ys zs)) wr ∧ FX S N0 W wr ∧ W.heap.size ≤ wr.heap.size) (fun v4 _ => (f 0 + 1 - intOf v4).toNat)
  case atStart => exact ⟨0, Nat.zero_le _, by simp, by simpa using h0, FX.refl _ _ _, Nat.le_refl _⟩
  case round =>
    clear h0 c0 c1 c2 d1
    obtain ⟨i, hi, rfl, hJ, K, ks⟩ := hrel
    obtain ⟨r0, r1, r2, r3⟩ := RD.out wr K
    have hL0 := L0.out
    obtain ⟨w2, rfl⟩ : ∃ x : World, x = wr := ⟨_, rfl⟩
    by_cases hlt : (i : Int) - f 0 ≤ f 0
    rotate_left
    · have HI := Lib.hid (show i = xs.length by omega)
      have HJJ := Lib.hid hJ; clear hJ
      gi_wp2
      go_end0
      refine ⟨⟨_, rfl⟩, .inl ?_⟩
      have := HJJ.out
      rw [HI.out, List.take_length] at this
      rw [HP.out]
      exact this
    have hil : i < xs.length := by omega
    have HX := Lib.hid (A0.out i hil)
    have HXM := Lib.hid (List.getElem_mem hil)
    have HTI := Lib.hid (take_flat (slabL P ys zs) xs i hil)
    have HBI := Lib.hid (fun j k hj => box_pre P xs ys zs i j k hil hj)
    have HILT := Lib.hid hil
    generalize hA : (xs.take i).flatMap (slabL P ys zs) = A at *
    clear hA
    generalize xs[i] = x at *
    gi_wp2
    gi_loopw [5] (fun v5 wr => ∃ (j : Nat), j ≤ ys.length ∧ v5 = .int .i64 ((j : Int) - f 1) ∧ J (A ++ (ys.take j).flatMap (rowL P zs x)) wr ∧ FX S N0 W wr ∧ W.heap.size ≤ wr.heap.size) (fun v5 _ => (f 1 + 1 - intOf v5).toNat)
    case atStart => exact ⟨0, Nat.zero_le _, by simp, by simpa using hJ, K, ks⟩
    case round =>
      clear hJ K ks r0 r1 r2 r3
      obtain ⟨j, hj, rfl, hJ, K, ks⟩ := hrel
      obtain ⟨r0, r1, r2, r3⟩ := RD.out wr K
      have hL1 := L1.out
      obtain ⟨w3, rfl⟩ : ∃ x : World, x = wr := ⟨_, rfl⟩
      by_cases hlt2 : (j : Int) - f 1 ≤ f 1
      rotate_left
      · have HI := Lib.hid (show j = ys.length by omega)
        have HJJ := Lib.hid hJ; clear hJ
        gi_wp2
        go_roundw
        case rel =>
          refine ⟨i + 1, HILT.out, by rw [show ((i + 1 : Nat) : Int) - f 0 = (i : Int) - f 0 + 1 by omega], ?_, K, ks⟩
          rw [HTI.out]
          have := HJJ.out
          rw [HI.out, List.take_length] at this
          exact this
        case measure => simp only [intOf]; omega
      have hjl : j < ys.length := by omega
      have HY2 := Lib.hid (A1.out j hjl)
      have HYM := Lib.hid (List.getElem_mem hjl)
      have HTJ := Lib.hid (take_flat (rowL P zs x) ys j hjl)
      have HBJ := Lib.hid (fun k => HBI.out j k hjl)
      have HJLT := Lib.hid hjl
      generalize hB : (ys.take j).flatMap (rowL P zs x) = B at *
      clear hB
      generalize ys[j] = y at *
      gi_wp2
      gi_loopw [6] (fun v6 wr => ∃ (k : Nat), k ≤ zs.length ∧ v6 = .int .i64 ((k : Int) - f 2) ∧ J (A ++ (B ++ rowL P (zs.take k) x y)) wr ∧ FX S N0 W wr ∧ W.heap.size ≤ wr.heap.size) (fun v6 _ => (f 2 + 1 - intOf v6).toNat)
      case atStart => exact ⟨0, Nat.zero_le _, by simp, by simpa [rowL] using hJ, K, ks⟩
      case round =>
        clear hJ K ks r0 r1 r2 r3
        obtain ⟨k, hk, rfl, hJ, K, ks⟩ := hrel
        obtain ⟨r0, r1, r2, r3⟩ := RD.out wr K
        have hL2 := L2.out
        obtain ⟨w4, rfl⟩ : ∃ x : World, x = wr := ⟨_, rfl⟩
        by_cases hlt3 : (k : Int) - f 2 ≤ f 2
        rotate_left
        · have HI := Lib.hid (show k = zs.length by omega)
          have HJJ := Lib.hid hJ; clear hJ
          gi_wp2
          go_roundw
          case rel =>
            refine ⟨j + 1, HJLT.out, by rw [show ((j + 1 : Nat) : Int) - f 1 = (j : Int) - f 1 + 1 by omega], ?_, K, ks⟩
            rw [HTJ.out]
            have := HJJ.out
            rw [HI.out, List.take_length] at this
            exact this
          case measure => simp only [intOf]; omega
        have hkl : k < zs.length := by omega
        have HZ := Lib.hid (A2.out k hkl)
        have hfl := HM.out x y zs[k] HXM.out HYM.out (List.getElem_mem hkl)
        have HTK := Lib.hid (row_take P zs x y k hkl)
        have HLB := Lib.hid (HBJ.out (k + 1))
        have HKLT := Lib.hid hkl
        generalize hC : rowL P (zs.take k) x y = C at *
        clear hC
        generalize zs[k] = z at *
        have hx := HX.out; have hy := HY2.out; have hzz := HZ.out
        subst hx hy hzz
        have HSM := Lib.hid (flatB_sm hfl)
        have HPT := Lib.hid (show P ((i : Int) - f 0, (j : Int) - f 1, (k : Int) - f 2) = holdsB l ((i : Int) - f 0, (j : Int) - f 1, (k : Int) - f 2) 1 by rw [← HPd.out])
        have HH := Lib.hid (fun (Z : World) (hw : SlOf Z Z.heap.size 4 encI v l) => holds_l l ((i : Int) - f 0, (j : Int) - f 1, (k : Int) - f 2) HQ.out HSM.out Z v hw)
        clear hfl
        have HJJ := Lib.hid hJ; clear hJ
        have hz1 := z1 (show b1 + 1 ≤ w4.heap.size by omega)
        have hz2 := z1 (show b2 + 1 ≤ w4.heap.size by omega)
        have HSW := Lib.hid (SL.out w4 K)
        cases hpp : P ((i : Int) - f 0, (j : Int) - f 1, (k : Int) - f 2)
        · have HPV := Lib.hid (HPT.out.symm.trans hpp)
          rw [hpp] at HTK
          clear hpp
          gi_wp2_with (first | (gi_at_call 88; refine (callsIn_wide.2 (HH.out _ (SlOf.mono (SlOf.kept HSW.out (Below.mono (B := w4.heap.size) (by repeat (first | exact Below.refl _ _ | assumption | (refine Below.drew ?_) | (refine below_drewN ?_ _) | (refine Below.alloc ?_ (by first | (simp; done) | (simp; omega) | omega) _) | (refine Below.setCell ?_ (by first | (simp; done) | (simp; omega) | omega) _) | (refine Below.trans ?_ (Below.mono (by assumption) (by first | (simp; done) | (simp; omega) | omega))))) (by omega))) (by simp; omega)))).mono ?_; go_must (rintro e w5 ⟨rfl, hb5⟩; rw [HPV.out])))
          refine ⟨fun f h => by simp at h, ?_⟩
          gi_wp2
          have hbE : Below w4.heap.size w4 w5 := ((Below.refl w4.heap.size w4).alloc (Nat.le_refl _) (.cells #[.int .i64 ((i : Int) - f 0), .int .i64 ((j : Int) - f 1), .int .i64 ((k : Int) - f 2)] 29)).trans (hb5.mono (by simp))
          have hs5 := hbE.size
          go_roundw
          case rel =>
            refine ⟨k + 1, HKLT.out, by rw [show ((k + 1 : Nat) : Int) - f 2 = (k : Int) - f 2 + 1 by omega], ?_, K.below (hbE.mono (by omega)), by omega⟩
            rw [HTK.out]
            simpa using HJ.out _ _ _ HJJ.out (stepQ_from hbE ks)
          case measure => simp only [intOf]; omega
        · have HPV := Lib.hid (HPT.out.symm.trans hpp)
          rw [hpp] at HTK
          clear hpp
          have HTL := Lib.hid (show A ++ (B ++ rowL P (zs.take (k + 1)) (↑i - f 0) (↑j - f 1)) = (A ++ (B ++ C)) ++ [((i : Int) - f 0, (j : Int) - f 1, (k : Int) - f 2)] by rw [HTK.out]; simp)
          have hpre : (A ++ (B ++ C)) ++ [((i : Int) - f 0, (j : Int) - f 1, (k : Int) - f 2)] <+: ptsL n l := by rw [HP.out, ← HTL.out]; exact HLB.out
          have HPRE := Lib.hid hpre; clear hpre
          gi_wp2_with (first | (gi_at_call 88; refine (callsIn_wide.2 (HH.out _ (SlOf.mono (SlOf.kept HSW.out (Below.mono (B := w4.heap.size) (by repeat (first | exact Below.refl _ _ | assumption | (refine Below.drew ?_) | (refine below_drewN ?_ _) | (refine Below.alloc ?_ (by first | (simp; done) | (simp; omega) | omega) _) | (refine Below.setCell ?_ (by first | (simp; done) | (simp; omega) | omega) _) | (refine Below.trans ?_ (Below.mono (by assumption) (by first | (simp; done) | (simp; omega) | omega))))) (by omega))) (by simp; omega)))).mono ?_; go_must (rintro e w5 ⟨rfl, hb5⟩; rw [HPV.out]; obtain ⟨hc5, hf5⟩ := bcell hb5; have hz5 := hb5.size; (try simp at hz5); (first | have z := z10 hz5 | have z := z9 hz5 | have z := z8 hz5 | have z := z7 hz5 | have z := z6 hz5 | have z := z5 hz5 | have z := z4 hz5 | have z := z3 hz5 | have z := z2 hz5 | have z := z1 hz5 | skip); have hbE : Below w4.heap.size w4 w5 := ((Below.refl w4.heap.size w4).alloc (Nat.le_refl _) (.cells #[.int .i64 ((i : Int) - f 0), .int .i64 ((j : Int) - f 1), .int .i64 ((k : Int) - f 2)] 29)).trans (hb5.mono (by simp)); have hJ3 := HJ.out _ _ _ HJJ.out (stepQ_from hbE ks); obtain ⟨fn, tmps, assign, body, hy, hR⟩ := HY.out _ _ _ hJ3 HPRE.out; have HR := Lib.hid hR; clear hR hJ3; simp only [encPt, ptV] at hy)))
          have hs5 := hbE.size
          refine HR.out.mono ?_
          rintro e w6 (⟨rfl, hJ6, hk6⟩ | ⟨rfl, hJx6⟩)
          rotate_left
          · gi_wp2
            refine bodyPost_ret (results_none rfl _ _ _) rfl ?_
            exact ⟨⟨_, rfl⟩, .inr ⟨_, HPRE.out, hJx6⟩⟩
          have K6 := (K.below (hbE.mono (by omega))).round hk6
          have hs6 := hk6.1
          have HJ6 := Lib.hid hJ6; clear hJ6
          clear r0 r1 r2 r3 hy
          obtain ⟨r0, r1, r2, r3⟩ := RD.out w6 K6
          gi_wp2
          go_roundw
          case rel =>
            refine ⟨k + 1, HKLT.out, by rw [show ((k + 1 : Nat) : Int) - f 2 = (k : Int) - f 2 + 1 by omega], ?_, K6, by omega⟩
            rw [HTL.out]
            exact HJ6.out
          case measure => simp only [intOf]; omega
end Go.Proofs.Ytndfdgdahinkpaa
