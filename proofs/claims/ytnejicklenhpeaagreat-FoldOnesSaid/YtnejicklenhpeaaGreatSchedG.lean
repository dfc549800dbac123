/- The reference for schedules: arity and isVar: their walks. The reference for schedules: isForm, isSched: their walks. The reference for schedules: IsRec and Valid: their walks. Conditions: none. -/
import Derived.Test.YtnejicklenhpeaaGreatSchedF
namespace Go.Proofs.YtnejicklenhpeaaGreat
open Go.RowKit
set_option maxHeartbeats 4000000 in
theorem arity_l (op : Int) (w : World) : Calls Tryz.prog 256 #[.int .i64 op] w fun e w' => e = .returned (.int .i64 (needsI op)) ∧ w' = w := by
  have EN := Lib.hid (show needsI op = (if op = 1 then 1 else if op = 5 then 3 else if 1 ≤ op ∧ op ≤ 7 then 2 else 0) from rfl)
  by_cases h1 : op = 1
  · subst h1
    go_enter Tryz.func256, Tryz.ntmps256
    go_wp2
    go_ret
    exact ⟨rfl, rfl⟩
  by_cases h2 : op = 2
  · subst h2
    go_enter Tryz.func256, Tryz.ntmps256
    go_wp2
    go_ret
    exact ⟨rfl, rfl⟩
  by_cases h3 : op = 3
  · subst h3
    go_enter Tryz.func256, Tryz.ntmps256
    go_wp2
    go_ret
    exact ⟨rfl, rfl⟩
  by_cases h4 : op = 4
  · subst h4
    go_enter Tryz.func256, Tryz.ntmps256
    go_wp2
    go_ret
    exact ⟨rfl, rfl⟩
  by_cases h5 : op = 5
  · subst h5
    go_enter Tryz.func256, Tryz.ntmps256
    go_wp2
    go_ret
    exact ⟨rfl, rfl⟩
  by_cases h6 : op = 6
  · subst h6
    go_enter Tryz.func256, Tryz.ntmps256
    go_wp2
    go_ret
    exact ⟨rfl, rfl⟩
  by_cases h7 : op = 7
  · subst h7
    go_enter Tryz.func256, Tryz.ntmps256
    go_wp2
    go_ret
    exact ⟨rfl, rfl⟩
  have b1 : (op == 1) = false := by simpa using h1
  have b2 : (op == 2) = false := by simpa using h2
  have b3 : (op == 3) = false := by simpa using h3
  have b4 : (op == 4) = false := by simpa using h4
  have b5 : (op == 5) = false := by simpa using h5
  have b6 : (op == 6) = false := by simpa using h6
  have b7 : (op == 7) = false := by simpa using h7
  go_enter Tryz.func256, Tryz.ntmps256
  go_wp2
  go_ret
  exact ⟨ret_int (by rw [EN.out, if_neg h1, if_neg h5, if_neg (by omega)]), rfl⟩
set_option maxHeartbeats 4000000 in
set_option maxRecDepth 100000 in
theorem isVar_l (n : Int) (nv : Nat) (hn : 1 ≤ n ∧ n ≤ 3) (v : VarD) (w : World) (hv : VarRd w v) :
    Calls Tryz.prog 224 #[.agg #[.string v.name, .int .i64 v.op, v.argsV, .int .i64 v.i0, .int .i64 v.i1, .int .i64 v.i2, .int .i64 v.i3], .int .i64 (nv : Nat), .int .i64 n] w fun e w' => e = .returned (.bool (varB n nv v)) ∧ Below w.heap.size w w' := by
  obtain ⟨hsl, hnm⟩ := hv
  unfold maxLen at hnm
  have HVO := Lib.hid (varB_of n nv v)
  obtain ⟨s, op, av, args, i0, i1, i2, i3⟩ := v
  simp only at hsl hnm HVO ⊢
  obtain ⟨aa, cap, g, off, rfl, hlc, hcm, hx⟩ := SlOf.at (enc := encA) (fun _ => rfl) un_va sz_va2 hsl
  have HX := Lib.hid hx; clear hx hsl
  unfold maxLen at hcm
  have EV := Lib.hid (show varB2 n nv ⟨s, op, .slice aa args.length cap, args, i0, i1, i2, i3⟩ = (btw 1 op 7 && (decide ((args.length : Int) = needsI op) && (initB n ⟨s, op, .slice aa args.length cap, args, i0, i1, i2, i3⟩ && args.all (argB n nv)))) from rfl)
  generalize varB n nv ⟨s, op, .slice aa args.length cap, args, i0, i1, i2, i3⟩ = R at *
  have HNP := Lib.hid (needs_pos op)
  have HNE := Lib.hid (fun (W : World) => arity_l op W)
  have hnd := (needs_pos op).2
  generalize hN : needsI op = nd at *
  have HN := Lib.hid hN; clear hN
  obtain ⟨hn1, hn3⟩ := hn
  by_cases h1 : s.size = 1
  rotate_left
  · have HB := Lib.hid (show R = false by rw [HVO.out]; simp [nameB, h1])
    have h2 : ¬ ((s.size : Int) = 1) := by omega
    clear HVO EV
    go_enter Tryz.func224, Tryz.ntmps224
    go_wp2
    go_quiet ((go_at_call 256; exact Calls.quiet_of_same (HNE.out _)))
    go_wp2
    go_ret
    exact ⟨ret_bool HB.out.symm, by repeat (first | exact Below.refl _ _ | assumption | (refine Below.drew ?_) | (refine below_drewN ?_ _) | (refine Below.alloc ?_ (by first | (simp; done) | (simp; omega) | omega) _) | (refine Below.setCell ?_ (by first | (simp; done) | (simp; omega) | omega) _) | (refine Below.trans ?_ (Below.mono (by assumption) (by first | (simp; done) | (simp; omega) | omega))))⟩
  obtain ⟨c, rfl⟩ := size1 h1
  have hcc : ((⟨#[c]⟩ : ByteArray)[0]'(by simp [ByteArray.size])) = c := rfl
  have HNB := Lib.hid (show nameB ⟨#[c]⟩ = (decide (97 ≤ (c.toNat : Int)) && decide ((c.toNat : Int) ≤ 122)) from rfl)
  clear h1
  by_cases hc1 : 97 ≤ (c.toNat : Int) ∧ (c.toNat : Int) ≤ 122
  rotate_left
  · have HB := Lib.hid (show R = false by rw [HVO.out, HNB.out]; simp; omega)
    clear HVO EV
    by_cases hc2 : (c.toNat : Int) < 97
    · have hd1 : decide ((c.toNat : Int) < 97) = true := decide_eq_true hc2
      go_enter Tryz.func224, Tryz.ntmps224
      go_wp2
      go_quiet ((go_at_call 256; exact Calls.quiet_of_same (HNE.out _)))
      go_wp2
      go_ret
      exact ⟨ret_bool HB.out.symm, by repeat (first | exact Below.refl _ _ | assumption | (refine Below.drew ?_) | (refine below_drewN ?_ _) | (refine Below.alloc ?_ (by first | (simp; done) | (simp; omega) | omega) _) | (refine Below.setCell ?_ (by first | (simp; done) | (simp; omega) | omega) _) | (refine Below.trans ?_ (Below.mono (by assumption) (by first | (simp; done) | (simp; omega) | omega))))⟩
    · have hd1 : decide ((c.toNat : Int) < 97) = false := decide_eq_false hc2
      have hd2 : decide ((122 : Int) < (c.toNat : Int)) = true := decide_eq_true (by omega)
      go_enter Tryz.func224, Tryz.ntmps224
      go_wp2
      go_quiet ((go_at_call 256; exact Calls.quiet_of_same (HNE.out _)))
      go_wp2
      go_ret
      exact ⟨ret_bool HB.out.symm, by repeat (first | exact Below.refl _ _ | assumption | (refine Below.drew ?_) | (refine below_drewN ?_ _) | (refine Below.alloc ?_ (by first | (simp; done) | (simp; omega) | omega) _) | (refine Below.setCell ?_ (by first | (simp; done) | (simp; omega) | omega) _) | (refine Below.trans ?_ (Below.mono (by assumption) (by first | (simp; done) | (simp; omega) | omega))))⟩
  obtain ⟨hc1, hc2⟩ := hc1
  have hd1 : decide ((c.toNat : Int) < 97) = false := decide_eq_false (by omega)
  have hd2 : decide ((122 : Int) < (c.toNat : Int)) = false := decide_eq_false (by omega)
  have EV1 := Lib.hid (show R = varB2 n nv ⟨⟨#[c]⟩, op, .slice aa args.length cap, args, i0, i1, i2, i3⟩ by rw [HVO.out, HNB.out, decide_eq_true hc1, decide_eq_true hc2]; simp)
  clear HVO HNB
  by_cases h0 : nd = 0
  · have HB := Lib.hid (show R = false by rw [EV1.out, EV.out, (HNP.out.1).1 h0]; rfl)
    clear EV EV1
    subst h0
    go_enter Tryz.func224, Tryz.ntmps224
    go_wp2
    go_quiet ((go_at_call 256; exact Calls.quiet_of_same (HNE.out _)))
    go_wp2
    go_ret
    exact ⟨ret_bool HB.out.symm, by repeat (first | exact Below.refl _ _ | assumption | (refine Below.drew ?_) | (refine below_drewN ?_ _) | (refine Below.alloc ?_ (by first | (simp; done) | (simp; omega) | omega) _) | (refine Below.setCell ?_ (by first | (simp; done) | (simp; omega) | omega) _) | (refine Below.trans ?_ (Below.mono (by assumption) (by first | (simp; done) | (simp; omega) | omega))))⟩
  have h0b : (nd == 0) = false := by simpa using h0
  by_cases hle : (args.length : Int) = nd
  rotate_left
  · have HB := Lib.hid (show R = false by rw [EV1.out, EV.out]; simp [hle])
    clear EV EV1
    have h1 : ((args.length : Int) != nd) = true := by simpa using hle
    have h2 : ((args.length : Int) == nd) = false := by simpa using hle
    go_enter Tryz.func224, Tryz.ntmps224
    go_wp2
    go_quiet ((go_at_call 256; exact Calls.quiet_of_same (HNE.out _)))
    go_wp2
    go_ret
    exact ⟨ret_bool HB.out.symm, by repeat (first | exact Below.refl _ _ | assumption | (refine Below.drew ?_) | (refine below_drewN ?_ _) | (refine Below.alloc ?_ (by first | (simp; done) | (simp; omega) | omega) _) | (refine Below.setCell ?_ (by first | (simp; done) | (simp; omega) | omega) _) | (refine Below.trans ?_ (Below.mono (by assumption) (by first | (simp; done) | (simp; omega) | omega))))⟩
  clear h0b
  have hbt : btw 1 op 7 = true := by
    cases hb : btw 1 op 7
    · exact absurd ((HNP.out.1).2 hb) h0
    · rfl
  have EV2 := Lib.hid (show R = (initB n ⟨⟨#[c]⟩, op, .slice aa args.length cap, args, i0, i1, i2, i3⟩ && args.all (argB n nv)) by rw [EV1.out, EV.out, hbt, hle]; simp)
  have h0c : ((args.length : Int) == 0) = false := by rw [hle]; simpa using h0
  have HNE2 := Lib.hid (fun (W : World) => by have := HNE.out W; rwa [← hle] at this)
  clear EV EV1 hbt HNP HN HNE hle h0
  obtain ⟨W0, hW0⟩ : ∃ W : World, w.alloc (Obj.cells #[.string ⟨#[c]⟩, .int .i64 op, .slice aa args.length cap, .int .i64 i0, .int .i64 i1, .int .i64 i2, .int .i64 i3] 85) = W := ⟨_, rfl⟩
  have KW := Lib.hid (show Below w.heap.size w W0 by rw [← hW0]; exact (by repeat (first | exact Below.refl _ _ | assumption | (refine Below.drew ?_) | (refine below_drewN ?_ _) | (refine Below.alloc ?_ (by first | (simp; done) | (simp; omega) | omega) _) | (refine Below.setCell ?_ (by first | (simp; done) | (simp; omega) | omega) _) | (refine Below.trans ?_ (Below.mono (by assumption) (by first | (simp; done) | (simp; omega) | omega))))))
  have ks : W0.heap.size = w.heap.size + 1 := by rw [← hW0]; simp
  have RI := Lib.hid (show ∀ V, Below W0.heap.size W0 V → V.cell? ⟨w.heap.size, 3, none⟩ = some (.int .i64 i0) ∧ V.cell? ⟨w.heap.size, 4, none⟩ = some (.int .i64 i1) ∧ V.cell? ⟨w.heap.size, 5, none⟩ = some (.int .i64 i2) ∧ V.cell? ⟨w.heap.size, 6, none⟩ = some (.int .i64 i3) from fun V h => by
    refine ⟨(h.cell (p := ⟨w.heap.size, 3, none⟩) (by simp; omega)).trans ?_, (h.cell (p := ⟨w.heap.size, 4, none⟩) (by simp; omega)).trans ?_, (h.cell (p := ⟨w.heap.size, 5, none⟩) (by simp; omega)).trans ?_, (h.cell (p := ⟨w.heap.size, 6, none⟩) (by simp; omega)).trans ?_⟩ <;> (subst hW0; go_simp))
  have HW := Lib.hid hW0
  clear hW0
  have HIF := Lib.hid (initB_iff n hn1 ⟨⟨#[c]⟩, op, .slice aa args.length cap, args, i0, i1, i2, i3⟩)
  have HFA := Lib.hid (show args.all (argB n nv) = false → R = false from fun h => by rw [EV2.out, h, Bool.and_false])
  have HF := Lib.hid (show ¬ (okI n 0 i0 ∧ okI n 1 i1 ∧ okI n 2 i2 ∧ okI n 3 i3) → R = false from fun h => by
    have : initB n ⟨⟨#[c]⟩, op, .slice aa args.length cap, args, i0, i1, i2, i3⟩ = false := by
      rw [← Bool.not_eq_true]; intro h2; exact h (HIF.out.1 h2)
    rw [EV2.out, this]; rfl)
  have HY := Lib.hid (show (okI n 0 i0 ∧ okI n 1 i1 ∧ okI n 2 i2 ∧ okI n 3 i3) → args.all (argB n nv) = true → R = true from fun h h2 => by
    rw [EV2.out, HIF.out.2 h, h2]; rfl)
  clear EV2 HIF
  have j0 := ix4_0; have j1 := ix4_1; have j2 := ix4_2; have j3 := ix4_3
  go_enter Tryz.func224, Tryz.ntmps224
  go_wp2
  go_quiet ((go_at_call 256; exact Calls.quiet_of_same (HNE2.out _)))
  clear HNE2
  go_wp2
  rw [HW.out]
  go_loopw [45] (fun t45 wr => ∃ k : Nat, k ≤ args.length ∧ t45 = .int .i64 (k : Nat) ∧ Hid ((args.take k).all (argB n nv) = true) ∧ Below W0.heap.size W0 wr) (fun t45 _ => args.length - (intOf t45).toNat)
  case atStart => exact ⟨0, Nat.zero_le _, rfl, Lib.hid rfl, below_drewN (Below.refl _ _) _⟩
  case round =>
    obtain ⟨k, hk, rfl, HO, hb⟩ := hrel
    have hs := hb.size
    have KR := below_at KW.out (by omega) hb
    by_cases hlt : k < args.length
    · obtain ⟨-, hi, hg, hc⟩ := HX.out k hlt
      have rd := fun j hj => (KR.cell (p := ⟨g, off + 4 * k + j, none⟩) hg).trans (hc j hj)
      clear hc j0 j1 j2 j3
      have HN := Lib.hid (show argB n nv args[k] = false → R = false from fun h => HFA.out (List.all_eq_false.2 ⟨_, List.getElem_mem hlt, by rw [h]; simp⟩))
      have HS := Lib.hid (show argB n nv args[k] = true → (args.take (k + 1)).all (argB n nv) = true from fun h => by
        rw [List.take_succ_eq_append_getElem hlt, List.all_append, HO.out]; simp [h])
      have HLT := Lib.hid hlt
      have HAQ := Lib.hid (show argB n nv args[k] = (flatB n args[k].at_.1 args[k].at_.2.1 args[k].at_.2.2 3 && btw 0 args[k].var (nv - 1)) from rfl)
      generalize args[k] = q at *
      obtain ⟨av, a0, a1, a2⟩ := q
      simp only at HAQ
      have r0 : wr.cell? ⟨g, off + 4 * k, none⟩ = some (.int .i64 av) := rd 0 (by omega)
      have r1 : wr.cell? ⟨g, off + 4 * k + 1, none⟩ = some (.int .i64 a0) := rd 1 (by omega)
      have r2 : wr.cell? ⟨g, off + 4 * k + 2, none⟩ = some (.int .i64 a1) := rd 2 (by omega)
      have r3 : wr.cell? ⟨g, off + 4 * k + 3, none⟩ = some (.int .i64 a2) := rd 3 (by omega)
      clear rd
      generalize argB n nv ⟨av, a0, a1, a2⟩ = A at *
      by_cases hv0 : 0 ≤ av ∧ av < nv
      rotate_left
      · have HR := Lib.hid (HN.out (by rw [HAQ.out]; simp [btw]; omega))
        by_cases hv1 : av < 0
        all_goals
          go_wp2
          go_ret
          exact ⟨ret_bool HR.out.symm, below_at KR (by omega) (by repeat (first | exact Below.refl _ _ | assumption | (refine Below.drew ?_) | (refine below_drewN ?_ _) | (refine Below.alloc ?_ (by first | (simp; done) | (simp; omega) | omega) _) | (refine Below.setCell ?_ (by first | (simp; done) | (simp; omega) | omega) _) | (refine Below.trans ?_ (Below.mono (by assumption) (by first | (simp; done) | (simp; omega) | omega)))))⟩
      have HAQ2 := Lib.hid (show A = flatB n a0 a1 a2 3 by rw [HAQ.out, show btw 0 av (nv - 1) = true by (simp [btw]; omega), Bool.and_true])
      obtain ⟨hv0, hv1⟩ := hv0
      cases hfl : flatB n a0 a1 a2 3
      · have HFL := Lib.hid hfl
        have HR := Lib.hid (HN.out (by rw [HAQ2.out, hfl]))
        clear hfl
        go_wp2_with (go_at_call 155; refine (rFlat_l _ _ _ _ _ hn1 (by omega) _).mono ?_; go_must (rintro e w5 ⟨rfl, hb5⟩; rw [HFL.out]))
        go_ret
        exact ⟨ret_bool HR.out.symm, below_at KR (by omega) (by repeat (first | exact Below.refl _ _ | assumption | (refine Below.drew ?_) | (refine below_drewN ?_ _) | (refine Below.alloc ?_ (by first | (simp; done) | (simp; omega) | omega) _) | (refine Below.setCell ?_ (by first | (simp; done) | (simp; omega) | omega) _) | (refine Below.trans ?_ (Below.mono (by assumption) (by first | (simp; done) | (simp; omega) | omega)))))⟩
      · have HFL := Lib.hid hfl
        have HR := Lib.hid (HS.out (by rw [HAQ2.out, hfl]))
        clear hfl
        go_wp2_with (go_at_call 155; refine (rFlat_l _ _ _ _ _ hn1 (by omega) _).mono ?_; go_must (rintro e w5 ⟨rfl, hb5⟩; rw [HFL.out]))
        go_roundw
        case rel => exact ⟨k + 1, HLT.out, by simp, Lib.hid (by first | exact HR.out | simpa using HR.out), below_at hb (by omega) (by repeat (first | exact Below.refl _ _ | assumption | (refine Below.drew ?_) | (refine below_drewN ?_ _) | (refine Below.alloc ?_ (by first | (simp; done) | (simp; omega) | omega) _) | (refine Below.setCell ?_ (by first | (simp; done) | (simp; omega) | omega) _) | (refine Below.trans ?_ (Below.mono (by assumption) (by first | (simp; done) | (simp; omega) | omega)))))⟩
        case measure => simp only [intOf]; have := HLT.out; omega
    have HALL := Lib.hid (show args.all (argB n nv) = true by have := HO.out; rw [show k = args.length by omega, List.take_length] at this; exact this)
    obtain ⟨x0, x1, x2, x3⟩ := RI.out wr hb
    have HKR := Lib.hid KR
    obtain ⟨w3, rfl⟩ : ∃ x : World, x = wr := ⟨_, rfl⟩
    clear KR hb HO
    go_wp2
    go_loop [68] (fun t68 => ∃ i : Nat, i ≤ 4 ∧ t68 = .int .i64 (i : Nat) ∧ ((0 < i → okI n 0 i0) ∧ (1 < i → okI n 1 i1) ∧ (2 < i → okI n 2 i2) ∧ (3 < i → okI n 3 i3))) (fun t68 => 4 - (intOf t68).toNat)
    case atStart => exact ⟨0, by omega, rfl, ⟨by omega, by omega, by omega, by omega⟩⟩
    case round =>
      obtain ⟨i, hi4, rfl, ⟨o0, o1, o2, o3⟩⟩ := hrel
      have O0 := Lib.hid o0; have O1 := Lib.hid o1; have O2 := Lib.hid o2; have O3 := Lib.hid o3
      clear o0 o1 o2 o3
      obtain rfl | rfl | rfl | rfl | rfl : i = 0 ∨ i = 1 ∨ i = 2 ∨ i = 3 ∨ i = 4 := by omega
      · go_wp2
        all_goals first
          | (go_ret; exact ⟨ret_bool (HF.out (by unfold okI; omega)).symm, HKR.out⟩)
          | (go_round; (case rel => exact ⟨1, by omega, by simp, ⟨fun _ => (by unfold okI; omega), by omega, by omega, by omega⟩⟩); (case measure => simp [intOf]))
      · go_wp2
        all_goals first
          | (go_ret; exact ⟨ret_bool (HF.out (by unfold okI; omega)).symm, HKR.out⟩)
          | (go_round; (case rel => exact ⟨2, by omega, by simp, ⟨fun _ => O0.out (by omega), fun _ => (by unfold okI; omega), by omega, by omega⟩⟩); (case measure => simp [intOf]))
      · go_wp2
        all_goals (try simp only [bne_iff_ne, ne_eq, bne_eq_false_iff_eq] at *)
        all_goals first
          | (go_ret; exact ⟨ret_bool (HF.out (by unfold okI; omega)).symm, HKR.out⟩)
          | (go_round; (case rel => exact ⟨3, by omega, by simp, ⟨fun _ => O0.out (by omega), fun _ => O1.out (by omega), fun _ => (by unfold okI; omega), by omega⟩⟩); (case measure => simp [intOf]))
      · go_wp2
        all_goals (try simp only [bne_iff_ne, ne_eq, bne_eq_false_iff_eq] at *)
        all_goals first
          | (go_ret; exact ⟨ret_bool (HF.out (by unfold okI; omega)).symm, HKR.out⟩)
          | (go_round; (case rel => exact ⟨4, by omega, by simp, ⟨fun _ => O0.out (by omega), fun _ => O1.out (by omega), fun _ => O2.out (by omega), fun _ => (by unfold okI; omega)⟩⟩); (case measure => simp [intOf]))
      · have HT := Lib.hid (HY.out ⟨O0.out (by omega), O1.out (by omega), O2.out (by omega), O3.out (by omega)⟩ HALL.out)
        go_wp2
        go_ret
        exact ⟨ret_bool HT.out.symm, HKR.out⟩
end Go.Proofs.YtnejicklenhpeaaGreat
namespace Go.Proofs.YtnejicklenhpeaaGreat
open Go.RowKit
set_option maxHeartbeats 4000000 in
theorem rsform_l (n x0 x1 x2 : Int) (lv vv : Value) (hn : 1 ≤ n) (w : World) :
    Calls Tryz.prog 225 #[.agg #[.int .i64 n, lv, vv], .agg #[.int .i64 x0, .int .i64 x1, .int .i64 x2]] w fun e w' => e = .returned (.bool (flatB n x0 x1 x2 9)) ∧ Below w.heap.size w w' := by
  go_enter Tryz.func225, Tryz.ntmps225
  go_wp2_with (go_at_call 155; refine (rFlat_l _ _ _ _ _ hn (by omega) _).mono ?_; go_must (rintro e w1 ⟨rfl, hb1⟩))
  go_ret
  exact ⟨rfl, by repeat (first | exact Below.refl _ _ | assumption | (refine Below.drew ?_) | (refine below_drewN ?_ _) | (refine Below.alloc ?_ (by first | (simp; done) | (simp; omega) | omega) _) | (refine Below.setCell ?_ (by first | (simp; done) | (simp; omega) | omega) _) | (refine Below.trans ?_ (Below.mono (by assumption) (by first | (simp; done) | (simp; omega) | omega))))⟩
set_option maxHeartbeats 4000000 in
set_option maxRecDepth 100000 in
theorem isSched_l (n : Int) (lv vv : Value) (nv : Nat) (s : SchedD) (hn : 1 ≤ n) (hvv : ∃ a c, vv = .slice a nv c) (w : World) (hs : SchedRd w s) :
    Calls Tryz.prog 163 #[.agg #[.int .i64 n, lv, vv], .agg #[.int .i64 s.f.1, .int .i64 s.f.2.1, .int .i64 s.f.2.2, s.ov]] w fun e w' => e = .returned (.bool (fitsB n nv s)) ∧ Below w.heap.size w w' := by
  obtain ⟨va, vc, rfl⟩ := hvv
  obtain ⟨⟨f0, f1, f2⟩, ov, off⟩ := s
  obtain ⟨oa, oc, g, o, ho, hlc, hcm, hx⟩ := SlOf.at (enc := encInt) (fun _ => rfl) un_sf1 sz_sf1 hs
  simp only at ho hlc hx ⊢
  subst ho
  have HX := Lib.hid hx; clear hx hs
  unfold maxLen at hcm
  have EV := Lib.hid (show fitsB n nv ⟨(f0, f1, f2), .slice oa off.length oc, off⟩ = (flatB n f0 f1 f2 9 && (decide (off.length = nv) && off.all (fun x => btw 0 x 1000))) from rfl)
  generalize fitsB n nv ⟨(f0, f1, f2), .slice oa off.length oc, off⟩ = R at *
  obtain ⟨W0, hW0⟩ : ∃ W : World, (w.alloc (Obj.cells #[.int .i64 n, lv, .slice va nv vc] 27)).alloc (Obj.cells #[.int .i64 f0, .int .i64 f1, .int .i64 f2, .slice oa off.length oc] 47) = W := ⟨_, rfl⟩
  have kw : Below w.heap.size w W0 := by rw [← hW0]; exact (by repeat (first | exact Below.refl _ _ | assumption | (refine Below.drew ?_) | (refine below_drewN ?_ _) | (refine Below.alloc ?_ (by first | (simp; done) | (simp; omega) | omega) _) | (refine Below.setCell ?_ (by first | (simp; done) | (simp; omega) | omega) _) | (refine Below.trans ?_ (Below.mono (by assumption) (by first | (simp; done) | (simp; omega) | omega)))))
  have ks : W0.heap.size = w.heap.size + 2 := by rw [← hW0]; simp
  have RD := Lib.hid (show ∀ V, Below W0.heap.size W0 V → V.cell? ⟨w.heap.size, 0, none⟩ = some (.int .i64 n) ∧ V.cell? ⟨w.heap.size, 1, none⟩ = some lv ∧ V.cell? ⟨w.heap.size, 2, none⟩ = some (.slice va nv vc) ∧ V.cell? ⟨w.heap.size + 1, 0, none⟩ = some (.int .i64 f0) ∧ V.cell? ⟨w.heap.size + 1, 1, none⟩ = some (.int .i64 f1) ∧ V.cell? ⟨w.heap.size + 1, 2, none⟩ = some (.int .i64 f2) ∧ V.cell? ⟨w.heap.size + 1, 3, none⟩ = some (.slice oa off.length oc) from
    fun V h => by
      refine ⟨(h.cell (p := ⟨w.heap.size, 0, none⟩) (by simp; omega)).trans ?_, (h.cell (p := ⟨w.heap.size, 1, none⟩) (by simp; omega)).trans ?_, (h.cell (p := ⟨w.heap.size, 2, none⟩) (by simp; omega)).trans ?_, (h.cell (p := ⟨w.heap.size + 1, 0, none⟩) (by simp; omega)).trans ?_, (h.cell (p := ⟨w.heap.size + 1, 1, none⟩) (by simp; omega)).trans ?_, (h.cell (p := ⟨w.heap.size + 1, 2, none⟩) (by simp; omega)).trans ?_, (h.cell (p := ⟨w.heap.size + 1, 3, none⟩) (by simp; omega)).trans ?_⟩ <;> (subst hW0; go_simp))
  have HW := Lib.hid hW0; have KW := Lib.hid kw; clear hW0 kw
  go_enter Tryz.func163, Tryz.ntmps163
  go_wp2
  rw [HW.out]
  obtain ⟨k0, k1, k2, k3, k4, k5, k6⟩ := RD.out W0 (Below.refl _ _)
  go_loop [10] (fun t => ∃ k : Nat, k ≤ off.length ∧ t = .int .i64 (k : Nat) ∧ Hid ((off.take k).all (fun x => btw 0 x 1000) = true)) (fun t => off.length - (intOf t).toNat)
  case atStart => exact ⟨0, Nat.zero_le _, rfl, Lib.hid rfl⟩
  case round =>
    obtain ⟨k, hk, rfl, HO⟩ := hrel
    by_cases hlt : k < off.length
    · obtain ⟨-, hi, hg, hc⟩ := HX.out k hlt
      have rd := (KW.out.cell (p := ⟨g, o + 1 * k, none⟩) hg).trans (hc 0 (by omega))
      simp only [Nat.one_mul] at rd hi
      clear hc
      have HN := Lib.hid (show btw 0 off[k] 1000 = false → R = false from fun h => by
        rw [EV.out, List.all_eq_false.2 ⟨_, List.getElem_mem hlt, by rw [h]; simp⟩]; simp)
      have HS := Lib.hid (show btw 0 off[k] 1000 = true → (off.take (k + 1)).all (fun x => btw 0 x 1000) = true from fun h => by
        rw [List.take_succ_eq_append_getElem hlt, List.all_append, HO.out]; simp [h])
      have HLT := Lib.hid hlt
      generalize off[k] = x at *
      have r0 : W0.cell? ⟨g, o + k, none⟩ = some (.int .i64 x) := by simpa [encInt] using rd
      clear rd
      by_cases h0 : 0 ≤ x
      · by_cases h1 : x ≤ 1000
        · have HS2 := Lib.hid (HS.out (by simp [btw]; omega))
          go_wp2
          go_round
          case rel => exact ⟨k + 1, HLT.out, by simp, Lib.hid (by first | exact HS2.out | simpa using HS2.out)⟩
          case measure => simp only [intOf]; have := HLT.out; omega
        · have HR := Lib.hid (HN.out (by simp [btw]; omega))
          go_wp2
          go_ret
          exact ⟨ret_bool HR.out.symm, KW.out⟩
      · have HR := Lib.hid (HN.out (by simp [btw]; omega))
        go_wp2
        go_ret
        exact ⟨ret_bool HR.out.symm, KW.out⟩
    have HALL := Lib.hid (show off.all (fun x => btw 0 x 1000) = true by have := HO.out; rw [show k = off.length by omega, List.take_length] at this; exact this)
    have EV2 := Lib.hid (show R = (flatB n f0 f1 f2 9 && decide (off.length = nv)) by rw [EV.out, HALL.out, Bool.and_true])
    clear EV HO
    have HFM := Lib.hid (fun (W : World) => rsform_l n f0 f1 f2 lv (.slice va nv vc) hn W)
    cases hf : flatB n f0 f1 f2 9
    · have HF := Lib.hid hf
      have HRR := Lib.hid (show R = false by rw [EV2.out, hf]; rfl)
      clear hf EV2
      go_wp2_with (go_at_call 225; refine (HFM.out _).mono ?_; go_must (rintro e w1 ⟨rfl, hb1⟩; rw [HF.out]))
      go_ret
      exact ⟨ret_bool HRR.out.symm, below_at KW.out (by omega) hb1⟩
    have HF := Lib.hid hf
    have EV3 := Lib.hid (show R = decide (off.length = nv) by rw [EV2.out, hf, Bool.true_and])
    clear hf EV2 k0 k1 k2 k3 k4 k5 k6
    obtain ⟨k0, k1, k2, k3, k4, k5, k6⟩ := RD.out W0 (Below.refl _ _)
    by_cases hl : off.length = nv
    all_goals
      go_wp2_with (go_at_call 225; refine (HFM.out _).mono ?_; go_must (rintro e w1 ⟨rfl, hb1⟩; rw [HF.out]; clear k0 k1 k2 k3 k4 k5 k6; obtain ⟨k0, k1, k2, k3, k4, k5, k6⟩ := RD.out _ hb1))
      go_ret
      exact ⟨ret_bool (by rw [EV3.out]; simp [hl] <;> omega), below_at KW.out (by omega) hb1⟩
end Go.Proofs.YtnejicklenhpeaaGreat
namespace Go.Proofs.YtnejicklenhpeaaGreat
open Go.RowKit
theorem toList_same (t s : ByteArray) : (t.toList == s.toList) = true ↔ t = s := by
  rw [beq_iff_eq, ByteArray.toList_eq, ByteArray.toList_eq]
  exact ⟨fun h => WideShapes.bytes_inj h, fun h => by rw [h]⟩
set_option maxHeartbeats 4000000 in
set_option maxRecDepth 100000 in
theorem IsRec_l (r : RecD) (w : World) (hr : RecRd w r) :
    Calls Tryz.prog 162 #[.agg #[.int .i64 r.n, r.lv, r.vv]] w fun e w' => e = .returned (.bool (validR r.n r.l r.vars)) ∧ Below w.heap.size w w' := by
  obtain ⟨hl, hvs, heach⟩ := hr
  obtain ⟨n, lv, l, vv, vs⟩ := r
  simp only at hl hvs heach ⊢
  have HL := Lib.hid hl; clear hl
  obtain ⟨va, vcap, vg, voff, rfl, hlc, hcm, hx⟩ := SlOf.at (enc := encV) (fun _ => rfl) un_vars sz_vars hvs
  have HX := Lib.hid hx; clear hx hvs
  have HE := Lib.hid heach; clear heach
  unfold maxLen at hcm
  have HCV := Lib.hid (fun (W : World) (hw : SlOf W W.heap.size 4 encI lv l) => rValidD_l n l W lv hw)
  obtain ⟨W0, hW0⟩ : ∃ W : World, w.alloc (Obj.cells #[.int .i64 n, lv, .slice va vs.length vcap] 27) = W := ⟨_, rfl⟩
  have kw : Below w.heap.size w W0 := by rw [← hW0]; exact (by repeat (first | exact Below.refl _ _ | assumption | (refine Below.drew ?_) | (refine below_drewN ?_ _) | (refine Below.alloc ?_ (by first | (simp; done) | (simp; omega) | omega) _) | (refine Below.setCell ?_ (by first | (simp; done) | (simp; omega) | omega) _) | (refine Below.trans ?_ (Below.mono (by assumption) (by first | (simp; done) | (simp; omega) | omega)))))
  have ks : W0.heap.size = w.heap.size + 1 := by rw [← hW0]; simp
  have RD := Lib.hid (show ∀ V, Below W0.heap.size W0 V → V.cell? ⟨w.heap.size, 0, none⟩ = some (.int .i64 n) ∧ V.cell? ⟨w.heap.size, 1, none⟩ = some lv ∧ V.cell? ⟨w.heap.size, 2, none⟩ = some (.slice va vs.length vcap) from fun V h => by
    refine ⟨(h.cell (p := ⟨w.heap.size, 0, none⟩) (by simp; omega)).trans ?_, (h.cell (p := ⟨w.heap.size, 1, none⟩) (by simp; omega)).trans ?_, (h.cell (p := ⟨w.heap.size, 2, none⟩) (by simp; omega)).trans ?_⟩ <;> (subst hW0; go_simp))
  have HW := Lib.hid hW0; have KW := Lib.hid kw; clear hW0 kw
  have EV0 := Lib.hid (Valid2_eq n l vs)
  cases hd : validD n l
  · have EV := Lib.hid (show validR n l vs = false by rw [EV0.out, hd]; rfl)
    have HD := Lib.hid hd; clear hd EV0
    go_enter Tryz.func162, Tryz.ntmps162
    go_wp2_with (go_at_call 44; rw [HW.out]; refine (HCV.out _ (HL.out.below KW.out)).mono ?_; go_must (rintro e w1 ⟨rfl, hb1⟩; rw [HD.out]))
    go_ret
    exact ⟨ret_bool EV.out.symm, below_at KW.out (by omega) hb1⟩
  have HD := Lib.hid hd; clear hd
  have hdn := (validD_out HD.out).1
  have HSM := Lib.hid (validD_out HD.out).2.2
  by_cases h14 : 1 ≤ vs.length ∧ vs.length ≤ 4
  rotate_left
  · have EV := Lib.hid (show validR n l vs = false by rw [EV0.out]; simp [h14])
    clear EV0
    by_cases h1 : vs.length < 1
    all_goals
      go_enter Tryz.func162, Tryz.ntmps162
      go_wp2_with (go_at_call 44; rw [HW.out]; refine (HCV.out _ (HL.out.below KW.out)).mono ?_; go_must (rintro e w1 ⟨rfl, hb1⟩; rw [HD.out]; obtain ⟨k0, k1, k2⟩ := RD.out _ hb1))
      go_ret
      exact ⟨ret_bool EV.out.symm, below_at KW.out (by omega) hb1⟩
  obtain ⟨h1, h4⟩ := h14
  have HA := Lib.hid (fun (W : World) (hw : SlOf W W.heap.size 4 encI lv l) => rAll_l n l hdn HSM.out W lv hw)
  have EVY := Lib.hid (show okTo n vs.length vs vs.length → validR n l vs = decide ((ptsL n l).length ≤ 1000) from fun h => by
    by_cases h1000 : (ptsL n l).length ≤ 1000
    · rw [validR_yes (l := l) h HD.out h1000 ⟨h1, h4⟩, decide_eq_true h1000]
    · rw [EV0.out, decide_eq_false h1000]; simp)
  clear EV0
  have hpl := ptsL_len n l
  obtain ⟨hva, -⟩ := HX.out 0 (by omega)
  subst hva
  have hd1 : decide ((vs.length : Int) < 1) = false := decide_eq_false (by omega)
  have hd4 : decide ((4 : Int) < (vs.length : Int)) = false := decide_eq_false (by omega)
  go_enter Tryz.func162, Tryz.ntmps162
  go_wp2_with (go_at_call 44; rw [HW.out]; refine (HCV.out _ (HL.out.below KW.out)).mono ?_; go_must (rintro e w1 ⟨rfl, hb1⟩; rw [HD.out]; obtain ⟨k0, k1, k2⟩ := RD.out _ hb1))
  clear k0 k1 k2
  go_loopw [26] (fun t26 wr => ∃ k : Nat, k ≤ vs.length ∧ t26 = .int .i64 (k : Nat) ∧ Hid (okTo n vs.length vs k) ∧ Below W0.heap.size W0 wr) (fun t26 _ => vs.length - (intOf t26).toNat)
  case atStart => exact ⟨0, Nat.zero_le _, rfl, Lib.hid (okTo_0 _ _ _), hb1⟩
  case round =>
    obtain ⟨k, hk, rfl, HO, hb⟩ := hrel
    obtain ⟨k0, k1, k2⟩ := RD.out wr hb
    have hs := hb.size
    have KR := below_at KW.out (by omega) hb
    by_cases hlt : k < vs.length
    rotate_left
    · have HK := Lib.hid (show k = vs.length by omega)
      have HEV := Lib.hid (EVY.out (by have := HO.out; rw [HK.out] at this; exact this))
      generalize ptsL n l = L at *
      go_wp2_with (go_at_call 38; refine (HA.out _ (SlOf.below HL.out KR)).mono ?_; go_must (rintro e w2 ⟨⟨v', rfl, hsl⟩, hb2⟩; obtain ⟨a', c', rfl, -⟩ := hsl.shape; clear hsl))
      go_ret
      exact ⟨ret_bool (by rw [HEV.out]; simp <;> omega), below_at KR (by omega) hb2⟩
    obtain ⟨-, hi, hg, hc⟩ := HX.out k hlt
    have rd := fun j hj => (KR.cell (p := ⟨vg, voff + 7 * k + j, none⟩) hg).trans (hc j hj)
    clear hc
    have HVR := Lib.hid (HE.out vs[k] (List.getElem_mem hlt))
    have HVV := Lib.hid (show ∀ V, Below w.heap.size w V → Calls Tryz.prog 224 #[.agg #[.string vs[k].name, .int .i64 vs[k].op, vs[k].argsV, .int .i64 vs[k].i0, .int .i64 vs[k].i1, .int .i64 vs[k].i2, .int .i64 vs[k].i3], .int .i64 (vs.length : Nat), .int .i64 n] V fun e w' => e = .returned (.bool (varB n vs.length vs[k])) ∧ Below V.heap.size V w' from
      fun V hV => isVar_l n vs.length hdn vs[k] V ⟨HVR.out.1.below hV, HVR.out.2⟩)
    have HN1 := Lib.hid (fun (h : varB n vs.length vs[k] = false) => validR_no1 (l := l) hlt h)
    have HN2 := Lib.hid (fun (h : vs[k].name ∈ names (vs.take k)) => validR_no2 (n := n) (l := l) hlt h)
    have HS := Lib.hid (fun (h1 : varB n vs.length vs[k] = true) (h2 : vs[k].name ∉ names (vs.take k)) => okTo_succ HO.out hlt h1 h2)
    have HSH := HVR.out.1.shape
    clear HVR HO
    generalize hxk : vs[k] = x at *
    clear hxk
    obtain ⟨s, op, av, args, i0, i1, i2, i3⟩ := x
    simp only at HVV HSH HN2 HS
    obtain ⟨aa, ac, rfl, -⟩ := HSH
    have r0 : wr.cell? ⟨vg, voff + 7 * k, none⟩ = some (.string s) := rd 0 (by omega)
    have r1 : wr.cell? ⟨vg, voff + 7 * k + 1, none⟩ = some (.int .i64 op) := rd 1 (by omega)
    have r2 : wr.cell? ⟨vg, voff + 7 * k + 2, none⟩ = some (.slice aa args.length ac) := rd 2 (by omega)
    have r3 : wr.cell? ⟨vg, voff + 7 * k + 3, none⟩ = some (.int .i64 i0) := rd 3 (by omega)
    have r4 : wr.cell? ⟨vg, voff + 7 * k + 4, none⟩ = some (.int .i64 i1) := rd 4 (by omega)
    have r5 : wr.cell? ⟨vg, voff + 7 * k + 5, none⟩ = some (.int .i64 i2) := rd 5 (by omega)
    have r6 : wr.cell? ⟨vg, voff + 7 * k + 6, none⟩ = some (.int .i64 i3) := rd 6 (by omega)
    clear rd
    have zq := z1 (show w.heap.size + 1 ≤ wr.heap.size by omega)
    generalize hvb : varB n vs.length ⟨s, op, .slice aa args.length ac, args, i0, i1, i2, i3⟩ = vb at *
    have HVB := Lib.hid hvb; clear hvb
    cases vb
    · have HR := Lib.hid (HN1.out (by simp))
      go_wp2_with (first | (go_at_call 224; refine (HVV.out _ (by repeat (first | exact Below.refl _ _ | assumption | (refine Below.drew ?_) | (refine below_drewN ?_ _) | (refine Below.alloc ?_ (by first | (simp; done) | (simp; omega) | omega) _) | (refine Below.setCell ?_ (by first | (simp; done) | (simp; omega) | omega) _) | (refine Below.trans ?_ (Below.mono (by assumption) (by first | (simp; done) | (simp; omega) | omega)))))).mono ?_; go_must (rintro e w2 ⟨rfl, hb2⟩)))
      go_ret
      exact ⟨ret_bool HR.out.symm, below_at KR (by omega) (by repeat (first | exact Below.refl _ _ | assumption | (refine Below.drew ?_) | (refine below_drewN ?_ _) | (refine Below.alloc ?_ (by first | (simp; done) | (simp; omega) | omega) _) | (refine Below.setCell ?_ (by first | (simp; done) | (simp; omega) | omega) _) | (refine Below.trans ?_ (Below.mono (by assumption) (by first | (simp; done) | (simp; omega) | omega)))))⟩
    go_wp2_with (first | (go_at_call 224; refine (HVV.out _ (by repeat (first | exact Below.refl _ _ | assumption | (refine Below.drew ?_) | (refine below_drewN ?_ _) | (refine Below.alloc ?_ (by first | (simp; done) | (simp; omega) | omega) _) | (refine Below.setCell ?_ (by first | (simp; done) | (simp; omega) | omega) _) | (refine Below.trans ?_ (Below.mono (by assumption) (by first | (simp; done) | (simp; omega) | omega)))))).mono ?_; go_must (rintro e w2 ⟨rfl, hb2⟩; obtain ⟨hc2, hf2⟩ := bcell hb2; have hz2 := hb2.size; (try simp at hz2); (first | have z := z10 hz2 | have z := z9 hz2 | have z := z8 hz2 | have z := z7 hz2 | have z := z6 hz2 | have z := z5 hz2 | have z := z4 hz2 | have z := z3 hz2 | have z := z2 hz2 | have z := z1 hz2 | skip))))
    have KR2 := Lib.hid (show Below wr.heap.size wr w2 from ((Below.refl wr.heap.size wr).alloc (Nat.le_refl _) _).trans (hb2.mono (by simp)))
    have q0 : w2.cell? ⟨wr.heap.size, 0, none⟩ = some (.string s) := (hb2.cell (p := ⟨wr.heap.size, 0, none⟩) (by simp)).trans (by go_simp)
    have hsw' : wr.heap.size + 1 ≤ w2.heap.size := by have := hb2.size; simp at this; omega
    obtain ⟨w3, rfl⟩ : ∃ x : World, x = wr := ⟨_, rfl⟩
    have HB3 := Lib.hid hb; have HKR := Lib.hid KR
    clear hb KR hb2 hc2 hf2 r0 r1 r2 r3 r4 r5 r6 hi k0 k1 k2
    go_loopw [45] (fun t45 wr => ∃ j : Nat, j ≤ k ∧ t45 = .int .i64 (j : Nat) ∧ Hid (∀ i (h : i < vs.length), i < j → vs[i].name ≠ s) ∧ Below w2.heap.size w2 wr) (fun t45 _ => k - (intOf t45).toNat)
    case atStart => exact ⟨0, Nat.zero_le _, rfl, Lib.hid (fun i _ h => absurd h (by omega)), Below.refl _ _⟩
    case round =>
      obtain ⟨j, hj, rfl, HD, hb⟩ := hrel
      have hs4 := hb.size
      have KA4 := below_at KR2.out (by omega) hb
      have q4 := (hb.cell (p := ⟨w3.heap.size, 0, none⟩) (by simp; omega)).trans q0
      by_cases hjk : j < k
      rotate_left
      · have HJ := Lib.hid (show j = k by omega)
        have HNX := Lib.hid (show s ∉ names (vs.take k) from fun hm => by
          unfold names at hm
          obtain ⟨y, hy, he⟩ := List.mem_map.1 hm
          obtain ⟨i, hi, rfl⟩ := List.getElem_of_mem hy
          rw [List.length_take] at hi
          rw [List.getElem_take] at he
          exact HD.out i (by omega) (by rw [HJ.out]; omega) he)
        go_wp2
        go_roundw
        case rel => exact ⟨k + 1, hlt, by simp, Lib.hid (HS.out (by simp) HNX.out), below_at HB3.out hs KA4⟩
        case measure => simp only [intOf]; omega
      have hjl : j < vs.length := by omega
      obtain ⟨-, -, hg4, hc4⟩ := HX.out j hjl
      have rd := fun i hi => ((below_at HKR.out (by omega) KA4).cell (p := ⟨vg, voff + 7 * j + i, none⟩) hg4).trans (hc4 i hi)
      have hi := fun W => idx_of (P := Tryz.prog) (t := 25) un_vars sz_vars vg voff k vcap j hjk W
      have HMM := Lib.hid (show vs[j].name = s → s ∈ names (vs.take k) from fun h => by
        rw [← h]
        unfold names
        exact List.mem_map.2 ⟨vs[j], List.mem_take_iff_getElem.2 ⟨j, by omega, rfl⟩, rfl⟩)
      have HDS := Lib.hid (show vs[j].name ≠ s → ∀ i (h : i < vs.length), i < j + 1 → vs[i].name ≠ s from fun h i hi hij => by
        by_cases he : i = j
        · subst he; exact h
        · exact HD.out i hi (by omega))
      have HSJ := (HE.out vs[j] (List.getElem_mem hjl)).1.shape
      clear hc4
      generalize vs[j] = y at *
      obtain ⟨t, yop, yav, yargs, y0, y1, y2, y3⟩ := y
      simp only at HMM HDS HSJ
      obtain ⟨ya, yc, rfl, -⟩ := HSJ
      have r0 : wr.cell? ⟨vg, voff + 7 * j, none⟩ = some (.string t) := rd 0 (by omega)
      have r1 : wr.cell? ⟨vg, voff + 7 * j + 1, none⟩ = some (.int .i64 yop) := rd 1 (by omega)
      have r2 : wr.cell? ⟨vg, voff + 7 * j + 2, none⟩ = some (.slice ya yargs.length yc) := rd 2 (by omega)
      have r3 : wr.cell? ⟨vg, voff + 7 * j + 3, none⟩ = some (.int .i64 y0) := rd 3 (by omega)
      have r4 : wr.cell? ⟨vg, voff + 7 * j + 4, none⟩ = some (.int .i64 y1) := rd 4 (by omega)
      have r5 : wr.cell? ⟨vg, voff + 7 * j + 5, none⟩ = some (.int .i64 y2) := rd 5 (by omega)
      have r6 : wr.cell? ⟨vg, voff + 7 * j + 6, none⟩ = some (.int .i64 y3) := rd 6 (by omega)
      clear rd
      have zq2 := z1 (show w3.heap.size + 1 ≤ wr.heap.size by omega)
      have HT1 := Lib.hid (toList_same t s)
      go_wp2
      · have ht : (t.toList == s.toList) = true := by assumption
        go_ret
        exact ⟨ret_bool (HN2.out (HMM.out (HT1.out.1 ht))).symm, below_at HKR.out (by omega) (below_at KA4 (by omega) (by repeat (first | exact Below.refl _ _ | assumption | (refine Below.drew ?_) | (refine below_drewN ?_ _) | (refine Below.alloc ?_ (by first | (simp; done) | (simp; omega) | omega) _) | (refine Below.setCell ?_ (by first | (simp; done) | (simp; omega) | omega) _) | (refine Below.trans ?_ (Below.mono (by assumption) (by first | (simp; done) | (simp; omega) | omega))))))⟩
      · have ht : (t.toList == s.toList) = false := by assumption
        go_roundw
        case rel => exact ⟨j + 1, by omega, by simp, Lib.hid (HDS.out (fun e => by rw [HT1.out.2 e] at ht; cases ht)), below_at hb (by omega) (by repeat (first | exact Below.refl _ _ | assumption | (refine Below.drew ?_) | (refine below_drewN ?_ _) | (refine Below.alloc ?_ (by first | (simp; done) | (simp; omega) | omega) _) | (refine Below.setCell ?_ (by first | (simp; done) | (simp; omega) | omega) _) | (refine Below.trans ?_ (Below.mono (by assumption) (by first | (simp; done) | (simp; omega) | omega)))))⟩
        case measure => simp only [intOf]; omega
set_option maxHeartbeats 4000000 in
set_option maxRecDepth 100000 in
theorem rsValid_l (r : RecD) (s : SchedD) (w : World) (hr : RecRd w r) (hs : SchedRd w s) :
    Calls Tryz.prog 118 #[.agg #[.int .i64 r.n, r.lv, r.vv], .agg #[.int .i64 s.f.1, .int .i64 s.f.2.1, .int .i64 s.f.2.2, s.ov]] w fun e w' => e = .returned (.bool (schedB r s)) ∧ Below w.heap.size w w' := by
  have HR := Lib.hid hr
  have HS := Lib.hid hs
  have HVS := Lib.hid hr.vars.shape
  clear hr hs
  have HV := Lib.hid (fun (W : World) (h : RecRd W r) => IsRec_l r W h)
  obtain ⟨W0, hW0⟩ : ∃ W : World, (w.alloc (Obj.cells #[.int .i64 r.n, r.lv, r.vv] 27)).alloc (Obj.cells #[.int .i64 s.f.1, .int .i64 s.f.2.1, .int .i64 s.f.2.2, s.ov] 47) = W := ⟨_, rfl⟩
  have kw : Below w.heap.size w W0 := by rw [← hW0]; exact (by repeat (first | exact Below.refl _ _ | assumption | (refine Below.drew ?_) | (refine below_drewN ?_ _) | (refine Below.alloc ?_ (by first | (simp; done) | (simp; omega) | omega) _) | (refine Below.setCell ?_ (by first | (simp; done) | (simp; omega) | omega) _) | (refine Below.trans ?_ (Below.mono (by assumption) (by first | (simp; done) | (simp; omega) | omega)))))
  have ks : W0.heap.size = w.heap.size + 2 := by rw [← hW0]; simp
  have RD := Lib.hid (show ∀ V, Below W0.heap.size W0 V → V.cell? ⟨w.heap.size, 0, none⟩ = some (.int .i64 r.n) ∧ V.cell? ⟨w.heap.size, 1, none⟩ = some r.lv ∧ V.cell? ⟨w.heap.size, 2, none⟩ = some r.vv ∧ V.cell? ⟨w.heap.size + 1, 0, none⟩ = some (.int .i64 s.f.1) ∧ V.cell? ⟨w.heap.size + 1, 1, none⟩ = some (.int .i64 s.f.2.1) ∧ V.cell? ⟨w.heap.size + 1, 2, none⟩ = some (.int .i64 s.f.2.2) ∧ V.cell? ⟨w.heap.size + 1, 3, none⟩ = some s.ov from
    fun V h => by
      refine ⟨(h.cell (p := ⟨w.heap.size, 0, none⟩) (by simp; omega)).trans ?_, (h.cell (p := ⟨w.heap.size, 1, none⟩) (by simp; omega)).trans ?_, (h.cell (p := ⟨w.heap.size, 2, none⟩) (by simp; omega)).trans ?_, (h.cell (p := ⟨w.heap.size + 1, 0, none⟩) (by simp; omega)).trans ?_, (h.cell (p := ⟨w.heap.size + 1, 1, none⟩) (by simp; omega)).trans ?_, (h.cell (p := ⟨w.heap.size + 1, 2, none⟩) (by simp; omega)).trans ?_, (h.cell (p := ⟨w.heap.size + 1, 3, none⟩) (by simp; omega)).trans ?_⟩ <;> (subst hW0; go_simp))
  have HW := Lib.hid hW0; have KW := Lib.hid kw; clear hW0 kw
  have EV := Lib.hid (show schedB r s = (validR r.n r.l r.vars && fitsB r.n r.vars.length s) from rfl)
  generalize schedB r s = R at *
  cases hv : validR r.n r.l r.vars
  · have HVV := Lib.hid hv
    have HRR := Lib.hid (show R = false by rw [EV.out, hv]; rfl)
    clear hv EV
    go_enter Tryz.func118, Tryz.ntmps118
    go_wp2_with (go_at_call 162; rw [HW.out]; refine (HV.out _ (HR.out.below KW.out)).mono ?_; go_must (rintro e w1 ⟨rfl, hb1⟩; rw [HVV.out]))
    go_ret
    exact ⟨ret_bool HRR.out.symm, below_at KW.out (by omega) hb1⟩
  have HVV := Lib.hid hv
  have HLO := Lib.hid (validR_lo hv)
  have EV2 := Lib.hid (EV.out.trans (by rw [hv, Bool.true_and]))
  clear hv EV
  have HF := Lib.hid (fun (W : World) (h : SchedRd W s) => isSched_l r.n r.lv r.vv r.vars.length s HLO.out.1.1 (by obtain ⟨a, c, h, _⟩ := HVS.out; exact ⟨a, c, h⟩) W h)
  go_enter Tryz.func118, Tryz.ntmps118
  go_wp2_with (first | (go_at_call 162; rw [HW.out]; refine (HV.out _ (HR.out.below KW.out)).mono ?_; go_must (rintro e w1 ⟨rfl, hb1⟩; rw [HVV.out]; obtain ⟨k0, k1, k2, k3, k4, k5, k6⟩ := RD.out _ hb1; have KA := Lib.hid (below_at KW.out (by omega) hb1))) | (go_at_call 163; refine (HF.out _ (SlOf.below HS.out KA.out)).mono ?_; go_must (rintro e w2 ⟨rfl, hb2⟩)))
  go_ret
  exact ⟨ret_bool (by rw [EV2.out]), below_at KA.out (by have := hb1.size; omega) hb2⟩
end Go.Proofs.YtnejicklenhpeaaGreat
