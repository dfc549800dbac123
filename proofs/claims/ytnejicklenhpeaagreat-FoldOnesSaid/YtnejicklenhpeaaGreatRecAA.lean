/- The reference for recurrences: Needs and validVar: their walks. The reference for recurrences: Valid; and the law's Wide: their walks. The law's Wide: its walk. Conditions: none. -/
import Derived.Test.YtnejicklenhpeaaGreatRecZ
namespace Go.Proofs.YtnejicklenhpeaaGreat
open Go.RowKit
set_option maxHeartbeats 4000000 in
theorem Needs_l (op : Int) (w : World) : Calls Tryz.prog 223 #[.int .i64 op] w fun e w' => e = .returned (.int .i64 (needsI op)) ∧ w' = w := by
  have EN := Lib.hid (show needsI op = (if op = 1 then 1 else if op = 5 then 3 else if 1 ≤ op ∧ op ≤ 7 then 2 else 0) from rfl)
  by_cases h1 : op = 1
  · subst h1
    go_enter Tryz.func223, Tryz.ntmps223
    go_wp2
    go_ret
    exact ⟨rfl, rfl⟩
  by_cases h2 : op = 2
  · subst h2
    go_enter Tryz.func223, Tryz.ntmps223
    go_wp2
    go_ret
    exact ⟨rfl, rfl⟩
  by_cases h3 : op = 3
  · subst h3
    go_enter Tryz.func223, Tryz.ntmps223
    go_wp2
    go_ret
    exact ⟨rfl, rfl⟩
  by_cases h4 : op = 4
  · subst h4
    go_enter Tryz.func223, Tryz.ntmps223
    go_wp2
    go_ret
    exact ⟨rfl, rfl⟩
  by_cases h5 : op = 5
  · subst h5
    go_enter Tryz.func223, Tryz.ntmps223
    go_wp2
    go_ret
    exact ⟨rfl, rfl⟩
  by_cases h6 : op = 6
  · subst h6
    go_enter Tryz.func223, Tryz.ntmps223
    go_wp2
    go_ret
    exact ⟨rfl, rfl⟩
  by_cases h7 : op = 7
  · subst h7
    go_enter Tryz.func223, Tryz.ntmps223
    go_wp2
    go_ret
    exact ⟨rfl, rfl⟩
  have b1 : (op == 1) = false := by simpa using h1
  have b2 : (op == 2) = false := by simpa using h2
  have b3 : (op == 3) = false := by simpa using h3
  have b4 : (op == 4) = false := by simpa using h4
  have b5 : (op == 5) = false := by simpa using h5
  have b6 : (op == 6) = false := by simpa using h6
  have b7 : (op == 7) = false := by simpa using h7
  go_enter Tryz.func223, Tryz.ntmps223
  go_wp2
  go_ret
  exact ⟨ret_int (by rw [EN.out, if_neg h1, if_neg h5, if_neg (by omega)]), rfl⟩
/-- What a first value pays, and a shift. -/
def okI (n j x : Int) : Prop := 0 ≤ x ∧ x < 10007 ∧ (j ≤ n ∨ x = 0)
def okA (n j x : Int) : Prop := -3 ≤ x ∧ x ≤ 3 ∧ (j < n ∨ x = 0)
theorem initB_iff (n : Int) (hn : 1 ≤ n) (v : VarD) : initB n v = true ↔ okI n 0 v.i0 ∧ okI n 1 v.i1 ∧ okI n 2 v.i2 ∧ okI n 3 v.i3 := by
  simp only [initB, btw, Bool.and_eq_true, Bool.or_eq_true, decide_eq_true_eq, okI]
  omega
theorem argB_iff (n nv : Int) (hn : 1 ≤ n) (a : ArgD) : argB n nv a = true ↔ okA n 0 a.at_.1 ∧ okA n 1 a.at_.2.1 ∧ okA n 2 a.at_.2.2 ∧ 0 ≤ a.var ∧ a.var < nv := by
  simp only [argB, flatB, btw, Bool.and_eq_true, Bool.or_eq_true, decide_eq_true_eq, okA]
  omega
/-- What the reference's validVar says: all but the name. -/
def varB2 (n nv : Int) (v : VarD) : Bool := btw 1 v.op 7 && (decide ((v.args.length : Int) = needsI v.op) && (initB n v && v.args.all (argB n nv)))
theorem varB_of (n nv : Int) (v : VarD) : varB n nv v = (nameB v.name && varB2 n nv v) := by
  simp only [varB, varB2]
  cases btw 1 v.op 7 <;> cases nameB v.name <;> simp
theorem needs_pos (op : Int) : (needsI op = 0 ↔ btw 1 op 7 = false) ∧ 0 ≤ needsI op := by
  unfold needsI btw
  simp only [decide_eq_false_iff_not]
  split
  · omega
  · split
    · omega
    · split <;> omega
theorem sz_va2 (W : World) : (sizeOf (Tryz.prog.elem 82)).run Tryz.prog W = .ok 4 W := by kernel_rfl
set_option maxHeartbeats 4000000 in
set_option maxRecDepth 100000 in
theorem validVar2_l (n : Int) (lv vv : Value) (nv : Nat) (hn : 1 ≤ n ∧ n ≤ 3) (hvv : ∃ a c, vv = .slice a nv c) (v : VarD) (w : World) (hv : VarRd w v) :
    Calls Tryz.prog 161 #[.agg #[.int .i64 n, lv, vv], .agg #[.string v.name, .int .i64 v.op, v.argsV, .int .i64 v.i0, .int .i64 v.i1, .int .i64 v.i2, .int .i64 v.i3]] w fun e w' => e = .returned (.bool (varB2 n nv v)) ∧ Below w.heap.size w w' := by
  obtain ⟨va, vc, rfl⟩ := hvv
  obtain ⟨hsl, hnm⟩ := hv
  unfold maxLen at hnm
  obtain ⟨s, op, av, args, i0, i1, i2, i3⟩ := v
  simp only at hsl hnm ⊢
  obtain ⟨aa, cap, g, off, rfl, hlc, hcm, hx⟩ := SlOf.at (enc := encA) (fun _ => rfl) un_va sz_va2 hsl
  have HX := Lib.hid hx; clear hx hsl
  unfold maxLen at hcm
  have EV := Lib.hid (show varB2 n nv ⟨s, op, .slice aa args.length cap, args, i0, i1, i2, i3⟩ = (btw 1 op 7 && (decide ((args.length : Int) = needsI op) && (initB n ⟨s, op, .slice aa args.length cap, args, i0, i1, i2, i3⟩ && args.all (argB n nv)))) from rfl)
  have HNP := Lib.hid (needs_pos op)
  have HNE := Lib.hid (fun (W : World) => Needs_l op W)
  have hnd := (needs_pos op).2
  generalize hN : needsI op = nd at *
  have HN := Lib.hid hN; clear hN
  obtain ⟨hn1, hn3⟩ := hn
  by_cases h0 : nd = 0
  · have HB := Lib.hid (show varB2 n nv ⟨s, op, .slice aa args.length cap, args, i0, i1, i2, i3⟩ = false by rw [EV.out, (HNP.out.1).1 h0]; rfl)
    clear EV
    subst h0
    go_enter Tryz.func161, Tryz.ntmps161
    go_wp2
    go_quiet ((go_at_call 223; exact Calls.quiet_of_same (HNE.out _)))
    go_wp2
    go_ret
    exact ⟨ret_bool HB.out.symm, by repeat (first | exact Below.refl _ _ | assumption | (refine Below.drew ?_) | (refine below_drewN ?_ _) | (refine Below.alloc ?_ (by first | (simp; done) | (simp; omega) | omega) _) | (refine Below.setCell ?_ (by first | (simp; done) | (simp; omega) | omega) _) | (refine Below.trans ?_ (Below.mono (by assumption) (by first | (simp; done) | (simp; omega) | omega))))⟩
  have h0b : (nd == 0) = false := by simpa using h0
  by_cases hle : (args.length : Int) = nd
  rotate_left
  · have HB := Lib.hid (show varB2 n nv ⟨s, op, .slice aa args.length cap, args, i0, i1, i2, i3⟩ = false by rw [EV.out]; simp [hle])
    clear EV
    have h1 : ((args.length : Int) != nd) = true := by simpa using hle
    have h2 : ((args.length : Int) == nd) = false := by simpa using hle
    go_enter Tryz.func161, Tryz.ntmps161
    go_wp2
    go_quiet ((go_at_call 223; exact Calls.quiet_of_same (HNE.out _)))
    go_wp2
    go_ret
    exact ⟨ret_bool HB.out.symm, by repeat (first | exact Below.refl _ _ | assumption | (refine Below.drew ?_) | (refine below_drewN ?_ _) | (refine Below.alloc ?_ (by first | (simp; done) | (simp; omega) | omega) _) | (refine Below.setCell ?_ (by first | (simp; done) | (simp; omega) | omega) _) | (refine Below.trans ?_ (Below.mono (by assumption) (by first | (simp; done) | (simp; omega) | omega))))⟩
  clear h0b
  have hbt : btw 1 op 7 = true := by
    cases hb : btw 1 op 7
    · exact absurd ((HNP.out.1).2 hb) h0
    · rfl
  have EV2 := Lib.hid (show varB2 n nv ⟨s, op, .slice aa args.length cap, args, i0, i1, i2, i3⟩ = (initB n ⟨s, op, .slice aa args.length cap, args, i0, i1, i2, i3⟩ && args.all (argB n nv)) by rw [EV.out, hbt, hle]; simp)
  have h0c : ((args.length : Int) == 0) = false := by rw [hle]; simpa using h0
  have HNE2 := Lib.hid (fun (W : World) => by have := HNE.out W; rwa [← hle] at this)
  clear EV hbt HNP HN HNE hle h0
  obtain ⟨W0, hW0⟩ : ∃ W : World, (w.alloc (Obj.cells #[.int .i64 n, lv, .slice va nv vc] 27)).alloc (Obj.cells #[.string s, .int .i64 op, .slice aa args.length cap, .int .i64 i0, .int .i64 i1, .int .i64 i2, .int .i64 i3] 85) = W := ⟨_, rfl⟩
  have KW := Lib.hid (show Below w.heap.size w W0 by rw [← hW0]; exact (by repeat (first | exact Below.refl _ _ | assumption | (refine Below.drew ?_) | (refine below_drewN ?_ _) | (refine Below.alloc ?_ (by first | (simp; done) | (simp; omega) | omega) _) | (refine Below.setCell ?_ (by first | (simp; done) | (simp; omega) | omega) _) | (refine Below.trans ?_ (Below.mono (by assumption) (by first | (simp; done) | (simp; omega) | omega))))))
  have ks : W0.heap.size = w.heap.size + 2 := by rw [← hW0]; simp
  have y0 : W0.cell? ⟨w.heap.size, 0, none⟩ = some (.int .i64 n) := by subst hW0; go_simp
  have y2 : W0.cell? ⟨w.heap.size, 2, none⟩ = some (.slice va nv vc) := by subst hW0; go_simp
  have y3 : W0.cell? ⟨w.heap.size + 1, 2, none⟩ = some (.slice aa args.length cap) := by subst hW0; go_simp
  have y4 : W0.cell? ⟨w.heap.size + 1, 3, none⟩ = some (.int .i64 i0) := by subst hW0; go_simp
  have y5 : W0.cell? ⟨w.heap.size + 1, 4, none⟩ = some (.int .i64 i1) := by subst hW0; go_simp
  have y6 : W0.cell? ⟨w.heap.size + 1, 5, none⟩ = some (.int .i64 i2) := by subst hW0; go_simp
  have y7 : W0.cell? ⟨w.heap.size + 1, 6, none⟩ = some (.int .i64 i3) := by subst hW0; go_simp
  have RD := Lib.hid (show ∀ V, Below W0.heap.size W0 V → V.cell? ⟨w.heap.size, 0, none⟩ = some (.int .i64 n) ∧ V.cell? ⟨w.heap.size, 2, none⟩ = some (.slice va nv vc) ∧ V.cell? ⟨w.heap.size + 1, 2, none⟩ = some (.slice aa args.length cap) from fun V h => ⟨(h.cell (p := ⟨w.heap.size, 0, none⟩) (by simp; omega)).trans y0, (h.cell (p := ⟨w.heap.size, 2, none⟩) (by simp; omega)).trans y2, (h.cell (p := ⟨w.heap.size + 1, 2, none⟩) (by simp; omega)).trans y3⟩)
  have RI := Lib.hid (show ∀ V, Below W0.heap.size W0 V → V.cell? ⟨w.heap.size + 1, 3, none⟩ = some (.int .i64 i0) ∧ V.cell? ⟨w.heap.size + 1, 4, none⟩ = some (.int .i64 i1) ∧ V.cell? ⟨w.heap.size + 1, 5, none⟩ = some (.int .i64 i2) ∧ V.cell? ⟨w.heap.size + 1, 6, none⟩ = some (.int .i64 i3) from fun V h => ⟨(h.cell (p := ⟨w.heap.size + 1, 3, none⟩) (by simp; omega)).trans y4, (h.cell (p := ⟨w.heap.size + 1, 4, none⟩) (by simp; omega)).trans y5, (h.cell (p := ⟨w.heap.size + 1, 5, none⟩) (by simp; omega)).trans y6, (h.cell (p := ⟨w.heap.size + 1, 6, none⟩) (by simp; omega)).trans y7⟩)
  have HW := Lib.hid hW0
  clear hW0 y0 y2 y3 y4 y5 y6 y7
  have HIF := Lib.hid (initB_iff n hn1 ⟨s, op, .slice aa args.length cap, args, i0, i1, i2, i3⟩)
  have HF := Lib.hid (show ¬ (okI n 0 i0 ∧ okI n 1 i1 ∧ okI n 2 i2 ∧ okI n 3 i3) → varB2 n nv ⟨s, op, .slice aa args.length cap, args, i0, i1, i2, i3⟩ = false from fun h => by
    have : initB n ⟨s, op, .slice aa args.length cap, args, i0, i1, i2, i3⟩ = false := by
      rw [← Bool.not_eq_true]; intro h2; exact h (HIF.out.1 h2)
    rw [EV2.out, this]; rfl)
  have HY := Lib.hid (show (okI n 0 i0 ∧ okI n 1 i1 ∧ okI n 2 i2 ∧ okI n 3 i3) → varB2 n nv ⟨s, op, .slice aa args.length cap, args, i0, i1, i2, i3⟩ = args.all (argB n nv) from fun h => by
    rw [EV2.out, HIF.out.2 h]; rfl)
  clear EV2 HIF
  generalize varB2 n nv ⟨s, op, .slice aa args.length cap, args, i0, i1, i2, i3⟩ = R at *
  go_enter Tryz.func161, Tryz.ntmps161
  go_wp2
  go_quiet ((go_at_call 223; exact Calls.quiet_of_same (HNE2.out _)))
  clear HNE2
  go_wp2
  rw [HW.out]
  go_loopw [5] (fun t5 wr => ∃ i : Nat, i ≤ 4 ∧ t5 = .int .i64 (i : Nat) ∧ ((0 < i → okI n 0 i0) ∧ (1 < i → okI n 1 i1) ∧ (2 < i → okI n 2 i2) ∧ (3 < i → okI n 3 i3)) ∧ Below W0.heap.size W0 wr) (fun t5 _ => 4 - (intOf t5).toNat)
  case atStart => exact ⟨0, by omega, rfl, ⟨by omega, by omega, by omega, by omega⟩, below_drewN (Below.refl _ _) _⟩
  case round =>
    obtain ⟨i, hi4, rfl, ⟨o0, o1, o2, o3⟩, hb⟩ := hrel
    obtain ⟨c0, c2, c3⟩ := RD.out wr hb
    obtain ⟨x0, x1, x2, x3⟩ := RI.out wr hb
    have hs := hb.size
    have HB := Lib.hid (below_at KW.out (by omega) hb)
    have O0 := Lib.hid o0; have O1 := Lib.hid o1; have O2 := Lib.hid o2; have O3 := Lib.hid o3
    clear o0 o1 o2 o3
    obtain rfl | rfl | rfl | rfl | rfl : i = 0 ∨ i = 1 ∨ i = 2 ∨ i = 3 ∨ i = 4 := by omega
    · go_wp2
      all_goals first
        | (go_ret; exact ⟨ret_bool (HF.out (by unfold okI; omega)).symm, HB.out⟩)
        | (go_roundw; (case rel => exact ⟨1, by omega, by simp, ⟨fun _ => (by unfold okI; omega), by omega, by omega, by omega⟩, hb⟩); (case measure => simp [intOf]))
    · go_wp2
      all_goals first
        | (go_ret; exact ⟨ret_bool (HF.out (by unfold okI; omega)).symm, HB.out⟩)
        | (go_roundw; (case rel => exact ⟨2, by omega, by simp, ⟨fun _ => O0.out (by omega), fun _ => (by unfold okI; omega), by omega, by omega⟩, hb⟩); (case measure => simp [intOf]))
    · go_wp2
      all_goals (try simp only [bne_iff_ne, ne_eq, bne_eq_false_iff_eq] at *)
      all_goals first
        | (go_ret; exact ⟨ret_bool (HF.out (by unfold okI; omega)).symm, HB.out⟩)
        | (go_roundw; (case rel => exact ⟨3, by omega, by simp, ⟨fun _ => O0.out (by omega), fun _ => O1.out (by omega), fun _ => (by unfold okI; omega), by omega⟩, hb⟩); (case measure => simp [intOf]))
    · go_wp2
      all_goals (try simp only [bne_iff_ne, ne_eq, bne_eq_false_iff_eq] at *)
      all_goals first
        | (go_ret; exact ⟨ret_bool (HF.out (by unfold okI; omega)).symm, HB.out⟩)
        | (go_roundw; (case rel => exact ⟨4, by omega, by simp, ⟨fun _ => O0.out (by omega), fun _ => O1.out (by omega), fun _ => O2.out (by omega), fun _ => (by unfold okI; omega)⟩, hb⟩); (case measure => simp [intOf]))
    have EV3 := Lib.hid (HY.out ⟨O0.out (by omega), O1.out (by omega), O2.out (by omega), O3.out (by omega)⟩)
    clear O0 O1 O2 O3 x0 x1 x2 x3 HF HY RI
    obtain ⟨w2, rfl⟩ : ∃ x : World, x = wr := ⟨_, rfl⟩
    have HB2 := Lib.hid hb; clear hb
    go_wp2
    go_loopw [6] (fun t6 wr => ∃ k : Nat, k ≤ args.length ∧ t6 = .int .i64 (k : Nat) ∧ Hid ((args.take k).all (argB n nv) = true) ∧ Below W0.heap.size W0 wr) (fun t6 _ => args.length - (intOf t6).toNat)
    case atStart => exact ⟨0, Nat.zero_le _, rfl, Lib.hid rfl, HB2.out⟩
    case round =>
      clear c0 c2 c3 hs HB
      obtain ⟨k, hk, rfl, HO, hb⟩ := hrel
      obtain ⟨c0, c2, c3⟩ := RD.out wr hb
      have hs := hb.size
      have zq := z2 (show w.heap.size + 1 + 1 ≤ wr.heap.size by omega)
      have KR := below_at KW.out (by omega) hb
      by_cases hlt : k < args.length
      rotate_left
      · have HK := Lib.hid (show k = args.length by omega)
        go_wp2
        go_ret
        refine ⟨ret_bool ?_, KR⟩
        have := HO.out
        rw [HK.out, List.take_length] at this
        rw [EV3.out, this]
      obtain ⟨-, hi, hg, hc⟩ := HX.out k hlt
      have rd := fun j hj => (KR.cell (p := ⟨g, off + 4 * k + j, none⟩) hg).trans (hc j hj)
      clear hc
      have HAI := Lib.hid (argB_iff n nv hn1 args[k])
      have HN := Lib.hid (show ¬ (okA n 0 args[k].at_.1 ∧ okA n 1 args[k].at_.2.1 ∧ okA n 2 args[k].at_.2.2 ∧ 0 ≤ args[k].var ∧ args[k].var < nv) → R = false from fun h => by
        rw [EV3.out]
        refine List.all_eq_false.2 ⟨_, List.getElem_mem hlt, fun h2 => h (HAI.out.1 h2)⟩)
      have HS := Lib.hid (show (okA n 0 args[k].at_.1 ∧ okA n 1 args[k].at_.2.1 ∧ okA n 2 args[k].at_.2.2 ∧ 0 ≤ args[k].var ∧ args[k].var < nv) → (args.take (k + 1)).all (argB n nv) = true from fun h => by
        rw [List.take_succ_eq_append_getElem hlt, List.all_append, HO.out]
        simpa using HAI.out.2 h)
      have HLT := Lib.hid hlt
      clear HAI
      generalize args[k] = q at *
      obtain ⟨av, a0, a1, a2⟩ := q
      simp only at HN HS
      have r0 : wr.cell? ⟨g, off + 4 * k, none⟩ = some (.int .i64 av) := rd 0 (by omega)
      have r1 : wr.cell? ⟨g, off + 4 * k + 1, none⟩ = some (.int .i64 a0) := rd 1 (by omega)
      have r2 : wr.cell? ⟨g, off + 4 * k + 2, none⟩ = some (.int .i64 a1) := rd 2 (by omega)
      have r3 : wr.cell? ⟨g, off + 4 * k + 3, none⟩ = some (.int .i64 a2) := rd 3 (by omega)
      clear rd
      obtain ⟨W3, hW3⟩ : ∃ W : World, wr.alloc (Obj.cells #[.int .i64 av, .int .i64 a0, .int .i64 a1, .int .i64 a2] 223) = W := ⟨_, rfl⟩
      have HK3 := Lib.hid (show Below W0.heap.size W0 W3 from by rw [← hW3]; exact (by repeat (first | exact Below.refl _ _ | assumption | (refine Below.drew ?_) | (refine below_drewN ?_ _) | (refine Below.alloc ?_ (by first | (simp; done) | (simp; omega) | omega) _) | (refine Below.setCell ?_ (by first | (simp; done) | (simp; omega) | omega) _) | (refine Below.trans ?_ (Below.mono (by assumption) (by first | (simp; done) | (simp; omega) | omega))))))
      have hs3 : W3.heap.size = wr.heap.size + 1 := by rw [← hW3]; simp
      have z0 : W3.cell? ⟨wr.heap.size, 1, none⟩ = some (.int .i64 a0) := by subst hW3; go_simp
      have z1' : W3.cell? ⟨wr.heap.size, 2, none⟩ = some (.int .i64 a1) := by subst hW3; go_simp
      have z2' : W3.cell? ⟨wr.heap.size, 3, none⟩ = some (.int .i64 a2) := by subst hW3; go_simp
      have HW3 := Lib.hid hW3; clear hW3
      by_cases hv0 : 0 ≤ av ∧ av < nv
      rotate_left
      · have HR := Lib.hid (HN.out (by omega))
        by_cases hv1 : av < 0
        all_goals
          go_wp2
          go_ret
          exact ⟨ret_bool HR.out.symm, below_at KR (by omega) (by repeat (first | exact Below.refl _ _ | assumption | (refine Below.drew ?_) | (refine below_drewN ?_ _) | (refine Below.alloc ?_ (by first | (simp; done) | (simp; omega) | omega) _) | (refine Below.setCell ?_ (by first | (simp; done) | (simp; omega) | omega) _) | (refine Below.trans ?_ (Below.mono (by assumption) (by first | (simp; done) | (simp; omega) | omega)))))⟩
      obtain ⟨hv0, hv1⟩ := hv0
      obtain ⟨d0, d2, d3⟩ := RD.out W3 HK3.out
      go_wp2
      rw [HW3.out]
      obtain ⟨w3, rfl⟩ : ∃ x : World, x = wr := ⟨_, rfl⟩
      have HKR := Lib.hid KR; have HB3 := Lib.hid hb
      clear KR hb c0 c2 c3 r0 r1 r2 r3
      go_loop [8] (fun t8 => ∃ j : Nat, j ≤ 3 ∧ t8 = .int .i64 (j : Nat) ∧ ((0 < j → okA n 0 a0) ∧ (1 < j → okA n 1 a1) ∧ (2 < j → okA n 2 a2))) (fun t8 => 3 - (intOf t8).toNat)
      case atStart => exact ⟨0, by omega, rfl, ⟨by omega, by omega, by omega⟩⟩
      case round =>
        obtain ⟨j, hj3, rfl, ⟨o0, o1, o2⟩⟩ := hrel
        have O0 := Lib.hid o0; have O1 := Lib.hid o1; have O2 := Lib.hid o2
        clear o0 o1 o2
        obtain rfl | rfl | rfl | rfl : j = 0 ∨ j = 1 ∨ j = 2 ∨ j = 3 := by omega
        · go_wp2
          all_goals first
            | (go_ret; exact ⟨ret_bool (HN.out (by unfold okA; omega)).symm, KW.out.trans (HK3.out.mono (by omega))⟩)
            | (go_round; (case rel => exact ⟨1, by omega, by simp, ⟨fun _ => (by unfold okA; omega), by omega, by omega⟩⟩); (case measure => simp [intOf]))
        · go_wp2
          all_goals (try simp only [bne_iff_ne, ne_eq, bne_eq_false_iff_eq] at *)
          all_goals first
            | (go_ret; exact ⟨ret_bool (HN.out (by unfold okA; omega)).symm, KW.out.trans (HK3.out.mono (by omega))⟩)
            | (go_round; (case rel => exact ⟨2, by omega, by simp, ⟨fun _ => O0.out (by omega), fun _ => (by unfold okA; omega), by omega⟩⟩); (case measure => simp [intOf]))
        · go_wp2
          all_goals (try simp only [bne_iff_ne, ne_eq, bne_eq_false_iff_eq] at *)
          all_goals first
            | (go_ret; exact ⟨ret_bool (HN.out (by unfold okA; omega)).symm, KW.out.trans (HK3.out.mono (by omega))⟩)
            | (go_round; (case rel => exact ⟨3, by omega, by simp, ⟨fun _ => O0.out (by omega), fun _ => O1.out (by omega), fun _ => (by unfold okA; omega)⟩⟩); (case measure => simp [intOf]))
        · have HS2 := Lib.hid (HS.out ⟨O0.out (by omega), O1.out (by omega), O2.out (by omega), hv0, hv1⟩)
          go_wp2
          go_roundw
          case rel => exact ⟨k + 1, HLT.out, by simp, Lib.hid (by first | exact HS2.out | simpa using HS2.out), by first | exact HK3.out | (rw [← ks]; exact HK3.out)⟩
          case measure => simp only [intOf]; have := HLT.out; omega
end Go.Proofs.YtnejicklenhpeaaGreat
namespace Go.Proofs.YtnejicklenhpeaaGreat
open Go.RowKit
theorem toList_one (t : ByteArray) (c : UInt8) : (t.toList == [c]) = true ↔ t = ⟨#[c]⟩ := by
  rw [beq_iff_eq, ByteArray.toList_eq]
  constructor
  · intro h
    exact WideShapes.bytes_inj (by rw [h])
  · rintro rfl; rfl
theorem Valid2_eq (n : Int) (l : List IneqD) (vs : List VarD) : validR n l vs = (validD n l && (decide ((ptsL n l).length ≤ 1000) && (decide (1 ≤ vs.length ∧ vs.length ≤ 4) && (vs.all (varB n vs.length) && decide (names vs).Nodup)))) := rfl
set_option maxHeartbeats 4000000 in
set_option maxRecDepth 100000 in
theorem Valid2_l (r : RecD) (w : World) (hr : RecRd w r) :
    Calls Tryz.prog 117 #[.agg #[.int .i64 r.n, r.lv, r.vv]] w fun e w' => e = .returned (.bool (validR r.n r.l r.vars)) ∧ Below w.heap.size w w' := by
  obtain ⟨hl, hvs, heach⟩ := hr
  obtain ⟨n, lv, l, vv, vs⟩ := r
  simp only at hl hvs heach ⊢
  have HL := Lib.hid hl; clear hl
  obtain ⟨va, vcap, vg, voff, rfl, hlc, hcm, hx⟩ := SlOf.at (enc := encV) (fun _ => rfl) un_vars sz_vars hvs
  have HX := Lib.hid hx; clear hx hvs
  have HE := Lib.hid heach; clear heach
  unfold maxLen at hcm
  have HCV := Lib.hid (fun (W : World) (hw : SlOf W W.heap.size 4 encI lv l) => rValidD_l n l W lv hw)
  obtain ⟨W0, hW0⟩ : ∃ W : World, w.alloc (Obj.cells #[.int .i64 n, lv, .slice va vs.length vcap] 27) = W := ⟨_, rfl⟩
  have kw : Below w.heap.size w W0 := by rw [← hW0]; exact (by repeat (first | exact Below.refl _ _ | assumption | (refine Below.drew ?_) | (refine below_drewN ?_ _) | (refine Below.alloc ?_ (by first | (simp; done) | (simp; omega) | omega) _) | (refine Below.setCell ?_ (by first | (simp; done) | (simp; omega) | omega) _) | (refine Below.trans ?_ (Below.mono (by assumption) (by first | (simp; done) | (simp; omega) | omega)))))
  have ks : W0.heap.size = w.heap.size + 1 := by rw [← hW0]; simp
  have y0 : W0.cell? ⟨w.heap.size, 0, none⟩ = some (.int .i64 n) := by subst hW0; go_simp
  have y1 : W0.cell? ⟨w.heap.size, 1, none⟩ = some lv := by subst hW0; go_simp
  have y2 : W0.cell? ⟨w.heap.size, 2, none⟩ = some (.slice va vs.length vcap) := by subst hW0; go_simp
  have HW := Lib.hid hW0; have KW := Lib.hid kw; clear hW0 kw
  have EV0 := Lib.hid (Valid2_eq n l vs)
  cases hd : validD n l
  · have EV := Lib.hid (show validR n l vs = false by rw [EV0.out, hd]; rfl)
    have HD := Lib.hid hd; clear hd EV0
    go_enter Tryz.func117, Tryz.ntmps117
    go_wp2_with (go_at_call 44; rw [HW.out]; refine (HCV.out _ (HL.out.below KW.out)).mono ?_; go_must (rintro e w1 ⟨rfl, hb1⟩; rw [HD.out]))
    go_ret
    exact ⟨ret_bool EV.out.symm, below_at KW.out (by omega) hb1⟩
  have HD := Lib.hid hd; clear hd
  have hdn := (validD_out HD.out).1
  have HSM := Lib.hid (validD_out HD.out).2.2
  have hln := ptsL_len n l
  have RD := Lib.hid (show ∀ V, Below W0.heap.size W0 V → V.cell? ⟨w.heap.size, 0, none⟩ = some (.int .i64 n) ∧ V.cell? ⟨w.heap.size, 1, none⟩ = some lv ∧ V.cell? ⟨w.heap.size, 2, none⟩ = some (.slice va vs.length vcap) from fun V h => ⟨(h.cell (p := ⟨w.heap.size, 0, none⟩) (by simp; omega)).trans y0, (h.cell (p := ⟨w.heap.size, 1, none⟩) (by simp; omega)).trans y1, (h.cell (p := ⟨w.heap.size, 2, none⟩) (by simp; omega)).trans y2⟩)
  clear y0 y1 y2
  by_cases h14 : 1 ≤ vs.length ∧ vs.length ≤ 4
  rotate_left
  · have EV := Lib.hid (show validR n l vs = false by rw [EV0.out]; simp [h14])
    clear EV0
    by_cases h1 : vs.length < 1
    all_goals
      go_enter Tryz.func117, Tryz.ntmps117
      go_wp2_with (go_at_call 44; rw [HW.out]; refine (HCV.out _ (HL.out.below KW.out)).mono ?_; go_must (rintro e w1 ⟨rfl, hb1⟩; rw [HD.out]; obtain ⟨k0, k1, k2⟩ := RD.out _ hb1))
      go_ret
      exact ⟨ret_bool EV.out.symm, below_at KW.out (by omega) hb1⟩
  obtain ⟨h1, h4⟩ := h14
  have HA := Lib.hid (fun (W : World) (hw : SlOf W W.heap.size 4 encI lv l) => rAll_l n l hdn HSM.out W lv hw)
  by_cases h1000 : (ptsL n l).length ≤ 1000
  rotate_left
  · have EV := Lib.hid (show validR n l vs = false by rw [EV0.out]; simp [h1000])
    clear EV0
    generalize hN : ptsL n l = L at *
    have HN := Lib.hid hN; clear hN
    go_enter Tryz.func117, Tryz.ntmps117
    go_wp2_with (first | (go_at_call 44; rw [HW.out]; refine (HCV.out _ (HL.out.below KW.out)).mono ?_; go_must (rintro e w1 ⟨rfl, hb1⟩; rw [HD.out]; obtain ⟨k0, k1, k2⟩ := RD.out _ hb1; have KA := Lib.hid (below_at KW.out (by omega) hb1))) | (go_at_call 38; refine (HA.out _ (SlOf.below HL.out KA.out)).mono ?_; go_must (rintro e w2 ⟨⟨v', rfl, hsl⟩, hb2⟩; obtain ⟨a', c', rfl, -⟩ := hsl.shape; clear hsl)))
    go_ret
    exact ⟨ret_bool EV.out.symm, below_at KA.out (by have := hb1.size; omega) hb2⟩
  have hd1 : decide ((vs.length : Int) < 1) = false := decide_eq_false (by omega)
  have hd4 : decide ((4 : Int) < (vs.length : Int)) = false := decide_eq_false (by omega)
  have hd5 : decide ((1000 : Int) < ((ptsL n l).length : Int)) = false := decide_eq_false (by omega)
  have EVY := Lib.hid (fun (h : okTo n vs.length vs vs.length) => validR_yes (l := l) h HD.out h1000 ⟨h1, h4⟩)
  clear EV0
  generalize hN : ptsL n l = L at *
  have HN := Lib.hid hN; clear hN
  go_enter Tryz.func117, Tryz.ntmps117
  go_wp2_with (first | (go_at_call 44; rw [HW.out]; refine (HCV.out _ (HL.out.below KW.out)).mono ?_; go_must (rintro e w1 ⟨rfl, hb1⟩; rw [HD.out]; obtain ⟨k0, k1, k2⟩ := RD.out _ hb1; have KA := Lib.hid (below_at KW.out (by omega) hb1))) | (go_at_call 38; refine (HA.out _ (SlOf.below HL.out KA.out)).mono ?_; go_must (rintro e w2 ⟨⟨v', rfl, hsl⟩, hb2⟩; obtain ⟨a', c', rfl, -⟩ := hsl.shape; clear hsl)))
  have K2 := below_at hb1 (by have := hb1.size; omega) hb2
  clear k0 k1 k2 hb1 hb2
  go_loopw [3] (fun t3 wr => ∃ k : Nat, k ≤ vs.length ∧ t3 = .int .i64 (k : Nat) ∧ Hid (okTo n vs.length vs k) ∧ Below W0.heap.size W0 wr) (fun t3 _ => vs.length - (intOf t3).toNat)
  case atStart => exact ⟨0, Nat.zero_le _, rfl, Lib.hid (okTo_0 _ _ _), K2⟩
  case round =>
    clear K2 KA
    obtain ⟨k, hk, rfl, HO, hb⟩ := hrel
    obtain ⟨k0, k1, k2⟩ := RD.out wr hb
    have hs := hb.size
    have KR := below_at KW.out (by omega) hb
    by_cases hlt : k < vs.length
    rotate_left
    · have HK := Lib.hid (show k = vs.length by omega)
      go_wp2
      go_ret
      refine ⟨ret_bool ?_, KR⟩
      have := HO.out
      rw [HK.out] at this
      exact (EVY.out this).symm
    obtain ⟨-, hi, hg, hc⟩ := HX.out k hlt
    have rd := fun j hj => (KR.cell (p := ⟨vg, voff + 7 * k + j, none⟩) hg).trans (hc j hj)
    clear hc
    have HVR := Lib.hid (HE.out vs[k] (List.getElem_mem hlt))
    have HVV := Lib.hid (show ∀ V, Below w.heap.size w V → Calls Tryz.prog 161 #[.agg #[.int .i64 n, lv, .slice va vs.length vcap], .agg #[.string vs[k].name, .int .i64 vs[k].op, vs[k].argsV, .int .i64 vs[k].i0, .int .i64 vs[k].i1, .int .i64 vs[k].i2, .int .i64 vs[k].i3]] V fun e w' => e = .returned (.bool (varB2 n vs.length vs[k])) ∧ Below V.heap.size V w' from
      fun V hV => validVar2_l n lv _ vs.length hdn ⟨va, vcap, rfl⟩ vs[k] V ⟨HVR.out.1.below hV, HVR.out.2⟩)
    have HN1 := Lib.hid (fun (h : varB n vs.length vs[k] = false) => validR_no1 (l := l) hlt h)
    have HN2 := Lib.hid (fun (h : vs[k].name ∈ names (vs.take k)) => validR_no2 (n := n) (l := l) hlt h)
    have HS := Lib.hid (fun (h1 : varB n vs.length vs[k] = true) (h2 : vs[k].name ∉ names (vs.take k)) => okTo_succ HO.out hlt h1 h2)
    have HVO := Lib.hid (varB_of n vs.length vs[k])
    have HSH := HVR.out.1.shape
    have HNM := Lib.hid HVR.out.2
    clear HVR HO
    generalize hxk : vs[k] = x at *
    clear hxk
    obtain ⟨s, op, av, args, i0, i1, i2, i3⟩ := x
    simp only at HVV HSH HNM HN2 HS HVO
    obtain ⟨aa, ac, rfl, -⟩ := HSH
    have r0 : wr.cell? ⟨vg, voff + 7 * k, none⟩ = some (.string s) := rd 0 (by omega)
    have r1 : wr.cell? ⟨vg, voff + 7 * k + 1, none⟩ = some (.int .i64 op) := rd 1 (by omega)
    have r2 : wr.cell? ⟨vg, voff + 7 * k + 2, none⟩ = some (.slice aa args.length ac) := rd 2 (by omega)
    have r3 : wr.cell? ⟨vg, voff + 7 * k + 3, none⟩ = some (.int .i64 i0) := rd 3 (by omega)
    have r4 : wr.cell? ⟨vg, voff + 7 * k + 4, none⟩ = some (.int .i64 i1) := rd 4 (by omega)
    have r5 : wr.cell? ⟨vg, voff + 7 * k + 5, none⟩ = some (.int .i64 i2) := rd 5 (by omega)
    have r6 : wr.cell? ⟨vg, voff + 7 * k + 6, none⟩ = some (.int .i64 i3) := rd 6 (by omega)
    clear rd
    have zq := z1 (show w.heap.size + 1 ≤ wr.heap.size by omega)
    by_cases hsz : s.size = 1
    rotate_left
    · have HR := Lib.hid (HN1.out (by rw [HVO.out]; simp [nameB, hsz]))
      go_wp2
      go_ret
      exact ⟨ret_bool HR.out.symm, below_at KR (by omega) (by repeat (first | exact Below.refl _ _ | assumption | (refine Below.drew ?_) | (refine below_drewN ?_ _) | (refine Below.alloc ?_ (by first | (simp; done) | (simp; omega) | omega) _) | (refine Below.setCell ?_ (by first | (simp; done) | (simp; omega) | omega) _) | (refine Below.trans ?_ (Below.mono (by assumption) (by first | (simp; done) | (simp; omega) | omega)))))⟩
    obtain ⟨c, rfl⟩ := size1 hsz
    have hcc : ((⟨#[c]⟩ : ByteArray)[0]'(by simp [ByteArray.size])) = c := rfl
    have HNB := Lib.hid (show nameB ⟨#[c]⟩ = (decide (97 ≤ (c.toNat : Int)) && decide ((c.toNat : Int) ≤ 122)) from rfl)
    by_cases hc1 : 97 ≤ (c.toNat : Int) ∧ (c.toNat : Int) ≤ 122
    rotate_left
    · have HR := Lib.hid (HN1.out (by rw [HVO.out, HNB.out]; simp; omega))
      by_cases hc2 : (c.toNat : Int) < 97
      all_goals
        go_wp2
        go_ret
        exact ⟨ret_bool HR.out.symm, below_at KR (by omega) (by repeat (first | exact Below.refl _ _ | assumption | (refine Below.drew ?_) | (refine below_drewN ?_ _) | (refine Below.alloc ?_ (by first | (simp; done) | (simp; omega) | omega) _) | (refine Below.setCell ?_ (by first | (simp; done) | (simp; omega) | omega) _) | (refine Below.trans ?_ (Below.mono (by assumption) (by first | (simp; done) | (simp; omega) | omega)))))⟩
    obtain ⟨hc1, hc2⟩ := hc1
    have HV2 := Lib.hid (show varB n vs.length ⟨⟨#[c]⟩, op, .slice aa args.length ac, args, i0, i1, i2, i3⟩ = varB2 n vs.length ⟨⟨#[c]⟩, op, .slice aa args.length ac, args, i0, i1, i2, i3⟩ by rw [HVO.out, HNB.out]; simp [hc1, hc2])
    clear HVO HNB hsz
    generalize hvb : varB2 n vs.length ⟨⟨#[c]⟩, op, .slice aa args.length ac, args, i0, i1, i2, i3⟩ = vb at *
    have HVB := Lib.hid hvb; clear hvb
    cases vb
    · have HR := Lib.hid (HN1.out HV2.out)
      go_wp2_with (first | (go_at_call 161; refine (HVV.out _ (by repeat (first | exact Below.refl _ _ | assumption | (refine Below.drew ?_) | (refine below_drewN ?_ _) | (refine Below.alloc ?_ (by first | (simp; done) | (simp; omega) | omega) _) | (refine Below.setCell ?_ (by first | (simp; done) | (simp; omega) | omega) _) | (refine Below.trans ?_ (Below.mono (by assumption) (by first | (simp; done) | (simp; omega) | omega)))))).mono ?_; go_must (rintro e w2 ⟨rfl, hb2⟩)))
      go_ret
      exact ⟨ret_bool HR.out.symm, below_at KR (by omega) (by repeat (first | exact Below.refl _ _ | assumption | (refine Below.drew ?_) | (refine below_drewN ?_ _) | (refine Below.alloc ?_ (by first | (simp; done) | (simp; omega) | omega) _) | (refine Below.setCell ?_ (by first | (simp; done) | (simp; omega) | omega) _) | (refine Below.trans ?_ (Below.mono (by assumption) (by first | (simp; done) | (simp; omega) | omega)))))⟩
    go_wp2_with (first | (go_at_call 161; refine (HVV.out _ (by repeat (first | exact Below.refl _ _ | assumption | (refine Below.drew ?_) | (refine below_drewN ?_ _) | (refine Below.alloc ?_ (by first | (simp; done) | (simp; omega) | omega) _) | (refine Below.setCell ?_ (by first | (simp; done) | (simp; omega) | omega) _) | (refine Below.trans ?_ (Below.mono (by assumption) (by first | (simp; done) | (simp; omega) | omega)))))).mono ?_; go_must (rintro e w2 ⟨rfl, hb2⟩)))
    have KR2 := Lib.hid (show Below wr.heap.size wr w2 from ((Below.refl wr.heap.size wr).alloc (Nat.le_refl _) _).trans (hb2.mono (by simp)))
    have q0 : w2.cell? ⟨wr.heap.size, 0, none⟩ = some (.string ⟨#[c]⟩) := (hb2.cell (p := ⟨wr.heap.size, 0, none⟩) (by simp)).trans (by go_simp)
    have hsw := hb2.size
    simp at hsw
    have hsw' : wr.heap.size ≤ w2.heap.size := by omega
    obtain ⟨w3, rfl⟩ : ∃ x : World, x = wr := ⟨_, rfl⟩
    have HB3 := Lib.hid hb; have HKR := Lib.hid KR
    clear hb KR hb2 r0 r1 r2 r3 r4 r5 r6 hi k0 k1 k2
    go_loopw [5] (fun t5 wr => ∃ j : Nat, j ≤ k ∧ t5 = .int .i64 (j : Nat) ∧ Hid (∀ i (h : i < vs.length), i < j → vs[i].name ≠ ⟨#[c]⟩) ∧ Below w2.heap.size w2 wr) (fun t5 _ => k - (intOf t5).toNat)
    case atStart => exact ⟨0, Nat.zero_le _, rfl, Lib.hid (fun i _ h => absurd h (by omega)), Below.refl _ _⟩
    case round =>
      obtain ⟨j, hj, rfl, HD, hb⟩ := hrel
      have hs4 := hb.size
      have KA4 := below_at KR2.out (by omega) hb
      obtain ⟨k0, k1, k2⟩ := RD.out wr (below_at HB3.out hs KA4)
      have q4 := (hb.cell (p := ⟨w3.heap.size, 0, none⟩) (by simp; omega)).trans q0
      by_cases hjk : j < k
      rotate_left
      · have HJ := Lib.hid (show j = k by omega)
        have HNX := Lib.hid (show (⟨#[c]⟩ : ByteArray) ∉ names (vs.take k) from fun hm => by
          unfold names at hm
          obtain ⟨y, hy, he⟩ := List.mem_map.1 hm
          obtain ⟨i, hi, rfl⟩ := List.getElem_of_mem hy
          rw [List.length_take] at hi
          rw [List.getElem_take] at he
          exact HD.out i (by omega) (by rw [HJ.out]; omega) he)
        go_wp2
        go_roundw
        case rel => exact ⟨k + 1, hlt, by simp, Lib.hid (HS.out HV2.out HNX.out), below_at HB3.out hs KA4⟩
        case measure => simp only [intOf]; omega
      have hjl : j < vs.length := by omega
      obtain ⟨-, hi, hg4, hc4⟩ := HX.out j hjl
      have r0 : wr.cell? ⟨vg, voff + 7 * j, none⟩ = some (.string vs[j].name) := ((below_at HKR.out (by omega) KA4).cell (p := ⟨vg, voff + 7 * j, none⟩) hg4).trans (hc4 0 (by omega))
      have HMM := Lib.hid (show vs[j].name = ⟨#[c]⟩ → (⟨#[c]⟩ : ByteArray) ∈ names (vs.take k) from fun h => by
        rw [← h]
        unfold names
        exact List.mem_map.2 ⟨vs[j], List.mem_take_iff_getElem.2 ⟨j, by omega, rfl⟩, rfl⟩)
      have HDS := Lib.hid (show vs[j].name ≠ ⟨#[c]⟩ → ∀ i (h : i < vs.length), i < j + 1 → vs[i].name ≠ ⟨#[c]⟩ from fun h i hi hij => by
        by_cases he : i = j
        · subst he; exact h
        · exact HD.out i hi (by omega))
      clear hc4
      generalize vs[j].name = t at *
      go_wp2
      go_quiet (fail)
      have HT1 := Lib.hid (toList_one t c)
      go_wp2
      · have ht : (t.toList == [c]) = true := by assumption
        go_ret
        exact ⟨ret_bool (HN2.out (HMM.out (HT1.out.1 ht))).symm, below_at HKR.out (by omega) (below_at KR2.out hsw' (below_drewN hb _))⟩
      · have ht : (t.toList == [c]) = false := by assumption
        go_roundw
        case rel => exact ⟨j + 1, by omega, by simp, Lib.hid (HDS.out (fun e => by rw [HT1.out.2 e] at ht; cases ht)), below_drewN hb _⟩
        case measure => simp only [intOf]; omega
end Go.Proofs.YtnejicklenhpeaaGreat
namespace Go.Proofs.YtnejicklenhpeaaGreat
open Go.RowKit
def wideV (v : VarD) : Bool := decide (8 < v.args.length) || decide (20 < v.name.size)
def wideB (n : Int) (l : List IneqD) (vs : List VarD) (m : Nat) : Bool := (decide (8 < vs.length) || decide (12 < l.length)) || (vs.any wideV || (validD n l && (decide (m < (ptsL n l).length) && decide ((ptsL n l).length ≤ 1000))))
set_option maxHeartbeats 4000000 in
set_option maxRecDepth 100000 in
theorem Wide_l (r : RecD) (m : Nat) (hm : m ≤ 1000) (w : World) (hr : RecRd w r) :
    Calls Tryz.prog 11 #[.agg #[.int .i64 r.n, r.lv, r.vv], .int .i64 (m : Nat)] w fun e w' => e = .returned (.bool (wideB r.n r.l r.vars m)) ∧ Below w.heap.size w w' := by
  obtain ⟨hl, hvs, heach⟩ := hr
  obtain ⟨n, lv, l, vv, vs⟩ := r
  simp only at hl hvs heach ⊢
  have HL := Lib.hid hl
  obtain ⟨la, lc, rfl, hll⟩ := hl.shape
  clear hl
  obtain ⟨va, vcap, vg, voff, rfl, hlc, hcm, hx⟩ := SlOf.at (enc := encV) (fun _ => rfl) un_vars sz_vars hvs
  have HX := Lib.hid hx; clear hx hvs
  have HE := Lib.hid heach; clear heach
  unfold maxLen at hcm
  have HCV := Lib.hid (fun (W : World) (hw : SlOf W W.heap.size 4 encI (.slice la l.length lc) l) => rValidD_l n l W _ hw)
  obtain ⟨W0, hW0⟩ : ∃ W : World, w.alloc (Obj.cells #[.int .i64 n, .slice la l.length lc, .slice va vs.length vcap] 27) = W := ⟨_, rfl⟩
  have kw : Below w.heap.size w W0 := by rw [← hW0]; exact (by repeat (first | exact Below.refl _ _ | assumption | (refine Below.drew ?_) | (refine below_drewN ?_ _) | (refine Below.alloc ?_ (by first | (simp; done) | (simp; omega) | omega) _) | (refine Below.setCell ?_ (by first | (simp; done) | (simp; omega) | omega) _) | (refine Below.trans ?_ (Below.mono (by assumption) (by first | (simp; done) | (simp; omega) | omega)))))
  have ks : W0.heap.size = w.heap.size + 1 := by rw [← hW0]; simp
  have y0 : W0.cell? ⟨w.heap.size, 0, none⟩ = some (.int .i64 n) := by subst hW0; go_simp
  have y1 : W0.cell? ⟨w.heap.size, 1, none⟩ = some (.slice la l.length lc) := by subst hW0; go_simp
  have y2 : W0.cell? ⟨w.heap.size, 2, none⟩ = some (.slice va vs.length vcap) := by subst hW0; go_simp
  have HW := Lib.hid hW0; have KW := Lib.hid kw; clear hW0 kw
  have EV := Lib.hid (show wideB n l vs m = ((decide (8 < vs.length) || decide (12 < l.length)) || (vs.any wideV || (validD n l && (decide (m < (ptsL n l).length) && decide ((ptsL n l).length ≤ 1000))))) from rfl)
  generalize wideB n l vs m = R at *
  by_cases h8 : vs.length ≤ 8 ∧ l.length ≤ 12
  rotate_left
  · have HR := Lib.hid (show R = true by rw [EV.out]; have : 8 < vs.length ∨ 12 < l.length := by omega
                                         rcases this with h | h <;> simp [h])
    clear EV
    by_cases h9 : vs.length ≤ 8
    all_goals
      go_enter Tryz.func11, Tryz.ntmps11
      go_wp2
      go_ret
      exact ⟨ret_bool HR.out.symm, by repeat (first | exact Below.refl _ _ | assumption | (refine Below.drew ?_) | (refine below_drewN ?_ _) | (refine Below.alloc ?_ (by first | (simp; done) | (simp; omega) | omega) _) | (refine Below.setCell ?_ (by first | (simp; done) | (simp; omega) | omega) _) | (refine Below.trans ?_ (Below.mono (by assumption) (by first | (simp; done) | (simp; omega) | omega))))⟩
  obtain ⟨h8, h12⟩ := h8
  have EV2 := Lib.hid (EV.out.trans (by rw [decide_eq_false (show ¬ 8 < vs.length by omega), decide_eq_false (show ¬ 12 < l.length by omega), Bool.or_false, Bool.false_or]))
  clear EV
  have hd1 : decide ((8 : Int) < (vs.length : Int)) = false := decide_eq_false (by omega)
  have hd2 : decide ((12 : Int) < (l.length : Int)) = false := decide_eq_false (by omega)
  have RD := Lib.hid (show ∀ V, Below W0.heap.size W0 V → V.cell? ⟨w.heap.size, 0, none⟩ = some (.int .i64 n) ∧ V.cell? ⟨w.heap.size, 1, none⟩ = some (.slice la l.length lc) ∧ V.cell? ⟨w.heap.size, 2, none⟩ = some (.slice va vs.length vcap) from fun V h => ⟨(h.cell (p := ⟨w.heap.size, 0, none⟩) (by simp; omega)).trans y0, (h.cell (p := ⟨w.heap.size, 1, none⟩) (by simp; omega)).trans y1, (h.cell (p := ⟨w.heap.size, 2, none⟩) (by simp; omega)).trans y2⟩)
  clear y0 y1 y2
  go_enter Tryz.func11, Tryz.ntmps11
  go_wp2
  rw [HW.out]
  obtain ⟨k0, k1, k2⟩ := RD.out W0 (Below.refl _ _)
  go_loop [5] (fun t5 => ∃ k : Nat, k ≤ vs.length ∧ t5 = .int .i64 (k : Nat) ∧ Hid ((vs.take k).any wideV = false)) (fun t5 => vs.length - (intOf t5).toNat)
  case atStart => exact ⟨0, Nat.zero_le _, rfl, Lib.hid rfl⟩
  case round =>
    obtain ⟨k, hk, rfl, HO⟩ := hrel
    by_cases hlt : k < vs.length
    · obtain ⟨-, hi, hg, hc⟩ := HX.out k hlt
      have rd := fun j hj => (KW.out.cell (p := ⟨vg, voff + 7 * k + j, none⟩) hg).trans (hc j hj)
      clear hc
      have HVR := Lib.hid (HE.out vs[k] (List.getElem_mem hlt))
      have HT := Lib.hid (show wideV vs[k] = true → R = true from fun h => by
        rw [EV2.out, List.any_eq_true.2 ⟨_, List.getElem_mem hlt, h⟩]; rfl)
      have HS := Lib.hid (show wideV vs[k] = false → (vs.take (k + 1)).any wideV = false from fun h => by
        rw [List.take_succ_eq_append_getElem hlt, List.any_append, HO.out]; simp [h])
      have HSH := HVR.out.1.shape
      have hnm := HVR.out.2
      unfold maxLen at hnm
      clear HVR
      generalize hxk : vs[k] = x at *
      clear hxk
      obtain ⟨s, op, av, args, i0, i1, i2, i3⟩ := x
      simp only at HSH hnm
      obtain ⟨aa, ac, rfl, hal⟩ := HSH
      have r0 : W0.cell? ⟨vg, voff + 7 * k, none⟩ = some (.string s) := rd 0 (by omega)
      have r2 : W0.cell? ⟨vg, voff + 7 * k + 2, none⟩ = some (.slice aa args.length ac) := rd 2 (by omega)
      clear rd
      by_cases ha : args.length ≤ 8 ∧ s.size ≤ 20
      · obtain ⟨ha, hs⟩ := ha
        have HS2 := Lib.hid (HS.out (by simp only [wideV, Bool.or_eq_false_iff, decide_eq_false_iff_not]; omega))
        go_wp2
        go_round
        case rel => exact ⟨k + 1, hlt, by simp, HS2⟩
        case measure => simp only [intOf]; omega
      · have HR := Lib.hid (HT.out (by simp only [wideV, Bool.or_eq_true, decide_eq_true_eq]; omega))
        by_cases ha2 : args.length ≤ 8
        all_goals
          go_wp2
          go_ret
          exact ⟨ret_bool HR.out.symm, KW.out⟩
    have HK := Lib.hid (show k = vs.length by omega)
    have EV3 := Lib.hid (show R = (validD n l && (decide (m < (ptsL n l).length) && decide ((ptsL n l).length ≤ 1000))) by
      have := HO.out
      rw [HK.out, List.take_length] at this
      rw [EV2.out, this, Bool.false_or])
    clear HO EV2
    cases hd : validD n l
    · have HD := Lib.hid hd
      have HR := Lib.hid (show R = false by rw [EV3.out, hd]; rfl)
      clear hd EV3
      go_wp2_with (first | (go_at_call 44; refine (HCV.out _ (HL.out.below KW.out)).mono ?_; go_must (rintro e w1 ⟨rfl, hb1⟩; rw [HD.out])))
      go_ret
      exact ⟨ret_bool HR.out.symm, below_at KW.out (by omega) hb1⟩
    have HD := Lib.hid hd
    have EV4 := Lib.hid (EV3.out.trans (by rw [hd, Bool.true_and]))
    clear hd EV3
    have HA := Lib.hid (fun (W : World) (hw : SlOf W W.heap.size 4 encI (.slice la l.length lc) l) => rAll_l n l (validD_out HD.out).1 (validD_out HD.out).2.2 W _ hw)
    have hln := ptsL_len n l
    generalize ptsL n l = L at *
    clear k0 k1 k2
    obtain ⟨k0, k1, k2⟩ := RD.out W0 (Below.refl _ _)
    have K := Below.refl W0.heap.size W0
    by_cases hL : m < L.length
    all_goals by_cases hL2 : L.length ≤ 1000
    all_goals (try (exfalso; omega))
    all_goals
      go_wp2_with (first | (go_at_call 44; refine (HCV.out _ (HL.out.below (KW.out.trans (K.mono (by omega))))).mono ?_; go_must (rintro e w1 ⟨rfl, hb1⟩; rw [HD.out]; have K' := below_at K (by omega) hb1; clear K k0 k1 k2; have K := K'; clear K'; obtain ⟨k0, k1, k2⟩ := RD.out _ K)) | (go_at_call 38; refine (HA.out _ (HL.out.below (KW.out.trans (K.mono (by omega))))).mono ?_; go_must (rintro e w2 ⟨⟨v', rfl, hsl⟩, hb2⟩; obtain ⟨a', c', rfl, -⟩ := hsl.shape; clear hsl; have K' := below_at K (by have := K.size; omega) hb2; clear K k0 k1 k2; have K := K'; clear K'; obtain ⟨k0, k1, k2⟩ := RD.out _ K)))
      go_ret
      exact ⟨ret_bool (by rw [EV4.out]; simp [hL, hL2] <;> omega), KW.out.trans (K.mono (by omega))⟩
end Go.Proofs.YtnejicklenhpeaaGreat
