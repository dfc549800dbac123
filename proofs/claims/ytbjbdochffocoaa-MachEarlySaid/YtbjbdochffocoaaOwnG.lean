/- SameOps of two programs that are the same: its walk. -/
import Derived.Test.YtbjbdochffocoaaOwnF
namespace Go.Proofs.Ytbjbdochffocoaa
open Go.RowKit Go.Lib
set_option linter.unusedVariables false
theorem part_sr0 (a x y : Value) (w : World) : (part 3 #[a, x, y] 0).run Try.prog w = .ok a w := by kernel_rfl
theorem part_sr1 (a x y : Value) (w : World) : (part 3 #[a, x, y] 1).run Try.prog w = .ok x w := by kernel_rfl
theorem part_sr2 (a x y : Value) (w : World) : (part 3 #[a, x, y] 2).run Try.prog w = .ok y w := by kernel_rfl
theorem fields_sr : Try.prog.underlying 52 = some (.struct (Try.prog.fieldsOf 52)) := by kernel_rfl
theorem eq_sr (d : Nat) (a b c : Int) (w : World) : (Op.equalIn (d + 2) 52 (.agg #[.int .i64 a, .int .i64 b, .int .i64 c]) (.agg #[.int .i64 a, .int .i64 b, .int .i64 c])).run Try.prog w = .ok true w := by
  rw [run_equalIn_struct w (d + 1) 52 _ _ fields_sr (by kernel_rfl)]
  have e1 := Try.underlying52
  rw [fields_sr] at e1
  simp only [Option.some.injEq, TypeDesc.struct.injEq] at e1
  rw [e1]
  simp [Op.eqFields, part_sr0, part_sr1, part_sr2, eq_int d]
theorem SameP.symm {p q : List OpD} (h : SameP p q) : SameP q p := ⟨h.len.symm, fun i h1 h2 => by obtain ⟨a, b, c, d, e⟩ := h.at_ i h2 h1; exact ⟨a.symm, b.symm, c.symm, d.symm, e.symm⟩⟩
theorem SameP.trans {p q r : List OpD} (h : SameP p q) (k : SameP q r) : SameP p r := ⟨k.len.trans h.len, fun i h1 h2 => by
  have h3 : i < q.length := by rw [h.len]; exact h2
  obtain ⟨a, b, c, d, e⟩ := h.at_ i h3 h2
  obtain ⟨a', b', c', d', e'⟩ := k.at_ i h1 h3
  exact ⟨a'.trans a, b'.trans b, c'.trans c, d'.trans d, e'.trans e⟩⟩
set_option maxHeartbeats 16000000 in
set_option maxRecDepth 100000 in
theorem SameOps_l (p q : List OpD) (h : SameP p q) (v u : Value) (w : World) (hp : ProgRd w v p) (hq : ProgRd w u q) : Calls Try.prog 31 #[v, u] w fun e w' => e = .returned (.bool true) ∧ Below w.heap.size w w' := by
  obtain ⟨a, cap, g, off, rfl, hl, hm, hat⟩ := ops_at hp
  obtain ⟨a2, cap2, g2, off2, rfl, hl2, hm2, hat2⟩ := ops_at hq
  have HX := Lib.hid hat
  have HSL := Lib.hid hp.each
  have HX2 := Lib.hid (show ∀ k (hk : k < p.length), ∃ f2, SlOf w w.heap.size 3 encSr f2 p[k].src ∧ (∀ W, (Instr.indexAt 22 (.slice a2 p.length cap2) (.int .i64 (k : Int))).run Try.prog W = .ok (.pointer (some ⟨g2, off2 + 6 * k, none⟩)) W) ∧ g2 < w.heap.size ∧
      (w.cell? ⟨g2, off2 + 6 * k, none⟩ = some (.int .i64 p[k].t) ∧ w.cell? ⟨g2, off2 + 6 * k + 1, none⟩ = some (.int .i64 p[k].c.1) ∧ w.cell? ⟨g2, off2 + 6 * k + 2, none⟩ = some (.int .i64 p[k].c.2) ∧ w.cell? ⟨g2, off2 + 6 * k + 3, none⟩ = some (.int .i64 p[k].unit) ∧ w.cell? ⟨g2, off2 + 6 * k + 4, none⟩ = some (.int .i64 p[k].kind) ∧ w.cell? ⟨g2, off2 + 6 * k + 5, none⟩ = some f2) from fun k hk => by
    have hk2 : k < q.length := by rw [h.len]; exact hk
    obtain ⟨hi, hg, c0, c1, c2, c3, c4, c5⟩ := hat2 k hk2
    obtain ⟨e1, e2, e3, e4, e5⟩ := h.at_ k hk2 hk
    rw [e1] at c0; rw [e2] at c1 c2; rw [e3] at c3; rw [e4] at c4
    exact ⟨q[k].fv, by have := hq.each q[k] (List.getElem_mem hk2); rwa [e5] at this, fun W => by have := hi W; rwa [h.len] at this, hg, c0, c1, c2, c3, c4, c5⟩)
  rw [h.len]
  rw [h.len] at hl2
  have hmx : (p.length : Int) ≤ 9223372036854775807 := by omega
  have hnn : ((p.length : Int) != (p.length : Int)) = false := by simp
  clear hat hat2 hp hq h
  go_enter Try.func31, Try.ntmps31
  go_wp2_with fail
  go_loopw [5] (fun t5 wr => ∃ k : Nat, k ≤ p.length ∧ t5 = .int .i64 (k : Nat) ∧ Below w.heap.size w wr) (fun t5 _ => p.length - (intOf t5).toNat)
  case atStart => exact ⟨0, Nat.zero_le _, rfl, Below.refl _ _⟩
  case round =>
    obtain ⟨k, hk, rfl, hb⟩ := hrel
    have hs := hb.size
    by_cases hlt : k < p.length
    rotate_left
    · have hlz : ¬ (k : Int) < (p.length : Int) := by omega
      go_wp2
      go_ret
      exact ⟨rfl, hb⟩
    have hlz : (k : Int) < (p.length : Int) := by omega
    obtain ⟨hix, hg, q0, q1, q2, q3, q4, q5⟩ := HX.out k hlt
    obtain ⟨f2, hsl2, hix2, hg2, s0, s1, s2, s3, s4, s5⟩ := HX2.out k hlt
    have HS1 := Lib.hid (HSL.out p[k] (List.getElem_mem hlt))
    have HS2 := Lib.hid hsl2
    have r0 := (hb.cell (p := ⟨g, off + 6 * k, none⟩) hg).trans q0
    have r1 := (hb.cell (p := ⟨g, off + 6 * k + 1, none⟩) hg).trans q1
    have r2 := (hb.cell (p := ⟨g, off + 6 * k + 2, none⟩) hg).trans q2
    have r3 := (hb.cell (p := ⟨g, off + 6 * k + 3, none⟩) hg).trans q3
    have r4 := (hb.cell (p := ⟨g, off + 6 * k + 4, none⟩) hg).trans q4
    have r5 := (hb.cell (p := ⟨g, off + 6 * k + 5, none⟩) hg).trans q5
    have y0 := (hb.cell (p := ⟨g2, off2 + 6 * k, none⟩) hg2).trans s0
    have y1 := (hb.cell (p := ⟨g2, off2 + 6 * k + 1, none⟩) hg2).trans s1
    have y2 := (hb.cell (p := ⟨g2, off2 + 6 * k + 2, none⟩) hg2).trans s2
    have y3 := (hb.cell (p := ⟨g2, off2 + 6 * k + 3, none⟩) hg2).trans s3
    have y4 := (hb.cell (p := ⟨g2, off2 + 6 * k + 4, none⟩) hg2).trans s4
    have y5 := (hb.cell (p := ⟨g2, off2 + 6 * k + 5, none⟩) hg2).trans s5
    clear q0 q1 q2 q3 q4 q5 s0 s1 s2 s3 s4 s5 hsl2
    have HLT := Lib.hid hlt
    generalize p[k] = o at *
    obtain ⟨t, ⟨c0, c1⟩, un, kd, fv, src⟩ := o
    simp only at r0 r1 r2 r3 r4 r5 y0 y1 y2 y3 y4 HS1 HS2
    obtain ⟨fa, fc, fg, fo, rfl, hfl, hfm, hfx⟩ := src_at HS1.out
    obtain ⟨fb, fd, fh, fp, rfl, hfl2, hfm2, hfx2⟩ := src_at HS2.out
    have HF1 := Lib.hid hfx; have HF2 := Lib.hid hfx2
    have HEC := Lib.hid (fun W => eq_cell c0 c1 c0 c1 W)
    clear hfx hfx2 hlt
    have hgr : g < wr.heap.size := by omega
    have hgr2 : g2 < wr.heap.size := by omega
    have PT := Lib.hid (show ∀ V, Below wr.heap.size wr V → V.cell? ⟨g, off + 6 * k, none⟩ = some (.int .i64 t) ∧ V.cell? ⟨g, off + 6 * k + 1, none⟩ = some (.int .i64 c0) ∧ V.cell? ⟨g, off + 6 * k + 2, none⟩ = some (.int .i64 c1) ∧ V.cell? ⟨g, off + 6 * k + 3, none⟩ = some (.int .i64 un) ∧ V.cell? ⟨g, off + 6 * k + 4, none⟩ = some (.int .i64 kd) ∧ V.cell? ⟨g, off + 6 * k + 5, none⟩ = some (.slice fa src.length fc) ∧ V.cell? ⟨g2, off2 + 6 * k, none⟩ = some (.int .i64 t) ∧ V.cell? ⟨g2, off2 + 6 * k + 1, none⟩ = some (.int .i64 c0) ∧ V.cell? ⟨g2, off2 + 6 * k + 2, none⟩ = some (.int .i64 c1) ∧ V.cell? ⟨g2, off2 + 6 * k + 3, none⟩ = some (.int .i64 un) ∧ V.cell? ⟨g2, off2 + 6 * k + 4, none⟩ = some (.int .i64 kd) ∧ V.cell? ⟨g2, off2 + 6 * k + 5, none⟩ = some (.slice fb src.length fd) from fun V h => ⟨(h.cell (p := ⟨g, off + 6 * k, none⟩) hgr).trans (by assumption), (h.cell (p := ⟨g, off + 6 * k + 1, none⟩) hgr).trans (by assumption), (h.cell (p := ⟨g, off + 6 * k + 2, none⟩) hgr).trans (by assumption), (h.cell (p := ⟨g, off + 6 * k + 3, none⟩) hgr).trans (by assumption), (h.cell (p := ⟨g, off + 6 * k + 4, none⟩) hgr).trans (by assumption), (h.cell (p := ⟨g, off + 6 * k + 5, none⟩) hgr).trans (by assumption), (h.cell (p := ⟨g2, off2 + 6 * k, none⟩) hgr2).trans (by assumption), (h.cell (p := ⟨g2, off2 + 6 * k + 1, none⟩) hgr2).trans (by assumption), (h.cell (p := ⟨g2, off2 + 6 * k + 2, none⟩) hgr2).trans (by assumption), (h.cell (p := ⟨g2, off2 + 6 * k + 3, none⟩) hgr2).trans (by assumption), (h.cell (p := ⟨g2, off2 + 6 * k + 4, none⟩) hgr2).trans (by assumption), (h.cell (p := ⟨g2, off2 + 6 * k + 5, none⟩) hgr2).trans (by assumption)⟩)
    go_wp2_with fail
    go_cut [5, 6, 7] from 14 to 80 (fun t5 t6 t7 wx => ∃ bx by_, t5 = .int .i64 (k : Nat) ∧ t6 = .pointer (some ⟨bx, 0, none⟩) ∧ t7 = .pointer (some ⟨by_, 0, none⟩) ∧ (wr.heap.size ≤ bx ∧ bx < wx.heap.size ∧ wr.heap.size ≤ by_ ∧ by_ < wx.heap.size) ∧ (wx.cell? ⟨bx, 0, none⟩ = some (.int .i64 t) ∧ wx.cell? ⟨bx, 1, none⟩ = some (.int .i64 c0) ∧ wx.cell? ⟨bx, 2, none⟩ = some (.int .i64 c1) ∧ wx.cell? ⟨bx, 3, none⟩ = some (.int .i64 un) ∧ wx.cell? ⟨bx, 4, none⟩ = some (.int .i64 kd) ∧ wx.cell? ⟨bx, 5, none⟩ = some (.slice fa src.length fc)) ∧ (wx.cell? ⟨by_, 0, none⟩ = some (.int .i64 t) ∧ wx.cell? ⟨by_, 1, none⟩ = some (.int .i64 c0) ∧ wx.cell? ⟨by_, 2, none⟩ = some (.int .i64 c1) ∧ wx.cell? ⟨by_, 3, none⟩ = some (.int .i64 un) ∧ wx.cell? ⟨by_, 4, none⟩ = some (.int .i64 kd) ∧ wx.cell? ⟨by_, 5, none⟩ = some (.slice fb src.length fd)) ∧ Below wr.heap.size wr wx)
    case first =>
      clear r0 r1 r2 r3 r4 r5 y0 y1 y2 y3 y4 y5
      go_region_held3 (fun w' => Below wr.heap.size wr w' ∧ (w'.cell? ⟨g, off + 6 * k, none⟩ = some (.int .i64 t) ∧ w'.cell? ⟨g, off + 6 * k + 1, none⟩ = some (.int .i64 c0) ∧ w'.cell? ⟨g, off + 6 * k + 2, none⟩ = some (.int .i64 c1) ∧ w'.cell? ⟨g, off + 6 * k + 3, none⟩ = some (.int .i64 un) ∧ w'.cell? ⟨g, off + 6 * k + 4, none⟩ = some (.int .i64 kd) ∧ w'.cell? ⟨g, off + 6 * k + 5, none⟩ = some (.slice fa src.length fc) ∧ w'.cell? ⟨g2, off2 + 6 * k, none⟩ = some (.int .i64 t) ∧ w'.cell? ⟨g2, off2 + 6 * k + 1, none⟩ = some (.int .i64 c0) ∧ w'.cell? ⟨g2, off2 + 6 * k + 2, none⟩ = some (.int .i64 c1) ∧ w'.cell? ⟨g2, off2 + 6 * k + 3, none⟩ = some (.int .i64 un) ∧ w'.cell? ⟨g2, off2 + 6 * k + 4, none⟩ = some (.int .i64 kd) ∧ w'.cell? ⟨g2, off2 + 6 * k + 5, none⟩ = some (.slice fb src.length fd))) (((refine (fun kb => (⟨kb, PT.out _ kb⟩)) (?_ : Below wr.heap.size wr _); exact (by repeat (first | exact Below.refl _ _ | assumption | (refine Below.drew ?_) | (refine below_drewN ?_ _) | (refine Below.alloc ?_ (by first | (simp; done) | (simp; omega) | omega) _) | (refine Below.setCell ?_ (by first | (simp; done) | (simp; omega) | omega) _) | (refine Below.trans ?_ (Below.mono (by assumption) (by first | (simp; done) | (simp; omega) | omega)))))))) (fail)
      all_goals (try go_wp2_with fail)
      all_goals go_meet
      all_goals (refine ⟨_, _, rfl, rfl, rfl, ?_, ?_, ?_, ?_⟩)
      all_goals first | (refine ⟨?_, ?_, ?_, ?_⟩ <;> (first | omega | (simp; done) | (simp; omega))) | (refine ⟨?_, ?_, ?_, ?_, ?_, ?_⟩ <;> (go_simp; done)) | exact (by repeat (first | exact Below.refl _ _ | assumption | (refine Below.drew ?_) | (refine below_drewN ?_ _) | (refine Below.alloc ?_ (by first | (simp; done) | (simp; omega) | omega) _) | (refine Below.setCell ?_ (by first | (simp; done) | (simp; omega) | omega) _) | (refine Below.trans ?_ (Below.mono (by assumption) (by first | (simp; done) | (simp; omega) | omega)))))
    case rest =>
      obtain ⟨bx, by_, rfl, rfl, rfl, ⟨hx1, hx2, hy1, hy2⟩, ⟨x0, x1, x2, x3, x4, x5⟩, ⟨z0, z1, z2, z3, z4, z5⟩, hbx⟩ := hcut
      clear r0 r1 r2 r3 r4 r5 y0 y1 y2 y3 y4 y5
      have heqc := HEC.out
      have hsx := hbx.size
      have hbw := hb.trans (hbx.mono hs)
      have RX := Lib.hid (show ∀ V, Below wc.heap.size wc V → V.cell? ⟨bx, 5, none⟩ = some (.slice fa src.length fc) ∧ V.cell? ⟨by_, 5, none⟩ = some (.slice fb src.length fd) from fun V hV => ⟨(hV.cell (p := ⟨bx, 5, none⟩) hx2).trans x5, (hV.cell (p := ⟨by_, 5, none⟩) hy2).trans z5⟩)
      have hsl : (src.length : Int) ≤ 9223372036854775807 := by omega
      have hns : ((src.length : Int) != (src.length : Int)) = false := by simp
      have htt : (t != t) = false := by simp
      have hun : (un != un) = false := by simp
      have hkd : (kd != kd) = false := by simp
      go_wp2_with fail
      clear x0 x1 x2 x3 x4 x5 z0 z1 z2 z3 z4 z5 heqc hns htt hun hkd
      go_loopw [8] (fun t8 wq => ∃ j : Nat, j ≤ src.length ∧ t8 = .int .i64 (j : Nat) ∧ Below wc.heap.size wc wq) (fun t8 _ => src.length - (intOf t8).toNat)
      case atStart => exact ⟨0, Nat.zero_le _, rfl, Below.refl _ _⟩
      case round =>
        obtain ⟨j, hj, rfl, hbj⟩ := hrel
        obtain ⟨n5, m5⟩ := RX.out _ hbj
        have hbv := hbw.trans (hbj.mono (by omega))
        by_cases hlj : j < src.length
        rotate_left
        · have hlz2 : ¬ (j : Int) < (src.length : Int) := by omega
          go_wp2
          go_roundw
          case rel => exact ⟨k + 1, HLT.out, by simp, hbv⟩
          case measure => simp only [intOf]; have := HLT.out; omega
        have hlz2 : (j : Int) < (src.length : Int) := by omega
        obtain ⟨i1, g1, a0, a1, a2⟩ := HF1.out j hlj
        obtain ⟨i2, g2', b0, b1, b2⟩ := HF2.out j hlj
        have c00 := (hbv.cell (p := ⟨fg, fo + 3 * j, none⟩) g1).trans a0
        have c01 := (hbv.cell (p := ⟨fg, fo + 3 * j + 1, none⟩) g1).trans a1
        have c02 := (hbv.cell (p := ⟨fg, fo + 3 * j + 2, none⟩) g1).trans a2
        have d00 := (hbv.cell (p := ⟨fh, fp + 3 * j, none⟩) g2').trans b0
        have d01 := (hbv.cell (p := ⟨fh, fp + 3 * j + 1, none⟩) g2').trans b1
        have d02 := (hbv.cell (p := ⟨fh, fp + 3 * j + 2, none⟩) g2').trans b2
        clear a0 a1 a2 b0 b1 b2
        have heq := fun W => eq_sr 9998 src[j].op src[j].val src[j].hops W
        have HLJ := Lib.hid hlj
        generalize src[j] = s at *
        obtain ⟨op, val, hops⟩ := s
        simp only at heq c00 c01 c02 d00 d01 d02
        clear hlj
        go_wp2
        go_quiet (fail)
        go_wp2
        go_roundw
        case rel => exact ⟨j + 1, HLJ.out, by simp, below_drewN hbj _⟩
        case measure => simp only [intOf]; have := HLJ.out; omega
end Go.Proofs.Ytbjbdochffocoaa
