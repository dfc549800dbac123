/- The walk of the law ForgePieces: it returns true. -/
import Derived.Test.YtpoofjioeljigaaPieceI
import Derived.Test.YtpoofjioeljigaaByteM
namespace Go.Proofs.Ytpoofjioeljigaa
open Go.RowKit
theorem size_bs (W : World) : (sizeOf (Try.prog.elem 57)).run Try.prog W = .ok 1 W := by kernel_rfl
theorem under_bs : Try.prog.underlying 57 = some (.slice (Try.prog.elem 57)) := by kernel_rfl
theorem OwnBs.idx {w : World} {lo : Nat} {v : Value} {ls : List (List Int)} (h : OwnBs w lo v ls) :
    ∃ a cap, v = .slice a ls.length cap ∧ ∀ k (hk : k < ls.length), ∃ g x, (∀ W, (Instr.indexAt 57 (.slice a ls.length cap) (.int .i64 (k : Int))).run Try.prog W = .ok (.pointer (some ⟨g, k, none⟩)) W) ∧ g < w.heap.size ∧ w.cell? ⟨g, k, none⟩ = some x ∧ BB w x ls[k] := by
  obtain ⟨xs, ho, hf⟩ := h
  have hlen := all2_len hf
  rcases id ho with ⟨_, ⟨rfl, h0⟩ | ⟨g, cap, cur, rfl, hbg, hg, _⟩⟩
  · exact ⟨none, 0, by rw [h0], fun k hk => by omega⟩
  · refine ⟨_, cap, rfl, fun k hk => ⟨g, xs[k], fun W => ?_, lt_of_block hg, ?_, all2_at hf k (by omega) hk⟩⟩
    · rw [run_indexAt_slice (P := Try.prog) (w := W) _ _ _ _ _ _ under_bs, if_pos (by omega), size_bs]
      simp only [Result.andThen, Int.toNat_natCast, Addr.add, Nat.zero_add, Nat.mul_one]
      split <;> simp_all
    · rw [World.ownsRow.cellAt ho _ (by omega)]
      simp
set_option maxHeartbeats 4000000 in
set_option maxRecDepth 100000 in
theorem ForgePieces_any (d : Int) (v : Value) (l : List Int) (w : World) (hv : BSl w w.heap.size v l) :
    Calls Try.prog 10 #[.int .i64 d, v] w fun e w' => e = .returned (.bool true) ∧ Below w.heap.size w w' := by
  have HV := Lib.hid hv
  obtain ⟨a, cap, rfl, -⟩ := hv.rd
  clear hv
  by_cases h1 : (1500 : Int) < l.length
  · go_enter Try.func10, Try.ntmps10
    go_wp2_with (first | (go_at_call 22; refine (sane10 _).mono ?_; go_must ((first | (have h0 := hb1; clear h0; rintro e w2 ⟨rfl, hb2⟩; obtain ⟨hc2, hf2⟩ := bcell hb2; have hz2 := hb2.size; (try simp at hz2); (first | have z := z10 hz2 | have z := z9 hz2 | have z := z8 hz2 | have z := z7 hz2 | have z := z6 hz2 | have z := z5 hz2 | have z := z4 hz2 | have z := z3 hz2 | have z := z2 hz2 | have z := z1 hz2 | skip); have hq := Nat.le_trans hz1 (show w1.heap.size ≤ w2.heap.size by omega); (first | have z := z10 hq | have z := z9 hq | have z := z8 hq | have z := z7 hq | have z := z6 hq | have z := z5 hq | have z := z4 hq | have z := z3 hq | have z := z2 hq | have z := z1 hq | skip)) | (rintro e w1 ⟨rfl, hb1⟩; obtain ⟨hc1, hf1⟩ := bcell hb1; have hz1 := hb1.size; (try simp at hz1); (first | have z := z10 hz1 | have z := z9 hz1 | have z := z8 hz1 | have z := z7 hz1 | have z := z6 hz1 | have z := z5 hz1 | have z := z4 hz1 | have z := z3 hz1 | have z := z2 hz1 | have z := z1 hz1 | skip))))))
    go_ret
    exact ⟨rfl, by repeat (first | exact Below.refl _ _ | assumption | (refine Below.drew ?_) | (refine below_drewN ?_ _) | (refine Below.alloc ?_ (by first | (simp; done) | (simp; omega) | omega) _) | (refine Below.setCell ?_ (by first | (simp; done) | (simp; omega) | omega) _) | (refine Below.trans ?_ (Below.mono (by assumption) (by first | (simp; done) | (simp; omega) | omega))))⟩
  by_cases hd : d < 0 ∨ 2 < d
  · go_enter Try.func10, Try.ntmps10
    go_wp2_with (first | (go_at_call 36; refine (Pieces_bad d hd _ _).mono ?_; go_must (rintro e w1 ⟨rfl, rfl⟩)) | (go_at_call 37; refine (RPieces_bad d hd _ _).mono ?_; go_must (rintro e w1 ⟨rfl, rfl⟩)))
    refine wp_loop_rounds 2 ?_
    rw [rounds_succ]
    go_wp2_with (first | (go_at_call 22; refine (sane10 _).mono ?_; go_must ((first | (have h0 := hb1; clear h0; rintro e w2 ⟨rfl, hb2⟩; obtain ⟨hc2, hf2⟩ := bcell hb2; have hz2 := hb2.size; (try simp at hz2); (first | have z := z10 hz2 | have z := z9 hz2 | have z := z8 hz2 | have z := z7 hz2 | have z := z6 hz2 | have z := z5 hz2 | have z := z4 hz2 | have z := z3 hz2 | have z := z2 hz2 | have z := z1 hz2 | skip); have hq := Nat.le_trans hz1 (show w1.heap.size ≤ w2.heap.size by omega); (first | have z := z10 hq | have z := z9 hq | have z := z8 hq | have z := z7 hq | have z := z6 hq | have z := z5 hq | have z := z4 hq | have z := z3 hq | have z := z2 hq | have z := z1 hq | skip)) | (rintro e w1 ⟨rfl, hb1⟩; obtain ⟨hc1, hf1⟩ := bcell hb1; have hz1 := hb1.size; (try simp at hz1); (first | have z := z10 hz1 | have z := z9 hz1 | have z := z8 hz1 | have z := z7 hz1 | have z := z6 hz1 | have z := z5 hz1 | have z := z4 hz1 | have z := z3 hz1 | have z := z2 hz1 | have z := z1 hz1 | skip))))))
    go_ret
    exact ⟨rfl, by repeat (first | exact Below.refl _ _ | assumption | (refine Below.drew ?_) | (refine below_drewN ?_ _) | (refine Below.alloc ?_ (by first | (simp; done) | (simp; omega) | omega) _) | (refine Below.setCell ?_ (by first | (simp; done) | (simp; omega) | omega) _) | (refine Below.trans ?_ (Below.mono (by assumption) (by first | (simp; done) | (simp; omega) | omega))))⟩
  obtain ⟨disk, rfl⟩ : ∃ n : Nat, d = n := ⟨d.toNat, by omega⟩
  have hd2 : disk ≤ 2 := by omega
  go_enter Try.func10, Try.ntmps10
  go_wp2_with (first | (go_at_call 36; refine (Pieces_good disk hd2 _ l (by omega) _ HV.out).mono ?_; go_must (rintro e w1 ⟨v1, rfl, hb1, hown1⟩; obtain ⟨b1, e1, rfl⟩ := hown1.shape)) | (go_at_call 37; refine (RPieces_good disk hd2 _ l (by omega) w1 ((HV.out.kept hb1).mono hb1.size)).mono ?_; go_must (rintro e w2 ⟨v2, rfl, hb2, hown2⟩; obtain ⟨b2, e2, rfl⟩ := hown2.shape)))
  have hown1' := hown1.kept hb2
  obtain ⟨x1, y1, hq1, hx1⟩ := hown1'.idx
  cases hq1
  obtain ⟨x2, y2, hq2, hx2⟩ := hown2.idx
  cases hq2
  have HX1 := Lib.hid hx1
  have HX2 := Lib.hid hx2
  clear hx1 hx2 hown1 hown2 hown1'
  have hb12 := hb1.trans (hb2.mono hb1.size)
  clear hb1 hb2
  have hln : (outP (piecesL disk l)).length ≤ 1500 := by have := (totalP_le disk _ l (Nat.le_refl _)).2.1; simp only [outP, List.length_map]; omega
  generalize outP (piecesL disk l) = ls at *
  go_loopw [11] (fun i wr => ∃ k : Nat, k ≤ ls.length ∧ i = .int .i64 k ∧ Below w2.heap.size w2 wr) (fun i _ => ls.length - (intOf i).toNat)
  case atStart => exact ⟨0, Nat.zero_le _, rfl, Below.refl _ _⟩
  case round =>
    obtain ⟨k, hk, rfl, hb⟩ := hrel
    by_cases hlt : k < ls.length
    rotate_left
    · obtain rfl : k = ls.length := by omega
      go_wp2_with (first | (go_at_call 22; refine (sane10 _).mono ?_; go_must ((first | (have h0 := hb1; clear h0; rintro e w2 ⟨rfl, hb2⟩; obtain ⟨hc2, hf2⟩ := bcell hb2; have hz2 := hb2.size; (try simp at hz2); (first | have z := z10 hz2 | have z := z9 hz2 | have z := z8 hz2 | have z := z7 hz2 | have z := z6 hz2 | have z := z5 hz2 | have z := z4 hz2 | have z := z3 hz2 | have z := z2 hz2 | have z := z1 hz2 | skip); have hq := Nat.le_trans hz1 (show w1.heap.size ≤ w2.heap.size by omega); (first | have z := z10 hq | have z := z9 hq | have z := z8 hq | have z := z7 hq | have z := z6 hq | have z := z5 hq | have z := z4 hq | have z := z3 hq | have z := z2 hq | have z := z1 hq | skip)) | (rintro e w1 ⟨rfl, hb1⟩; obtain ⟨hc1, hf1⟩ := bcell hb1; have hz1 := hb1.size; (try simp at hz1); (first | have z := z10 hz1 | have z := z9 hz1 | have z := z8 hz1 | have z := z7 hz1 | have z := z6 hz1 | have z := z5 hz1 | have z := z4 hz1 | have z := z3 hz1 | have z := z2 hz1 | have z := z1 hz1 | skip))))))
      go_ret
      exact ⟨rfl, hb12.trans ((hb.trans (hb1.mono hb.size)).mono hb12.size)⟩
    obtain ⟨g1, z1, hi1, hgl1, hc1, hbb1⟩ := HX1.out k hlt
    obtain ⟨g2, z2, hi2, hgl2, hc2, hbb2⟩ := HX2.out k hlt
    have hr1 := (hb.cell (p := ⟨g1, k, none⟩) hgl1).trans hc1
    have hr2 := (hb.cell (p := ⟨g2, k, none⟩) hgl2).trans hc2
    have s1 := Strs.of hbb1.sl hb
    have s2 := Strs.of hbb2.sl hb
    obtain ⟨ax1, cx1, rfl⟩ := hbb1.shape
    obtain ⟨ax2, cx2, rfl⟩ := hbb2.shape
    clear hc1 hc2 hbb1 hbb2
    obtain ⟨s1a, s1b, s1c, s1d⟩ := s1
    obtain ⟨s2a, s2b, s2c, s2d⟩ := s2
    go_wp2
    go_quiet (fail)
    go_wp2
    go_roundw
    case rel => exact ⟨k + 1, hlt, by simp, below_drewN hb _⟩
    case measure => simp only [intOf]; omega
end Go.Proofs.Ytpoofjioeljigaa
