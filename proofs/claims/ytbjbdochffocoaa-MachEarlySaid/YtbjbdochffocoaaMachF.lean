/- Package mach: the indexes by their times: its walk. -/
import Derived.Test.YtbjbdochffocoaaMachE
import Derived.Test.YtbjbdochffocoaaStabH
namespace Go.Proofs.Ytbjbdochffocoaa
open Go.RowKit Go.Lib Go.Sort
set_option linter.unusedVariables false
theorem un_ops : Try.prog.underlying 22 = some (.slice (Try.prog.elem 22)) := by kernel_rfl
theorem sz_ops (W : World) : (sizeOf (Try.prog.elem 22)).run Try.prog W = .ok 6 W := by kernel_rfl
theorem un_src : Try.prog.underlying 35 = some (.slice (Try.prog.elem 35)) := by kernel_rfl
theorem sz_src (W : World) : (sizeOf (Try.prog.elem 35)).run Try.prog W = .ok 3 W := by kernel_rfl
theorem un_int : Try.prog.underlying 25 = some (.slice (Try.prog.elem 25)) := by kernel_rfl
theorem sz_int1 (W : World) : (sizeOf (Try.prog.elem 25)).run Try.prog W = .ok 1 W := by kernel_rfl
theorem nanInt_l (a : Int) (w : World) : Calls Try.prog 77 #[.int .i64 a] w fun e w' => e = .returned (.bool false) ∧ w' = w := by
  go_enter Try.func77, Try.ntmps77
  go_wp2
  go_ret
  exact ⟨ret_bool (by simp), rfl⟩
theorem compareInt_l (a b : Int) (w : World) : Calls Try.prog 66 #[.int .i64 a, .int .i64 b] w fun e w' => e = .returned (.int .i64 (cmpT a b)) ∧ w' = w := by
  by_cases h : a < b
  · have H := Lib.hid (show cmpT a b = -1 by unfold cmpT; rw [if_pos h])
    go_enter Try.func66, Try.ntmps66
    go_wp2_with (go_at_call 77; refine (nanInt_l _ _).mono ?_; go_must (rintro e w1 ⟨rfl, rfl⟩))
    go_ret
    exact ⟨ret_int H.out.symm, rfl⟩
  · by_cases h2 : b < a
    · have H := Lib.hid (show cmpT a b = 1 by unfold cmpT; rw [if_neg h, if_pos h2])
      go_enter Try.func66, Try.ntmps66
      go_wp2_with (go_at_call 77; refine (nanInt_l _ _).mono ?_; go_must (rintro e w1 ⟨rfl, rfl⟩))
      go_ret
      exact ⟨ret_int H.out.symm, rfl⟩
    · have H := Lib.hid (show cmpT a b = 0 by unfold cmpT; rw [if_neg h, if_neg h2])
      go_enter Try.func66, Try.ntmps66
      go_wp2_with (go_at_call 77; refine (nanInt_l _ _).mono ?_; go_must (rintro e w1 ⟨rfl, rfl⟩))
      go_ret
      exact ⟨ret_int H.out.symm, rfl⟩
/-- The cells of the operations of a program. -/
theorem ops_at {w : World} {v : Value} {p : List OpD} (h : ProgRd w v p) : ∃ a cap g off, v = .slice a p.length cap ∧ p.length ≤ cap ∧ cap ≤ 9223372036854775807 ∧ ∀ k (hk : k < p.length), (∀ W, (Instr.indexAt 22 (.slice a p.length cap) (.int .i64 (k : Int))).run Try.prog W = .ok (.pointer (some ⟨g, off + 6 * k, none⟩)) W) ∧ g < w.heap.size ∧
    (w.cell? ⟨g, off + 6 * k, none⟩ = some (.int .i64 p[k].t) ∧ w.cell? ⟨g, off + 6 * k + 1, none⟩ = some (.int .i64 p[k].c.1) ∧ w.cell? ⟨g, off + 6 * k + 2, none⟩ = some (.int .i64 p[k].c.2) ∧ w.cell? ⟨g, off + 6 * k + 3, none⟩ = some (.int .i64 p[k].unit) ∧ w.cell? ⟨g, off + 6 * k + 4, none⟩ = some (.int .i64 p[k].kind) ∧ w.cell? ⟨g, off + 6 * k + 5, none⟩ = some p[k].fv) := by
  obtain ⟨a, cap, g, off, rfl, hl, hm, hx⟩ := SlOf.at (enc := encOp) (fun _ => rfl) un_ops sz_ops h.ops
  unfold maxLen at hm
  refine ⟨a, cap, g, off, rfl, hl, by omega, fun k hk => ?_⟩
  obtain ⟨-, h1, h2, h3⟩ := hx k hk
  exact ⟨h1, h2, h3 0 (by omega), h3 1 (by omega), h3 2 (by omega), h3 3 (by omega), h3 4 (by omega), h3 5 (by omega)⟩
set_option maxHeartbeats 4000000 in
set_option maxRecDepth 100000 in
theorem ordered1_l (p : List OpD) (v : Value) (pb : Nat) (w : World) (hp : ProgRd w v p) (hlt : pb < w.heap.size) (c0 : w.cell? ⟨pb, 0, none⟩ = some v) (x y : Nat) (hx : x < p.length) (hy : y < p.length) :
    Calls Try.prog 65 #[.int .i64 (x : Int), .int .i64 (y : Int), .pointer (some ⟨pb, 0, none⟩)] w fun e w' => e = .returned (.int .i64 (cmpT (timeP p x) (timeP p y))) ∧ Gr w w' := by
  obtain ⟨a, cap, g, off, rfl, hl, hm, hat⟩ := ops_at hp
  obtain ⟨i1, g1, t1, -⟩ := hat x hx
  obtain ⟨i2, g2, t2, -⟩ := hat y hy
  rw [timeP_at hx, timeP_at hy]
  clear hat hp
  generalize p[x].t = tx at *
  generalize p[y].t = ty at *
  generalize p.length = n at *
  have hx1 : (x : Int) < (n : Int) := by omega
  have hy1 : (y : Int) < (n : Int) := by omega
  go_enter Try.func65, Try.ntmps65
  go_wp2
  go_quiet ((go_at_call 66; exact Calls.quiet_of_same (compareInt_l _ _ _)))
  go_wp2
  go_ret
  exact ⟨rfl, nq, #[], by rw [grow_empty]⟩
theorem ins0_l (b cap g : Nat) (cb : Array Value) (w : World) : Calls Try.prog 78 #[.slice (some ⟨b, 0, none⟩) 0 cap, .int .i64 0, .int .i64 0, .func (.func g) #[] cb] w fun e w' => e = .returned (.tuple #[]) ∧ w' = w := by
  go_enter Try.func78, Try.ntmps78
  go_wp2
  refine wp_loop_rounds 1 ?_
  rw [rounds_succ]
  go_wp2
  go_end0
  exact ⟨rfl, rfl⟩
theorem stable0_l (b cap g : Nat) (cb : Array Value) (w : World) : Calls Try.prog 76 #[.slice (some ⟨b, 0, none⟩) 0 cap, .int .i64 0, .func (.func g) #[] cb] w fun e w' => e = .returned (.tuple #[]) ∧ w' = w := by
  go_enter Try.func76, Try.ntmps76
  go_wp2
  refine wp_loop_rounds 1 ?_
  rw [rounds_succ]
  go_wp2_with (go_at_call 78; refine (ins0_l _ _ _ _ _).mono ?_; go_must (rintro e w1 ⟨rfl, rfl⟩))
  refine wp_loop_rounds 1 ?_
  rw [rounds_succ]
  go_wp2
  go_end0
  exact ⟨rfl, rfl⟩
theorem sort0_l (b cap g : Nat) (cb : Array Value) (w : World) : Calls Try.prog 64 #[.slice (some ⟨b, 0, none⟩) 0 cap, .func (.func g) #[] cb] w fun e w' => e = .returned (.tuple #[]) ∧ w' = w := by
  go_enter Try.func64, Try.ntmps64
  go_wp2_with (go_at_call 76; refine (stable0_l _ _ _ _ _).mono ?_; go_must (rintro e w1 ⟨rfl, rfl⟩))
  go_end0
  exact ⟨rfl, rfl⟩
def rowTo (n k : Nat) : List Int := (List.range n).map fun i => if i < k then (i : Int) else 0
theorem rowTo_len (n k : Nat) : (rowTo n k).length = n := by simp [rowTo]
theorem rowTo_zero (n : Nat) : rowTo n 0 = List.replicate n 0 := by
  refine List.ext_getElem (by simp [rowTo]) (fun i h1 h2 => by simp [rowTo])
theorem rowTo_all (n : Nat) : rowTo n n = (List.range n).map fun i : Nat => (i : Int) := by
  unfold rowTo
  refine List.map_congr_left (fun i hi => ?_)
  rw [if_pos (List.mem_range.1 hi)]
theorem rowTo_set (n k : Nat) (hk : k < n) : (rowTo n k).set k (k : Int) = rowTo n (k + 1) := by
  refine List.ext_getElem (by simp [rowTo]) (fun i h1 h2 => ?_)
  by_cases e : k = i
  · subst e; simp [rowTo]
  · rw [List.getElem_set_ne e]
    simp only [rowTo, List.getElem_map, List.getElem_range]
    by_cases h : i < k
    · rw [if_pos h, if_pos (by omega)]
    · rw [if_neg h, if_neg (by omega)]
/-- A row of its own with the numbers l. -/
def RowR (w : World) (l : List Int) (e : Ending) (w' : World) : Prop := ∃ b, e = .returned (.slice (some ⟨b, 0, none⟩) l.length l.length) ∧ w.heap.size ≤ b ∧ RowI w' b l
set_option maxHeartbeats 4000000 in
set_option maxRecDepth 100000 in
theorem ordered_l (p : List OpD) (v : Value) (w : World) (hp : ProgRd w v p) (hn : p.length ≤ 1000000) :
    Calls Try.prog 51 #[v] w fun e w' => (∃ L, OrdL (timeP p) p.length L ∧ RowR w (L.map fun i : Nat => (i : Int)) e w') ∧ Below w.heap.size w w' := by
  have HP := Lib.hid hp
  obtain ⟨a, cap, g, off, rfl, hl, hm, -⟩ := ops_at hp
  clear hp
  obtain ⟨Z, hmk, hrow⟩ := make_ints p.length hn
  obtain ⟨W0, hW0⟩ : ∃ W : World, w.alloc (Obj.cells #[.slice a p.length cap] 22) = W := ⟨_, rfl⟩
  have kw0 : Below w.heap.size w W0 := by rw [← hW0]; exact (by repeat (first | exact Below.refl _ _ | assumption | (refine Below.drew ?_) | (refine below_drewN ?_ _) | (refine Below.alloc ?_ (by first | (simp; done) | (simp; omega) | omega) _) | (refine Below.setCell ?_ (by first | (simp; done) | (simp; omega) | omega) _) | (refine Below.trans ?_ (Below.mono (by assumption) (by first | (simp; done) | (simp; omega) | omega)))))
  have ks0 : W0.heap.size = w.heap.size + 1 := by rw [← hW0]; simp
  have RD0 := Lib.hid (show ∀ V, Below W0.heap.size W0 V → V.cell? ⟨w.heap.size, 0, none⟩ = some (.slice a p.length cap) from fun V h => by
      refine (h.cell (p := ⟨w.heap.size, 0, none⟩) (by simp; omega)).trans ?_; subst hW0; go_simp)
  have HW0 := Lib.hid hW0; have KW0 := Lib.hid kw0; clear hW0 kw0
  have HRW := Lib.hid (show RowI (W0.alloc (Obj.cells Z 3)) (w.heap.size + 1) (List.replicate p.length 0) by have := hrow W0; rwa [ks0] at this)
  have hsW : w.heap.size ≤ W0.heap.size := by omega
  clear hrow
  have hpb : w.heap.size < W0.heap.size := by omega
  have hln : (p.length : Int) ≤ 1000000 := by omega
  go_enter Try.func51, Try.ntmps51
  go_wp2_with fail
  rw [HW0.out]
  have K0 := Below.refl W0.heap.size W0
  have k0_0 := RD0.out _ K0
  go_wp2_with fail
  go_loopw [4, 10] (fun t4 t10 wr => ∃ k : Nat, k ≤ p.length ∧ t10 = .int .i64 (k : Nat) ∧ Hid (RowI wr (w.heap.size + 1) (rowTo p.length k)) ∧ Below W0.heap.size W0 wr) (fun t4 t10 _ => p.length - (intOf t10).toNat)
  case atStart => exact ⟨0, Nat.zero_le _, rfl, Lib.hid (by rw [rowTo_zero]; exact HRW.out), (Below.refl _ _).alloc (Nat.le_refl _) _⟩
  case round =>
    obtain ⟨k, hk, rfl, HR, hb⟩ := hrel
    have hs := hb.size
    by_cases hlt : k < p.length
    rotate_left
    · have hke : k = p.length := by omega
      have hlz : ¬ (k : Int) < (p.length : Int) := by omega
      have HRF := Lib.hid (show RowI wr (w.heap.size + 1) ((List.range p.length).map fun i : Nat => (i : Int)) by rw [← rowTo_all]; have := HR.out; rwa [hke] at this)
      have HPV := Lib.hid (fun (V : World) (h : Below W0.heap.size wr V) => show ProgRd V (.slice a p.length cap) p ∧ V.cell? ⟨w.heap.size, 0, none⟩ = some (.slice a p.length cap) from ⟨HP.out.below (KW0.out.trans ((hb.trans h).mono hsW)), RD0.out V (hb.trans h)⟩)
      clear hke hlt HR
      have eg : ∀ args w, (callFunc 65 args).run Try.prog w = .ok (.enter 65 args) w := enters_of Try.func65 (by kernel_rfl) rfl
      by_cases h0 : p.length = 0
      · have HE := Lib.hid (show OrdL (timeP p) p.length [] from ⟨by rw [h0]; rfl, fun i => by simp [h0], List.Pairwise.nil⟩)
        have HRF2 := Lib.hid (show RowI wr (w.heap.size + 1) (([] : List Nat).map fun i : Nat => (i : Int)) by have := HRF.out; rw [h0] at this; exact this)
        have HS := Lib.hid (fun W => show Calls Try.prog 64 #[.slice (some ⟨w.heap.size + 1, 0, none⟩) p.length p.length, .func (.func 65) #[] #[.pointer (some ⟨w.heap.size, 0, none⟩)]] W fun e w' => e = .returned (.tuple #[]) ∧ w' = W by rw [h0]; exact sort0_l _ _ _ _ W)
        have HN := Lib.hid h0
        clear h0 eg
        go_wp2_with (go_at_call 64; refine (HS.out _).mono ?_; go_must (rintro e w1 ⟨rfl, rfl⟩))
        go_ret
        exact ⟨⟨[], HE.out, w.heap.size + 1, by rw [HN.out]; rfl, by omega, HRF2.out⟩, KW0.out.trans (hb.mono hsW)⟩
      · obtain ⟨m, hm1⟩ : ∃ m, p.length = m + 1 := ⟨p.length - 1, by omega⟩
        have HS := Lib.hid (show Calls Try.prog 64 #[.slice (some ⟨w.heap.size + 1, 0, none⟩) p.length p.length, .func (.func 65) #[] #[.pointer (some ⟨w.heap.size, 0, none⟩)]] wr fun e w' => e = .returned (.tuple #[]) ∧ (∃ L, OrdL (timeP p) p.length L ∧ RowI w' (w.heap.size + 1) (L.map fun i : Nat => (i : Int))) ∧ Below (w.heap.size + 1) wr w' by
          rw [hm1]
          exact sortIdx m (by omega) (timeP p) _ _ eg (w.heap.size + 1) (m + 1) wr (by have := HRF.out; rwa [hm1] at this) (fun V hV x y hx hy => ordered1_l p _ w.heap.size V (HPV.out V (hV.mono (by omega))).1 (by have := hV.size; omega) (HPV.out V (hV.mono (by omega))).2 x y (by omega) (by omega)))
        clear eg h0 hm1 HPV
        go_wp2_with (go_at_call 64; refine HS.out.mono ?_; go_must (rintro e w1 ⟨rfl, ⟨L, hL, hR⟩, hb1⟩; have HL := Lib.hid hL; have HRL := Lib.hid hR; clear hL hR))
        go_ret
        exact ⟨⟨L, HL.out, w.heap.size + 1, by rw [List.length_map, HL.out.len]; rfl, by omega, HRL.out⟩, KW0.out.trans ((hb.trans (hb1.mono (by omega))).mono hsW)⟩
    · have hlz : (k : Int) < (p.length : Int) := by omega
      have hi := fun W => idx_of (P := Try.prog) un_int sz_int1 (w.heap.size + 1) 0 p.length p.length k hlt W
      simp only [Nat.one_mul, Nat.zero_add] at hi
      have cc := HR.out.cell k (by rw [rowTo_len]; exact hlt)
      have cf := HR.out.free k (by rw [rowTo_len]; exact hlt)
      generalize (rowTo p.length k)[k]'(by rw [rowTo_len]; exact hlt) = old at *
      go_wp2
      go_roundw
      case rel => exact ⟨k + 1, hlt, by simp, Lib.hid (by rw [← rowTo_set _ _ hlt]; exact HR.out.set k (by rw [rowTo_len]; exact hlt) _), hb.setCell (p := ⟨w.heap.size + 1, k, none⟩) (by simp; omega) _⟩
      case measure => simp only [intOf]; omega
end Go.Proofs.Ytbjbdochffocoaa
