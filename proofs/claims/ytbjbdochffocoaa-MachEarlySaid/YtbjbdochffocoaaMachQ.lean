/- The law's Sane of layer 8; the law MachWaits: their walks. -/
import Derived.Test.YtbjbdochffocoaaMachP
namespace Go.Proofs.Ytbjbdochffocoaa
open Go.RowKit Go.Lib
set_option linter.unusedVariables false
def saneP (f1 f2 : Value) : List OpD := [⟨0, (0, 0), 0, 1, f1, [⟨-1, 5, 0⟩]⟩, ⟨1, (0, 0), 0, 2, f2, [⟨0, 0, 0⟩, ⟨-1, 3, 0⟩]⟩]
theorem sane_err (f1 f2 : Value) : runErr (saneP f1 f2) = 0 := by rfl
theorem sane_valid (f1 f2 : Value) : validP (saneP f1 f2) = true := by rfl
theorem sane_run {f1 f2 : Value} {m : List Int} (h : RunOk (saneP f1 f2) m) : m = [5, 8] := by
  have hl : m.length = 2 := h.len
  match m, hl with
  | [a, b], _ =>
    have h0 := h.val 0 (by simp [saneP])
    have h1 := h.val 1 (by simp [saneP])
    simp [saneP, valO, srcV, doK] at h0 h1
    rw [h0] at h1
    rw [h0, h1]; rfl
set_option maxHeartbeats 4000000 in
set_option maxRecDepth 100000 in
theorem sane08 (w : World) : Calls Try.prog 11 #[] w fun e w' => e = .returned (.bool true) ∧ Below w.heap.size w w' := by
  obtain ⟨W, hW⟩ : ∃ W : World, ((w.alloc (Obj.cells #[.int .i64 (-1), .int .i64 5, .int .i64 0] 52)).alloc (Obj.cells #[.int .i64 0, .int .i64 0, .int .i64 0, .int .i64 (-1), .int .i64 3, .int .i64 0] 52)).alloc (Obj.cells #[.int .i64 0, .int .i64 0, .int .i64 0, .int .i64 0, .int .i64 1, .slice (some ⟨w.heap.size, 0, none⟩) 1 1, .int .i64 1, .int .i64 0, .int .i64 0, .int .i64 0, .int .i64 2, .slice (some ⟨w.heap.size + 1, 0, none⟩) 2 2] 37) = W := ⟨_, rfl⟩
  have KW := Lib.hid (show Below w.heap.size w W by rw [← hW]; exact (by repeat (first | exact Below.refl _ _ | assumption | (refine Below.drew ?_) | (refine below_drewN ?_ _) | (refine Below.alloc ?_ (by first | (simp; done) | (simp; omega) | omega) _) | (refine Below.setCell ?_ (by first | (simp; done) | (simp; omega) | omega) _) | (refine Below.trans ?_ (Below.mono (by assumption) (by first | (simp; done) | (simp; omega) | omega))))))
  have hs : W.heap.size = w.heap.size + 3 := by rw [← hW]; simp
  have cl : ∀ b o v, (((w.alloc (Obj.cells #[.int .i64 (-1), .int .i64 5, .int .i64 0] 52)).alloc (Obj.cells #[.int .i64 0, .int .i64 0, .int .i64 0, .int .i64 (-1), .int .i64 3, .int .i64 0] 52)).alloc (Obj.cells #[.int .i64 0, .int .i64 0, .int .i64 0, .int .i64 0, .int .i64 1, .slice (some ⟨w.heap.size, 0, none⟩) 1 1, .int .i64 1, .int .i64 0, .int .i64 0, .int .i64 0, .int .i64 2, .slice (some ⟨w.heap.size + 1, 0, none⟩) 2 2] 37)).cell? ⟨b, o, none⟩ = v → W.cell? ⟨b, o, none⟩ = v := fun b o v h => by rw [← hW]; exact h
  have hp : ProgRd W (.slice (some ⟨w.heap.size + 2, 0, none⟩) 2 2) (saneP (.slice (some ⟨w.heap.size, 0, none⟩) 1 1) (.slice (some ⟨w.heap.size + 1, 0, none⟩) 2 2)) := by
    refine ⟨⟨_, 2, rfl, rfl, by simp [saneP], by unfold maxLen; omega, by simp, .inr ⟨w.heap.size + 2, 0, rfl, by omega, fun i hi => ?_⟩⟩, fun o ho => ?_⟩
    · have : i < 12 := by simpa [saneP] using hi
      refine cl _ _ _ ?_
      clear hW cl KW hs
      rw [show w.heap.size + 2 = w.heap.size + 1 + 1 from rfl, Nat.zero_add]
      obtain rfl | rfl | rfl | rfl | rfl | rfl | rfl | rfl | rfl | rfl | rfl | rfl : i = 0 ∨ i = 1 ∨ i = 2 ∨ i = 3 ∨ i = 4 ∨ i = 5 ∨ i = 6 ∨ i = 7 ∨ i = 8 ∨ i = 9 ∨ i = 10 ∨ i = 11 := by omega
      all_goals (go_simp; rfl)
    · simp only [saneP, List.mem_cons, List.not_mem_nil, or_false] at ho
      rcases ho with rfl | rfl
      · refine ⟨_, 1, rfl, rfl, by simp, by unfold maxLen; omega, by simp, .inr ⟨w.heap.size, 0, rfl, by omega, fun i hi => ?_⟩⟩
        have : i < 3 := by simpa using hi
        refine cl _ _ _ ?_
        clear hW cl KW hs
        rw [Nat.zero_add]
        obtain rfl | rfl | rfl : i = 0 ∨ i = 1 ∨ i = 2 := by omega
        all_goals (go_simp; rfl)
      · refine ⟨_, 2, rfl, rfl, by simp, by unfold maxLen; omega, by simp, .inr ⟨w.heap.size + 1, 0, rfl, by omega, fun i hi => ?_⟩⟩
        have : i < 6 := by simpa using hi
        refine cl _ _ _ ?_
        clear hW cl KW hs
        rw [Nat.zero_add]
        obtain rfl | rfl | rfl | rfl | rfl | rfl : i = 0 ∨ i = 1 ∨ i = 2 ∨ i = 3 ∨ i = 4 ∨ i = 5 := by omega
        all_goals (go_simp; rfl)
  have HRN := Lib.hid ((Run_l _ _ W hp).mono (fun e w' q => (⟨by
    obtain ⟨v', he, l, hs', hl⟩ := q.1
    rw [sane_err] at he hl
    rw [if_pos rfl] at hl
    obtain ⟨m, hm, rfl⟩ := hl
    rw [untilL_run (sane_valid _ _) hm.len, sane_run hm] at hs'
    obtain ⟨a, cap, g, off, rfl, h1, h2, hx⟩ := SlOf.at (enc := encInt) (fun _ => rfl) un_int sz_int1 hs'
    obtain ⟨-, i0, g0, c0⟩ := hx 0 (by simp)
    obtain ⟨-, i1, g1, c1⟩ := hx 1 (by simp)
    refine ⟨a, cap, g, off, he, fun V => by simpa using i0 V, fun V => by simpa using i1 V, ?_, ?_⟩
    · have := c0 0 Nat.zero_lt_one; simpa [encInt] using this
    · have := c1 0 Nat.zero_lt_one; simpa [encInt] using this, q.2⟩ : (∃ a cap g off, e = .returned (.tuple #[.slice a 2 cap, .int .i64 0]) ∧ (∀ V, (Instr.indexAt 25 (.slice a 2 cap) (.int .i64 0)).run Try.prog V = .ok (.pointer (some ⟨g, off, none⟩)) V) ∧ (∀ V, (Instr.indexAt 25 (.slice a 2 cap) (.int .i64 1)).run Try.prog V = .ok (.pointer (some ⟨g, off + 1, none⟩)) V) ∧ w'.cell? ⟨g, off, none⟩ = some (.int .i64 5) ∧ w'.cell? ⟨g, off + 1, none⟩ = some (.int .i64 8)) ∧ Below W.heap.size W w')))
  have HW := Lib.hid hW
  clear hW cl hp
  go_enter Try.func11, Try.ntmps11
  go_wp2_with (go_at_call 12; rw [HW.out]; refine HRN.out.mono ?_; go_must (rintro e w1 ⟨⟨a, cap, g, off, rfl, i0, i1, c0, c1⟩, hb1⟩))
  go_ret
  exact ⟨rfl, below_at KW.out (by omega) hb1⟩
set_option maxHeartbeats 8000000 in
set_option maxRecDepth 100000 in
theorem MachWaits_any (p : List OpD) (v : Value) (w : World) (hp : ProgRd w v p) : Calls Try.prog 5 #[v] w fun e w' => e = .returned (.bool true) ∧ Below w.heap.size w w' := by
  have HP := Lib.hid hp
  have HWD := Lib.hid (Wide8_l p v w hp)
  clear hp
  cases hwd : wideP p
  rotate_left
  · rw [hwd] at HWD
    clear hwd
    go_enter Try.func5, Try.ntmps5
    go_wp2_with (first | (go_at_call 10; refine HWD.out.mono ?_; go_must (rintro e w1 ⟨rfl, hb1⟩; have HB1 := Lib.hid hb1; clear hb1)) | (go_at_call 11; refine (sane08 _).mono ?_; go_must (rintro e w2 ⟨rfl, hb2⟩)))
    go_ret
    exact ⟨rfl, below_at HB1.out HB1.out.size hb2⟩
  rw [hwd] at HWD
  clear hwd
  have HM1 := Lib.hid (fun (W : World) (h : ProgRd W v p) => Meet_l p v W h)
  have HM2 := Lib.hid (fun (W : World) (h : ProgRd W v p) => rMeet_l p v W h)
  have HW1 := Lib.hid (fun (W : World) (h : ProgRd W v p) => Waits_l p v W h)
  have HW2 := Lib.hid (fun (W : World) (h : ProgRd W v p) => rWaits_l p v W h)
  have HV1 := Lib.hid (fun (W : World) (h : ProgRd W v p) => Valid_l p v W h)
  have HV2 := Lib.hid (fun (W : World) (h : ProgRd W v p) => rValid_l p v W h)
  have HWR := Lib.hid (fun e w' => show WaitsR p e w' ↔ ∃ v, e = .returned (.tuple #[v, .int .i64 (if validP p = true then 0 else 80)]) ∧ SlOf w' w'.heap.size 1 encInt v (if validP p = true then waitsI p else []) from Iff.rfl)
  obtain ⟨ma, mb, mc, hmx⟩ : ∃ a b c : Int, meetX p = .tuple #[.int .i64 a, .int .i64 b, .int .i64 c] := by
    unfold meetX
    split
    · split <;> exact ⟨_, _, _, rfl⟩
    · exact ⟨_, _, _, rfl⟩
  rw [hmx] at HM1 HM2
  clear hmx
  generalize WaitsR p = WR at *
  generalize (if validP p = true then waitsI p else []) = L at *
  generalize (if validP p = true then (0 : Int) else 80) = E at *
  generalize validP p = B at *
  have HSM := Lib.hid (fun (W : World) (v1 v2 : Value) (h1 : SlOf W W.heap.size 1 encInt v1 L) (h2 : SlOf W W.heap.size 1 encInt v2 L) => by have := same8_l L L W v1 v2 h1 h2; rwa [decide_eq_true rfl] at this)
  go_enter Try.func5, Try.ntmps5
  go_wp2_with (first | (go_at_call 10; refine HWD.out.mono ?_; go_must (rintro e w1 ⟨rfl, hb1⟩; have HB1 := Lib.hid hb1; clear hb1)) | (go_at_call 18; refine (HM1.out _ (HP.out.below HB1.out)).mono ?_; go_must (rintro e w2 ⟨rfl, hb2⟩; have HB2 := Lib.hid (below_at HB1.out HB1.out.size hb2); clear hb2)) | (go_at_call 19; refine (HM2.out _ (HP.out.below HB2.out)).mono ?_; go_must (rintro e w3 ⟨rfl, hb3⟩; have HB3 := Lib.hid (below_at HB2.out HB2.out.size hb3); clear hb3)) | (go_at_call 20; refine (HW1.out _ (HP.out.below HB3.out)).mono ?_; go_must (rintro e w4 ⟨hq4, hb4⟩; obtain ⟨v4, he4, hs4⟩ := (HWR.out _ _).1 hq4; subst he4; have HS4 := Lib.hid hs4; have HB4 := Lib.hid (below_at HB3.out HB3.out.size hb4); clear hq4 hs4 hb4)) | (go_at_call 21; refine (HW2.out _ (HP.out.below HB4.out)).mono ?_; go_must (rintro e w5 ⟨hq5, hb5⟩; obtain ⟨v5, he5, hs5⟩ := (HWR.out _ _).1 hq5; subst he5; have HS5 := Lib.hid hs5; have HS45 := Lib.hid (HS4.out.below hb5); have HB5 := Lib.hid (below_at HB4.out HB4.out.size hb5); clear hq5 hs5 hb5)) | (go_at_call 22; refine (HV1.out _ (HP.out.below HB5.out)).mono ?_; go_must (rintro e w6 ⟨rfl, hb6⟩; have HS6 := Lib.hid (HS5.out.below hb6); have HS46 := Lib.hid (HS45.out.below hb6); have HB6 := Lib.hid (below_at HB5.out HB5.out.size hb6); clear hb6)) | (go_at_call 17; refine (HV2.out _ (HP.out.below HB6.out)).mono ?_; go_must (rintro e w7 ⟨rfl, hb7⟩; have HS7 := Lib.hid (HS6.out.below hb7); have HS47 := Lib.hid (HS46.out.below hb7); have HB7 := Lib.hid (below_at HB6.out HB6.out.size hb7); clear hb7)) | (go_at_call 16; refine (HSM.out _ _ _ HS47.out HS7.out).mono ?_; go_must (rintro e w8 ⟨rfl, hb8⟩; have HB8 := Lib.hid (below_at HB7.out HB7.out.size hb8); clear hb8)) | (go_at_call 11; refine (sane08 _).mono ?_; go_must (rintro e w9 ⟨rfl, hb9⟩)))
  go_ret
  exact ⟨rfl, below_at HB8.out HB8.out.size hb9⟩
end Go.Proofs.Ytbjbdochffocoaa
