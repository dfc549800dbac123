/- Racks: the reference's Append, Sync, Trim: walks. -/
import Derived.Test.YtlljfbakpljenaaRackC
namespace Go.Proofs.Ytlljfbakpljenaa
open Go.RowKit Go.Lib
set_option linter.unusedVariables false
def RqR (w : World) (mb : Nat) (r : Int × RackD) (e : Ending) (w' : World) : Prop := e = .returned (.int .i64 r.1) ∧ RackQ w' mb r.2 ∧ FrS (fun b => b = mb) w w'
theorem chgD_zero (D : RackD) (i : Nat) (x : List Int × List Int) (h : D.armed = 0) : chgD D i x = (0, D.set i x) := by
  unfold chgD; rw [if_neg (by omega), h]
  obtain ⟨d, a, o⟩ := D
  simp only at h; subst h; rfl
theorem chgD_two (D : RackD) (i : Nat) (x : List Int × List Int) (h : 1 < D.armed) : chgD D i x = (0, { D.set i x with armed := D.armed - 1 }) := by
  unfold chgD; rw [if_neg (by omega), Int.max_eq_left (by omega)]
set_option maxHeartbeats 16000000 in
set_option maxRecDepth 100000 in
theorem rAppend_l (D : RackD) (hm : D.upto 4000) (disk : Int) (bl : List Int) (hbl : bl.length ≤ 100) (bv : Value) (mb : Nat) (w : World) (hr : RackQ w mb D) (B0 : Nat) (hB1 : B0 ≤ w.heap.size) (hB2 : B0 ≤ mb) (hb : BSl w B0 bv bl) :
    Calls Try.prog 9 #[.pointer (some ⟨mb, 0, none⟩), .int .i64 disk, bv] w fun e w' => RqR w mb (appendD D disk bl) e w' := by
  obtain ⟨dv, hq⟩ := hr
  obtain ⟨hm1, hm2, hm3⟩ := hm
  have HQ := Lib.hid hq
  have HMU := Lib.hid hm1
  obtain ⟨c6, c7⟩ := hq.cells
  have fr6 := hq.free 6
  have fr7 := hq.free 7
  have hmb := hq.lt
  clear hq hm1
  obtain ⟨ba, bc, rfl, -⟩ := hb.rd
  have HB := Lib.hid hb
  clear hb
  cases hoff : D.off
  rotate_left
  · have HE := Lib.hid (show RqR w mb (appendD D disk bl) (.returned (.int .i64 101)) w by unfold appendD; rw [askD_off hoff, if_pos (by omega)]; exact ⟨rfl, ⟨_, HQ.out⟩, FrS.refl _ _⟩)
    rw [hoff] at c6
    clear hoff
    go_enter Try.func9, Try.ntmps9
    go_wp2
    go_ret
    exact HE.out
  rw [hoff] at c6
  by_cases hdk : disk < 0 ∨ 3 ≤ disk
  · have HE := Lib.hid (show RqR w mb (appendD D disk bl) (.returned (.int .i64 2)) w by unfold appendD; rw [askD_arg hoff hdk, if_pos (by omega)]; exact ⟨rfl, ⟨_, HQ.out⟩, FrS.refl _ _⟩)
    clear hoff
    rcases hdk with hdk | hdk
    · have t1 : decide (disk < 0) = true := decide_eq_true hdk
      have t5 : decide (0 ≤ disk) = false := decide_eq_false (by omega)
      clear hdk
      go_enter Try.func9, Try.ntmps9
      go_wp2
      go_ret
      exact HE.out
    · have t1 : decide (disk < 0) = false := decide_eq_false (by omega)
      have t2 : decide (2 < disk) = true := decide_eq_true (by omega)
      have t5 : decide (0 ≤ disk) = true := decide_eq_true (by omega)
      have t6 : decide (disk ≤ 2) = false := decide_eq_false (by omega)
      clear hdk
      go_enter Try.func9, Try.ntmps9
      go_wp2
      go_ret
      exact HE.out
  obtain ⟨i, rfl⟩ : ∃ i : Nat, disk = (i : Int) := ⟨disk.toNat, by omega⟩
  have hi : i < 3 := by omega
  have HASK := Lib.hid (askD_ok hoff hdk)
  have t1 : decide ((i : Int) < 0) = false := decide_eq_false (by omega)
  have t2 : decide (2 < (i : Int)) = false := decide_eq_false (by omega)
  have t3 : decide (2 < i) = false := decide_eq_false (by omega)
  have hid3 := fun W => ixm mb i hi W
  have hin3 := fun W => ixn mb 3 i hi W
  have hz0 : (0 : Int) ≤ (i : Int) := by omega
  have hz3 : (i : Int) < 3 := by omega
  obtain ⟨d0, d3⟩ := HQ.out.dcell hi
  have fri := HQ.out.free i
  have frn := HQ.out.free (3 + i)
  clear hdk hoff
  have HRS := Lib.hid (appendD_ok (b := bl) HASK.out)
  by_cases ha : D.armed = 1
  · have HE := Lib.hid (show RqR w mb (appendD D (i : Int) bl) (.returned (.int .i64 101)) ((w.setCell ⟨mb, 7, none⟩ (.int .i64 0)).setCell ⟨mb, 6, none⟩ (.bool true)) by
      rw [HRS.out, chgD_one _ _ _ ha]
      exact ⟨rfl, ⟨_, (HQ.out.armed 0).turn true⟩, (HQ.out.ku _ _).trans ((HQ.out.armed 0).ku _ _)⟩)
    rw [ha] at c7
    clear ha
    go_enter Try.func9, Try.ntmps9
    go_wp2
    go_ret
    exact HE.out
  obtain ⟨a1, k1, hdv⟩ : ∃ a c, dv i = .slice a (D.all i).length c := by obtain ⟨-, a, c, e, -⟩ := HQ.out.disk i hi; exact ⟨a, c, e⟩
  rw [hdv] at d0
  have hl2 : (D.all i).length ≤ 4000 := by unfold RackD.all; rw [List.length_append]; exact HMU.out i hi
  obtain ⟨L, hL⟩ : ∃ L, D.all i = L := ⟨_, rfl⟩
  rw [hL] at hdv d0 hl2
  by_cases hz : D.armed = 0
  · have t8 : decide (0 < D.armed) = false := decide_eq_false (by omega)
    have HRF := Lib.hid (HRS.out.trans (chgD_zero _ _ _ hz))
    clear ha hz
    go_enter Try.func9, Try.ntmps9
    go_wp2
    refine forgetW (fun V => RackR V mb dv D ∧ FrS (fun b => b = mb) w V) ⟨HQ.out, FrS.refl _ _⟩ ?_
    rintro V ⟨hv, hfv⟩
    have HV := Lib.hid hv
    have HFV := Lib.hid hfv
    clear hv hfv
    have hvs : mb < V.heap.size := HV.out.lt
    have q0 := (HV.out.dcell hi).1
    rw [hdv] at q0
    have qf := HV.out.free i
    have HO := Lib.hid (show (V.alloc (Obj.cells #[] 5)).drew.ownsRow V.heap.size 5 1 (.slice (some ⟨V.heap.size, 0, none⟩) 0 0) 0 [] from World.ownsRow_lit (base := V.heap.size) (e := 5) (size := 1) V #[] 0 (Nat.le_refl _) (by unfold maxLen; omega) (by simp))
    have hbb := (show BB V (dv i) (D.all i) from HV.out.disk i hi)
    rw [hL, hdv] at hbb
    have HS1 := Lib.hid (fun (W : World) (kb : Below V.heap.size V W) => hbb.sl.kept kb)
    have HS2 := Lib.hid (fun (W : World) (kb : Below V.heap.size V W) => (HB.out.kept ((HFV.out.below hB1 (fun b h => by omega)).trans (kb.mono (by have := HFV.out.size; omega)))))
    have HC1 := Lib.hid (fun (W : World) (kb : Below V.heap.size V W) => And.intro ((kb.cell (p := ⟨mb, i, none⟩) hvs).trans q0) ((kb.frozen (p := ⟨mb, i, none⟩) hvs).trans qf))
    have hl1 := HMU.out i hi
    have HY1 := Lib.hid hbb.1
    have HEQ := Lib.hid (show L ++ bl = (D.d i).1 ++ ((D.d i).2 ++ bl) by rw [← hL]; unfold RackD.all; rw [List.append_assoc])
    clear hbb
    have HS1a := Lib.hid (HS1.out (V.alloc (Obj.cells #[] 5)).drew (by exact (by repeat (first | exact Below.refl _ _ | assumption | (refine Below.drew ?_) | (refine below_drewN ?_ _) | (refine Below.alloc ?_ (by first | (simp; done) | (simp; omega) | omega) _) | (refine Below.setCell ?_ (by first | (simp; done) | (simp; omega) | omega) _) | (refine Below.trans ?_ (Below.mono (by assumption) (by first | (simp; done) | (simp; omega) | omega))))))).1
    go_region_law (first | (refine step_concat (n := 0) (m := L.length) rfl _ _ _ (by rfl) slU8 rfl HO.out rfl HS1a.out (oneCell_vals _) (by first | omega | (simp only [vals, List.length_map]; omega) | (simp; omega)) (by omega) (by simp) ?_; intro b2 c2 w2 hown2 hg2; have hb2 : Below V.heap.size V w2 := below_push (by exact (by repeat (first | (with_reducible exact Below.refl _ _) | (with_reducible assumption) | (with_reducible refine Below.drew ?_) | (with_reducible refine Below.setCell ?_ (by first | (simp; done) | (simp; omega) | omega) _) | (with_reducible refine Below.alloc ?_ (by first | (simp; done) | (simp; omega) | omega) _) | (with_reducible refine below_drewN ?_ _) | (refine Below.trans ?_ (Below.mono (by with_reducible assumption) (by first | (simp; done) | (simp; omega) | omega)))))) HO.out (by simp) (by simp) hg2; simp only [Nat.zero_add, List.nil_append] at hown2 ⊢; have HW2 := Lib.hid hown2; have HS2a := Lib.hid (HS2.out _ hb2).1; clear hown2 hg2) | (refine step_concat (n := L.length) (m := bl.length) rfl _ _ _ (by rfl) slU8 rfl HW2.out rfl HS2a.out (oneCell_vals _) (by first | omega | (simp only [vals, List.length_map]; omega) | (simp; omega)) (by omega) (by have := hb2.size; simp at *; omega) ?_; intro b3 c3 w3 hown3 hg3; have hb3 : Below V.heap.size V w3 := below_push hb2 HW2.out (by simp) (by have := hb2.size; simp at *; omega) hg3; have HW3 := Lib.hid hown3; obtain ⟨x1, x2⟩ := HC1.out _ hb3; clear hown3 hg3))
    all_goals (try go_wp2)
    all_goals
      go_ret
      rw [HRF.out]
      have hw := HW3.out
      rw [vals_app] at hw
      have hy := (BOwn.mk' hw (HY1.out.app HB.out.2)).bb
      rw [HEQ.out] at hy
      exact ⟨rfl, ⟨_, (HV.out.below hb3).disk1 hi hy⟩, (HFV.out.trans (FrS.of_below hb3)).trans ((HV.out.below hb3).ku _ _)⟩
  · have t8 : decide (0 < D.armed) = true := decide_eq_true (by omega)
    have t9 : (D.armed - 1 == 0) = false := beq_eq_false_iff_ne.2 (by omega)
    have HRF := Lib.hid (HRS.out.trans (chgD_two D i ((D.d i).1, (D.d i).2 ++ bl) (by omega)))
    clear ha hz
    go_enter Try.func9, Try.ntmps9
    go_wp2
    refine forgetW (fun V => RackR V mb dv { D with armed := D.armed - 1 } ∧ FrS (fun b => b = mb) w V) ⟨HQ.out.armed _, HQ.out.ku _ _⟩ ?_
    rintro V ⟨hv, hfv⟩
    have HV := Lib.hid hv
    have HFV := Lib.hid hfv
    clear hv hfv
    have hvs : mb < V.heap.size := HV.out.lt
    have q0 := (HV.out.dcell hi).1
    rw [hdv] at q0
    have qf := HV.out.free i
    have HO := Lib.hid (show (V.alloc (Obj.cells #[] 5)).drew.ownsRow V.heap.size 5 1 (.slice (some ⟨V.heap.size, 0, none⟩) 0 0) 0 [] from World.ownsRow_lit (base := V.heap.size) (e := 5) (size := 1) V #[] 0 (Nat.le_refl _) (by unfold maxLen; omega) (by simp))
    have hbb := (show BB V (dv i) (D.all i) from HV.out.disk i hi)
    rw [hL, hdv] at hbb
    have HS1 := Lib.hid (fun (W : World) (kb : Below V.heap.size V W) => hbb.sl.kept kb)
    have HS2 := Lib.hid (fun (W : World) (kb : Below V.heap.size V W) => (HB.out.kept ((HFV.out.below hB1 (fun b h => by omega)).trans (kb.mono (by have := HFV.out.size; omega)))))
    have HC1 := Lib.hid (fun (W : World) (kb : Below V.heap.size V W) => And.intro ((kb.cell (p := ⟨mb, i, none⟩) hvs).trans q0) ((kb.frozen (p := ⟨mb, i, none⟩) hvs).trans qf))
    have hl1 := HMU.out i hi
    have HY1 := Lib.hid hbb.1
    have HEQ := Lib.hid (show L ++ bl = (D.d i).1 ++ ((D.d i).2 ++ bl) by rw [← hL]; unfold RackD.all; rw [List.append_assoc])
    clear hbb
    have HS1a := Lib.hid (HS1.out (V.alloc (Obj.cells #[] 5)).drew (by exact (by repeat (first | exact Below.refl _ _ | assumption | (refine Below.drew ?_) | (refine below_drewN ?_ _) | (refine Below.alloc ?_ (by first | (simp; done) | (simp; omega) | omega) _) | (refine Below.setCell ?_ (by first | (simp; done) | (simp; omega) | omega) _) | (refine Below.trans ?_ (Below.mono (by assumption) (by first | (simp; done) | (simp; omega) | omega))))))).1
    go_region_law (first | (refine step_concat (n := 0) (m := L.length) rfl _ _ _ (by rfl) slU8 rfl HO.out rfl HS1a.out (oneCell_vals _) (by first | omega | (simp only [vals, List.length_map]; omega) | (simp; omega)) (by omega) (by simp) ?_; intro b2 c2 w2 hown2 hg2; have hb2 : Below V.heap.size V w2 := below_push (by exact (by repeat (first | (with_reducible exact Below.refl _ _) | (with_reducible assumption) | (with_reducible refine Below.drew ?_) | (with_reducible refine Below.setCell ?_ (by first | (simp; done) | (simp; omega) | omega) _) | (with_reducible refine Below.alloc ?_ (by first | (simp; done) | (simp; omega) | omega) _) | (with_reducible refine below_drewN ?_ _) | (refine Below.trans ?_ (Below.mono (by with_reducible assumption) (by first | (simp; done) | (simp; omega) | omega)))))) HO.out (by simp) (by simp) hg2; simp only [Nat.zero_add, List.nil_append] at hown2 ⊢; have HW2 := Lib.hid hown2; have HS2a := Lib.hid (HS2.out _ hb2).1; clear hown2 hg2) | (refine step_concat (n := L.length) (m := bl.length) rfl _ _ _ (by rfl) slU8 rfl HW2.out rfl HS2a.out (oneCell_vals _) (by first | omega | (simp only [vals, List.length_map]; omega) | (simp; omega)) (by omega) (by have := hb2.size; simp at *; omega) ?_; intro b3 c3 w3 hown3 hg3; have hb3 : Below V.heap.size V w3 := below_push hb2 HW2.out (by simp) (by have := hb2.size; simp at *; omega) hg3; have HW3 := Lib.hid hown3; obtain ⟨x1, x2⟩ := HC1.out _ hb3; clear hown3 hg3))
    all_goals (try go_wp2)
    all_goals
      go_ret
      rw [HRF.out]
      have hw := HW3.out
      rw [vals_app] at hw
      have hy := (BOwn.mk' hw (HY1.out.app HB.out.2)).bb
      rw [HEQ.out] at hy
      exact ⟨rfl, ⟨_, (HV.out.below hb3).disk1 hi hy⟩, (HFV.out.trans (FrS.of_below hb3)).trans ((HV.out.below hb3).ku _ _)⟩
end Go.Proofs.Ytlljfbakpljenaa
