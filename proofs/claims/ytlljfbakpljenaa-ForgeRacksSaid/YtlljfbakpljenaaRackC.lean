/- Racks: Append, Sync, Trim of the program: walks. -/
import Derived.Test.YtlljfbakpljenaaRackB
namespace Go.Proofs.Ytlljfbakpljenaa
open Go.RowKit Go.Lib
set_option linter.unusedVariables false
def RkR (w : World) (rb db : Nat) (r : Int × RackD) (e : Ending) (w' : World) : Prop := e = .returned (.int .i64 r.1) ∧ RackS w' rb db r.2 ∧ FrS (SR rb db) w w'
theorem chgD_one (D : RackD) (i : Nat) (x : List Int × List Int) (h : D.armed = 1) : chgD D i x = (101, { D with armed := 0, off := true }) := by unfold chgD; rw [if_pos h]
theorem chgD_no (D : RackD) (i : Nat) (x : List Int × List Int) (h : ¬ D.armed = 1) : chgD D i x = (0, { D.set i x with armed := max (D.armed - 1) 0 }) := by unfold chgD; rw [if_neg h]
theorem appendD_ok {D : RackD} {i : Nat} {b : List Int} (h : askD D (i : Int) = 0) : appendD D (i : Int) b = chgD D i ((D.d i).1, (D.d i).2 ++ b) := by unfold appendD; rw [h, if_neg (by omega), Int.toNat_natCast]
set_option maxHeartbeats 16000000 in
set_option maxRecDepth 100000 in
theorem Append_l (D : RackD) (hm : D.upto 4000) (disk : Int) (bl : List Int) (hbl : bl.length ≤ 100) (bv : Value) (rb db : Nat) (w : World) (hr : RackS w rb db D) (B0 : Nat) (hB1 : B0 ≤ rb) (hB2 : B0 ≤ db) (hb : BSl w B0 bv bl) :
    Calls Try.prog 8 #[.pointer (some ⟨rb, 0, none⟩), .int .i64 disk, bv] w fun e w' => RkR w rb db (appendD D disk bl) e w' := by
  have HB0 := Lib.hid hb
  obtain ⟨ba, bc, rfl, -⟩ := hb.rd
  clear hb
  obtain ⟨sv, lv, life, hp⟩ := hr
  obtain ⟨hm1, hm2, hm3⟩ := hm
  obtain ⟨W0, hW0⟩ : ∃ W : World, w.alloc (Obj.cells #[.slice ba bl.length bc] 27) = W := ⟨_, rfl⟩
  have kw0 : Below w.heap.size w W0 := by rw [← hW0]; exact (by repeat (first | exact Below.refl _ _ | assumption | (refine Below.drew ?_) | (refine below_drewN ?_ _) | (refine Below.alloc ?_ (by first | (simp; done) | (simp; omega) | omega) _) | (refine Below.setCell ?_ (by first | (simp; done) | (simp; omega) | omega) _) | (refine Below.trans ?_ (Below.mono (by assumption) (by first | (simp; done) | (simp; omega) | omega)))))
  have ks0 : W0.heap.size = w.heap.size + 1 := by rw [← hW0]; simp
  have RD0 := Lib.hid (show ∀ V, Below W0.heap.size W0 V → V.cell? ⟨w.heap.size, 0, none⟩ = some (.slice ba bl.length bc) from fun V h => by
      refine (h.cell (p := ⟨w.heap.size, 0, none⟩) (by simp; omega)).trans ?_; subst hW0; go_simp)
  have HW0 := Lib.hid hW0; have KW0 := Lib.hid kw0; clear hW0 kw0
  have HP0 := Lib.hid (hp.below KW0.out)
  have HMU := Lib.hid hm1
  have HF0 := Lib.hid (FrS.of_below (S := SR rb db) KW0.out)
  have hrb := hp.lt.1
  have hdb := hp.lt.2
  clear hp hm1
  obtain ⟨c0, c1, c2, c3⟩ := HP0.out.cells
  have fr1 := (HP0.out.free 1).1
  have fr2 := (HP0.out.free 2).1
  cases hoff : D.off
  rotate_left
  · have HE := Lib.hid (show RkR w rb db (appendD D disk bl) (.returned (.int .i64 101)) W0 by unfold appendD; rw [askD_off hoff, if_pos (by omega)]; exact ⟨rfl, ⟨_, _, _, HP0.out⟩, HF0.out⟩)
    rw [hoff] at c2
    clear hoff
    go_enter Try.func8, Try.ntmps8
    go_wp2_with fail
    rw [HW0.out]
    go_wp2
    go_ret
    exact HE.out
  have HOFF := Lib.hid hoff
  rw [hoff] at c2
  by_cases hdk : disk < 0 ∨ 3 ≤ disk
  · have HE := Lib.hid (show RkR w rb db (appendD D disk bl) (.returned (.int .i64 2)) W0 by unfold appendD; rw [askD_arg hoff hdk, if_pos (by omega)]; exact ⟨rfl, ⟨_, _, _, HP0.out⟩, HF0.out⟩)
    clear hoff
    rcases hdk with hdk | hdk
    · have t1 : decide (disk < 0) = true := decide_eq_true hdk
      clear hdk
      go_enter Try.func8, Try.ntmps8
      go_wp2_with fail
      rw [HW0.out]
      go_wp2
      go_ret
      exact HE.out
    · have t1 : decide (disk < 0) = false := decide_eq_false (by omega)
      have t2 : decide (3 ≤ disk) = true := decide_eq_true hdk
      clear hdk
      go_enter Try.func8, Try.ntmps8
      go_wp2_with fail
      rw [HW0.out]
      go_wp2
      go_ret
      exact HE.out
  obtain ⟨i, rfl⟩ : ∃ i : Nat, disk = (i : Int) := ⟨disk.toNat, by omega⟩
  have hi : i < 3 := by omega
  have HASK := Lib.hid (askD_ok hoff hdk)
  have t1 : decide ((i : Int) < 0) = false := decide_eq_false (by omega)
  have t2 : decide ((3 : Int) ≤ (i : Int)) = false := decide_eq_false (by omega)
  have t3 : decide (3 ≤ i) = false := decide_eq_false (by omega)
  have hid3 := fun W => ixd db i hi W
  have hz0 : (0 : Int) ≤ (i : Int) := by omega
  have hz3 : (i : Int) < 3 := by omega
  clear hdk hoff
  have HRS := Lib.hid (appendD_ok (b := bl) HASK.out)
  by_cases ha : D.armed = 1
  · have HE := Lib.hid (show RkR w rb db (appendD D (i : Int) bl) (.returned (.int .i64 101)) ((W0.setCell ⟨rb, 1, none⟩ (.int .i64 0)).setCell ⟨rb, 2, none⟩ (.bool true)) by
      rw [HRS.out, chgD_one _ _ _ ha]
      exact ⟨rfl, ⟨_, _, _, (HP0.out.armed 0).turn true⟩, (HF0.out.trans (HP0.out.ku1 _ _)).trans ((HP0.out.armed 0).ku1 _ _)⟩)
    rw [ha] at c1
    clear ha
    go_enter Try.func8, Try.ntmps8
    go_wp2_with fail
    rw [HW0.out]
    go_wp2
    go_ret
    exact HE.out
  have HFV0 := HF0
  have HRS2 := Lib.hid (HRS.out.trans (chgD_no _ _ _ ha))
  have e1 : (D.armed - 1 == 0) = false := beq_eq_false_iff_ne.2 (by omega)
  have e2 : D.armed ≠ 1 := ha
  clear ha
  have K0 := Below.refl W0.heap.size W0
  have k0_0 := RD0.out _ K0
  go_enter Try.func8, Try.ntmps8
  go_wp2_with fail
  rw [HW0.out]
  go_wp2
  · skip
    refine forgetW (fun V => RackP V rb db sv lv life { D with armed := max (D.armed - 1) 0 } ∧ FrS (SR rb db) W0 V) (by
      refine ⟨?_, ?_⟩
      · first
          | (rw [show max (D.armed - 1) 0 = 0 by omega]; exact (HP0.out.armed _).armed 0)
          | (rw [show max (D.armed - 1) 0 = D.armed - 1 by omega]; exact (HP0.out.armed _).armed _)
      · exact (HP0.out.ku1 _ _).trans ((HP0.out.armed _).ku1 _ _)) ?_
    rintro V ⟨hpv, hfv⟩
    have v1 := (hpv.dcell hi).2
    have fv := (hpv.free (2 * i + 1)).2
    have v2 := (hfv.cell (show w.heap.size < W0.heap.size by omega) (by rintro (h | h) <;> omega)).trans k0_0
    have hdv := hpv.lt.2
    have hsv := hfv.size
    have HBB := Lib.hid (hpv.loose i hi)
    obtain ⟨la, lc, hlv, -⟩ := HBB.out.sl.rd
    have hlo := HMU.out i hi
    simp only [hlv] at v1
    have HC := Lib.hid (fun (W : World) (kb : Below V.heap.size V W) (ab : Nat) (hab : ab < W.heap.size) (c0 : W.cell? ⟨ab, 0, none⟩ = some (.slice la (D.d i).2.length lc)) (c1 : W.cell? ⟨ab, 1, none⟩ = some (.slice ba bl.length bc)) => have hkb := kb.size; concat2_l ab (.slice la (D.d i).2.length lc) (.slice ba bl.length bc) (D.d i).2 bl (by omega) (by omega) W hab c0 c1 ((hlv ▸ (HBB.out.sl.kept kb)).mono (by omega)) ((HB0.out.kept (((HFV0.out.trans hfv).below (by omega) (by rintro b (h | h) <;> omega)).trans (kb.mono (by omega)))).mono (by omega)))
    have HV1 := Lib.hid (fun (W : World) (kb : Below V.heap.size V W) => And.intro ((kb.cell (p := ⟨db, 2 * i + 1, none⟩) hdv).trans v1) (And.intro ((kb.cell (p := ⟨w.heap.size, 0, none⟩) (show w.heap.size < V.heap.size by omega)).trans v2) ((kb.frozen (p := ⟨db, 2 * i + 1, none⟩) hdv).trans fv)))
    have HPV := Lib.hid hpv; have HFV := Lib.hid hfv
    clear c0 c1 c2 c3 fr1 fr2 k0_0 hpv hfv hlo hlv
    go_region_with (first | (go_at_call 45; refine (HC.out _ (by exact (by repeat (first | (with_reducible exact Below.refl _ _) | (with_reducible assumption) | (with_reducible refine Below.drew ?_) | (with_reducible refine Below.setCell ?_ (by first | (simp; done) | (simp; omega) | omega) _) | (with_reducible refine Below.alloc ?_ (by first | (simp; done) | (simp; omega) | omega) _) | (with_reducible refine below_drewN ?_ _) | (refine Below.trans ?_ (Below.mono (by with_reducible assumption) (by first | (simp; done) | (simp; omega) | omega)))))) _ (by simp) (by go_simp) (by go_simp)).mono ?_; go_must (rintro e w1 ⟨⟨v, rfl, hown⟩, hb1⟩; have hb2 : Below V.heap.size V w1 := (by exact (by repeat (first | (with_reducible exact Below.refl _ _) | (with_reducible assumption) | (with_reducible refine Below.drew ?_) | (with_reducible refine Below.setCell ?_ (by first | (simp; done) | (simp; omega) | omega) _) | (with_reducible refine Below.alloc ?_ (by first | (simp; done) | (simp; omega) | omega) _) | (with_reducible refine below_drewN ?_ _) | (refine Below.trans ?_ (Below.mono (by with_reducible assumption) (by first | (simp; done) | (simp; omega) | omega)))))); obtain ⟨va, vc, rfl, -⟩ := hown.bb.sl.rd; have HO := Lib.hid hown; have HB := Lib.hid hb2; have f1 : w1.frozen? ⟨db, 2 * i + 1, none⟩ = false := (HV1.out _ hb2).2.2; have e1 := (HV1.out _ hb2).1; have e2 := (HV1.out _ hb2).2.1; clear hown hb1 HC)))
    all_goals (try go_wp2)
    all_goals (try go_wp2)
    all_goals
      go_end0
      go_wp2
      go_ret
      rw [HRS2.out]
      exact ⟨rfl, ⟨_, _, _, (HPV.out.below HB.out).setLoose hi (by have hh := HO.out.bb; rwa [List.length_append] at hh)⟩, ((HFV0.out.trans HFV.out).trans (FrS.of_below HB.out)).trans ((HPV.out.below HB.out).ku2 _ _)⟩
  · skip
    refine forgetW (fun V => RackP V rb db sv lv life { D with armed := max (D.armed - 1) 0 } ∧ FrS (SR rb db) W0 V) (by
      refine ⟨?_, ?_⟩
      · first
          | (rw [show max (D.armed - 1) 0 = 0 by omega]; exact (HP0.out.armed _).armed 0)
          | (rw [show max (D.armed - 1) 0 = D.armed - 1 by omega]; exact (HP0.out.armed _).armed _)
      · exact (HP0.out.ku1 _ _).trans ((HP0.out.armed _).ku1 _ _)) ?_
    rintro V ⟨hpv, hfv⟩
    have v1 := (hpv.dcell hi).2
    have fv := (hpv.free (2 * i + 1)).2
    have v2 := (hfv.cell (show w.heap.size < W0.heap.size by omega) (by rintro (h | h) <;> omega)).trans k0_0
    have hdv := hpv.lt.2
    have hsv := hfv.size
    have HBB := Lib.hid (hpv.loose i hi)
    obtain ⟨la, lc, hlv, -⟩ := HBB.out.sl.rd
    have hlo := HMU.out i hi
    simp only [hlv] at v1
    have HC := Lib.hid (fun (W : World) (kb : Below V.heap.size V W) (ab : Nat) (hab : ab < W.heap.size) (c0 : W.cell? ⟨ab, 0, none⟩ = some (.slice la (D.d i).2.length lc)) (c1 : W.cell? ⟨ab, 1, none⟩ = some (.slice ba bl.length bc)) => have hkb := kb.size; concat2_l ab (.slice la (D.d i).2.length lc) (.slice ba bl.length bc) (D.d i).2 bl (by omega) (by omega) W hab c0 c1 ((hlv ▸ (HBB.out.sl.kept kb)).mono (by omega)) ((HB0.out.kept (((HFV0.out.trans hfv).below (by omega) (by rintro b (h | h) <;> omega)).trans (kb.mono (by omega)))).mono (by omega)))
    have HV1 := Lib.hid (fun (W : World) (kb : Below V.heap.size V W) => And.intro ((kb.cell (p := ⟨db, 2 * i + 1, none⟩) hdv).trans v1) (And.intro ((kb.cell (p := ⟨w.heap.size, 0, none⟩) (show w.heap.size < V.heap.size by omega)).trans v2) ((kb.frozen (p := ⟨db, 2 * i + 1, none⟩) hdv).trans fv)))
    have HPV := Lib.hid hpv; have HFV := Lib.hid hfv
    clear c0 c1 c2 c3 fr1 fr2 k0_0 hpv hfv hlo hlv
    go_region_with (first | (go_at_call 45; refine (HC.out _ (by exact (by repeat (first | (with_reducible exact Below.refl _ _) | (with_reducible assumption) | (with_reducible refine Below.drew ?_) | (with_reducible refine Below.setCell ?_ (by first | (simp; done) | (simp; omega) | omega) _) | (with_reducible refine Below.alloc ?_ (by first | (simp; done) | (simp; omega) | omega) _) | (with_reducible refine below_drewN ?_ _) | (refine Below.trans ?_ (Below.mono (by with_reducible assumption) (by first | (simp; done) | (simp; omega) | omega)))))) _ (by simp) (by go_simp) (by go_simp)).mono ?_; go_must (rintro e w1 ⟨⟨v, rfl, hown⟩, hb1⟩; have hb2 : Below V.heap.size V w1 := (by exact (by repeat (first | (with_reducible exact Below.refl _ _) | (with_reducible assumption) | (with_reducible refine Below.drew ?_) | (with_reducible refine Below.setCell ?_ (by first | (simp; done) | (simp; omega) | omega) _) | (with_reducible refine Below.alloc ?_ (by first | (simp; done) | (simp; omega) | omega) _) | (with_reducible refine below_drewN ?_ _) | (refine Below.trans ?_ (Below.mono (by with_reducible assumption) (by first | (simp; done) | (simp; omega) | omega)))))); obtain ⟨va, vc, rfl, -⟩ := hown.bb.sl.rd; have HO := Lib.hid hown; have HB := Lib.hid hb2; have f1 : w1.frozen? ⟨db, 2 * i + 1, none⟩ = false := (HV1.out _ hb2).2.2; have e1 := (HV1.out _ hb2).1; have e2 := (HV1.out _ hb2).2.1; clear hown hb1 HC)))
    all_goals (try go_wp2)
    all_goals (try go_wp2)
    all_goals
      go_end0
      go_wp2
      go_ret
      rw [HRS2.out]
      exact ⟨rfl, ⟨_, _, _, (HPV.out.below HB.out).setLoose hi (by have hh := HO.out.bb; rwa [List.length_append] at hh)⟩, ((HFV0.out.trans HFV.out).trans (FrS.of_below HB.out)).trans ((HPV.out.below HB.out).ku2 _ _)⟩
theorem syncD_ok {D : RackD} {i : Nat} (h : askD D (i : Int) = 0) : syncD D (i : Int) = chgD D i (D.all i, []) := by unfold syncD; rw [h, if_neg (by omega), Int.toNat_natCast]
theorem bb_nil (w : World) : BB w (.slice none 0 0) [] := (own_nil' w 0).bb
def Clo (w : World) (rb db : Nat) (D : RackD) (e : Ending) (w' : World) : Prop := e = .returned (.tuple #[]) ∧ RackS w' rb db D ∧ FrS (SR rb db) w w'
theorem Clo.after {w W w' : World} {rb db : Nat} {D : RackD} {e : Ending} (h : Clo W rb db D e w') (f : FrS (SR rb db) w W) : Clo w rb db D e w' := ⟨h.1, h.2.1, f.trans h.2.2⟩
theorem RackD.set_all (D : RackD) (i : Nat) : ((D.set i (D.all i, (D.d i).2)).d i).1 = D.all i := by simp [RackD.set]
set_option maxHeartbeats 16000000 in
set_option maxRecDepth 100000 in
theorem Sync1_l (D : RackD) (i : Nat) (hi : i < 3) (hlo : (D.d i).1.length + (D.d i).2.length ≤ 4000) (rb db : Nat) (sv lv : Nat → Value) (life : Int) (w : World) (hpv : RackP w rb db sv lv life D) :
    Calls Try.prog 47 #[.pointer (some ⟨db, 2 * i, none⟩)] w fun e w' => Clo w rb db (D.set i (D.all i, [])) e w' := by
  have v0 := (hpv.dcell hi).1
  have v1 := (hpv.dcell hi).2
  have fv0 := (hpv.free (2 * i)).2
  have fv1 := (hpv.free (2 * i + 1)).2
  have hdv := hpv.lt.2
  obtain ⟨sa, sc, hsv, -⟩ := (hpv.safe i hi).sl.rd
  obtain ⟨la, lc, hlv, -⟩ := (hpv.loose i hi).sl.rd
  have hal := all_l (sv i) (lv i) (D.d i).1 (D.d i).2 (by omega) (by omega) w (hpv.safe i hi).sl (hpv.loose i hi).sl
  rw [hsv, hlv] at hal
  have HAL := Lib.hid hal
  rw [hsv] at v0
  rw [hlv] at v1
  have HPV := Lib.hid hpv
  clear hpv hlo hlv hsv hal
  go_enter Try.func47, Try.ntmps47
  go_wp2_with (go_at_call 48; refine HAL.out.mono ?_; go_must (rintro e w1 ⟨⟨v, rfl, hown⟩, hb1⟩; obtain ⟨va, vc, rfl, -⟩ := hown.bb.sl.rd; have HO := Lib.hid hown; have HB := Lib.hid hb1; have x0 := (hb1.cell (p := ⟨db, 2 * i, none⟩) hdv).trans v0; have x1 := (hb1.cell (p := ⟨db, 2 * i + 1, none⟩) hdv).trans v1; have f0 := (hb1.frozen (p := ⟨db, 2 * i, none⟩) hdv).trans fv0; have f1 := (hb1.frozen (p := ⟨db, 2 * i + 1, none⟩) hdv).trans fv1; clear hown hb1))
  go_end0
  have hbb := HO.out.bb
  rw [List.length_append] at hbb
  have HP1 := (HPV.out.below HB.out).setSafe hi hbb
  have HP2 := HP1.setLoose (v := .slice none 0 0) (l := []) hi (bb_nil _)
  rw [RackD.set_set] at HP2
  have e9 := RackD.set_all D i
  unfold RackD.all at e9
  rw [e9] at HP2
  exact ⟨rfl, ⟨_, _, _, HP2⟩, ((FrS.of_below HB.out).trans ((HPV.out.below HB.out).ku2 _ _)).trans (HP1.ku2 _ _)⟩
theorem chgD_in (D : RackD) (i : Nat) (x : List Int × List Int) (a : Int) : { D.set i x with armed := a } = ({ D with armed := a } : RackD).set i x := rfl
set_option maxHeartbeats 16000000 in
set_option maxRecDepth 100000 in
theorem Sync_l (D : RackD) (hm : D.upto 4000) (disk : Int) (rb db : Nat) (w : World) (hr : RackS w rb db D) :
    Calls Try.prog 10 #[.pointer (some ⟨rb, 0, none⟩), .int .i64 disk] w fun e w' => RkR w rb db (syncD D disk) e w' := by
  obtain ⟨sv, lv, life, hp⟩ := hr
  obtain ⟨hm1, hm2, hm3⟩ := hm
  obtain ⟨W0, hW0⟩ : ∃ W : World, w = W := ⟨_, rfl⟩
  have KW0 := Lib.hid (show Below w.heap.size w W0 by rw [← hW0]; exact Below.refl _ _)
  have ks0 : W0.heap.size = w.heap.size := by rw [← hW0]
  have HW0 := Lib.hid hW0
  clear hW0
  have HP0 := Lib.hid (hp.below KW0.out)
  have HMU := Lib.hid hm1
  have HF0 := Lib.hid (FrS.of_below (S := SR rb db) KW0.out)
  have hrb := hp.lt.1
  have hdb := hp.lt.2
  clear hp hm1
  obtain ⟨c0, c1, c2, c3⟩ := HP0.out.cells
  have fr1 := (HP0.out.free 1).1
  have fr2 := (HP0.out.free 2).1
  cases hoff : D.off
  rotate_left
  · have HE := Lib.hid (show RkR w rb db (syncD D disk) (.returned (.int .i64 101)) W0 by unfold syncD; rw [askD_off hoff, if_pos (by omega)]; exact ⟨rfl, ⟨_, _, _, HP0.out⟩, HF0.out⟩)
    rw [hoff] at c2
    clear hoff
    go_enter Try.func10, Try.ntmps10
    go_wp2_with fail
    rw [HW0.out]
    go_wp2
    go_ret
    exact HE.out
  have HOFF := Lib.hid hoff
  rw [hoff] at c2
  by_cases hdk : disk < 0 ∨ 3 ≤ disk
  · have HE := Lib.hid (show RkR w rb db (syncD D disk) (.returned (.int .i64 2)) W0 by unfold syncD; rw [askD_arg hoff hdk, if_pos (by omega)]; exact ⟨rfl, ⟨_, _, _, HP0.out⟩, HF0.out⟩)
    clear hoff
    rcases hdk with hdk | hdk
    · have t1 : decide (disk < 0) = true := decide_eq_true hdk
      clear hdk
      go_enter Try.func10, Try.ntmps10
      go_wp2_with fail
      rw [HW0.out]
      go_wp2
      go_ret
      exact HE.out
    · have t1 : decide (disk < 0) = false := decide_eq_false (by omega)
      have t2 : decide (3 ≤ disk) = true := decide_eq_true hdk
      clear hdk
      go_enter Try.func10, Try.ntmps10
      go_wp2_with fail
      rw [HW0.out]
      go_wp2
      go_ret
      exact HE.out
  obtain ⟨i, rfl⟩ : ∃ i : Nat, disk = (i : Int) := ⟨disk.toNat, by omega⟩
  have hi : i < 3 := by omega
  have HASK := Lib.hid (askD_ok hoff hdk)
  have t1 : decide ((i : Int) < 0) = false := decide_eq_false (by omega)
  have t2 : decide ((3 : Int) ≤ (i : Int)) = false := decide_eq_false (by omega)
  have t3 : decide (3 ≤ i) = false := decide_eq_false (by omega)
  have hid3 := fun W => ixd db i hi W
  have hz0 : (0 : Int) ≤ (i : Int) := by omega
  have hz3 : (i : Int) < 3 := by omega
  clear hdk hoff
  have HRS := Lib.hid (syncD_ok HASK.out)
  by_cases ha : D.armed = 1
  · have HE := Lib.hid (show RkR w rb db (syncD D (i : Int)) (.returned (.int .i64 101)) ((W0.setCell ⟨rb, 1, none⟩ (.int .i64 0)).setCell ⟨rb, 2, none⟩ (.bool true)) by
      rw [HRS.out, chgD_one _ _ _ ha]
      exact ⟨rfl, ⟨_, _, _, (HP0.out.armed 0).turn true⟩, (HF0.out.trans (HP0.out.ku1 _ _)).trans ((HP0.out.armed 0).ku1 _ _)⟩)
    rw [ha] at c1
    clear ha
    go_enter Try.func10, Try.ntmps10
    go_wp2_with fail
    rw [HW0.out]
    go_wp2
    go_ret
    exact HE.out
  have HFV0 := HF0
  have HRS2 := Lib.hid (HRS.out.trans (chgD_no _ _ _ ha))
  have e1 : (D.armed - 1 == 0) = false := beq_eq_false_iff_ne.2 (by omega)
  have e2 : D.armed ≠ 1 := ha
  clear ha
  have HCL := Lib.hid (fun (W : World) (hp : RackP W rb db sv lv life { D with armed := max (D.armed - 1) 0 }) (hf : FrS (SR rb db) w W) => (Sync1_l { D with armed := max (D.armed - 1) 0 } i hi (HMU.out i hi) rb db sv lv life W hp).mono (fun e w' h => (⟨h.1, h.2.1, hf.trans h.2.2⟩ : Clo w rb db _ e w')))
  go_enter Try.func10, Try.ntmps10
  go_wp2_with fail
  rw [HW0.out]
  go_wp2_with (first | (go_at_call 47; refine (HCL.out _ (by first | (rw [show max (D.armed - 1) 0 = 0 by omega]; exact (HP0.out.armed _).armed 0) | (rw [show max (D.armed - 1) 0 = D.armed - 1 by omega]; exact (HP0.out.armed _).armed _)) (HF0.out.trans ((HP0.out.ku1 _ _).trans ((HP0.out.armed _).ku1 _ _)))).mono ?_; go_must (rintro e w1 ⟨rfl, hrs, hf⟩; have HR1 := Lib.hid hrs; have HF1 := Lib.hid hf; clear hrs hf)) | (go_at_call 42; go_in) | (go_at_call 22; go_in) | (go_at_call 50; go_in) | (go_at_call 43; go_in))
  all_goals
    go_ret
    rw [HRS2.out]
    exact ⟨rfl, HR1.out, HF1.out⟩
theorem trimD_arg {D : RackD} {i : Nat} {n : Int} (h : askD D (i : Int) = 0) (hn : n < 0 ∨ ((D.all i).length : Int) < n) : trimD D (i : Int) n = (2, D) := by unfold trimD; rw [h, if_neg (by omega), Int.toNat_natCast, if_pos hn]
theorem trimD_ok {D : RackD} {i n : Nat} (h : askD D (i : Int) = 0) (hn : ¬ (((D.all i).length : Int) < (n : Int))) : trimD D (i : Int) (n : Int) = chgD D i ((D.all i).take n, []) := by unfold trimD; rw [h, if_neg (by omega), Int.toNat_natCast, Int.toNat_natCast, if_neg (by omega)]
set_option maxHeartbeats 16000000 in
set_option maxRecDepth 100000 in
theorem Trim1_l (D : RackD) (i : Nat) (hi : i < 3) (ab nb : Nat) (av : Value) (l : List Int) (n : Nat) (hn : n ≤ l.length) (rb db : Nat) (sv lv : Nat → Value) (life : Int) (w : World) (hpv : RackP w rb db sv lv life D) (ha : w.cell? ⟨ab, 0, none⟩ = some av) (hnb : w.cell? ⟨nb, 0, none⟩ = some (.int .i64 (n : Int))) (hav : BB w av l) :
    Calls Try.prog 49 #[.pointer (some ⟨db, 2 * i, none⟩), .pointer (some ⟨ab, 0, none⟩), .pointer (some ⟨nb, 0, none⟩)] w fun e w' => Clo w rb db (D.set i (l.take n, [])) e w' := by
  have v0 := (hpv.dcell hi).1
  have v1 := (hpv.dcell hi).2
  have fv0 := (hpv.free (2 * i)).2
  have fv1 := (hpv.free (2 * i + 1)).2
  obtain ⟨ct, cc, hcut, hbt⟩ := bb_cut hav n hn
  have HCUT := Lib.hid hcut
  have HBT := Lib.hid hbt
  have HPV := Lib.hid hpv
  clear hpv hav hbt
  go_enter Try.func49, Try.ntmps49
  go_wp2_with fail
  go_end0
  have HP1 := HPV.out.setSafe hi HBT.out
  have HP2 := HP1.setLoose (v := .slice none 0 0) (l := []) hi (bb_nil _)
  rw [RackD.set_set] at HP2
  have e9 : ((D.set i (l.take n, (D.d i).2)).d i).1 = l.take n := by simp [RackD.set]
  rw [e9] at HP2
  exact ⟨rfl, ⟨_, _, _, HP2⟩, (HPV.out.ku2 _ _).trans (HP1.ku2 _ _)⟩
theorem rk_armed2 {w W0 V : World} {rb db : Nat} {sv lv : Nat → Value} {life : Int} {D : RackD} (hp : RackP W0 rb db sv lv life D) (hf : FrS (SR rb db) w W0) (hb : Below W0.heap.size W0 V) (a b : Int) :
    RackP ((V.setCell ⟨rb, 1, none⟩ (.int .i64 a)).setCell ⟨rb, 1, none⟩ (.int .i64 b)) rb db sv lv life { D with armed := b } ∧ FrS (SR rb db) w ((V.setCell ⟨rb, 1, none⟩ (.int .i64 a)).setCell ⟨rb, 1, none⟩ (.int .i64 b)) ∧ KU V ((V.setCell ⟨rb, 1, none⟩ (.int .i64 a)).setCell ⟨rb, 1, none⟩ (.int .i64 b)) :=
  have hv := hp.below hb
  have hk := (hv.ku1 1 (.int .i64 a)).trans ((hv.armed a).ku1 1 (.int .i64 b))
  ⟨(hv.armed a).armed b, (hf.trans (FrS.of_below hb)).trans hk, hk.ku⟩
theorem rk_off2 {w W0 V : World} {rb db : Nat} {sv lv : Nat → Value} {life : Int} {D : RackD} (hp : RackP W0 rb db sv lv life D) (hf : FrS (SR rb db) w W0) (hb : Below W0.heap.size W0 V) :
    RackS ((V.setCell ⟨rb, 1, none⟩ (.int .i64 0)).setCell ⟨rb, 2, none⟩ (.bool true)) rb db { D with armed := 0, off := true } ∧ FrS (SR rb db) w ((V.setCell ⟨rb, 1, none⟩ (.int .i64 0)).setCell ⟨rb, 2, none⟩ (.bool true)) :=
  have hv := hp.below hb
  ⟨⟨_, _, _, (hv.armed 0).turn true⟩, (hf.trans (FrS.of_below hb)).trans ((hv.ku1 1 (.int .i64 0)).trans ((hv.armed 0).ku1 2 (.bool true)))⟩
set_option maxHeartbeats 16000000 in
set_option maxRecDepth 100000 in
theorem Trim_l (D : RackD) (hm : D.upto 4000) (disk n : Int) (rb db : Nat) (w : World) (hr : RackS w rb db D) :
    Calls Try.prog 12 #[.pointer (some ⟨rb, 0, none⟩), .int .i64 disk, .int .i64 n] w fun e w' => RkR w rb db (trimD D disk n) e w' := by
  obtain ⟨sv, lv, life, hp⟩ := hr
  obtain ⟨hm1, hm2, hm3⟩ := hm
  obtain ⟨W0, hW0⟩ : ∃ W : World, w.alloc (Obj.cells #[.int .i64 n] 3) = W := ⟨_, rfl⟩
  have kw0 : Below w.heap.size w W0 := by rw [← hW0]; exact (by repeat (first | exact Below.refl _ _ | assumption | (refine Below.drew ?_) | (refine below_drewN ?_ _) | (refine Below.alloc ?_ (by first | (simp; done) | (simp; omega) | omega) _) | (refine Below.setCell ?_ (by first | (simp; done) | (simp; omega) | omega) _) | (refine Below.trans ?_ (Below.mono (by assumption) (by first | (simp; done) | (simp; omega) | omega)))))
  have ks0 : W0.heap.size = w.heap.size + 1 := by rw [← hW0]; simp
  have RD0 := Lib.hid (show ∀ V, Below W0.heap.size W0 V → V.cell? ⟨w.heap.size, 0, none⟩ = some (.int .i64 n) from fun V h => by
      refine (h.cell (p := ⟨w.heap.size, 0, none⟩) (by simp; omega)).trans ?_; subst hW0; go_simp)
  have HW0 := Lib.hid hW0; have KW0 := Lib.hid kw0; clear hW0 kw0
  have HP0 := Lib.hid (hp.below KW0.out)
  have HMU := Lib.hid hm1
  have HF0 := Lib.hid (FrS.of_below (S := SR rb db) KW0.out)
  have hrb := hp.lt.1
  have hdb := hp.lt.2
  clear hp hm1
  obtain ⟨c0, c1, c2, c3⟩ := HP0.out.cells
  have fr1 := (HP0.out.free 1).1
  have fr2 := (HP0.out.free 2).1
  cases hoff : D.off
  rotate_left
  · have HE := Lib.hid (show RkR w rb db (trimD D disk n) (.returned (.int .i64 101)) W0 by unfold trimD; rw [askD_off hoff, if_pos (by omega)]; exact ⟨rfl, ⟨_, _, _, HP0.out⟩, HF0.out⟩)
    rw [hoff] at c2
    clear hoff
    go_enter Try.func12, Try.ntmps12
    go_wp2_with fail
    rw [HW0.out]
    go_wp2
    go_ret
    exact HE.out
  have HOFF := Lib.hid hoff
  rw [hoff] at c2
  by_cases hdk : disk < 0 ∨ 3 ≤ disk
  · have HE := Lib.hid (show RkR w rb db (trimD D disk n) (.returned (.int .i64 2)) W0 by unfold trimD; rw [askD_arg hoff hdk, if_pos (by omega)]; exact ⟨rfl, ⟨_, _, _, HP0.out⟩, HF0.out⟩)
    clear hoff
    rcases hdk with hdk | hdk
    · have t1 : decide (disk < 0) = true := decide_eq_true hdk
      clear hdk
      go_enter Try.func12, Try.ntmps12
      go_wp2_with fail
      rw [HW0.out]
      go_wp2
      go_ret
      exact HE.out
    · have t1 : decide (disk < 0) = false := decide_eq_false (by omega)
      have t2 : decide (3 ≤ disk) = true := decide_eq_true hdk
      clear hdk
      go_enter Try.func12, Try.ntmps12
      go_wp2_with fail
      rw [HW0.out]
      go_wp2
      go_ret
      exact HE.out
  obtain ⟨i, rfl⟩ : ∃ i : Nat, disk = (i : Int) := ⟨disk.toNat, by omega⟩
  have hi : i < 3 := by omega
  have HASK := Lib.hid (askD_ok hoff hdk)
  have t1 : decide ((i : Int) < 0) = false := decide_eq_false (by omega)
  have t2 : decide ((3 : Int) ≤ (i : Int)) = false := decide_eq_false (by omega)
  have t3 : decide (3 ≤ i) = false := decide_eq_false (by omega)
  have hid3 := fun W => ixd db i hi W
  have hz0 : (0 : Int) ≤ (i : Int) := by omega
  have hz3 : (i : Int) < 3 := by omega
  clear hdk hoff
  have K0 := Below.refl W0.heap.size W0
  have k0_0 := RD0.out _ K0
  have v0 := (HP0.out.dcell hi).1
  have v1 := (HP0.out.dcell hi).2
  have hrW : rb < W0.heap.size := HP0.out.lt.1
  have hwW : w.heap.size < W0.heap.size := by omega
  obtain ⟨sa, sc, hsv, -⟩ := (HP0.out.safe i hi).sl.rd
  obtain ⟨la, lc, hlv, -⟩ := (HP0.out.loose i hi).sl.rd
  have hal := all_l (sv i) (lv i) (D.d i).1 (D.d i).2 (by have := HMU.out i hi; omega) (by have := HMU.out i hi; omega) W0 (HP0.out.safe i hi).sl (HP0.out.loose i hi).sl
  rw [hsv, hlv] at hal
  have HAL := Lib.hid hal
  rw [hsv] at v0
  rw [hlv] at v1
  clear hal hsv hlv K0
  by_cases hn : n < 0 ∨ ((D.all i).length : Int) < n
  · have HR2 := Lib.hid (trimD_arg HASK.out hn)
    unfold RackD.all at hn
    have q0 : (decide (n < 0) = true) ∨ (decide (n < 0) = false ∧ decide (((D.d i).1.length : Int) + ((D.d i).2.length : Int) < n) = true) := by
      rw [List.length_append] at hn
      by_cases h : n < 0
      · exact .inl (decide_eq_true h)
      · exact .inr ⟨decide_eq_false h, decide_eq_true (by omega)⟩
    clear hn
    rcases q0 with q1 | ⟨q1, q2⟩
    all_goals
      go_enter Try.func12, Try.ntmps12
      go_wp2_with fail
      rw [HW0.out]
      go_wp2_with (first | (go_at_call 48; refine HAL.out.mono ?_; go_must (rintro e w1 ⟨⟨v, rfl, hown⟩, hb1⟩; obtain ⟨va, vc, rfl, -⟩ := hown.bb.sl.rd; have HO := Lib.hid hown; have HB := Lib.hid hb1; have hs1 := hb1.size; have hz1 : w.heap.size < w1.heap.size := (by omega); have hz2 : rb < w1.heap.size := (by omega); have hz3 : db < w1.heap.size := (by omega); have kk := (hb1.cell (p := ⟨w.heap.size, 0, none⟩) hwW).trans k0_0; have g0 := (hb1.cell (p := ⟨rb, 0, none⟩) hrW).trans c0; have g1 := (hb1.cell (p := ⟨rb, 1, none⟩) hrW).trans c1; have g2 := (hb1.cell (p := ⟨rb, 2, none⟩) hrW).trans c2; have gf1 := (hb1.frozen (p := ⟨rb, 1, none⟩) hrW).trans fr1; have gf2 := (hb1.frozen (p := ⟨rb, 2, none⟩) hrW).trans fr2; clear hown hb1 hs1)) | (go_at_call 49; refine (HCL.out w1 _ _ _ HB.out rfl (by omega) (by have hh := HO.out.bb; rwa [List.length_append] at hh) (by go_simp) (by go_simp)).mono ?_; go_must (rintro e w2 ⟨rfl, hrs, hf⟩; have HR1 := Lib.hid hrs; have HF1 := Lib.hid hf; clear hrs hf)) | (go_at_call 42; go_in) | (go_at_call 22; go_in) | (go_at_call 50; go_in) | (go_at_call 43; go_in))
      go_ret
      rw [HR2.out]
      exact ⟨rfl, ⟨_, _, _, HP0.out.below (by first | (have := HB.out; exact (by repeat (first | exact Below.refl _ _ | assumption | (refine Below.drew ?_) | (refine below_drewN ?_ _) | (refine Below.alloc ?_ (by first | (simp; done) | (simp; omega) | omega) _) | (refine Below.setCell ?_ (by first | (simp; done) | (simp; omega) | omega) _) | (refine Below.trans ?_ (Below.mono (by assumption) (by first | (simp; done) | (simp; omega) | omega)))))))⟩, HF0.out.trans (FrS.of_below (by first | (have := HB.out; exact (by repeat (first | exact Below.refl _ _ | assumption | (refine Below.drew ?_) | (refine below_drewN ?_ _) | (refine Below.alloc ?_ (by first | (simp; done) | (simp; omega) | omega) _) | (refine Below.setCell ?_ (by first | (simp; done) | (simp; omega) | omega) _) | (refine Below.trans ?_ (Below.mono (by assumption) (by first | (simp; done) | (simp; omega) | omega))))))))⟩
  have hn1 : decide (n < 0) = false := decide_eq_false (by omega)
  obtain ⟨nn, rfl⟩ : ∃ nn : Nat, n = (nn : Int) := ⟨n.toNat, by omega⟩
  have hn2 : ¬ (((D.all i).length : Int) < (nn : Int)) := by omega
  have HRS := Lib.hid (trimD_ok HASK.out hn2)
  unfold RackD.all at hn2
  have hn3 : decide (((D.d i).1.length : Int) + ((D.d i).2.length : Int) < (nn : Int)) = false := decide_eq_false (by rw [List.length_append] at hn2; omega)
  by_cases ha : D.armed = 1
  · have HE := Lib.hid (show ∀ V o, Below W0.heap.size W0 V → RkR w rb db (trimD D (i : Int) (nn : Int)) (.returned (.int .i64 101)) (((V.setCell ⟨rb, 1, none⟩ (.int .i64 0)).setCell ⟨rb, 2, none⟩ (.bool true)).alloc o) by
      intro V o hV
      rw [HRS.out, chgD_one _ _ _ ha]
      obtain ⟨⟨a1, a2, a3, x1⟩, x2⟩ := rk_off2 HP0.out HF0.out hV
      have hal := (Below.refl _ ((V.setCell ⟨rb, 1, none⟩ (.int .i64 0)).setCell ⟨rb, 2, none⟩ (.bool true))).alloc (Nat.le_refl _) o
      exact ⟨rfl, ⟨a1, a2, a3, x1.below hal⟩, x2.trans (FrS.of_below hal)⟩)
    rw [ha] at c1
    clear ha hn hn2
    go_enter Try.func12, Try.ntmps12
    go_wp2_with fail
    rw [HW0.out]
    go_wp2_with (first | (go_at_call 48; refine HAL.out.mono ?_; go_must (rintro e w1 ⟨⟨v, rfl, hown⟩, hb1⟩; obtain ⟨va, vc, rfl, -⟩ := hown.bb.sl.rd; have HO := Lib.hid hown; have HB := Lib.hid hb1; have hs1 := hb1.size; have hz1 : w.heap.size < w1.heap.size := (by omega); have hz2 : rb < w1.heap.size := (by omega); have hz3 : db < w1.heap.size := (by omega); have kk := (hb1.cell (p := ⟨w.heap.size, 0, none⟩) hwW).trans k0_0; have g0 := (hb1.cell (p := ⟨rb, 0, none⟩) hrW).trans c0; have g1 := (hb1.cell (p := ⟨rb, 1, none⟩) hrW).trans c1; have g2 := (hb1.cell (p := ⟨rb, 2, none⟩) hrW).trans c2; have gf1 := (hb1.frozen (p := ⟨rb, 1, none⟩) hrW).trans fr1; have gf2 := (hb1.frozen (p := ⟨rb, 2, none⟩) hrW).trans fr2; clear hown hb1 hs1)) | (go_at_call 49; refine (HCL.out w1 _ _ _ HB.out rfl (by omega) (by have hh := HO.out.bb; rwa [List.length_append] at hh) (by go_simp) (by go_simp)).mono ?_; go_must (rintro e w2 ⟨rfl, hrs, hf⟩; have HR1 := Lib.hid hrs; have HF1 := Lib.hid hf; clear hrs hf)) | (go_at_call 42; go_in) | (go_at_call 22; go_in) | (go_at_call 50; go_in) | (go_at_call 43; go_in))
    go_ret
    exact HE.out _ _ HB.out
  have HRS2 := Lib.hid (HRS.out.trans (chgD_no _ _ _ ha))
  have e1 : (D.armed - 1 == 0) = false := beq_eq_false_iff_ne.2 (by omega)
  have e2 : D.armed ≠ 1 := ha
  have HCL := Lib.hid (fun (V W : World) (b : Int) (o : Obj) (hb : Below W0.heap.size W0 V) (hW : W = ((V.setCell ⟨rb, 1, none⟩ (.int .i64 (D.armed - 1))).setCell ⟨rb, 1, none⟩ (.int .i64 b)).alloc o) (hbm : b = max (D.armed - 1) 0) {ab : Nat} {av : Value} (hav : BB V av ((D.d i).1 ++ (D.d i).2)) (h1 : W.cell? ⟨ab, 0, none⟩ = some av) (h2 : W.cell? ⟨w.heap.size, 0, none⟩ = some (.int .i64 (nn : Int))) => (show Calls Try.prog 49 #[.pointer (some ⟨db, 2 * i, none⟩), .pointer (some ⟨ab, 0, none⟩), .pointer (some ⟨w.heap.size, 0, none⟩)] W (fun e w' => Clo w rb db ({ D with armed := max (D.armed - 1) 0 }.set i (((D.d i).1 ++ (D.d i).2).take nn, [])) e w') by
    subst hW
    obtain ⟨x1, x2, x3⟩ := rk_armed2 HP0.out HF0.out hb (D.armed - 1) b
    subst hbm
    have hal := (Below.refl _ ((V.setCell ⟨rb, 1, none⟩ (.int .i64 (D.armed - 1))).setCell ⟨rb, 1, none⟩ (.int .i64 (max (D.armed - 1) 0)))).alloc (Nat.le_refl _) o
    exact (Trim1_l { D with armed := max (D.armed - 1) 0 } i hi ab w.heap.size av ((D.d i).1 ++ (D.d i).2) nn (by omega) rb db sv lv life _ (x1.below hal) h1 h2 ((hav.kept x3).kept (KU.of_below hal))).mono (fun e w' h => Clo.after h (x2.trans (FrS.of_below hal)))))
  clear ha hn hn2
  go_enter Try.func12, Try.ntmps12
  go_wp2_with fail
  rw [HW0.out]
  go_wp2_with (first | (go_at_call 48; refine HAL.out.mono ?_; go_must (rintro e w1 ⟨⟨v, rfl, hown⟩, hb1⟩; obtain ⟨va, vc, rfl, -⟩ := hown.bb.sl.rd; have HO := Lib.hid hown; have HB := Lib.hid hb1; have hs1 := hb1.size; have hz1 : w.heap.size < w1.heap.size := (by omega); have hz2 : rb < w1.heap.size := (by omega); have hz3 : db < w1.heap.size := (by omega); have kk := (hb1.cell (p := ⟨w.heap.size, 0, none⟩) hwW).trans k0_0; have g0 := (hb1.cell (p := ⟨rb, 0, none⟩) hrW).trans c0; have g1 := (hb1.cell (p := ⟨rb, 1, none⟩) hrW).trans c1; have g2 := (hb1.cell (p := ⟨rb, 2, none⟩) hrW).trans c2; have gf1 := (hb1.frozen (p := ⟨rb, 1, none⟩) hrW).trans fr1; have gf2 := (hb1.frozen (p := ⟨rb, 2, none⟩) hrW).trans fr2; clear hown hb1 hs1)) | (go_at_call 49; refine (HCL.out w1 _ _ _ HB.out rfl (by omega) (by have hh := HO.out.bb; rwa [List.length_append] at hh) (by go_simp) (by go_simp)).mono ?_; go_must (rintro e w2 ⟨rfl, hrs, hf⟩; have HR1 := Lib.hid hrs; have HF1 := Lib.hid hf; clear hrs hf)) | (go_at_call 42; go_in) | (go_at_call 22; go_in) | (go_at_call 50; go_in) | (go_at_call 43; go_in))
  all_goals
    go_ret
    rw [HRS2.out]
    exact ⟨rfl, HR1.out, HF1.out⟩
end Go.Proofs.Ytlljfbakpljenaa
