/- Racks: the reference's Sync: its walk. -/
import Derived.Test.YtlljfbakpljenaaRackE
namespace Go.Proofs.Ytlljfbakpljenaa
open Go.RowKit Go.Lib
set_option linter.unusedVariables false
set_option maxHeartbeats 16000000 in
set_option maxRecDepth 100000 in
theorem rSync_l (D : RackD) (hm : D.upto 4000) (disk : Int) (mb : Nat) (w : World) (hr : RackQ w mb D) :
    Calls Try.prog 11 #[.pointer (some ⟨mb, 0, none⟩), .int .i64 disk] w fun e w' => RqR w mb (syncD D disk) e w' := by
  obtain ⟨dv, hq⟩ := hr
  obtain ⟨hm1, hm2, hm3⟩ := hm
  have HQ := Lib.hid hq
  have HMU := Lib.hid hm1
  obtain ⟨c6, c7⟩ := hq.cells
  have fr6 := hq.free 6
  have fr7 := hq.free 7
  have hmb := hq.lt
  clear hq hm1
  cases hoff : D.off
  rotate_left
  · have HE := Lib.hid (show RqR w mb (syncD D disk) (.returned (.int .i64 101)) w by unfold syncD; rw [askD_off hoff, if_pos (by omega)]; exact ⟨rfl, ⟨_, HQ.out⟩, FrS.refl _ _⟩)
    rw [hoff] at c6
    clear hoff
    go_enter Try.func11, Try.ntmps11
    go_wp2
    go_ret
    exact HE.out
  rw [hoff] at c6
  by_cases hdk : disk < 0 ∨ 3 ≤ disk
  · have HE := Lib.hid (show RqR w mb (syncD D disk) (.returned (.int .i64 2)) w by unfold syncD; rw [askD_arg hoff hdk, if_pos (by omega)]; exact ⟨rfl, ⟨_, HQ.out⟩, FrS.refl _ _⟩)
    clear hoff
    rcases hdk with hdk | hdk
    · have t1 : decide (disk < 0) = true := decide_eq_true hdk
      have t5 : decide (0 ≤ disk) = false := decide_eq_false (by omega)
      clear hdk
      go_enter Try.func11, Try.ntmps11
      go_wp2
      go_ret
      exact HE.out
    · have t1 : decide (disk < 0) = false := decide_eq_false (by omega)
      have t2 : decide (2 < disk) = true := decide_eq_true (by omega)
      have t5 : decide (0 ≤ disk) = true := decide_eq_true (by omega)
      have t6 : decide (disk ≤ 2) = false := decide_eq_false (by omega)
      clear hdk
      go_enter Try.func11, Try.ntmps11
      go_wp2
      go_ret
      exact HE.out
  obtain ⟨i, rfl⟩ : ∃ i : Nat, disk = (i : Int) := ⟨disk.toNat, by omega⟩
  have hi : i < 3 := by omega
  have HASK := Lib.hid (askD_ok hoff hdk)
  have t1 : decide ((i : Int) < 0) = false := decide_eq_false (by omega)
  have t2 : decide (2 < (i : Int)) = false := decide_eq_false (by omega)
  have t3 : decide (2 < i) = false := decide_eq_false (by omega)
  have hid3 := fun W => ixm mb i hi W
  have hin3 := fun W => ixn mb 3 i hi W
  have hz0 : (0 : Int) ≤ (i : Int) := by omega
  have hz3 : (i : Int) < 3 := by omega
  obtain ⟨d0, d3⟩ := HQ.out.dcell hi
  have fri := HQ.out.free i
  have frn := HQ.out.free (3 + i)
  clear hdk hoff
  have HRS := Lib.hid (syncD_ok HASK.out)
  by_cases ha : D.armed = 1
  · have HE := Lib.hid (show RqR w mb (syncD D (i : Int)) (.returned (.int .i64 101)) ((w.setCell ⟨mb, 7, none⟩ (.int .i64 0)).setCell ⟨mb, 6, none⟩ (.bool true)) by
      rw [HRS.out, chgD_one _ _ _ ha]
      exact ⟨rfl, ⟨_, (HQ.out.armed 0).turn true⟩, (HQ.out.ku _ _).trans ((HQ.out.armed 0).ku _ _)⟩)
    rw [ha] at c7
    clear ha
    go_enter Try.func11, Try.ntmps11
    go_wp2
    go_ret
    exact HE.out
  obtain ⟨a1, k1, hdv⟩ : ∃ a c, dv i = .slice a (D.all i).length c := by obtain ⟨-, a, c, e, -⟩ := HQ.out.disk i hi; exact ⟨a, c, e⟩
  rw [hdv] at d0
  have HSA := Lib.hid (show ∀ (W : World) (D1 : RackD), RackR W mb dv D1 → D1.d i = D.d i → RackR (W.setCell ⟨mb, 3 + i, none⟩ (.int .i64 ((D.all i).length : Int))) mb dv (D1.set i (D.all i, [])) from fun W D1 h e => by
    have := h.safe1 hi
    have e2 : D1.all i = D.all i := by unfold RackD.all; rw [e]
    rwa [e2] at this)
  generalize hL : D.all i = L at *
  by_cases hz : D.armed = 0
  · have t8 : decide (0 < D.armed) = false := decide_eq_false (by omega)
    have HRF := Lib.hid (HRS.out.trans (chgD_zero _ _ _ hz))
    clear ha hz
    go_enter Try.func11, Try.ntmps11
    go_wp2
    go_region
    all_goals (try go_wp2)
    all_goals go_ret
    all_goals rw [HRF.out]
    all_goals exact ⟨rfl, ⟨_, (HSA.out _ _ HQ.out rfl).below ((Below.refl _ _).drew)⟩, (HQ.out.ku _ _).trans (FrS.of_below ((Below.refl _ _).drew))⟩
  · have t8 : decide (0 < D.armed) = true := decide_eq_true (by omega)
    have t9 : (D.armed - 1 == 0) = false := beq_eq_false_iff_ne.2 (by omega)
    have HRF := Lib.hid (HRS.out.trans (chgD_two D i (L, []) (by omega)))
    clear ha hz
    go_enter Try.func11, Try.ntmps11
    go_wp2
    go_region
    all_goals (try go_wp2)
    all_goals go_ret
    all_goals rw [HRF.out]
    all_goals exact ⟨rfl, ⟨_, (HSA.out _ _ (HQ.out.armed (D.armed - 1)) rfl).below ((Below.refl _ _).drew)⟩, ((HQ.out.ku _ _).trans ((HQ.out.armed (D.armed - 1)).ku _ _)).trans (FrS.of_below ((Below.refl _ _).drew))⟩
end Go.Proofs.Ytlljfbakpljenaa
