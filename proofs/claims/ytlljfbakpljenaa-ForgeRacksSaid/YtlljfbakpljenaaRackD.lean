/- Racks: Arm, Lose, Read, Crash, Copy, NewRack of the program: walks. -/
import Derived.Test.YtlljfbakpljenaaRackC
namespace Go.Proofs.Ytlljfbakpljenaa
open Go.RowKit Go.Lib
set_option linter.unusedVariables false
def RkV (w : World) (rb db : Nat) (D : RackD) (e : Ending) (w' : World) : Prop := e = .returned (.tuple #[]) ∧ RackS w' rb db D ∧ FrS (SR rb db) w w'
theorem Arm_l (D : RackD) (n : Int) (hn : -9223372036854775808 ≤ n ∧ n ≤ 9223372036854775807) (rb db : Nat) (w : World) (hr : RackS w rb db D) :
    Calls Try.prog 14 #[.pointer (some ⟨rb, 0, none⟩), .int .i64 n] w fun e w' => RkV w rb db (armD D n) e w' := by
  obtain ⟨sv, lv, life, hp⟩ := hr
  have HE := Lib.hid (show ∀ m, m = max 0 n → RkV w rb db (armD D n) (.returned (.tuple #[])) (w.setCell ⟨rb, 1, none⟩ (.int .i64 m)) from fun m hm => by subst hm; exact ⟨rfl, ⟨_, _, _, hp.armed _⟩, hp.ku1 _ _⟩)
  obtain ⟨c0, c1, c2, c3⟩ := hp.cells
  have fr1 := (hp.free 1).1
  have hrb := hp.lt.1
  clear hp
  go_enter Try.func14, Try.ntmps14
  go_wp2
  all_goals
    go_end0
    exact HE.out _ (by omega)
theorem Lose_l (D : RackD) (disk : Int) (rb db : Nat) (w : World) (hr : RackS w rb db D) :
    Calls Try.prog 18 #[.pointer (some ⟨rb, 0, none⟩), .int .i64 disk] w fun e w' => RkV w rb db (loseD D disk) e w' := by
  obtain ⟨sv, lv, life, hp⟩ := hr
  have HP := Lib.hid hp
  obtain ⟨c0, c1, c2, c3⟩ := hp.cells
  have hrb := hp.lt.1; have hdb := hp.lt.2
  clear hp
  by_cases hdk : disk < 0 ∨ 3 ≤ disk
  · have HE := Lib.hid (show RkV w rb db (loseD D disk) (.returned (.tuple #[])) w by unfold loseD; rw [if_neg (by omega)]; exact ⟨rfl, ⟨_, _, _, HP.out⟩, FrS.refl _ _⟩)
    rcases hdk with hdk | hdk
    · have t1 : decide (disk < 0) = true := decide_eq_true hdk
      clear hdk
      go_enter Try.func18, Try.ntmps18
      go_wp2
      go_end0
      exact HE.out
    · have t1 : decide (disk < 0) = false := decide_eq_false (by omega)
      have t2 : decide (3 ≤ disk) = true := decide_eq_true hdk
      clear hdk
      go_enter Try.func18, Try.ntmps18
      go_wp2
      go_end0
      exact HE.out
  obtain ⟨i, rfl⟩ : ∃ i : Nat, disk = (i : Int) := ⟨disk.toNat, by omega⟩
  have hi : i < 3 := by omega
  have t1 : decide ((i : Int) < 0) = false := decide_eq_false (by omega)
  have t2 : decide ((3 : Int) ≤ (i : Int)) = false := decide_eq_false (by omega)
  have t3 : decide (3 ≤ i) = false := decide_eq_false (by omega)
  have hid3 := fun W => ixd db i hi W
  obtain ⟨d0, d1⟩ := HP.out.dcell hi
  have e0 := (HP.out.free (2 * i)).2; have e1 := (HP.out.free (2 * i + 1)).2; have e3 := (HP.out.free 3).1
  have hz0 : (0 : Int) ≤ (i : Int) := by omega
  have hz3 : (i : Int) < 3 := by omega
  have hne := HP.out.ne
  have hn1 : (rb = db) = False := eq_false hne
  have hn2 : (db = rb) = False := eq_false (fun e => hne e.symm)
  have HE := Lib.hid (show ∀ n, RkV w rb db (loseD D (i : Int)) (.returned (.tuple #[])) (((w.setCell ⟨db, 2 * i, none⟩ (.slice none 0 0)).setCell ⟨db, 2 * i + 1, none⟩ (.slice none 0 0)).setCell ⟨rb, 3, none⟩ (.int .i64 n)) from fun n => by
    have hnil : ∀ W, BB W (.slice none 0 0) [] := fun W => (own_nil' W W.heap.size).bb
    have h1 := HP.out.setSafe hi (hnil w)
    have h2 := h1.setLoose hi (hnil _)
    have h3 := h2.live n
    refine ⟨rfl, ⟨put3 sv i (.slice none 0 0), put3 lv i (.slice none 0 0), n, ?_⟩, (((HP.out.ku2 _ _).trans (h1.ku2 _ _)).trans (h2.ku1 _ _))⟩
    · have : loseD D (i : Int) = (D.set i ([], (D.d i).2)).set i (((D.set i ([], (D.d i).2)).d i).1, []) := by
        unfold loseD; rw [if_pos (by omega), Int.toNat_natCast, RackD.set_set]; simp [RackD.set]
      rw [this]; exact h3)
  clear hdk hne
  go_enter Try.func18, Try.ntmps18
  go_wp2
  go_end0
  exact HE.out _
/-- A slice and an error. -/
def RkB (w : World) (l : List Int) (z : Int) (e : Ending) (w' : World) : Prop := ∃ v, e = .returned (.tuple #[v, .int .i64 z]) ∧ BSl w' w'.heap.size v l ∧ Below w.heap.size w w'
def readL (D : RackD) (disk : Int) : List Int := if askD D disk = 0 then D.all disk.toNat else []
theorem Read_l (D : RackD) (hm : D.upto 4000) (disk : Int) (rb db : Nat) (w : World) (hr : RackS w rb db D) :
    Calls Try.prog 52 #[.pointer (some ⟨rb, 0, none⟩), .int .i64 disk] w fun e w' => RkB w (readL D disk) (askD D disk) e w' := by
  obtain ⟨sv, lv, life, hp⟩ := hr
  have HP := Lib.hid hp
  have HM := Lib.hid hm
  obtain ⟨c0, c1, c2, c3⟩ := hp.cells
  have hrb := hp.lt.1; have hdb := hp.lt.2
  clear hp hm
  cases hoff : D.off
  rotate_left
  · have HE := Lib.hid (show RkB w (readL D disk) (askD D disk) (.returned (.tuple #[.slice none 0 0, .int .i64 101])) w by unfold readL; rw [askD_off hoff, if_neg (by omega)]; exact ⟨_, rfl, BSl.nil _ _, Below.refl _ _⟩)
    rw [hoff] at c2
    clear hoff
    go_enter Try.func52, Try.ntmps52
    go_wp2
    go_ret2
    exact HE.out
  rw [hoff] at c2
  by_cases hdk : disk < 0 ∨ 3 ≤ disk
  · have HE := Lib.hid (show RkB w (readL D disk) (askD D disk) (.returned (.tuple #[.slice none 0 0, .int .i64 2])) w by unfold readL; rw [askD_arg hoff hdk, if_neg (by omega)]; exact ⟨_, rfl, BSl.nil _ _, Below.refl _ _⟩)
    clear hoff
    rcases hdk with hdk | hdk
    · have t1 : decide (disk < 0) = true := decide_eq_true hdk
      clear hdk
      go_enter Try.func52, Try.ntmps52
      go_wp2
      go_ret2
      exact HE.out
    · have t1 : decide (disk < 0) = false := decide_eq_false (by omega)
      have t2 : decide (3 ≤ disk) = true := decide_eq_true hdk
      clear hdk
      go_enter Try.func52, Try.ntmps52
      go_wp2
      go_ret2
      exact HE.out
  obtain ⟨i, rfl⟩ : ∃ i : Nat, disk = (i : Int) := ⟨disk.toNat, by omega⟩
  have hi : i < 3 := by omega
  have HASK := Lib.hid (askD_ok hoff hdk)
  have t1 : decide ((i : Int) < 0) = false := decide_eq_false (by omega)
  have t2 : decide ((3 : Int) ≤ (i : Int)) = false := decide_eq_false (by omega)
  have t3 : decide (3 ≤ i) = false := decide_eq_false (by omega)
  have hid3 := fun W => ixd db i hi W
  obtain ⟨d0, d1⟩ := HP.out.dcell hi
  have HAL := Lib.hid (all_l (sv i) (lv i) (D.d i).1 (D.d i).2 (by have := HM.out.1 i hi; omega) (by have := HM.out.1 i hi; omega) w (HP.out.safe i hi).sl (HP.out.loose i hi).sl)
  have HE := Lib.hid (show ∀ v w', BOwn w' w.heap.size v ((D.d i).1 ++ (D.d i).2) → Below w.heap.size w w' → RkB w (readL D (i : Int)) (askD D (i : Int)) (.returned (.tuple #[v, .int .i64 0])) w' from fun v w' h hb => by unfold readL; rw [HASK.out, if_pos rfl, Int.toNat_natCast]; exact ⟨v, rfl, h.sl, hb⟩)
  have hz0 : (0 : Int) ≤ (i : Int) := by omega
  have hz3 : (i : Int) < 3 := by omega
  obtain ⟨s1, n1, k1, e1⟩ : ∃ a n c, sv i = .slice a n c := by obtain ⟨-, a, c, e, -⟩ := HP.out.safe i hi; exact ⟨a, _, c, e⟩
  obtain ⟨s2, n2, k2, e2⟩ : ∃ a n c, lv i = .slice a n c := by obtain ⟨-, a, c, e, -⟩ := HP.out.loose i hi; exact ⟨a, _, c, e⟩
  rw [e1] at d0 HAL; rw [e2] at d1 HAL
  clear hdk hoff e1 e2
  go_enter Try.func52, Try.ntmps52
  go_wp2_with (first | (go_at_call 48; refine HAL.out.mono ?_; go_must (rintro e w1 ⟨⟨v, rfl, hown⟩, hb1⟩; have HO := Lib.hid hown; clear hown)) | (go_at_call 42; go_in) | (go_at_call 22; go_in) | (go_at_call 50; go_in))
  go_ret2
  exact HE.out _ _ HO.out hb1
end Go.Proofs.Ytlljfbakpljenaa
