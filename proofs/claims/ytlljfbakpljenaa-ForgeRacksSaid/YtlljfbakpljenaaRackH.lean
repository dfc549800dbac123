/- Racks: the reference's Arm, Lose, Read, Down, Copy: walks. -/
import Derived.Test.YtlljfbakpljenaaRackG
import Derived.Test.YtlljfbakpljenaaRackD
namespace Go.Proofs.Ytlljfbakpljenaa
open Go.RowKit Go.Lib
set_option linter.unusedVariables false
def RqV (w : World) (mb : Nat) (D : RackD) (e : Ending) (w' : World) : Prop := e = .returned (.tuple #[]) ∧ RackQ w' mb D ∧ FrS (fun b => b = mb) w w'
theorem rArm_l (D : RackD) (n : Int) (hn : -9223372036854775808 ≤ n ∧ n ≤ 9223372036854775807) (mb : Nat) (w : World) (hr : RackQ w mb D) :
    Calls Try.prog 15 #[.pointer (some ⟨mb, 0, none⟩), .int .i64 n] w fun e w' => RqV w mb (armD D n) e w' := by
  obtain ⟨dv, hp⟩ := hr
  have HE := Lib.hid (show ∀ m, m = max 0 n → RqV w mb (armD D n) (.returned (.tuple #[])) (w.setCell ⟨mb, 7, none⟩ (.int .i64 m)) from fun m hm => by subst hm; exact ⟨rfl, ⟨_, hp.armed _⟩, hp.ku _ _⟩)
  obtain ⟨c6, c7⟩ := hp.cells
  have fr7 := hp.free 7
  have hmb := hp.lt
  clear hp
  go_enter Try.func15, Try.ntmps15
  go_wp2
  all_goals
    go_end0
    exact HE.out _ (by omega)
theorem rDown_l (D : RackD) (mb : Nat) (w : World) (hr : RackQ w mb D) :
    Calls Try.prog 23 #[.pointer (some ⟨mb, 0, none⟩)] w fun e w' => e = .returned (.bool D.off) ∧ w = w' := by
  obtain ⟨dv, hp⟩ := hr
  obtain ⟨c6, c7⟩ := hp.cells
  have hmb := hp.lt
  clear hp
  go_enter Try.func23, Try.ntmps23
  go_wp2
  go_ret
  exact ⟨rfl, rfl⟩
theorem RackR.disk3 {w : World} {mb : Nat} {dv : Nat → Value} {D : RackD} (h : RackR w mb dv D) {i : Nat} (hi : i < 3) {v : Value} {s l : List Int} (hv : BB w v (s ++ l)) : RackR ((w.setCell ⟨mb, 3 + i, none⟩ (.int .i64 (s.length : Int))).setCell ⟨mb, i, none⟩ v) mb (put3 dv i v) (D.set i (s, l)) := by
  have hb1 : (w.setCell ⟨mb, 3 + i, none⟩ (.int .i64 (s.length : Int))).heap[mb]? = _ := heap_setCell_same w mb (3 + i) _ _ (.int .i64 (s.length : Int)) h.blk
  have hk : KU w ((w.setCell ⟨mb, 3 + i, none⟩ (.int .i64 (s.length : Int))).setCell ⟨mb, i, none⟩ v) := (h.ku (3 + i) (.int .i64 (s.length : Int))).ku.trans (FrS.set (S := fun b => b = mb) rfl hb1 (by decide)).ku
  refine ⟨?_, fun j hj => ?_⟩
  · rw [heap_setCell_same _ mb _ _ _ _ hb1]
    rcases i3 hi with rfl | rfl | rfl <;> rfl
  · unfold put3 RackD.all RackD.set
    by_cases e : j = i
    · subst e; simp only [if_true]; exact hv.kept hk
    · simp only [if_neg e]; exact (h.disk j hj).kept hk
theorem FrS.set2 {mb : Nat} {w : World} {dv : Nat → Value} {D : RackD} (h : RackR w mb dv D) (o p : Nat) (u v : Value) : FrS (fun b => b = mb) w ((w.setCell ⟨mb, o, none⟩ u).setCell ⟨mb, p, none⟩ v) := by
  have hb1 : (w.setCell ⟨mb, o, none⟩ u).heap[mb]? = _ := heap_setCell_same w mb o _ _ u h.blk
  exact (h.ku o u).trans (FrS.set (S := fun b => b = mb) rfl hb1 (by decide))
theorem rLose_l (D : RackD) (disk : Int) (mb : Nat) (w : World) (hr : RackQ w mb D) :
    Calls Try.prog 19 #[.pointer (some ⟨mb, 0, none⟩), .int .i64 disk] w fun e w' => RqV w mb (loseD D disk) e w' := by
  obtain ⟨dv, hq⟩ := hr
  have HQ := Lib.hid hq
  have hmb := hq.lt
  clear hq
  by_cases hdk : disk < 0 ∨ 3 ≤ disk
  · have HE := Lib.hid (show RqV w mb (loseD D disk) (.returned (.tuple #[])) w by unfold loseD; rw [if_neg (by omega)]; exact ⟨rfl, ⟨_, HQ.out⟩, FrS.refl _ _⟩)
    rcases hdk with hdk | hdk
    · have t5 : decide (0 ≤ disk) = false := decide_eq_false (by omega)
      clear hdk
      go_enter Try.func19, Try.ntmps19
      go_wp2
      go_end0
      exact HE.out
    · have t5 : decide (0 ≤ disk) = true := decide_eq_true (by omega)
      have t6 : decide (disk ≤ 2) = false := decide_eq_false (by omega)
      clear hdk
      go_enter Try.func19, Try.ntmps19
      go_wp2
      go_end0
      exact HE.out
  obtain ⟨i, rfl⟩ : ∃ i : Nat, disk = (i : Int) := ⟨disk.toNat, by omega⟩
  have hi : i < 3 := by omega
  have t2 : decide ((i : Int) ≤ 2) = true := decide_eq_true (by omega)
  have hid3 := fun W => ixm mb i hi W
  have hin3 := fun W => ixn mb 3 i hi W
  have hz0 : (0 : Int) ≤ (i : Int) := by omega
  have hz3 : (i : Int) < 3 := by omega
  obtain ⟨d0, d3⟩ := HQ.out.dcell hi
  have fri := HQ.out.free i
  have frn := HQ.out.free (3 + i)
  have HRL := Lib.hid (show loseD D (i : Int) = D.set i ([], []) by unfold loseD; rw [if_pos (by omega), Int.toNat_natCast])
  clear hdk
  go_enter Try.func19, Try.ntmps19
  go_wp2
  go_region
  all_goals (try go_wp2)
  all_goals go_end0
  all_goals rw [HRL.out]
  all_goals first
    | exact ⟨rfl, ⟨_, (HQ.out.disk2 (v := .slice none 0 0) (s := []) (l := []) hi (bb_nil _)).below ((Below.refl _ _).drew)⟩, (FrS.set2 HQ.out _ _ _ _).trans (FrS.of_below ((Below.refl _ _).drew))⟩
    | exact ⟨rfl, ⟨_, (HQ.out.disk3 (v := .slice none 0 0) (s := []) (l := []) hi (bb_nil _)).below ((Below.refl _ _).drew)⟩, (FrS.set2 HQ.out _ _ _ _).trans (FrS.of_below ((Below.refl _ _).drew))⟩
/-- A slice of bytes that stay, and an error. -/
theorem rRead_l (D : RackD) (disk : Int) (mb : Nat) (w : World) (hr : RackQ w mb D) :
    Calls Try.prog 53 #[.pointer (some ⟨mb, 0, none⟩), .int .i64 disk] w fun e w' => (∃ v, e = .returned (.tuple #[v, .int .i64 (askD D disk)]) ∧ BB w' v (readL D disk)) ∧ w = w' := by
  obtain ⟨dv, hq⟩ := hr
  have HQ := Lib.hid hq
  obtain ⟨c6, c7⟩ := hq.cells
  have hmb := hq.lt
  clear hq
  cases hoff : D.off
  rotate_left
  · have HE := Lib.hid (show askD D disk = 101 ∧ readL D disk = [] by unfold readL; rw [askD_off hoff, if_neg (by omega)]; exact ⟨rfl, rfl⟩)
    rw [hoff] at c6
    clear hoff
    go_enter Try.func53, Try.ntmps53
    go_wp2
    go_ret2
    rw [HE.out.1, HE.out.2]
    exact ⟨⟨_, rfl, bb_nil _⟩, rfl⟩
  rw [hoff] at c6
  by_cases hdk : disk < 0 ∨ 3 ≤ disk
  · have HE := Lib.hid (show askD D disk = 2 ∧ readL D disk = [] by unfold readL; rw [askD_arg hoff hdk, if_neg (by omega)]; exact ⟨rfl, rfl⟩)
    clear hoff
    rcases hdk with hdk | hdk
    · have t1 : decide (disk < 0) = true := decide_eq_true hdk
      clear hdk
      go_enter Try.func53, Try.ntmps53
      go_wp2
      go_ret2
      rw [HE.out.1, HE.out.2]
      exact ⟨⟨_, rfl, bb_nil _⟩, rfl⟩
    · have t1 : decide (disk < 0) = false := decide_eq_false (by omega)
      have t2 : decide (2 < disk) = true := decide_eq_true (by omega)
      clear hdk
      go_enter Try.func53, Try.ntmps53
      go_wp2
      go_ret2
      rw [HE.out.1, HE.out.2]
      exact ⟨⟨_, rfl, bb_nil _⟩, rfl⟩
  obtain ⟨i, rfl⟩ : ∃ i : Nat, disk = (i : Int) := ⟨disk.toNat, by omega⟩
  have hi : i < 3 := by omega
  have HE := Lib.hid (show askD D (i : Int) = 0 ∧ readL D (i : Int) = D.all i by unfold readL; rw [askD_ok hoff hdk, if_pos rfl, Int.toNat_natCast]; exact ⟨rfl, rfl⟩)
  have t1 : decide ((i : Int) < 0) = false := decide_eq_false (by omega)
  have t2 : decide (2 < (i : Int)) = false := decide_eq_false (by omega)
  have t3 : decide (2 < i) = false := decide_eq_false (by omega)
  have hid3 := fun W => ixm mb i hi W
  have hz0 : (0 : Int) ≤ (i : Int) := by omega
  have hz3 : (i : Int) < 3 := by omega
  obtain ⟨d0, d3⟩ := HQ.out.dcell hi
  clear hdk hoff
  go_enter Try.func53, Try.ntmps53
  go_wp2
  go_ret2
  rw [HE.out.1, HE.out.2]
  exact ⟨⟨_, rfl, HQ.out.disk i hi⟩, rfl⟩
theorem alloc_at (w : World) (o : Obj) : (w.alloc o).heap[w.heap.size]? = some o := by unfold World.alloc; simp
theorem rCopy_l (D : RackD) (mb : Nat) (w : World) (hr : RackQ w mb D) :
    Calls Try.prog 21 #[.pointer (some ⟨mb, 0, none⟩)] w fun e w' => ∃ m2, e = .returned (.pointer (some ⟨m2, 0, none⟩)) ∧ w.heap.size ≤ m2 ∧ RackQ w' m2 D ∧ Below w.heap.size w w' := by
  obtain ⟨dv, hq⟩ := hr
  have HQ := Lib.hid hq
  obtain ⟨c6, c7⟩ := hq.cells
  obtain ⟨d0, e0⟩ := hq.dcell (i := 0) (by omega)
  obtain ⟨d1, e1⟩ := hq.dcell (i := 1) (by omega)
  obtain ⟨d2, e2⟩ := hq.dcell (i := 2) (by omega)
  have hmb := hq.lt
  obtain ⟨a0, k0, h0⟩ : ∃ a c, dv 0 = .slice a (D.all 0).length c := by obtain ⟨-, a, c, e, -⟩ := hq.disk 0 (by omega); exact ⟨a, c, e⟩
  obtain ⟨a1, k1, h1⟩ : ∃ a c, dv 1 = .slice a (D.all 1).length c := by obtain ⟨-, a, c, e, -⟩ := hq.disk 1 (by omega); exact ⟨a, c, e⟩
  obtain ⟨a2, k2, h2⟩ : ∃ a c, dv 2 = .slice a (D.all 2).length c := by obtain ⟨-, a, c, e, -⟩ := hq.disk 2 (by omega); exact ⟨a, c, e⟩
  rw [h0] at d0
  rw [h1] at d1
  rw [h2] at d2
  have HBB := Lib.hid (show ∀ W o, W = w.alloc o → ∀ i, i < 3 → BB W (dv i) (D.all i) from fun W o hW i hi => hW ▸ (hq.disk i hi).kept (KU.of_below ((Below.refl _ _).alloc (Nat.le_refl _) o)))
  have H0 := Lib.hid h0
  have H1 := Lib.hid h1
  have H2 := Lib.hid h2
  clear hq h0 h1 h2
  go_enter Try.func21, Try.ntmps21
  go_wp2
  go_ret
  refine ⟨_, rfl, Nat.le_refl _, ⟨dv, ?_, HBB.out _ _ rfl⟩, (Below.refl _ _).alloc (Nat.le_refl _) _⟩
  rw [H0.out, H1.out, H2.out]
  exact alloc_at w _
end Go.Proofs.Ytlljfbakpljenaa
