/- Racks: the law's disks; what both racks make of a call. -/
import Derived.Test.YtlljfbakpljenaaRackJ
import Derived.Test.YtlljfbakpljenaaRackK
import Derived.Test.YtlljfbakpljenaaOpenR
import Derived.Test.YtlljfbakpljenaaByteS
namespace Go.Proofs.Ytlljfbakpljenaa
open Go.RowKit Go.Lib
set_option linter.unusedVariables false
set_option maxHeartbeats 4000000 in
set_option maxRecDepth 100000 in
theorem disks_l (D : RackD) (hm : D.upto 4000) (rb db mb : Nat) (w : World) (hr : RackS w rb db D) (hq : RackQ w mb D) :
    Calls Try.prog 24 #[.pointer (some ⟨rb, 0, none⟩), .pointer (some ⟨mb, 0, none⟩)] w fun e w' => e = .returned (.bool true) ∧ Below w.heap.size w w' := by
  have HR := Lib.hid hr
  have HQ := Lib.hid hq
  have HM := Lib.hid hm
  clear hr hq hm
  go_enter Try.func24, Try.ntmps24
  go_wp2_with fail
  go_loopw [5, 6, 7, 8, 9] (fun t5 t6 t7 t8 t9 wr => ∃ k : Nat, k ≤ 5 ∧ t5 = .int .i64 ((k : Int) - 1) ∧ Hid (Below w.heap.size w wr)) (fun t5 _ _ _ _ _ => 5 - (intOf t5 + 1).toNat)
  case atStart => exact ⟨0, by omega, rfl, Lib.hid (Below.refl _ _)⟩
  case round =>
    obtain ⟨k, hk, rfl, HB⟩ := hrel
    by_cases hlt : k < 5
    rotate_left
    · obtain rfl : k = 5 := by omega
      go_wp2_with fail
      go_ret
      exact ⟨rfl, HB.out⟩
    have t1 : decide ((k : Int) - 1 ≤ 3) = true := decide_eq_true (by omega)
    have HR1 := Lib.hid (Read_l D HM.out ((k : Int) - 1) rb db wr (by obtain ⟨a, b, c, h⟩ := HR.out; exact ⟨a, b, c, h.below HB.out⟩))
    have HQ1 := Lib.hid (fun (W : World) (hW : Below wr.heap.size wr W) => rRead_l D ((k : Int) - 1) mb W (by obtain ⟨a, h⟩ := HQ.out; exact ⟨a, (h.below HB.out).below hW⟩))
    generalize readL D ((k : Int) - 1) = l at *
    generalize askD D ((k : Int) - 1) = z at *
    obtain ⟨s, hs⟩ : ∃ s, strOfNums l = s := ⟨_, rfl⟩
    go_wp2_with (first
      | (go_at_call 52; refine HR1.out.mono ?_; go_must (rintro e w1 ⟨v, rfl, hv, hb1⟩; have hcv := (bsl_str hv (Below.refl _ _)); rw [hs] at hcv; have HB1 := Lib.hid hb1; have hvs : ∃ a n c, v = .slice a n c := (by obtain ⟨a, c, e, -⟩ := hv.rd; exact ⟨a, _, c, e⟩); obtain ⟨va, vn, vc, rfl⟩ := hvs; clear HR1 hv hb1))
      | (go_at_call 53; refine (HQ1.out _ HB1.out).mono ?_; go_must (rintro e w2 ⟨⟨u, rfl, hu⟩, rfl⟩; have hcu := (bsl_str hu.sl (Below.refl _ _)); rw [hs] at hcu; have hvs : ∃ a n c, u = .slice a n c := (by obtain ⟨-, a, c, e, -⟩ := hu; exact ⟨a, _, c, e⟩); obtain ⟨ua, un, uc, rfl⟩ := hvs; clear HQ1 hu)))
    go_roundw
    case rel => exact ⟨k + 1, by omega, by simp, Lib.hid (HB.out.trans (HB1.out.mono HB.out.size))⟩
    case measure => simp only [intOf]; omega
/-- The blocks of both racks. -/
def S3 (rb db mb : Nat) (b : Nat) : Prop := b = rb ∨ b = db ∨ b = mb
theorem RackQ.kept {w w' : World} {mb : Nat} {D : RackD} (h : RackQ w mb D) {S : Nat → Prop} (hf : FrS S w w') (hn : ¬ S mb) : RackQ w' mb D := by
  obtain ⟨dv, h⟩ := h; exact ⟨dv, h.kept hf hn⟩
theorem RackS.kept {w w' : World} {rb db : Nat} {D : RackD} (h : RackS w rb db D) {S : Nat → Prop} (hf : FrS S w w') (h1 : ¬ S rb) (h2 : ¬ S db) : RackS w' rb db D := by
  obtain ⟨a, b, c, h⟩ := h; exact ⟨a, b, c, h.kept hf h1 h2⟩
theorem rack_ne {w : World} {rb db mb : Nat} {D D' : RackD} (h : RackS w rb db D) (k : RackQ w mb D') : mb ≠ rb ∧ mb ≠ db := by
  obtain ⟨a, b, c, h⟩ := h
  obtain ⟨d, k⟩ := k
  constructor
  · intro e; subst e
    have := h.rblk.symm.trans k.blk
    simp at this
  · intro e; subst e
    have := h.dblk.symm.trans k.blk
    simp at this
/-- Both racks in one world, and all else as it was in the world V. -/
structure Both (V W : World) (rb db mb : Nat) (D E : RackD) : Prop where
  s : RackS W rb db D
  q : RackQ W mb E
  f : FrS (S3 rb db mb) V W
theorem Both.below {V W W' : World} {rb db mb : Nat} {D E : RackD} (h : Both V W rb db mb D E) (hb : Below W.heap.size W W') : Both V W' rb db mb D E :=
  ⟨h.s.kept (FrS.of_below (S := fun _ => False) hb) id id, h.q.kept (FrS.of_below (S := fun _ => False) hb) id, h.f.trans (FrS.of_below hb)⟩
theorem Both.ofP {V W w' : World} {rb db mb : Nat} {D E D2 : RackD} (h : Both V W rb db mb D E) (hs : RackS w' rb db D2) (hf : FrS (SR rb db) W w') : Both V w' rb db mb D2 E := by
  obtain ⟨n1, n2⟩ := rack_ne h.s h.q
  exact ⟨hs, h.q.kept hf (fun x => by rcases x with x | x <;> omega), h.f.trans (hf.mono (fun b x => Or.elim x (fun x => .inl x) (fun x => .inr (.inl x))))⟩
theorem Both.ofQ {V W w' : World} {rb db mb : Nat} {D E E2 : RackD} (h : Both V W rb db mb D E) (hs : RackQ w' mb E2) (hf : FrS (fun b => b = mb) W w') : Both V w' rb db mb D E2 := by
  obtain ⟨n1, n2⟩ := rack_ne h.s h.q
  exact ⟨h.s.kept hf (fun x => n1 x.symm) (fun x => n2 x.symm), hs, h.f.trans (hf.mono (fun b x => .inr (.inr x)))⟩
section
variable {V W : World} {rb db mb : Nat} {D E : RackD} {f : FuncId} {args : Array Value} {r : Int × RackD}
theorem both_p (h : Both V W rb db mb D E) (hc : Calls Try.prog f args W fun e w' => RkR W rb db r e w') : Calls Try.prog f args W fun e w' => e = .returned (.int .i64 r.1) ∧ Both V w' rb db mb r.2 E :=
  hc.mono fun e w' k => ⟨k.1, h.ofP k.2.1 k.2.2⟩
theorem both_q (h : Both V W rb db mb D E) (hc : Calls Try.prog f args W fun e w' => RqR W mb r e w') : Calls Try.prog f args W fun e w' => e = .returned (.int .i64 r.1) ∧ Both V w' rb db mb D r.2 :=
  hc.mono fun e w' k => ⟨k.1, h.ofQ k.2.1 k.2.2⟩
theorem both_pv {D2 : RackD} (h : Both V W rb db mb D E) (hc : Calls Try.prog f args W fun e w' => RkV W rb db D2 e w') : Calls Try.prog f args W fun e w' => e = .returned (.tuple #[]) ∧ Both V w' rb db mb D2 E :=
  hc.mono fun e w' k => ⟨k.1, h.ofP k.2.1 k.2.2⟩
theorem both_qv {E2 : RackD} (h : Both V W rb db mb D E) (hc : Calls Try.prog f args W fun e w' => RqV W mb E2 e w') : Calls Try.prog f args W fun e w' => e = .returned (.tuple #[]) ∧ Both V w' rb db mb D E2 :=
  hc.mono fun e w' k => ⟨k.1, h.ofQ k.2.1 k.2.2⟩
end
/-- A move makes disks by at most so many bytes longer. -/
theorem upto_mono {D : RackD} {m n : Nat} (h : D.upto m) (hmn : m ≤ n) : D.upto n := ⟨fun i hi => Nat.le_trans (h.1 i hi) hmn, h.2⟩
theorem upto_chg {D : RackD} {m n : Nat} (h : D.upto m) (hmn : m ≤ n) (i : Nat) (x : List Int × List Int) (hx : x.1.length + x.2.length ≤ n) : (chgD D i x).2.upto n := by
  obtain ⟨h1, h2, h3⟩ := h
  unfold chgD
  split
  · exact ⟨fun j hj => Nat.le_trans (h1 j hj) hmn, by simp, by simp⟩
  · refine ⟨fun j hj => ?_, by simp only; omega, by simp only; omega⟩
    unfold RackD.set
    by_cases e : j = i
    · simp only [e, if_true]; exact hx
    · simp only [if_neg e]; exact Nat.le_trans (h1 j hj) hmn
theorem upto_append {D : RackD} {m n : Nat} (h : D.upto m) (disk : Int) (b : List Int) (hmn : m + b.length ≤ n) : (appendD D disk b).2.upto n := by
  unfold appendD
  split
  · exact upto_mono h (by omega)
  · by_cases e : disk.toNat < 3
    · exact upto_chg h (by omega) _ _ (by have := h.1 _ e; simp only [List.length_append]; omega)
    · rename_i hz
      exact absurd (show askD D disk ≠ 0 by unfold askD; split; · omega
                                            · rw [if_pos (by omega)]; omega) hz
theorem upto_sync {D : RackD} {m : Nat} (h : D.upto m) (disk : Int) : (syncD D disk).2.upto m := by
  unfold syncD
  split
  · exact h
  · by_cases e : disk.toNat < 3
    · exact upto_chg h (Nat.le_refl _) _ _ (by have := h.1 _ e; simp only [RackD.all, List.length_append, List.length_nil]; omega)
    · rename_i hz
      exact absurd (show askD D disk ≠ 0 by unfold askD; split; · omega
                                            · rw [if_pos (by omega)]; omega) hz
theorem upto_trim {D : RackD} {m : Nat} (h : D.upto m) (disk n : Int) : (trimD D disk n).2.upto m := by
  unfold trimD
  split
  · exact h
  · split
    · exact h
    · by_cases e : disk.toNat < 3
      · exact upto_chg h (Nat.le_refl _) _ _ (by have := h.1 _ e; simp only [RackD.all, List.length_append, List.length_take, List.length_nil]; omega)
      · rename_i hz _
        exact absurd (show askD D disk ≠ 0 by unfold askD; split; · omega
                                              · rw [if_pos (by omega)]; omega) hz
theorem upto_arm {D : RackD} {m : Nat} (h : D.upto m) (n : Int) (hn : n ≤ 9223372036854775807) : (armD D n).upto m := ⟨h.1, by unfold armD; simp only; omega, by unfold armD; simp only; omega⟩
theorem upto_crash {D : RackD} {m : Nat} (h : D.upto m) (keep : Nat → Int) : (crashD D keep).upto m := by
  refine ⟨fun i hi => ?_, by unfold crashD; simp, by unfold crashD; simp⟩
  have := h.1 i hi
  unfold crashD crashTo
  simp only [if_pos hi, List.length_append, List.length_take, List.length_nil]
  omega
theorem upto_lose {D : RackD} {m : Nat} (h : D.upto m) (disk : Int) : (loseD D disk).upto m := by
  unfold loseD
  split
  · refine ⟨fun j hj => ?_, h.2.1, h.2.2⟩
    unfold RackD.set
    by_cases e : j = disk.toNat
    · simp [e]
    · simp only [if_neg e]; exact h.1 j hj
  · exact h
end Go.Proofs.Ytlljfbakpljenaa
