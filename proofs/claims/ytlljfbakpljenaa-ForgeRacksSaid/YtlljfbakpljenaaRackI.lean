/- Racks: the reference's Trim: its walk. -/
import Derived.Test.YtlljfbakpljenaaRackH
namespace Go.Proofs.Ytlljfbakpljenaa
open Go.RowKit Go.Lib
set_option linter.unusedVariables false
theorem bown_mk2 {w : World} {B n c : Nat} {b : Option Addr} {l : List Int} (h : w.ownsRow B 5 1 (.slice b n c) n (vals l)) (hl : l.length = n) (hy : Byts l) : BOwn w B (.slice b n c) l := by
  subst hl; exact BOwn.mk' h hy
theorem trimD_off {D : RackD} (h : D.off = true) (disk n : Int) : trimD D disk n = (101, D) := by unfold trimD; rw [askD_off h, if_pos (by omega)]
theorem trimD_bad {D : RackD} (h : D.off = false) {disk : Int} (n : Int) (hd : disk < 0 ∨ 3 ≤ disk) : trimD D disk n = (2, D) := by unfold trimD; rw [askD_arg h hd, if_pos (by omega)]
set_option maxHeartbeats 16000000 in
set_option maxRecDepth 100000 in
theorem rTrim_l (D : RackD) (hm : D.upto 4000) (disk n : Int) (mb : Nat) (w : World) (hr : RackQ w mb D) :
    Calls Try.prog 13 #[.pointer (some ⟨mb, 0, none⟩), .int .i64 disk, .int .i64 n] w fun e w' => RqR w mb (trimD D disk n) e w' := by
  obtain ⟨dv, hq⟩ := hr
  obtain ⟨hm1, hm2, hm3⟩ := hm
  have HQ := Lib.hid hq
  have HMU := Lib.hid hm1
  obtain ⟨c6, c7⟩ := hq.cells
  have fr6 := hq.free 6
  have fr7 := hq.free 7
  have hmb := hq.lt
  clear hq hm1
  by_cases hdk : disk < 0 ∨ 3 ≤ disk
  · have HE := Lib.hid (show ∀ z, z = (if D.off = true then 101 else 2) → RqR w mb (trimD D disk n) (.returned (.int .i64 z)) w by
      intro z hz
      cases hoff : D.off
      · rw [hoff] at hz; rw [trimD_bad hoff n hdk]; exact ⟨by rw [hz]; rfl, ⟨_, HQ.out⟩, FrS.refl _ _⟩
      · rw [hoff] at hz; rw [trimD_off hoff]; exact ⟨by rw [hz]; rfl, ⟨_, HQ.out⟩, FrS.refl _ _⟩)
    rcases hdk with hdk | hdk
    · have t1 : decide (disk < 0) = true := decide_eq_true hdk
      have t5 : decide (0 ≤ disk) = false := decide_eq_false (by omega)
      clear hdk
      cases hoff : D.off
      all_goals
        rw [hoff] at c6 HE
        clear hoff
        go_enter Try.func13, Try.ntmps13
        go_wp2
        go_ret
        exact HE.out _ rfl
    · have t1 : decide (disk < 0) = false := decide_eq_false (by omega)
      have t2 : decide (2 < disk) = true := decide_eq_true (by omega)
      have t5 : decide (0 ≤ disk) = true := decide_eq_true (by omega)
      have t6 : decide (disk ≤ 2) = false := decide_eq_false (by omega)
      clear hdk
      cases hoff : D.off
      all_goals
        rw [hoff] at c6 HE
        clear hoff
        go_enter Try.func13, Try.ntmps13
        go_wp2
        go_ret
        exact HE.out _ rfl
  obtain ⟨i, rfl⟩ : ∃ i : Nat, disk = (i : Int) := ⟨disk.toNat, by omega⟩
  have hi : i < 3 := by omega
  have hnd : ∀ n, D.off = false → n < 0 ∨ ((D.all i).length : Int) < n → trimD D (i : Int) n = (2, D) := fun n h hn => trimD_arg (askD_ok h hdk) hn
  have t1 : decide ((i : Int) < 0) = false := decide_eq_false (by omega)
  have t2 : decide (2 < (i : Int)) = false := decide_eq_false (by omega)
  have t3 : decide (2 < i) = false := decide_eq_false (by omega)
  have t6 : decide ((i : Int) ≤ 2) = true := decide_eq_true (by omega)
  have t7 : decide (i ≤ 2) = true := decide_eq_true (by omega)
  have hid3 := fun W => ixm mb i hi W
  have hin3 := fun W => ixn mb 3 i hi W
  have hz0 : (0 : Int) ≤ (i : Int) := by omega
  have hz3 : (i : Int) < 3 := by omega
  have hz4 : (i : Int) ≤ 2 := by omega
  obtain ⟨d0, d3⟩ := HQ.out.dcell hi
  have fri := HQ.out.free i
  have frn := HQ.out.free (3 + i)
  obtain ⟨a1, k1, hdv⟩ : ∃ a c, dv i = .slice a (D.all i).length c := by obtain ⟨-, a, c, e, -⟩ := HQ.out.disk i hi; exact ⟨a, c, e⟩
  rw [hdv] at d0
  have hl2 : (D.all i).length ≤ 4000 := by unfold RackD.all; rw [List.length_append]; exact HMU.out i hi
  by_cases hn : n < 0 ∨ ((D.all i).length : Int) < n
  · have HE := Lib.hid (show ∀ z, z = (if D.off = true then 101 else 2) → RqR w mb (trimD D (i : Int) n) (.returned (.int .i64 z)) w by
      intro z hz
      cases hoff : D.off
      · rw [hoff] at hz; rw [hnd n hoff hn]; exact ⟨by rw [hz]; rfl, ⟨_, HQ.out⟩, FrS.refl _ _⟩
      · rw [hoff] at hz; rw [trimD_off hoff]; exact ⟨by rw [hz]; rfl, ⟨_, HQ.out⟩, FrS.refl _ _⟩)
    obtain ⟨L, hL⟩ : ∃ L, (D.all i).length = L := ⟨_, rfl⟩
    rw [hL] at d0 hn hl2
    clear hnd hdk hdv hL
    rcases hn with hn | hn
    · have u1 : decide (0 ≤ n) = false := decide_eq_false (by omega)
      clear hn
      cases hoff : D.off
      all_goals
        rw [hoff] at c6 HE
        clear hoff
        go_enter Try.func13, Try.ntmps13
        go_wp2
        go_ret
        exact HE.out _ rfl
    · have u1 : decide (0 ≤ n) = true := decide_eq_true (by omega)
      have u2 : decide (n ≤ (L : Int)) = false := decide_eq_false (by omega)
      clear hn
      cases hoff : D.off
      all_goals
        rw [hoff] at c6 HE
        clear hoff
        go_enter Try.func13, Try.ntmps13
        go_wp2
        go_ret
        exact HE.out _ rfl
  obtain ⟨nn, rfl⟩ : ∃ nn : Nat, n = (nn : Int) := ⟨n.toNat, by omega⟩
  have hnl : nn ≤ (D.all i).length := by omega
  have u1 : decide ((0 : Int) ≤ (nn : Int)) = true := decide_eq_true (by omega)
  have u2 : decide ((nn : Int) ≤ ((D.all i).length : Int)) = true := decide_eq_true (by omega)
  have u3 : decide (nn ≤ (D.all i).length) = true := decide_eq_true (by omega)
  cases hoff : D.off
  rotate_left
  · have HE := Lib.hid (show RqR w mb (trimD D (i : Int) (nn : Int)) (.returned (.int .i64 101)) w by rw [trimD_off hoff]; exact ⟨rfl, ⟨_, HQ.out⟩, FrS.refl _ _⟩)
    rw [hoff] at c6
    obtain ⟨L, hL⟩ : ∃ L, (D.all i).length = L := ⟨_, rfl⟩
    rw [hL] at d0 u2 u3
    clear hoff hnd hdk hdv hL hn
    go_enter Try.func13, Try.ntmps13
    go_wp2
    go_ret
    exact HE.out
  have HRS := Lib.hid (trimD_ok (askD_ok hoff hdk) (show ¬ (((D.all i).length : Int) < (nn : Int)) by omega))
  rw [hoff] at c6
  clear hoff hdk hnd hn
  by_cases ha : D.armed = 1
  · have HE := Lib.hid (show RqR w mb (trimD D (i : Int) (nn : Int)) (.returned (.int .i64 101)) ((w.setCell ⟨mb, 7, none⟩ (.int .i64 0)).setCell ⟨mb, 6, none⟩ (.bool true)) by
      rw [HRS.out, chgD_one _ _ _ ha]
      exact ⟨rfl, ⟨_, (HQ.out.armed 0).turn true⟩, (HQ.out.ku _ _).trans ((HQ.out.armed 0).ku _ _)⟩)
    rw [ha] at c7
    obtain ⟨L, hL⟩ : ∃ L, (D.all i).length = L := ⟨_, rfl⟩
    rw [hL] at d0 u2 u3
    clear ha hdv hL
    go_enter Try.func13, Try.ntmps13
    go_wp2
    go_ret
    exact HE.out
  obtain ⟨L, hL⟩ : ∃ L, D.all i = L := ⟨_, rfl⟩
  rw [hL] at hdv d0 hl2 u2 u3 hnl
  by_cases hz : D.armed = 0
  · have t8 : decide (0 < D.armed) = false := decide_eq_false (by omega)
    have HRF := Lib.hid (HRS.out.trans (chgD_zero _ _ _ hz))
    clear ha hz
    go_enter Try.func13, Try.ntmps13
    go_wp2
    refine forgetW (fun V => RackR V mb dv D ∧ FrS (fun b => b = mb) w V) ⟨HQ.out, FrS.refl _ _⟩ ?_
    rintro V ⟨hv, hfv⟩
    have HV := Lib.hid hv
    have HFV := Lib.hid hfv
    clear hv hfv
    have hvs : mb < V.heap.size := HV.out.lt
    have q0 := (HV.out.dcell hi).1
    rw [hdv] at q0
    have qf := HV.out.free i
    have q3 := (HV.out.dcell hi).2
    have qf3 := HV.out.free (3 + i)
    have HO := Lib.hid (show (V.alloc (Obj.cells #[] 5)).drew.ownsRow V.heap.size 5 1 (.slice (some ⟨V.heap.size, 0, none⟩) 0 0) 0 [] from World.ownsRow_lit (base := V.heap.size) (e := 5) (size := 1) V #[] 0 (Nat.le_refl _) (by unfold maxLen; omega) (by simp))
    have hbb := (show BB V (dv i) (D.all i) from HV.out.disk i hi)
    rw [hL, hdv] at hbb
    obtain ⟨ct, cc, hcut, hbt⟩ := bb_cut hbb nn hnl
    have hctl : (L.take nn).length = nn := by rw [List.length_take]; omega
    have HS1 := Lib.hid (fun (W : World) (kb : Below V.heap.size V W) => hbt.sl.kept kb)
    have HC1 := Lib.hid (fun (W : World) (kb : Below V.heap.size V W) => And.intro ((kb.cell (p := ⟨mb, i, none⟩) hvs).trans q0) (And.intro ((kb.frozen (p := ⟨mb, i, none⟩) hvs).trans qf) (And.intro ((kb.cell (p := ⟨mb, 3 + i, none⟩) hvs).trans q3) ((kb.frozen (p := ⟨mb, 3 + i, none⟩) hvs).trans qf3))))
    have hne3 : (i = 3 + i) = False := eq_false (by omega)
    have hne4 : (3 + i = i) = False := eq_false (by omega)
    have HY1 := Lib.hid hbt.1
    have HEQ := Lib.hid (show L.take nn = (D.all i).take nn by rw [hL])
    have HLE := Lib.hid hctl
    clear hbb hbt hdv hL
    have hs1a := (HS1.out (V.alloc (Obj.cells #[] 5)).drew (by exact (by repeat (first | exact Below.refl _ _ | assumption | (refine Below.drew ?_) | (refine below_drewN ?_ _) | (refine Below.alloc ?_ (by first | (simp; done) | (simp; omega) | omega) _) | (refine Below.setCell ?_ (by first | (simp; done) | (simp; omega) | omega) _) | (refine Below.trans ?_ (Below.mono (by assumption) (by first | (simp; done) | (simp; omega) | omega))))))).1
    rw [hctl] at hs1a
    have HS1a := Lib.hid hs1a
    clear hs1a
    go_region_law (refine step_concat (n := 0) (m := nn) rfl _ _ _ (by rfl) slU8 rfl HO.out rfl HS1a.out (oneCell_vals _) (by first | omega | (simp only [vals, List.length_map]; omega) | (simp; omega)) (by omega) (by simp) ?_; intro b3 c3 w3 hown3 hg3; have hb3 : Below V.heap.size V w3 := below_push (by exact (by repeat (first | (with_reducible exact Below.refl _ _) | (with_reducible assumption) | (with_reducible refine Below.drew ?_) | (with_reducible refine Below.setCell ?_ (by first | (simp; done) | (simp; omega) | omega) _) | (with_reducible refine Below.alloc ?_ (by first | (simp; done) | (simp; omega) | omega) _) | (with_reducible refine below_drewN ?_ _) | (refine Below.trans ?_ (Below.mono (by with_reducible assumption) (by first | (simp; done) | (simp; omega) | omega)))))) HO.out (by simp) (by simp) hg3; simp only [Nat.zero_add, List.nil_append] at hown3 ⊢; have HW3 := Lib.hid hown3; obtain ⟨x1, x2, x3, x4⟩ := HC1.out _ hb3; clear hown3 hg3)
    go_wp2
    all_goals
      go_ret
      rw [HRF.out]
      have hw := HW3.out
      have hy := (bown_mk2 hw HLE.out HY1.out).bb
      rw [HEQ.out] at hy
      have hln : ((D.all i).take nn).length = nn := by rw [← HEQ.out]; exact HLE.out
      have hd2 := (HV.out.below hb3).disk2 (s := (D.all i).take nn) (l := []) hi (by simpa using hy)
      rw [hln] at hd2
      exact ⟨rfl, ⟨_, hd2⟩, (HFV.out.trans (FrS.of_below hb3)).trans (FrS.set2 (HV.out.below hb3) _ _ _ _)⟩
  · have t8 : decide (0 < D.armed) = true := decide_eq_true (by omega)
    have t9 : (D.armed - 1 == 0) = false := beq_eq_false_iff_ne.2 (by omega)
    have HRF := Lib.hid (HRS.out.trans (chgD_two D i ((D.all i).take nn, []) (by omega)))
    clear ha hz
    go_enter Try.func13, Try.ntmps13
    go_wp2
    refine forgetW (fun V => RackR V mb dv { D with armed := D.armed - 1 } ∧ FrS (fun b => b = mb) w V) ⟨HQ.out.armed _, HQ.out.ku _ _⟩ ?_
    rintro V ⟨hv, hfv⟩
    have HV := Lib.hid hv
    have HFV := Lib.hid hfv
    clear hv hfv
    have hvs : mb < V.heap.size := HV.out.lt
    have q0 := (HV.out.dcell hi).1
    rw [hdv] at q0
    have qf := HV.out.free i
    have q3 := (HV.out.dcell hi).2
    have qf3 := HV.out.free (3 + i)
    have HO := Lib.hid (show (V.alloc (Obj.cells #[] 5)).drew.ownsRow V.heap.size 5 1 (.slice (some ⟨V.heap.size, 0, none⟩) 0 0) 0 [] from World.ownsRow_lit (base := V.heap.size) (e := 5) (size := 1) V #[] 0 (Nat.le_refl _) (by unfold maxLen; omega) (by simp))
    have hbb := (show BB V (dv i) (D.all i) from HV.out.disk i hi)
    rw [hL, hdv] at hbb
    obtain ⟨ct, cc, hcut, hbt⟩ := bb_cut hbb nn hnl
    have hctl : (L.take nn).length = nn := by rw [List.length_take]; omega
    have HS1 := Lib.hid (fun (W : World) (kb : Below V.heap.size V W) => hbt.sl.kept kb)
    have HC1 := Lib.hid (fun (W : World) (kb : Below V.heap.size V W) => And.intro ((kb.cell (p := ⟨mb, i, none⟩) hvs).trans q0) (And.intro ((kb.frozen (p := ⟨mb, i, none⟩) hvs).trans qf) (And.intro ((kb.cell (p := ⟨mb, 3 + i, none⟩) hvs).trans q3) ((kb.frozen (p := ⟨mb, 3 + i, none⟩) hvs).trans qf3))))
    have hne3 : (i = 3 + i) = False := eq_false (by omega)
    have hne4 : (3 + i = i) = False := eq_false (by omega)
    have HY1 := Lib.hid hbt.1
    have HEQ := Lib.hid (show L.take nn = (D.all i).take nn by rw [hL])
    have HLE := Lib.hid hctl
    clear hbb hbt hdv hL
    have hs1a := (HS1.out (V.alloc (Obj.cells #[] 5)).drew (by exact (by repeat (first | exact Below.refl _ _ | assumption | (refine Below.drew ?_) | (refine below_drewN ?_ _) | (refine Below.alloc ?_ (by first | (simp; done) | (simp; omega) | omega) _) | (refine Below.setCell ?_ (by first | (simp; done) | (simp; omega) | omega) _) | (refine Below.trans ?_ (Below.mono (by assumption) (by first | (simp; done) | (simp; omega) | omega))))))).1
    rw [hctl] at hs1a
    have HS1a := Lib.hid hs1a
    clear hs1a
    go_region_law (refine step_concat (n := 0) (m := nn) rfl _ _ _ (by rfl) slU8 rfl HO.out rfl HS1a.out (oneCell_vals _) (by first | omega | (simp only [vals, List.length_map]; omega) | (simp; omega)) (by omega) (by simp) ?_; intro b3 c3 w3 hown3 hg3; have hb3 : Below V.heap.size V w3 := below_push (by exact (by repeat (first | (with_reducible exact Below.refl _ _) | (with_reducible assumption) | (with_reducible refine Below.drew ?_) | (with_reducible refine Below.setCell ?_ (by first | (simp; done) | (simp; omega) | omega) _) | (with_reducible refine Below.alloc ?_ (by first | (simp; done) | (simp; omega) | omega) _) | (with_reducible refine below_drewN ?_ _) | (refine Below.trans ?_ (Below.mono (by with_reducible assumption) (by first | (simp; done) | (simp; omega) | omega)))))) HO.out (by simp) (by simp) hg3; simp only [Nat.zero_add, List.nil_append] at hown3 ⊢; have HW3 := Lib.hid hown3; obtain ⟨x1, x2, x3, x4⟩ := HC1.out _ hb3; clear hown3 hg3)
    go_wp2
    all_goals
      go_ret
      rw [HRF.out]
      have hw := HW3.out
      have hy := (bown_mk2 hw HLE.out HY1.out).bb
      rw [HEQ.out] at hy
      have hln : ((D.all i).take nn).length = nn := by rw [← HEQ.out]; exact HLE.out
      have hd2 := (HV.out.below hb3).disk2 (s := (D.all i).take nn) (l := []) hi (by simpa using hy)
      rw [hln] at hd2
      exact ⟨rfl, ⟨_, hd2⟩, (HFV.out.trans (FrS.of_below hb3)).trans (FrS.set2 (HV.out.below hb3) _ _ _ _)⟩
end Go.Proofs.Ytlljfbakpljenaa
