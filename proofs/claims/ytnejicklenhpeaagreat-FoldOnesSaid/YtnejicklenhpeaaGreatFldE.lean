/- Blocks and Homes of both sides: their walks. Conditions: none. -/
import Derived.Test.YtnejicklenhpeaaGreatFldD
namespace Go.Proofs.YtnejicklenhpeaaGreat
open Go.RowKit Go.Lib
set_option linter.unusedVariables false
def FldR (r : RecD) (u : P3) (f : Int × Int) (L : List (Int × Int)) (e : Ending) (w' : World) : Prop := ∃ v, e = .returned (.tuple #[v, .int .i64 (cutE r u f)]) ∧ SlOf w' w'.heap.size 2 encC v (if cutE r u f = 0 then L else [])
theorem fldR_err {r : RecD} {u : P3} {f : Int × Int} {L : List (Int × Int)} {k : Int} (h : cutE r u f = k) (hk : k ≠ 0) (w' : World) : FldR r u f L (.returned (.tuple #[.slice none 0 0, .int .i64 k])) w' := by
  unfold FldR; rw [h]; exact ⟨_, rfl, by rw [if_neg hk]; exact Sl.nil _ _ _⟩
theorem fldR_ok {r : RecD} {u : P3} {f : Int × Int} {L : List (Int × Int)} (h : cutE r u f = 0) (w' : World) (v : Value) (hs : SlOf w' w'.heap.size 2 encC v L) : FldR r u f L (.returned (.tuple #[v, .int .i64 0])) w' := by
  unfold FldR; rw [h]; exact ⟨_, rfl, by rw [if_pos rfl]; exact hs⟩
theorem cutE_ok {r : RecD} {u : P3} {f : Int × Int} (h : cutE r u f = 0) : askE r u = 0 ∧ eachB f.1 f.2 1 8 = true := by
  unfold cutE at h
  by_cases ha : askE r u = 0
  · rw [if_pos ha] at h
    refine ⟨ha, ?_⟩
    cases he : eachB f.1 f.2 1 8
    · rw [he] at h; simp at h
    · rfl
  · rw [if_neg ha] at h; exact absurd h ha
theorem rasked_l (r : RecD) (u : P3) (f : Int × Int) (w : World) (hr : RecRd w r) :
    Calls Tryz.prog 47 #[.agg #[.int .i64 r.n, r.lv, r.vv], .agg #[.int .i64 u.1, .int .i64 u.2.1, .int .i64 u.2.2], .agg #[.int .i64 f.1, .int .i64 f.2]] w fun e w' => e = .returned (.int .i64 (cutE r u f)) ∧ Below w.heap.size w w' := by
  have HR := Lib.hid hr
  clear hr
  have HAS := Lib.hid (fun (W : World) (h : RecRd W r) => Asked_l r u W h)
  obtain ⟨W0, hW0⟩ : ∃ W : World, ((w.alloc (Obj.cells #[.int .i64 r.n, r.lv, r.vv] 27)).alloc (Obj.cells #[.int .i64 u.1, .int .i64 u.2.1, .int .i64 u.2.2] 29)).alloc (Obj.cells #[.int .i64 f.1, .int .i64 f.2] 31) = W := ⟨_, rfl⟩
  have kw0 : Below w.heap.size w W0 := by rw [← hW0]; exact (by repeat (first | exact Below.refl _ _ | assumption | (refine Below.drew ?_) | (refine below_drewN ?_ _) | (refine Below.alloc ?_ (by first | (simp; done) | (simp; omega) | omega) _) | (refine Below.setCell ?_ (by first | (simp; done) | (simp; omega) | omega) _) | (refine Below.trans ?_ (Below.mono (by assumption) (by first | (simp; done) | (simp; omega) | omega)))))
  have ks0 : W0.heap.size = w.heap.size + 3 := by rw [← hW0]; simp
  have RD0 := Lib.hid (show ∀ V, Below W0.heap.size W0 V → V.cell? ⟨w.heap.size, 0, none⟩ = some (.int .i64 r.n) ∧ V.cell? ⟨w.heap.size, 1, none⟩ = some (r.lv) ∧ V.cell? ⟨w.heap.size, 2, none⟩ = some (r.vv) ∧ V.cell? ⟨w.heap.size + 1, 0, none⟩ = some (.int .i64 u.1) ∧ V.cell? ⟨w.heap.size + 1, 1, none⟩ = some (.int .i64 u.2.1) ∧ V.cell? ⟨w.heap.size + 1, 2, none⟩ = some (.int .i64 u.2.2) ∧ V.cell? ⟨w.heap.size + 1 + 1, 0, none⟩ = some (.int .i64 f.1) ∧ V.cell? ⟨w.heap.size + 1 + 1, 1, none⟩ = some (.int .i64 f.2) from fun V h => by
      refine ⟨(h.cell (p := ⟨w.heap.size, 0, none⟩) (by simp; omega)).trans ?_, (h.cell (p := ⟨w.heap.size, 1, none⟩) (by simp; omega)).trans ?_, (h.cell (p := ⟨w.heap.size, 2, none⟩) (by simp; omega)).trans ?_, (h.cell (p := ⟨w.heap.size + 1, 0, none⟩) (by simp; omega)).trans ?_, (h.cell (p := ⟨w.heap.size + 1, 1, none⟩) (by simp; omega)).trans ?_, (h.cell (p := ⟨w.heap.size + 1, 2, none⟩) (by simp; omega)).trans ?_, (h.cell (p := ⟨w.heap.size + 1 + 1, 0, none⟩) (by simp; omega)).trans ?_, (h.cell (p := ⟨w.heap.size + 1 + 1, 1, none⟩) (by simp; omega)).trans ?_⟩ <;> (subst hW0; go_simp))
  have HW0 := Lib.hid hW0; have KW0 := Lib.hid kw0; clear hW0 kw0
  have hks : w.heap.size ≤ W0.heap.size := by omega
  by_cases ha : askE r u = 0
  rotate_left
  · have HE := Lib.hid (show cutE r u f = askE r u by unfold cutE; rw [if_neg ha])
    have hnz : (askE r u == 0) = false := by simpa using ha
    clear ha
    generalize askE r u = A at *
    go_enter Tryz.func47, Tryz.ntmps47
    go_wp2_with (go_at_call 100; rw [HW0.out]; refine (HAS.out _ (HR.out.below KW0.out)).mono ?_; go_must (rintro e w1 ⟨rfl, hb1⟩))
    go_ret
    exact ⟨by rw [HE.out]; rfl, below_at KW0.out hks hb1⟩
  have HE := Lib.hid (show cutE r u f = if eachB f.1 f.2 1 8 = true then 0 else 2 by unfold cutE; rw [if_pos ha])
  have HZ := Lib.hid (fun (W : World) => rsize_any f.1 f.2 W)
  cases hz : eachB f.1 f.2 1 8
  all_goals
    rw [hz] at HE HZ
    go_enter Tryz.func47, Tryz.ntmps47
    go_wp2_with (first | (go_at_call 100; rw [HW0.out]; refine (HAS.out _ (HR.out.below KW0.out)).mono ?_; go_must (rintro e w1 ⟨rfl, hb1⟩; rw [ha]; obtain ⟨b0, b1, b2, b3, b4, b5, b6, b7⟩ := RD0.out w1 hb1)) | (go_at_call 62; refine (HZ.out _).mono ?_; go_must (rintro e w2 ⟨rfl, hb2⟩)))
    go_ret
    exact ⟨by rw [HE.out]; rfl, below_at KW0.out hks (hb1.trans (hb2.mono hb1.size))⟩
theorem Blocks_l (r : RecD) (u : P3) (f : Int × Int) (w : World) (hr : RecRd w r) :
    Calls Tryz.prog 13 #[.agg #[.int .i64 r.n, r.lv, r.vv], .agg #[.int .i64 u.1, .int .i64 u.2.1, .int .i64 u.2.2], .agg #[.int .i64 f.1, .int .i64 f.2]] w fun e w' => FldR r u f (blocksL r u f) e w' ∧ Below w.heap.size w w' := by
  have HERR := Lib.hid (fun (k : Int) (h : cutE r u f = k) (hk : k ≠ 0) w' => fldR_err (L := blocksL r u f) h hk w')
  have HOK := Lib.hid (fun (h : cutE r u f = 0) w' v hs => fldR_ok (L := blocksL r u f) h w' v hs)
  have HR := Lib.hid hr
  clear hr
  have HCU := Lib.hid (fun (W : World) (h : RecRd W r) => cut_l r u f W h)
  obtain ⟨W0, hW0⟩ : ∃ W : World, ((w.alloc (Obj.cells #[.int .i64 r.n, r.lv, r.vv] 27)).alloc (Obj.cells #[.int .i64 u.1, .int .i64 u.2.1, .int .i64 u.2.2] 29)).alloc (Obj.cells #[.int .i64 f.1, .int .i64 f.2] 31) = W := ⟨_, rfl⟩
  have kw0 : Below w.heap.size w W0 := by rw [← hW0]; exact (by repeat (first | exact Below.refl _ _ | assumption | (refine Below.drew ?_) | (refine below_drewN ?_ _) | (refine Below.alloc ?_ (by first | (simp; done) | (simp; omega) | omega) _) | (refine Below.setCell ?_ (by first | (simp; done) | (simp; omega) | omega) _) | (refine Below.trans ?_ (Below.mono (by assumption) (by first | (simp; done) | (simp; omega) | omega)))))
  have ks0 : W0.heap.size = w.heap.size + 3 := by rw [← hW0]; simp
  have RD0 := Lib.hid (show ∀ V, Below W0.heap.size W0 V → V.cell? ⟨w.heap.size, 0, none⟩ = some (.int .i64 r.n) ∧ V.cell? ⟨w.heap.size, 1, none⟩ = some (r.lv) ∧ V.cell? ⟨w.heap.size, 2, none⟩ = some (r.vv) ∧ V.cell? ⟨w.heap.size + 1, 0, none⟩ = some (.int .i64 u.1) ∧ V.cell? ⟨w.heap.size + 1, 1, none⟩ = some (.int .i64 u.2.1) ∧ V.cell? ⟨w.heap.size + 1, 2, none⟩ = some (.int .i64 u.2.2) ∧ V.cell? ⟨w.heap.size + 1 + 1, 0, none⟩ = some (.int .i64 f.1) ∧ V.cell? ⟨w.heap.size + 1 + 1, 1, none⟩ = some (.int .i64 f.2) from fun V h => by
      refine ⟨(h.cell (p := ⟨w.heap.size, 0, none⟩) (by simp; omega)).trans ?_, (h.cell (p := ⟨w.heap.size, 1, none⟩) (by simp; omega)).trans ?_, (h.cell (p := ⟨w.heap.size, 2, none⟩) (by simp; omega)).trans ?_, (h.cell (p := ⟨w.heap.size + 1, 0, none⟩) (by simp; omega)).trans ?_, (h.cell (p := ⟨w.heap.size + 1, 1, none⟩) (by simp; omega)).trans ?_, (h.cell (p := ⟨w.heap.size + 1, 2, none⟩) (by simp; omega)).trans ?_, (h.cell (p := ⟨w.heap.size + 1 + 1, 0, none⟩) (by simp; omega)).trans ?_, (h.cell (p := ⟨w.heap.size + 1 + 1, 1, none⟩) (by simp; omega)).trans ?_⟩ <;> (subst hW0; go_simp))
  have HW0 := Lib.hid hW0; have KW0 := Lib.hid kw0; clear hW0 kw0
  have hks : w.heap.size ≤ W0.heap.size := by omega
  by_cases hc : cutE r u f = 0
  rotate_left
  · have HE := Lib.hid (fun w' => HERR.out (cutE r u f) rfl hc w')
    have hnz : (cutE r u f != 0) = true := by simpa using hc
    have HA := Lib.hid hc
    clear hc
    generalize hA : cutE r u f = A at *
    go_enter Tryz.func13, Tryz.ntmps13
    go_wp2_with (go_at_call 46; rw [HW0.out]; refine (HCU.out _ (HR.out.below KW0.out)).mono ?_; go_must (rintro e w1 ⟨⟨p, rfl, hp⟩, hb1⟩; rw [hA]; rw [hA, if_neg HA.out] at hp; subst hp))
    go_ret2
    exact ⟨HE.out _, below_at KW0.out hks hb1⟩
  have HY := Lib.hid (fun w' v h => HOK.out hc w' v h)
  go_enter Tryz.func13, Tryz.ntmps13
  go_wp2_with (go_at_call 46; rw [HW0.out]; refine (HCU.out _ (HR.out.below KW0.out)).mono ?_; go_must (rintro e w1 ⟨⟨p, rfl, hp⟩, hb1⟩; rw [hc]; rw [if_pos hc] at hp; obtain ⟨sb, rfl, hsh⟩ := hp; obtain ⟨hlt, mb, n, vb, vh, s0, s1, s2, s3, s4, hm, hsb, hsg⟩ := hsh; obtain ⟨xa, xc, hxe, -⟩ := hsb.shape; subst hxe))
  go_ret2
  exact ⟨HY.out _ _ hsb, below_at KW0.out hks hb1⟩
theorem Homes_l (r : RecD) (u : P3) (f : Int × Int) (w : World) (hr : RecRd w r) :
    Calls Tryz.prog 15 #[.agg #[.int .i64 r.n, r.lv, r.vv], .agg #[.int .i64 u.1, .int .i64 u.2.1, .int .i64 u.2.2], .agg #[.int .i64 f.1, .int .i64 f.2]] w fun e w' => FldR r u f (homesL r u f) e w' ∧ Below w.heap.size w w' := by
  have HERR := Lib.hid (fun (k : Int) (h : cutE r u f = k) (hk : k ≠ 0) w' => fldR_err (L := homesL r u f) h hk w')
  have HOK := Lib.hid (fun (h : cutE r u f = 0) w' v hs => fldR_ok (L := homesL r u f) h w' v hs)
  have HR := Lib.hid hr
  clear hr
  have HCU := Lib.hid (fun (W : World) (h : RecRd W r) => cut_l r u f W h)
  obtain ⟨W0, hW0⟩ : ∃ W : World, ((w.alloc (Obj.cells #[.int .i64 r.n, r.lv, r.vv] 27)).alloc (Obj.cells #[.int .i64 u.1, .int .i64 u.2.1, .int .i64 u.2.2] 29)).alloc (Obj.cells #[.int .i64 f.1, .int .i64 f.2] 31) = W := ⟨_, rfl⟩
  have kw0 : Below w.heap.size w W0 := by rw [← hW0]; exact (by repeat (first | exact Below.refl _ _ | assumption | (refine Below.drew ?_) | (refine below_drewN ?_ _) | (refine Below.alloc ?_ (by first | (simp; done) | (simp; omega) | omega) _) | (refine Below.setCell ?_ (by first | (simp; done) | (simp; omega) | omega) _) | (refine Below.trans ?_ (Below.mono (by assumption) (by first | (simp; done) | (simp; omega) | omega)))))
  have ks0 : W0.heap.size = w.heap.size + 3 := by rw [← hW0]; simp
  have RD0 := Lib.hid (show ∀ V, Below W0.heap.size W0 V → V.cell? ⟨w.heap.size, 0, none⟩ = some (.int .i64 r.n) ∧ V.cell? ⟨w.heap.size, 1, none⟩ = some (r.lv) ∧ V.cell? ⟨w.heap.size, 2, none⟩ = some (r.vv) ∧ V.cell? ⟨w.heap.size + 1, 0, none⟩ = some (.int .i64 u.1) ∧ V.cell? ⟨w.heap.size + 1, 1, none⟩ = some (.int .i64 u.2.1) ∧ V.cell? ⟨w.heap.size + 1, 2, none⟩ = some (.int .i64 u.2.2) ∧ V.cell? ⟨w.heap.size + 1 + 1, 0, none⟩ = some (.int .i64 f.1) ∧ V.cell? ⟨w.heap.size + 1 + 1, 1, none⟩ = some (.int .i64 f.2) from fun V h => by
      refine ⟨(h.cell (p := ⟨w.heap.size, 0, none⟩) (by simp; omega)).trans ?_, (h.cell (p := ⟨w.heap.size, 1, none⟩) (by simp; omega)).trans ?_, (h.cell (p := ⟨w.heap.size, 2, none⟩) (by simp; omega)).trans ?_, (h.cell (p := ⟨w.heap.size + 1, 0, none⟩) (by simp; omega)).trans ?_, (h.cell (p := ⟨w.heap.size + 1, 1, none⟩) (by simp; omega)).trans ?_, (h.cell (p := ⟨w.heap.size + 1, 2, none⟩) (by simp; omega)).trans ?_, (h.cell (p := ⟨w.heap.size + 1 + 1, 0, none⟩) (by simp; omega)).trans ?_, (h.cell (p := ⟨w.heap.size + 1 + 1, 1, none⟩) (by simp; omega)).trans ?_⟩ <;> (subst hW0; go_simp))
  have HW0 := Lib.hid hW0; have KW0 := Lib.hid kw0; clear hW0 kw0
  have hks : w.heap.size ≤ W0.heap.size := by omega
  by_cases hc : cutE r u f = 0
  rotate_left
  · have HE := Lib.hid (fun w' => HERR.out (cutE r u f) rfl hc w')
    have hnz : (cutE r u f != 0) = true := by simpa using hc
    have HA := Lib.hid hc
    clear hc
    generalize hA : cutE r u f = A at *
    go_enter Tryz.func15, Tryz.ntmps15
    go_wp2_with (go_at_call 46; rw [HW0.out]; refine (HCU.out _ (HR.out.below KW0.out)).mono ?_; go_must (rintro e w1 ⟨⟨p, rfl, hp⟩, hb1⟩; rw [hA]; rw [hA, if_neg HA.out] at hp; subst hp))
    go_ret2
    exact ⟨HE.out _, below_at KW0.out hks hb1⟩
  have HY := Lib.hid (fun w' v h => HOK.out hc w' v h)
  go_enter Tryz.func15, Tryz.ntmps15
  go_wp2_with (go_at_call 46; rw [HW0.out]; refine (HCU.out _ (HR.out.below KW0.out)).mono ?_; go_must (rintro e w1 ⟨⟨p, rfl, hp⟩, hb1⟩; rw [hc]; rw [if_pos hc] at hp; obtain ⟨sb, rfl, hsh⟩ := hp; obtain ⟨hlt, mb, n, vb, vh, s0, s1, s2, s3, s4, hm, hsb, hsg⟩ := hsh; obtain ⟨xa, xc, hxe, -⟩ := hsg.shape; subst hxe))
  go_ret2
  exact ⟨HY.out _ _ hsg, below_at KW0.out hks hb1⟩
theorem rBlocks_l (r : RecD) (u : P3) (f : Int × Int) (w : World) (hr : RecRd w r) :
    Calls Tryz.prog 14 #[.agg #[.int .i64 r.n, r.lv, r.vv], .agg #[.int .i64 u.1, .int .i64 u.2.1, .int .i64 u.2.2], .agg #[.int .i64 f.1, .int .i64 f.2]] w fun e w' => FldR r u f (blocksL r u f) e w' ∧ Below w.heap.size w w' := by
  have HERR := Lib.hid (fun (k : Int) (h : cutE r u f = k) (hk : k ≠ 0) w' => fldR_err (L := blocksL r u f) h hk w')
  have HOK := Lib.hid (fun (h : cutE r u f = 0) w' v hs => fldR_ok (L := sortC ((cellsL r u).map (eachF f true))) h w' v hs)
  have HR := Lib.hid hr
  clear hr
  have HAS := Lib.hid (fun (W : World) (h : RecRd W r) => rasked_l r u f W h)
  obtain ⟨W0, hW0⟩ : ∃ W : World, ((w.alloc (Obj.cells #[.int .i64 r.n, r.lv, r.vv] 27)).alloc (Obj.cells #[.int .i64 u.1, .int .i64 u.2.1, .int .i64 u.2.2] 29)).alloc (Obj.cells #[.int .i64 f.1, .int .i64 f.2] 31) = W := ⟨_, rfl⟩
  have kw0 : Below w.heap.size w W0 := by rw [← hW0]; exact (by repeat (first | exact Below.refl _ _ | assumption | (refine Below.drew ?_) | (refine below_drewN ?_ _) | (refine Below.alloc ?_ (by first | (simp; done) | (simp; omega) | omega) _) | (refine Below.setCell ?_ (by first | (simp; done) | (simp; omega) | omega) _) | (refine Below.trans ?_ (Below.mono (by assumption) (by first | (simp; done) | (simp; omega) | omega)))))
  have ks0 : W0.heap.size = w.heap.size + 3 := by rw [← hW0]; simp
  have RD0 := Lib.hid (show ∀ V, Below W0.heap.size W0 V → V.cell? ⟨w.heap.size, 0, none⟩ = some (.int .i64 r.n) ∧ V.cell? ⟨w.heap.size, 1, none⟩ = some (r.lv) ∧ V.cell? ⟨w.heap.size, 2, none⟩ = some (r.vv) ∧ V.cell? ⟨w.heap.size + 1, 0, none⟩ = some (.int .i64 u.1) ∧ V.cell? ⟨w.heap.size + 1, 1, none⟩ = some (.int .i64 u.2.1) ∧ V.cell? ⟨w.heap.size + 1, 2, none⟩ = some (.int .i64 u.2.2) ∧ V.cell? ⟨w.heap.size + 1 + 1, 0, none⟩ = some (.int .i64 f.1) ∧ V.cell? ⟨w.heap.size + 1 + 1, 1, none⟩ = some (.int .i64 f.2) from fun V h => by
      refine ⟨(h.cell (p := ⟨w.heap.size, 0, none⟩) (by simp; omega)).trans ?_, (h.cell (p := ⟨w.heap.size, 1, none⟩) (by simp; omega)).trans ?_, (h.cell (p := ⟨w.heap.size, 2, none⟩) (by simp; omega)).trans ?_, (h.cell (p := ⟨w.heap.size + 1, 0, none⟩) (by simp; omega)).trans ?_, (h.cell (p := ⟨w.heap.size + 1, 1, none⟩) (by simp; omega)).trans ?_, (h.cell (p := ⟨w.heap.size + 1, 2, none⟩) (by simp; omega)).trans ?_, (h.cell (p := ⟨w.heap.size + 1 + 1, 0, none⟩) (by simp; omega)).trans ?_, (h.cell (p := ⟨w.heap.size + 1 + 1, 1, none⟩) (by simp; omega)).trans ?_⟩ <;> (subst hW0; go_simp))
  have HW0 := Lib.hid hW0; have KW0 := Lib.hid kw0; clear hW0 kw0
  have hks : w.heap.size ≤ W0.heap.size := by omega
  by_cases hc : cutE r u f = 0
  rotate_left
  · have HE := Lib.hid (fun w' => HERR.out (cutE r u f) rfl hc w')
    have hnz : (cutE r u f != 0) = true := by simpa using hc
    clear hc
    generalize hA : cutE r u f = A at *
    go_enter Tryz.func14, Tryz.ntmps14
    go_wp2_with (go_at_call 47; rw [HW0.out]; refine (HAS.out _ (HR.out.below KW0.out)).mono ?_; go_must (rintro e w1 ⟨rfl, hb1⟩))
    go_ret2
    exact ⟨HE.out _, below_at KW0.out hks hb1⟩
  have HY := Lib.hid (fun w' v h => HOK.out hc w' v h)
  have hce := cutE_ok hc
  have HEA := Lib.hid (fun (W : World) (h : RecRd W r) => each_l r u f true hce.1 hce.2 W h)
  go_enter Tryz.func14, Tryz.ntmps14
  go_wp2_with (first | (go_at_call 47; rw [HW0.out]; refine (HAS.out _ (HR.out.below KW0.out)).mono ?_; go_must (rintro e w1 ⟨rfl, hb1⟩; rw [hc]; obtain ⟨b0, b1, b2, b3, b4, b5, b6, b7⟩ := RD0.out w1 hb1; have HB1 := Lib.hid hb1; clear hb1)) | (go_at_call 48; refine (HEA.out _ (HR.out.below (below_at KW0.out hks HB1.out))).mono ?_; go_must (rintro e w2 ⟨⟨v2, rfl, hs2⟩, hb2⟩; obtain ⟨xa, xc, hxe, -⟩ := hs2.shape; subst hxe)))
  go_ret2
  exact ⟨HY.out _ _ hs2, below_at KW0.out hks (HB1.out.trans (hb2.mono HB1.out.size))⟩
theorem rHomes_l (r : RecD) (u : P3) (f : Int × Int) (w : World) (hr : RecRd w r) :
    Calls Tryz.prog 16 #[.agg #[.int .i64 r.n, r.lv, r.vv], .agg #[.int .i64 u.1, .int .i64 u.2.1, .int .i64 u.2.2], .agg #[.int .i64 f.1, .int .i64 f.2]] w fun e w' => FldR r u f (homesL r u f) e w' ∧ Below w.heap.size w w' := by
  have HERR := Lib.hid (fun (k : Int) (h : cutE r u f = k) (hk : k ≠ 0) w' => fldR_err (L := homesL r u f) h hk w')
  have HOK := Lib.hid (fun (h : cutE r u f = 0) w' v hs => fldR_ok (L := sortC ((cellsL r u).map (eachF f false))) h w' v hs)
  have HR := Lib.hid hr
  clear hr
  have HAS := Lib.hid (fun (W : World) (h : RecRd W r) => rasked_l r u f W h)
  obtain ⟨W0, hW0⟩ : ∃ W : World, ((w.alloc (Obj.cells #[.int .i64 r.n, r.lv, r.vv] 27)).alloc (Obj.cells #[.int .i64 u.1, .int .i64 u.2.1, .int .i64 u.2.2] 29)).alloc (Obj.cells #[.int .i64 f.1, .int .i64 f.2] 31) = W := ⟨_, rfl⟩
  have kw0 : Below w.heap.size w W0 := by rw [← hW0]; exact (by repeat (first | exact Below.refl _ _ | assumption | (refine Below.drew ?_) | (refine below_drewN ?_ _) | (refine Below.alloc ?_ (by first | (simp; done) | (simp; omega) | omega) _) | (refine Below.setCell ?_ (by first | (simp; done) | (simp; omega) | omega) _) | (refine Below.trans ?_ (Below.mono (by assumption) (by first | (simp; done) | (simp; omega) | omega)))))
  have ks0 : W0.heap.size = w.heap.size + 3 := by rw [← hW0]; simp
  have RD0 := Lib.hid (show ∀ V, Below W0.heap.size W0 V → V.cell? ⟨w.heap.size, 0, none⟩ = some (.int .i64 r.n) ∧ V.cell? ⟨w.heap.size, 1, none⟩ = some (r.lv) ∧ V.cell? ⟨w.heap.size, 2, none⟩ = some (r.vv) ∧ V.cell? ⟨w.heap.size + 1, 0, none⟩ = some (.int .i64 u.1) ∧ V.cell? ⟨w.heap.size + 1, 1, none⟩ = some (.int .i64 u.2.1) ∧ V.cell? ⟨w.heap.size + 1, 2, none⟩ = some (.int .i64 u.2.2) ∧ V.cell? ⟨w.heap.size + 1 + 1, 0, none⟩ = some (.int .i64 f.1) ∧ V.cell? ⟨w.heap.size + 1 + 1, 1, none⟩ = some (.int .i64 f.2) from fun V h => by
      refine ⟨(h.cell (p := ⟨w.heap.size, 0, none⟩) (by simp; omega)).trans ?_, (h.cell (p := ⟨w.heap.size, 1, none⟩) (by simp; omega)).trans ?_, (h.cell (p := ⟨w.heap.size, 2, none⟩) (by simp; omega)).trans ?_, (h.cell (p := ⟨w.heap.size + 1, 0, none⟩) (by simp; omega)).trans ?_, (h.cell (p := ⟨w.heap.size + 1, 1, none⟩) (by simp; omega)).trans ?_, (h.cell (p := ⟨w.heap.size + 1, 2, none⟩) (by simp; omega)).trans ?_, (h.cell (p := ⟨w.heap.size + 1 + 1, 0, none⟩) (by simp; omega)).trans ?_, (h.cell (p := ⟨w.heap.size + 1 + 1, 1, none⟩) (by simp; omega)).trans ?_⟩ <;> (subst hW0; go_simp))
  have HW0 := Lib.hid hW0; have KW0 := Lib.hid kw0; clear hW0 kw0
  have hks : w.heap.size ≤ W0.heap.size := by omega
  by_cases hc : cutE r u f = 0
  rotate_left
  · have HE := Lib.hid (fun w' => HERR.out (cutE r u f) rfl hc w')
    have hnz : (cutE r u f != 0) = true := by simpa using hc
    clear hc
    generalize hA : cutE r u f = A at *
    go_enter Tryz.func16, Tryz.ntmps16
    go_wp2_with (go_at_call 47; rw [HW0.out]; refine (HAS.out _ (HR.out.below KW0.out)).mono ?_; go_must (rintro e w1 ⟨rfl, hb1⟩))
    go_ret2
    exact ⟨HE.out _, below_at KW0.out hks hb1⟩
  have HY := Lib.hid (fun w' v h => HOK.out hc w' v h)
  have hce := cutE_ok hc
  have HEA := Lib.hid (fun (W : World) (h : RecRd W r) => each_l r u f false hce.1 hce.2 W h)
  go_enter Tryz.func16, Tryz.ntmps16
  go_wp2_with (first | (go_at_call 47; rw [HW0.out]; refine (HAS.out _ (HR.out.below KW0.out)).mono ?_; go_must (rintro e w1 ⟨rfl, hb1⟩; rw [hc]; obtain ⟨b0, b1, b2, b3, b4, b5, b6, b7⟩ := RD0.out w1 hb1; have HB1 := Lib.hid hb1; clear hb1)) | (go_at_call 48; refine (HEA.out _ (HR.out.below (below_at KW0.out hks HB1.out))).mono ?_; go_must (rintro e w2 ⟨⟨v2, rfl, hs2⟩, hb2⟩; obtain ⟨xa, xc, hxe, -⟩ := hs2.shape; subst hxe)))
  go_ret2
  exact ⟨HY.out _ _ hs2, below_at KW0.out hks (HB1.out.trans (hb2.mono HB1.out.size))⟩
end Go.Proofs.YtnejicklenhpeaaGreat
