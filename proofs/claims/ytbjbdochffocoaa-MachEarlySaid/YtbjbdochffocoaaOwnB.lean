/- slices.Clone, copied, Copied: walks. -/
import Derived.Test.YtbjbdochffocoaaOwnA
namespace Go.Proofs.Ytbjbdochffocoaa
open Go.RowKit Go.Lib
set_option linter.unusedVariables false
set_option maxHeartbeats 4000000 in
theorem cloneOps_l (l : List OpD) (v : Value) (w : World) (hv : SlOf w w.heap.size 6 encOp v l) (h1 : (l.flatMap encOp).all Value.oneCell' = true) (hn : l.length ≤ 1000000) :
    Calls Try.prog 62 #[v] w fun e w' => (∃ v', e = .returned v' ∧ OwnOf w' w.heap.size 37 6 encOp v' l) ∧ Below w.heap.size w w' := by
  have HV := Lib.hid hv
  obtain ⟨ax, cap, rfl, -, -, -, h0, -⟩ := id hv
  have H1 := Lib.hid h1
  clear hv h1
  cases ax with
  | none =>
    obtain rfl := h0 rfl
    have hl : l = [] := by
      obtain ⟨ax2, cap2, he, -, hc, -⟩ := HV.out
      simp only [Value.slice.injEq] at he
      exact List.eq_nil_of_length_eq_zero (by omega)
    subst hl
    have hnil : ∀ W, (binOp .eql 22 (.slice none 0 0) (.slice none 0 0)).run Try.prog W = .ok (.bool true) W := fun W => Lib.run_eql_slice_nil W 22 37 none _ _ _ _ Try.underlying22
    clear h0 HV H1
    go_enter Try.func62, Try.ntmps62
    go_wp2
    go_ret
    exact ⟨⟨_, rfl, OwnOf.nil _ _ _ _ _⟩, Below.refl _ _⟩
  | some ad =>
    have hnil : ∀ W, (binOp .eql 22 (.slice (some ad) l.length cap) (.slice none 0 0)).run Try.prog W = .ok (.bool false) W := fun W => Lib.run_eql_slice_nil W 22 37 (some ad) _ _ _ _ Try.underlying22
    clear h0
    have HO := Lib.hid (World.ownsRow_lit (base := w.heap.size) (e := 37) (size := 6) w #[] 0 (Nat.le_refl _) (by unfold maxLen; omega) (by simp))
    have HV2 := Lib.hid (HV.out.below ((Below.refl _ _).alloc (Nat.le_refl _) (Obj.cells #[] 37)))
    go_enter Try.func62, Try.ntmps62
    go_wp2_with (at_builtin; refine wpList_concat rfl _ _ _ rfl slOps HO.out rfl HV2.out rfl H1.out (by omega) (by omega) (by simp) ?_; intro b' c' w' hown hg hat)
    go_ret
    refine ⟨⟨_, rfl, ?_⟩, below_push ((Below.refl _ _).alloc (Nat.le_refl _) _) HO.out (Nat.le_refl _) (by simp) hg⟩
    unfold OwnOf
    simpa using hown
set_option maxHeartbeats 4000000 in
theorem cloneSrc_l (l : List SrcD) (v : Value) (w : World) (hv : SlOf w w.heap.size 3 encSr v l) (h1 : (l.flatMap encSr).all Value.oneCell' = true) (hn : l.length ≤ 1000000) :
    Calls Try.prog 63 #[v] w fun e w' => (∃ v', e = .returned v' ∧ OwnOf w' w.heap.size 52 3 encSr v' l) ∧ Below w.heap.size w w' := by
  have HV := Lib.hid hv
  obtain ⟨ax, cap, rfl, -, -, -, h0, -⟩ := id hv
  have H1 := Lib.hid h1
  clear hv h1
  cases ax with
  | none =>
    obtain rfl := h0 rfl
    have hl : l = [] := by
      obtain ⟨ax2, cap2, he, -, hc, -⟩ := HV.out
      simp only [Value.slice.injEq] at he
      exact List.eq_nil_of_length_eq_zero (by omega)
    subst hl
    have hnil : ∀ W, (binOp .eql 35 (.slice none 0 0) (.slice none 0 0)).run Try.prog W = .ok (.bool true) W := fun W => Lib.run_eql_slice_nil W 35 52 none _ _ _ _ Try.underlying35
    clear h0 HV H1
    go_enter Try.func63, Try.ntmps63
    go_wp2
    go_ret
    exact ⟨⟨_, rfl, OwnOf.nil _ _ _ _ _⟩, Below.refl _ _⟩
  | some ad =>
    have hnil : ∀ W, (binOp .eql 35 (.slice (some ad) l.length cap) (.slice none 0 0)).run Try.prog W = .ok (.bool false) W := fun W => Lib.run_eql_slice_nil W 35 52 (some ad) _ _ _ _ Try.underlying35
    clear h0
    have HO := Lib.hid (World.ownsRow_lit (base := w.heap.size) (e := 52) (size := 3) w #[] 0 (Nat.le_refl _) (by unfold maxLen; omega) (by simp))
    have HV2 := Lib.hid (HV.out.below ((Below.refl _ _).alloc (Nat.le_refl _) (Obj.cells #[] 52)))
    go_enter Try.func63, Try.ntmps63
    go_wp2_with (at_builtin; refine wpList_concat rfl _ _ _ rfl slSrc HO.out rfl HV2.out rfl H1.out (by omega) (by omega) (by simp) ?_; intro b' c' w' hown hg hat)
    go_ret
    refine ⟨⟨_, rfl, ?_⟩, below_push ((Below.refl _ _).alloc (Nat.le_refl _) _) HO.out (Nat.le_refl _) (by simp) hg⟩
    unfold OwnOf
    simpa using hown
end Go.Proofs.Ytbjbdochffocoaa
