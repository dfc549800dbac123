/- fold.compare: the order of cells; slices.SortFunc with it, and slices.Compact behind it: what a list of cells becomes. Conditions: none. -/
import Derived.Test.YtnejicklenhpeaaGreatCelI
import Derived.Test.YtnejicklenhpeaaGreatFoldR
import Derived.Laws.Rows
namespace Go.Proofs.YtnejicklenhpeaaGreat
open Go.RowKit Go.Sort Go.Shelf Go.Lib
set_option linter.unusedVariables false
set_option maxHeartbeats 4000000 in
set_option maxRecDepth 100000 in
theorem fcompare_l (x y : Int × Int) (W : World) : Calls Tryz.prog 53 #[.agg #[.int .i64 (x.1), .int .i64 (x.2)], .agg #[.int .i64 (y.1), .int .i64 (y.2)]] W fun e w' => e = .returned (.int .i64 (cmpC x y)) ∧ ∃ q os', w' = grow (W.drewN q) os' := by
  go_enter Tryz.func53, Tryz.ntmps53
  go_wp2
  go_quiet ((go_at_call 109; refine Calls.quiet_of_same (compareS_l x y _ _ _ _ _ (by go_simp) (by go_simp) (by go_simp) (by go_simp))))
  go_wp2
  go_ret
  refine ⟨rfl, nq, #[.cells #[.int .i64 x.1, .int .i64 x.2] 31, .cells #[.int .i64 y.1, .int .i64 y.2] 31], ?_⟩
  simp only [alloc_eq_grow, grow_grow]
  rfl
theorem fcmpLays (blk off size : Nat) (w : World) : CmpLays Tryz.prog 53 #[] encC 2 cmpC blk off size w :=
  fun _ _ _ _ x y => fcompare_l x y _
theorem grown_refl (W : World) (row : Option Nat) : W.grownBy W row := ⟨rfl, rfl, rfl, Nat.le_refl _, fun _ _ _ => rfl⟩
/-- A list of cells of the call's own, sorted. -/
theorem fsort_l (W : World) (lo : Nat) (v : Value) (l : List (Int × Int)) (hown : OwnOf W lo 31 2 encC v l) (hlo : lo ≤ W.heap.size) (hlen : l.length ≤ 100000) (hn : l = [] → v = .slice none 0 0) :
    Calls Tryz.prog 98 #[v, .func (.func 53) #[] #[]] W fun e W' => e = .returned (.tuple #[]) ∧ ∃ l' : List (Int × Int), l'.Perm l ∧ SortedC l' ∧ OwnOf W' lo 31 2 encC v l' ∧ W.grownBy W' v.ownBlock := by
  by_cases hpos : 0 < l.length
  · exact sortsG 53 (enters_of Tryz.func53 (by kernel_rfl) rfl) fcmpLays W lo v l hown hlo hlen hpos
  · obtain rfl : l = [] := List.eq_nil_of_length_eq_zero (by omega)
    obtain rfl := hn rfl
    exact (sort_nilG 53 W).mono fun e w' ⟨he, hw⟩ => by
      subst hw; exact ⟨he, [], List.Perm.refl _, List.Pairwise.nil, hown, grown_refl _ _⟩
/-- A sorted list of cells of the call's own, with each cell once. -/
theorem fcompact_l (W : World) (lo : Nat) (v : Value) (l l0 : List (Int × Int)) (hown : OwnOf W lo 31 2 encC v l) (hs : SortedC l) (hp : l.Perm l0) (hlen : l.length ≤ 100000) (hn : l = [] → v = .slice none 0 0) :
    Calls Tryz.prog 99 #[v] W fun e W' => ∃ v', e = .returned v' ∧ SlOf W' W'.heap.size 2 encC v' (sortC l0) ∧ v'.ownBlock = v.ownBlock ∧ W.grownBy W' v.ownBlock := by
  by_cases hpos : 0 < l.length
  · obtain ⟨g, cap, rfl, hlo, hc, hm, hrow⟩ := hown.row hpos
    have h := compact_any l.toArray g cap W hrow (by simpa using hlen) (by simpa using hc) (by unfold maxLen at hm; exact hm)
    rw [show l.toArray.size = l.length by simp] at h
    refine h.mono ?_
    rintro e W' ⟨rfl, hr, -, hg⟩
    have hcs := compact_sortC hs hp
    rw [show l.toArray.size = l.length by simp, hcs] at hr ⊢
    exact ⟨_, rfl, hr.sl (by have := sortC_len l0; have := hp.length_eq; omega) hm, rfl, hg⟩
  · obtain rfl : l = [] := List.eq_nil_of_length_eq_zero (by omega)
    obtain rfl := hn rfl
    obtain rfl : l0 = [] := List.eq_nil_of_length_eq_zero (by simpa using hp.length_eq.symm)
    exact (compact_nil W).mono fun e w' ⟨he, hw⟩ => by
      subst hw; exact ⟨_, he, Sl.nil _ _ _, rfl, grown_refl _ _⟩
end Go.Proofs.YtnejicklenhpeaaGreat
