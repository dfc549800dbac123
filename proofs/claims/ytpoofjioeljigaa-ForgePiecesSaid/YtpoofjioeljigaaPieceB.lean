/- The walks of slices.Clone at bytes and of forge.next. -/
import Derived.Test.YtpoofjioeljigaaPieceA
import Derived.Test.YtpoofjioeljigaaKitD
namespace Go.Proofs.Ytpoofjioeljigaa
open Go.RowKit
set_option maxHeartbeats 4000000 in
set_option maxRecDepth 100000 in
theorem Clone_any (v : Value) (l : List Int) (hl : l.length ≤ 100000) (w : World) (hv : BSl w w.heap.size v l) :
    Calls Try.prog 102 #[v] w fun e w' => ∃ v', e = .returned v' ∧ Below w.heap.size w w' ∧ BOwn w' w.heap.size v' l := by
  have hs := hv.1
  have hy := hv.2
  have ho := fun o => hs.kept ((Below.refl _ w).alloc (Nat.le_refl _) o)
  obtain ⟨a, cap, rfl, -, -, hr⟩ := hv.rd
  obtain ⟨a2, c2, he, -, hc, -, hn, -⟩ := hs
  cases he
  cases a with
  | none =>
    have hc0 := hn rfl
    have hl0 : l = [] := List.eq_nil_of_length_eq_zero (by omega)
    subst hl0
    subst hc0
    have hq := fun (W : World) => Lib.run_eql_slice_nil (P := Try.prog) W 34 5 none 0 0 0 0 Try.underlying34
    clear ho hv hr hn
    go_enter Try.func102, Try.ntmps102
    go_wp2
    go_ret
    exact ⟨_, rfl, Below.refl _ _, by simpa using own_nil' _ _⟩
  | some ad =>
    have hq := fun (W : World) => Lib.run_eql_slice_nil (P := Try.prog) W 34 5 (some ad) l.length cap 0 0 Try.underlying34
    clear hv hr hn
    have HO := Lib.hid ho; clear ho
    go_enter Try.func102, Try.ntmps102
    go_wp2_with (at_builtin; refine wpList_concat rfl _ _ _ rfl slU8 (World.ownsRow_made (base := w.heap.size) w #[] 0 (Nat.le_refl _) (by unfold maxLen; omega) rfl) rfl (HO.out _) rfl (oneCell_vals _) (by omega) (by omega) (by simp) ?_; intro b2 e2 w1 hown hg hat)
    go_ret
    have hb := below_push ((Below.refl w.heap.size w).alloc (Nat.le_refl _) _) (World.ownsRow_made (base := w.heap.size) (e := 5) (size := 1) w #[] 0 (Nat.le_refl _) (by unfold maxLen; omega) rfl) (Nat.le_refl _) (by simp) hg
    exact ⟨_, rfl, hb, BOwn.mk' (by simpa using hown) hy⟩
end Go.Proofs.Ytpoofjioeljigaa
