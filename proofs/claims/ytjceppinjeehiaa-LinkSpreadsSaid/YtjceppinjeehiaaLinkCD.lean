/- The state of the range that collects cells in link.Reach: the box of the list, its row, and who keeps them. -/
import Derived.Test.YtjceppinjeehiaaLinkAH
import Derived.RangeFuncBox
import Derived.RangeFuncWrites
namespace Go.Proofs.Ytjceppinjeehiaa
open Go.RowKit
/-- What the body owns: the box of the list and its row. -/
def MineR (b6 N : Nat) (A : World) (b : Nat) : Prop := b < N ∧ b = b6 ∨ N ≤ b ∧ ∃ n cap, A.cell? ⟨b6, 0, none⟩ = some (.slice (some ⟨b, 0, none⟩) n cap)
theorem mineR_ok {b6 N B : Nat} (hB : b6 < B) : MineOk B (MineR b6 N) :=
  ⟨fun A A' hq b => by
    have h := hq.1.cell (p := ⟨b6, 0, none⟩) hB
    simp only [MineR, h], trivial⟩
/-- What holds between the rounds. -/
structure Coll (b6 N w0 : Nat) (w : World) (l : List C2) (W : World) (v : Value) : Prop where
  box : Boxed W b6 22 v
  row : W.ownsRow w0 24 2 v l.length (flatC l)
  ge : ∀ r, v.ownBlock = some r → N ≤ r
  bel : Below w0 w W
  size : N ≤ W.heap.size
theorem own_block {W : World} {base : Nat} {e : TypeId} {size n : Nat} {v : Value} {xs : List Value} (h : W.ownsRow base e size v n xs) {r : Nat} (hr : v.ownBlock = some r) : ∃ n' cap cur, v = .slice (some ⟨r, 0, none⟩) n' cap ∧ W.heap[r]? = some (.cells cur e (0, 0)) := by
  rcases h.2 with ⟨rfl, _⟩ | ⟨g, cap, cur, rfl, _, hg, _⟩
  · simp [Value.ownBlock] at hr
  · obtain rfl : g = r := by simpa [Value.ownBlock] using hr
    exact ⟨n, cap, cur, rfl, hg⟩
theorem row_of_block {W W' : World} {base : Nat} {e : TypeId} {size n : Nat} {v : Value} {xs : List Value} (h : W.ownsRow base e size v n xs) (hb : ∀ r, v.ownBlock = some r → W'.heap[r]? = W.heap[r]?) : W'.ownsRow base e size v n xs := by
  refine ⟨h.1, h.2.imp id ?_⟩
  rintro ⟨g, cap, cur, rfl, hbg, hg, r⟩
  exact ⟨g, cap, cur, rfl, hbg, (hb g rfl).trans hg, r⟩
variable {b6 N w0 : Nat} {w W W' : World} {l : List C2} {v : Value}
theorem Coll.mine (h : Coll b6 N w0 w l W v) (_h6 : b6 < N) {r : Nat} (hr : v.ownBlock = some r) : MineR b6 N W r := by
  obtain ⟨n', cap, cur, rfl, _⟩ := own_block h.row hr
  exact .inr ⟨h.ge r hr, n', cap, h.box.cell⟩
theorem Coll.mlt (h : Coll b6 N w0 w l W v) (h6 : b6 < N) : ∀ b, MineR b6 N W b → b < W.heap.size := by
  rintro b (⟨h1, rfl⟩ | ⟨h1, n, cap, h2⟩)
  · exact Nat.lt_of_lt_of_le h1 h.size
  · rw [h.box.cell] at h2
    injection h2 with h2
    obtain ⟨_, _, cur, _, hg⟩ := own_block h.row (r := b) (by rw [h2]; rfl)
    exact lt_of_block hg
theorem Coll.grown {row : Option Nat} (h : Coll b6 N w0 w l W v) (h6 : b6 < N) (hw : w0 ≤ N) (hg : W.grownBy W' row) (hr : ∀ r, row = some r → N ≤ r ∧ ∃ o : Obj, W.heap[r]? = some o ∧ o.isCells = false) : Coll b6 N w0 w l W' v := by
  refine ⟨h.box.kept hg (fun e => ?_), row_of_block h.row (fun r hr2 => ?_), h.ge, h.bel.grown hg (Nat.le_trans hw h.size) (fun r e => Nat.le_trans hw (hr r e).1), Nat.le_trans h.size hg.size⟩
  · have := (hr b6 e.symm).1
    omega
  · obtain ⟨_, _, cur, _, hc⟩ := own_block h.row hr2
    refine hg.block r (lt_of_block hc) (fun e => ?_)
    obtain ⟨_, o, ho, hf⟩ := hr r e.symm
    rw [hc] at ho
    cases ho
    cases hf
theorem Coll.step (h : Coll b6 N w0 w l W v) (h6 : b6 < N) (hw : w0 ≤ N) (hq : StepQ N (MineR b6 N) W W') : Coll b6 N w0 w l W' v := by
  refine ⟨(hq.1.block b6 h6).trans h.box, row_of_block h.row (fun r hr2 => ?_), h.ge, h.bel.trans (hq.1.mono hw), Nat.le_trans h.size hq.1.size⟩
  obtain ⟨_, _, cur, _, hc⟩ := own_block h.row hr2
  rw [hc]
  exact hq.2 r _ hc (.inl (h.mine h6 hr2))
theorem Coll.alloc (h : Coll b6 N w0 w l W v) (h6 : b6 < N) (hw : w0 ≤ N) (o : Obj) : Coll b6 N w0 w l (W.alloc o) v := h.grown h6 hw (World.grownBy_alloc W o none) (fun r e => by cases e)
theorem Coll.kpAlloc (h : Coll b6 N w0 w l W v) (_h6 : b6 < N) (o : Obj) : KpM (MineR b6 N) W (W.alloc o) := by
  have hb : Below W.heap.size W (W.alloc o) := (Below.refl _ _).alloc (Nat.le_refl _) _
  have hlt := h.box.lt
  have hm : ∀ b, MineR b6 N (W.alloc o) b → MineR b6 N W b := fun b hm => by
    have e := hb.cell (p := ⟨b6, 0, none⟩) hlt
    simpa only [MineR, e] using hm
  exact ⟨hb.size, fun b o' ho _ _ => (hb.block b (lt_of_block ho)).trans ho, fun b hb2 => .inl (hm b hb2), fun h0 b hb2 => Nat.lt_of_lt_of_le (h0 b (hm b hb2)) hb.size⟩
/-- The list has got one cell more: a row was made or grown, and the box turned. -/
theorem Coll.push (h : Coll b6 N w0 w l W v) (h6 : b6 < N) (hw : w0 ≤ N) (hw6 : w0 ≤ b6) {w5 : World} {tmp : Obj} {g c : Nat} {x : C2} (hg : (W.alloc tmp).grownBy w5 v.ownBlock) (hat : v.ownBlock = some g ∨ (W.alloc tmp).heap.size ≤ g)
    (hown : w5.ownsRow w0 24 2 (.slice (some ⟨g, 0, none⟩) (l.length + 1) c) (l.length + 1) (flatC l ++ [.int .i64 x.1, .int .i64 x.2])) (hte : 22 ≠ 24) :
    Boxed w5 b6 22 v ∧ KeepsOthers W (w5.setCell ⟨b6, 0, none⟩ (.slice (some ⟨g, 0, none⟩) (l.length + 1) c)) ∧ KpM (MineR b6 N) W (w5.setCell ⟨b6, 0, none⟩ (.slice (some ⟨g, 0, none⟩) (l.length + 1) c)) ∧ Coll b6 N w0 w (l ++ [x]) (w5.setCell ⟨b6, 0, none⟩ (.slice (some ⟨g, 0, none⟩) (l.length + 1) c)) (.slice (some ⟨g, 0, none⟩) (l.length + 1) c) := by
  have happ := h.box.appended hte h.row (Nat.le_trans hw h.size) hw6 hown hg
  obtain ⟨h1, h2, h3, h4, h5⟩ := happ
  have hga : N ≤ g := by
    rcases hat with e | e
    · exact h.ge g e
    · simp at e; have := h.size; omega
  have hcoll : Coll b6 N w0 w (l ++ [x]) (w5.setCell ⟨b6, 0, none⟩ (.slice (some ⟨g, 0, none⟩) (l.length + 1) c)) (.slice (some ⟨g, 0, none⟩) (l.length + 1) c) := by
    refine ⟨h2, ?_, fun r hr => ?_, h.bel.trans h5, Nat.le_trans h.size h4.size⟩
    · rw [flatC_snoc, List.length_append]; exact h3
    · obtain rfl : g = r := by simpa [Value.ownBlock] using hr
      exact hga
  have hback : ∀ b, MineR b6 N (w5.setCell ⟨b6, 0, none⟩ (.slice (some ⟨g, 0, none⟩) (l.length + 1) c)) b → MineR b6 N W b ∨ W.heap.size ≤ b := by
    rintro b (hb | ⟨hb, n, cap, h2'⟩)
    · exact .inl (.inl hb)
    · rw [h2.cell] at h2'
      obtain rfl : g = b := by injection h2' with e; injection e with e1; injection e1 with e2; injection e2
      rcases hat with e | e
      · exact .inl (h.mine h6 e)
      · right; simp at e; omega
  refine ⟨h1, h4, ⟨h4.size, fun b o ho hoc hm => ?_, hback, fun _ => hcoll.mlt h6⟩, hcoll⟩
  have hlt := lt_of_block ho
  have hne6 : b ≠ b6 := fun e => hm (.inl ⟨by omega, e⟩)
  have hnr : some b ≠ v.ownBlock := fun e => hm (h.mine h6 e.symm)
  have e1 := hg.block b (by simp; omega) hnr
  rw [Below.heap_setCell w5 ⟨b6, 0, none⟩ _ b (fun e => hne6 e), e1, Below.heap_alloc _ _ _ hlt]
  exact ho
end Go.Proofs.Ytjceppinjeehiaa
