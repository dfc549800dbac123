/- Rows of cells: reading them, owning them beside a caller's. -/
import Derived.Test.YtjceppinjeehiaaLinkM
import Derived.Test.YtjceppinjeehiaaLinkQ
import Derived.Test.YtjceppinjeehiaaKitC
namespace Go.Proofs.Ytjceppinjeehiaa
open Go.RowKit
def flatC (cs : List C2) : List Value := cs.flatMap fun c => [.int .i64 c.1, .int .i64 c.2]
theorem flatC_snoc (cs : List C2) (c : C2) : flatC (cs ++ [c]) = flatC cs ++ [.int .i64 c.1, .int .i64 c.2] := by simp [flatC]
theorem flatC_at : ∀ (cs : List C2) (k : Nat) (h : k < cs.length), (flatC cs)[2 * k]? = some (.int .i64 cs[k].1) ∧ (flatC cs)[2 * k + 1]? = some (.int .i64 cs[k].2)
  | c :: cs, 0, _ => by simp [flatC]
  | c :: cs, k + 1, h => by
    have := flatC_at cs k (by simpa using h)
    simp only [flatC, List.flatMap_cons, List.cons_append, List.nil_append, List.getElem_cons_succ, show 2 * (k + 1) = 2 * k + 1 + 1 by omega, List.getElem?_cons_succ] at this ⊢
    exact this
theorem slCs : SlT Try.prog 22 24 (.agg #[.int .i64 0, .int .i64 0]) 2 16 := ⟨Try.underlying22, by kernel_rfl, rfl, by decide⟩
theorem size_cs (W : World) : (sizeOf (Try.prog.elem 22)).run Try.prog W = .ok 2 W := by kernel_rfl
theorem under_cs : Try.prog.underlying 22 = some (.slice (Try.prog.elem 22)) := by kernel_rfl
theorem idx_cs (g off n cap : Nat) (k : Nat) (hk : k < n) (W : World) : (Instr.indexAt 22 (.slice (some ⟨g, off, none⟩) n cap) (.int .i64 (k : Int))).run Try.prog W = .ok (.pointer (some ⟨g, off + 2 * k, none⟩)) W := by
  rw [run_indexAt_slice (P := Try.prog) (w := W) _ _ _ _ _ _ under_cs, if_pos (by omega), size_cs]
  simp only [Result.andThen, Int.toNat_natCast, Addr.add, Nat.mul_comm]
  split <;> simp_all
/-- v reads the cells cs, which lie in block g from off on. -/
def CRd (w : World) (v : Value) (g off : Nat) (cs : List C2) : Prop :=
  ∃ cap, cs.length ≤ cap ∧ cap ≤ maxLen ∧ (((∃ a c, v = .slice a 0 c) ∧ cs = []) ∨ (v = .slice (some ⟨g, off, none⟩) cs.length cap ∧ g < w.heap.size ∧ ∀ k (h : k < cs.length), w.cell? ⟨g, off + 2 * k, none⟩ = some (.int .i64 cs[k].1) ∧ w.cell? ⟨g, off + 2 * k + 1, none⟩ = some (.int .i64 cs[k].2)))
/-- v owns a row of the cells cs from lo on, no block of which is Mine. -/
def RowN (Mine : World → Nat → Prop) (lo : Nat) (w : World) (v : Value) (cs : List C2) : Prop :=
  w.ownsRow lo 24 2 v cs.length (flatC cs) ∧ ∀ g, v.ownBlock = some g → ¬ Mine w g
theorem RowN.nil (Mine : World → Nat → Prop) (lo : Nat) (w : World) : RowN Mine lo w (.slice none 0 0) [] := ⟨World.ownsRow_nil _ _ _ _, fun g h => by simp [Value.ownBlock] at h⟩
theorem RowN.shape {Mine : World → Nat → Prop} {lo : Nat} {w : World} {v : Value} {cs : List C2} (h : RowN Mine lo w v cs) : ∃ a c, v = .slice a cs.length c := by
  obtain ⟨⟨_, ⟨rfl, h0⟩ | ⟨g, cap, cur, rfl, _⟩⟩, _⟩ := h
  · exact ⟨_, _, by rw [h0]⟩
  · exact ⟨_, _, rfl⟩
/-- The block of an own row, whoever keeps it. -/
theorem RowN.of_block {Mine : World → Nat → Prop} {lo : Nat} {w w' : World} {v : Value} {cs : List C2} (h : RowN Mine lo w v cs) (hb : ∀ g (o : Obj), v.ownBlock = some g → w.heap[g]? = some o → o.isCells = true → ¬ Mine w g → w'.heap[g]? = some o ∧ ¬ Mine w' g) : RowN Mine lo w' v cs := by
  obtain ⟨⟨hl, h1 | ⟨g, cap, cur, rfl, hlo, hg, r⟩⟩, hm⟩ := h
  · exact ⟨⟨hl, .inl h1⟩, fun g hg => by rw [h1.1] at hg; simp [Value.ownBlock] at hg⟩
  · have := hb g _ rfl hg rfl (hm g rfl)
    exact ⟨⟨hl, .inr ⟨g, cap, cur, rfl, hlo, this.1, r⟩⟩, fun g' hg' => by simp [Value.ownBlock] at hg'; subst hg'; exact this.2⟩
/-- .. a round of the caller's. -/
theorem RowN.round {Mine : World → Nat → Prop} {lo : Nat} {w w' : World} {v : Value} {cs : List C2} (h : RowN Mine lo w v cs) (hk : KpM Mine w w') : RowN Mine lo w' v cs :=
  h.of_block fun g _ _ hg hc hm => ⟨hk.2.1 g _ hg (.inl hc) hm, fun hm' => (hk.2.2.1 g hm').elim hm (fun hle => by have := (Array.getElem?_eq_some_iff.1 hg).1; omega)⟩
/-- .. a step that turns another block alone. -/
theorem RowN.kept {Mine : World → Nat → Prop} {B lo : Nat} {w w' : World} {v : Value} {cs : List C2} {row : Option Nat} (h : RowN Mine lo w v cs) (hM : ∀ A A', StepQ B Mine A A' → ∀ b, Mine A' b → Mine A b) (hq : StepQ B Mine w w') (hg : w.grownBy w' row) (hne : ∀ g, v.ownBlock = some g → some g ≠ row) : RowN Mine lo w' v cs :=
  h.of_block fun g _ hv ho _ hm => ⟨(hg.block g (Array.getElem?_eq_some_iff.1 ho).1 (hne g hv)).trans ho, fun hm' => hm (hM _ _ hq g hm')⟩
theorem StepQ.trans {B : Nat} {Mine : World → Nat → Prop} {X Y Z : World} (hM : ∀ b, Mine X b → Mine Y b) (h : StepQ B Mine X Y) (k : StepQ B Mine Y Z) : StepQ B Mine X Z :=
  ⟨h.1.trans k.1, fun b o hb ho => k.2 b o (h.2 b o hb ho) (ho.imp (hM b) id)⟩
/-- A step that turns at most one block, an own one of cells or a walk. -/
theorem StepQ.grown {B : Nat} {Mine : World → Nat → Prop} {W W' : World} {row : Option Nat} (hg : W.grownBy W' row) (hB : B ≤ W.heap.size) (hr : ∀ r, row = some r → B ≤ r ∧ ¬ Mine W r ∧ ∃ o, W.heap[r]? = some o ∧ (o.isCells = true ∨ o.isWalk = true)) : StepQ B Mine W W' := by
  refine ⟨(Below.refl B W).grown hg hB (fun k e => (hr k e).1), fun b o hb ho => ?_⟩
  refine (hg.block b (Array.getElem?_eq_some_iff.1 hb).1 (fun e => ?_)).trans hb
  obtain ⟨_, h2, o', h3, h4⟩ := hr b e.symm
  rw [hb] at h3
  cases h3
  rcases ho with ho | ho
  · exact h2 ho
  · rcases h4 with h4 | h4
    · rw [ho.1] at h4; cases h4
    · rw [ho.2] at h4; cases h4
end Go.Proofs.Ytjceppinjeehiaa
