/- Maps that a call makes, told as functions from keys to values. Conditions: none. -/
import Derived.Maps.OwnIn
import Derived.Maps.Views
import Derived.DeepKeys4
import Derived.RangeFuncNested
import Derived.Test.YtndfdgdahinkpaaKit
namespace Go.Proofs.Ytndfdgdahinkpaa
open Go.RowKit
def heldR (v : Value) : Option (DataW Value × List MemPlace) := some (.held v, [])
/-- Block b is a map that has the value f a at the key kv a, and n entries at most. -/
def MapV {α : Type} (P : Program) (K : TypeId) (kv : α → Value) (w : World) (b n : Nat) (f : α → Option Value) : Prop :=
  ∃ D : DataW Value, w.ownsMap P K heldR b n D ∧ Maps.IsMap D ∧ ∀ a kl zd, keyOf P K (kv a) = some kl → D.atKey kl zd = (match f a with | some v => .held v | none => zd)
section
variable {α : Type} {P : Program} {K t e : TypeId} {kv : α → Value} {w w' : World} {b n : Nat} {f : α → Option Value}
theorem MapV.made (P : Program) (K : TypeId) (kv : α → Value) (w : World) : MapV P K kv (w.alloc (.map #[] 0)) w.heap.size 0 (fun _ => none) := ⟨.map [], World.ownsMap_made _ _ _ _, ⟨[], rfl⟩, fun x kl zd _ => by simp [WideAt.atKey_none]⟩
theorem MapV.lt (h : MapV P K kv w b n f) : b < w.heap.size := by obtain ⟨D, h1, -⟩ := h; exact h1.lt
theorem MapV.isWalk (h : MapV P K kv w b n f) : ∃ o, w.heap[b]? = some o ∧ o.isCells = false ∧ o.isWalk = true := by
  obtain ⟨D, ⟨es, clock, hb, _⟩, -⟩ := h
  exact ⟨_, hb, rfl, rfl⟩
theorem MapV.of_block (h : MapV P K kv w b n f) (hb : w'.heap[b]? = w.heap[b]?) : MapV P K kv w' b n f := by
  obtain ⟨D, ⟨es, clock, h1, r⟩, h2⟩ := h
  exact ⟨D, ⟨es, clock, hb.trans h1, r⟩, h2⟩
theorem MapV.kept (h : MapV P K kv w b n f) (hb : Below w.heap.size w w') : MapV P K kv w' b n f := h.of_block (hb.block b h.lt)
theorem MapV.grown {row : Option Nat} (h : MapV P K kv w b n f) (hg : w.grownBy w' row) (hr : some b ≠ row) : MapV P K kv w' b n f := h.of_block (hg.block b h.lt hr)
theorem MapV.look (h : MapV P K kv w b n f) (hK : Maps.Keyed P K) (ht : P.underlying t = some (.map K e)) {z : Value} (hz : (zeroValue e).run P w = .ok z w) {a : α} {kl : Lit} (hk : keyOf P K (kv a) = some kl) :
    (Instr.lookup t (.map (some b)) (kv a) false).run P w = .ok ((f a).getD z) w := by
  obtain ⟨D, h1, hm, h2⟩ := h
  obtain ⟨v, ps, hr, hv⟩ := h1.lookup (t := t) hK ht hz (zd := .held z) (zp := []) rfl hk
  rw [h2 a kl _ hk] at hv
  rw [hr]
  cases hf : f a with
  | none => rw [hf] at hv; simp [heldR] at hv; rw [hv.1]; rfl
  | some u => rw [hf] at hv; simp [heldR] at hv; rw [hv.1]; rfl
theorem MapV.lookOk (h : MapV P K kv w b n f) (hK : Maps.Keyed P K) (ht : P.underlying t = some (.map K e)) {z : Value} (hz : (zeroValue e).run P w = .ok z w) {a : α} {kl : Lit} (hk : keyOf P K (kv a) = some kl) :
    (Instr.lookup t (.map (some b)) (kv a) true).run P w = .ok (.tuple #[(f a).getD z, .bool (f a).isSome]) w := by
  obtain ⟨D, ⟨es, clock, hb, F, _, rfl⟩, hm, h2⟩ := h
  rcases Maps.fit_look true hK ht hz hb F hk with ⟨hrun, _, hat⟩ | ⟨e0, y, _, _, hrun, hRv, hat, _⟩
  · rw [hrun]
    cases hf : f a with
    | none => rfl
    | some u =>
      have e1 := (hat (.held .nilFunc)).symm.trans (h2 a kl _ hk)
      have e2 := (hat .nil).symm.trans (h2 a kl _ hk)
      rw [hf] at e1 e2
      simp only at e1 e2
      rw [← e1] at e2; cases e2
  · rw [hrun]
    have hy : y = (.held e0.val, []) := by simp [heldR] at hRv; exact hRv.symm
    subst hy
    cases hf : f a with
    | none =>
      have e2 := (hat .nil).symm.trans (h2 a kl _ hk)
      rw [hf] at e2; cases e2
    | some u =>
      have e2 := (hat .nil).symm.trans (h2 a kl _ hk)
      rw [hf] at e2
      simp only [DataW.held.injEq] at e2
      rw [e2]; rfl
theorem MapV.put [DecidableEq α] (h : MapV P K kv w b n f) (hK : Maps.Keyed P K) (ht : P.underlying t = some (.map K e)) (hinj : ∀ x y, kv x = kv y → x = y) (hn : n < 1000000) {a : α} {kl : Lit} (hk : keyOf P K (kv a) = some kl) (u : Value) :
    ∃ w', (Instr.mapUpdate t (.map (some b)) (kv a) u).run P w = .ok () w' ∧ MapV P K kv w' b (n + 1) (fun x => if x = a then some u else f x) ∧ w.grownBy w' (some b) := by
  obtain ⟨D, h1, hm, h2⟩ := h
  obtain ⟨w', hr, ho, hg⟩ := h1.update (t := t) hK ht (by unfold maxLen; omega) hk (val := u) (d := .held u) (ps := []) rfl
  refine ⟨w', hr, ⟨D.put kl (.held u), ho, hm.put _ _, ?_⟩, hg⟩
  intro x kl' zd hk'
  by_cases he : kl' = kl
  · subst he
    have := hinj _ _ (hK.inj hk' hk)
    rw [Maps.atKey_put_same hm (hK.key hk)]
    simp only [if_pos this]
  · have hne : x ≠ a := by rintro rfl; rw [hk] at hk'; cases hk'; exact he rfl
    rw [Maps.atKey_put_other he, h2 x kl' zd hk']
    simp only [if_neg hne]
end
end Go.Proofs.Ytndfdgdahinkpaa
