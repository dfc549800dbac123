/- An element put behind a slice of the call's own, inside a fence. Conditions: none. -/
import Derived.Shelf.Abstract
import Derived.Shelf.RegionOpen
import Derived.WalkKit
import Derived.OwnWalkIn
import Derived.TacticsInMore
import Derived.LoopNIn
import Derived.LoopIn
import Derived.Maps.OwnIn
import Derived.Maps.AppendAt
import Derived.Test.YtndfdgdahinkpaaKitI
namespace Go.Proofs.Ytndfdgdahinkpaa
open Go.RowKit Go.Shelf
/-- 'append(s, x)' of one element, inside a fence. -/
theorem pushIn {F : Fence} {nF : Nat} {P : Program} {ops : Array Oper} {rest : List Oper} {o : Oper} {a : Act} {Q : Exit → Act → World → Prop} {w0 : World} {cs : Array Value} {t0 : TypeId} (hgd : o.guard = none) (s x : Operand) (t : TypeId)
    (ho : o.op = .call { callee := .builtin .append, args := #[s, x], argTypes := #[t, t] })
    {base : Nat} {e : TypeId} {z : Value} {size bytes : Nat} (T : SlT P t e z size bytes)
    {v : Value} {n : Nat} {xs : List Value} (hown : w0.ownsRow base e size v n xs) (hs : a.eval s = v)
    {b c : Nat} (hx : a.eval x = .slice (some ⟨b, 0, none⟩) 1 c) (hb : b = w0.heap.size) (hcs : cs.size = size) (h1 : cs.toList.all Value.oneCell' = true)
    (h63 : n + 1 ≤ 1073741824) (hbytes : bytes ≤ 1024) (hbase : base ≤ w0.heap.size)
    (h : ∀ (g c' : Nat) (w' : World), w'.ownsRow base e size (.slice (some ⟨g, 0, none⟩) (n + 1) c') (n + 1) (xs ++ cs.toList) → (w0.alloc (.cells cs t0)).grownBy w' v.ownBlock → (v.ownBlock = some g ∨ (w0.alloc (.cells cs t0)).heap.size ≤ g) → wpListIn F nF P ops Q rest (a.put o.dst (.slice (some ⟨g, 0, none⟩) (n + 1) c')) w') :
    wpListIn F nF P ops Q (o :: rest) a (w0.alloc (.cells cs t0)) := by
  obtain ⟨ht, hinf, hzs, hsz⟩ := T
  obtain ⟨i, hi, hz, hz1, hz2⟩ := info_parts hinf
  subst hb
  refine wpListIn_append_own_at _ hgd s x t ho base e i z size bytes ht hi hz hz1 hz2 hzs hsz v n xs hs (hown.alloc _) ⟨w0.heap.size, 0, none⟩ 1 c cs.toList hx (by simp [hcs]) ?_ ?_ (by unfold maxLen; omega) ?_ (by simp; omega) ?_
  · intro j u hj
    have hj' : cs[j]? = some u := by simpa using hj
    have e : (⟨w0.heap.size, 0, none⟩ : Addr).add j = ⟨w0.heap.size, j, none⟩ := by simp only [Addr.add]; split <;> simp_all
    rw [e]
    simp only [World.cell?, heap_alloc_new]
    exact hj'
  · intro u hu
    exact List.all_eq_true.1 h1 u hu
  · have : (n + 1) * bytes ≤ 1073741824 * 1024 := Nat.mul_le_mul h63 hbytes
    omega
  · intro v' w' ho' hg _ hat
    rcases ho'.2 with ⟨_, hn⟩ | ⟨g, cap, cur, rfl, hr⟩
    · omega
    · refine h g cap w' ho' hg ?_
      rcases hat with hat | hat
      · exact .inl hat.symm
      · simp [Value.ownBlock] at hat; exact .inr (by simp; omega)
theorem OwnOf.from {β α : Type} {enc : α → List Value} {base : Nat} {e : TypeId} {sz : Nat} (B : Nat) (f : β → Value) (g : β → List α) : OwnFrom B (fun (s : β) W => OwnOf W base e sz enc (f s) (g s)) := by
  intro s W W' row h hg hr
  refine ⟨h.1, h.2.imp id ?_⟩
  rintro ⟨b, cap, cur, hv, hbg, hb, r⟩
  refine ⟨b, cap, cur, hv, hbg, (hg.block b (lt_of_block hb) (fun e => ?_)).trans hb, r⟩
  obtain ⟨_, o, ho, hc⟩ := hr b e.symm
  rw [hb] at ho; cases ho; cases hc
theorem ownFrom_ex {β γ : Type} {B : Nat} {I : γ → β → World → Prop} (h : ∀ c, OwnFrom B (I c)) : OwnFrom B (fun s W => ∃ c, I c s W) := fun s W W' row hs hg hr => by
  obtain ⟨c, hc⟩ := hs
  exact ⟨c, h c s W W' row hc hg hr⟩
theorem OwnOf.grown {α : Type} {w w1 : World} {base : Nat} {e : TypeId} {sz : Nat} {enc : α → List Value} {v : Value} {l : List α} {row : Option Nat} (h : OwnOf w base e sz enc v l) (hg : w.grownBy w1 row) (hr : v.ownBlock ≠ row ∨ v.ownBlock = none) : OwnOf w1 base e sz enc v l := by
  refine ⟨h.1, h.2.imp id ?_⟩
  rintro ⟨g, cap, cur, rfl, hbg, hb, r⟩
  refine ⟨g, cap, cur, rfl, hbg, (hg.block g (lt_of_block hb) (fun e => ?_)).trans hb, r⟩
  rcases hr with hr | hr
  · exact hr e
  · cases hr
end Go.Proofs.Ytndfdgdahinkpaa
