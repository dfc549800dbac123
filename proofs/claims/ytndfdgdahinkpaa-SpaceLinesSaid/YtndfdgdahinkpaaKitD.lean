/- An element put behind a slice of the call's own, inside a region that draws its order. Conditions: none. -/
import Derived.Test.YtndfdgdahinkpaaKitC
import Derived.Deep.RegionHeld3
import Derived.Deep.AppendLies
namespace Go.Proofs.Ytndfdgdahinkpaa
open Go.RowKit
theorem grown_drew {w0 w : World} {row : Option Nat} (h : w0.grownBy w row) : w0.grownBy w.drew row := ⟨h.os, h.tape, h.output, h.size, h.block⟩
theorem grown_alloc {w0 w : World} {row : Option Nat} (h : w0.grownBy w row) (o : Obj) : w0.grownBy (w.alloc o) row := h.trans (World.grownBy_alloc _ _ _)
theorem step_push {P : Program} {ops : Array Oper} {o : Oper} {a : Act} {w w0 : World} {K : Act → World → Prop} {Q : Exit → Act → World → Prop} {E : Prop} (hgd : o.guard = none) (s x : Operand) (t : TypeId)
    (ho : o.op = .call { callee := .builtin .append, args := #[s, x], argTypes := #[t, t] })
    {base : Nat} {e : TypeId} {z : Value} {size bytes : Nat} (T : SlT P t e z size bytes)
    {v : Value} {n : Nat} {xs : List Value} (hown : w0.ownsRow base e size v n xs) (hs : a.eval s = v)
    {b c : Nat} {cs : Array Value} {t0 : TypeId} (hx : a.eval x = .slice (some ⟨b, 0, none⟩) 1 c) (hb : w.heap[b]? = some (.cells cs t0)) (hcs : cs.size = size) (h1 : cs.toList.all Value.oneCell' = true)
    (h63 : n + 1 ≤ 1073741824) (hbytes : bytes ≤ 1024) (hbase : base ≤ w0.heap.size) (hw0 : w0.grownBy w none)
    (h : ∀ (g c' : Nat) (w' : World), w'.ownsRow base e size (.slice (some ⟨g, 0, none⟩) (n + 1) c') (n + 1) (xs ++ cs.toList) → w0.grownBy w' v.ownBlock → (v.ownBlock = some g ∨ w0.heap.size ≤ g) → K (a.put o.dst (.slice (some ⟨g, 0, none⟩) (n + 1) c')) w') :
    if Region.wanted o (yielded ops a.tmps) = true then Oper.wp P o a w K Q else E := by
  obtain ⟨ht, hinf, hzs, hsz⟩ := T
  obtain ⟨i, hi, hz, hz1, hz2⟩ := info_parts hinf
  refine step_append_lies w hgd s x t ho base e i z size bytes ht hi hz hz1 hz2 hzs hsz v n xs hs (hown.kept hw0 (by cases v.ownBlock <;> simp)) ⟨b, 0, none⟩ 1 c cs.toList hx (by simp [hcs]) (World.news_of_block hb) (fun u hu => List.all_eq_true.1 h1 u hu) (by omega) (by unfold maxLen; omega) ?_ (Nat.le_trans hbase hw0.size) _ rfl ?_
  · have : (n + 1) * bytes ≤ 1073741824 * 1024 := Nat.mul_le_mul h63 hbytes
    omega
  · intro g cap w' ho' hg hat _
    have hw1 : w0.grownBy w v.ownBlock := ⟨hw0.os, hw0.tape, hw0.output, hw0.size, fun i hi _ => hw0.block i hi (by simp)⟩
    exact h g cap w' ho' (hw1.trans hg) (hat.imp id (fun e => by rw [e]; exact hw0.size))
end Go.Proofs.Ytndfdgdahinkpaa
