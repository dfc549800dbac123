/- The walks of the reference's hops and Hops. -/
import Derived.Test.YtjceppinjeehiaaLinkAJ
namespace Go.Proofs.Ytjceppinjeehiaa
open Go.RowKit
theorem below_setCells {B : Nat} {a : World} {b : Nat} (hB : B ≤ b) : ∀ (vs : List Value) (o : Nat) {w : World}, Below B a w → Below B a (w.setCells b o vs)
  | [], _, _, h => h
  | v :: r, o, w, h => by
    rw [World.setCells]
    exact below_setCells hB r (o + 1) (h.setCell (p := ⟨b, o, none⟩) hB v)
theorem wpList_alloc_z {P : Program} {ops : Array Oper} {rest : List Oper} {o : Oper} {a : Act} {w : World} {Q : Exit → Act → World → Prop} (hgd : o.guard = none) (ty : TypeId) (ho : o.op = .alloc ty) {Z : Array Value}
    (hrun : ∀ W, (Instr.alloc ty true (.tuple #[])).run P W = .ok (.pointer (some ⟨W.heap.size, 0, none⟩)) (W.alloc (.cells Z ty)))
    (h : wpList P ops Q rest (a.put o.dst (.pointer (some ⟨w.heap.size, 0, none⟩))) (w.alloc (.cells Z ty))) : wpList P ops Q (o :: rest) a w :=
  wpList_plain hgd fun _ hK => by
    unfold Oper.wp execOp
    simp only [ho, Sem.run_bind, Sem.run_pure, Result.andThen_ok, hrun]
    exact hK _ _ h
theorem alloc_tab : ∃ Z : Array Value, (∀ W, (Instr.alloc 60 true (.tuple #[])).run Try.prog W = .ok (.pointer (some ⟨W.heap.size, 0, none⟩)) (W.alloc (.cells Z 60))) ∧ Z.size = 5329 := by
  have hz := tab_zero
  cases hi : Try.prog.info? 60 with
  | none => rw [hi] at hz; cases hz
  | some i =>
    rw [hi] at hz
    simp only [Option.map_some, Option.some.injEq, Prod.mk.injEq] at hz
    obtain ⟨h1, h2, h3⟩ := hz
    cases hz2 : i.zero with
    | none => rw [hz2] at h3; cases h3
    | some z =>
      rw [hz2] at h3
      simp only [Option.map_some, Option.some.injEq, Prod.mk.injEq] at h3
      exact ⟨z.cells, fun W => by simp [Instr.alloc, zeroValue, typeInfo, hi, hz2, newVar, newRow], h3.1⟩
theorem Tab.range {w : World} {b N : Nat} {T : Nat → Nat → Nat → Bool} (h : Tab w b N T) {k : Nat} (hk : k < N) :
    ∃ cs : List Value, cs.length = 5329 ∧ w.rangeAt b (5329 * k) cs ∧ (∀ x y, x < 73 → y < 73 → cs[73 * x + y]? = some (.bool (T k x y))) ∧ ∀ v ∈ cs, v.oneCell' = true := by
  refine ⟨(List.range 5329).map fun j => .bool (T k (j / 73) (j % 73)), by simp, fun j v hv => ?_, fun x y hx hy => ?_, fun v hv => ?_⟩
  · obtain ⟨hj, hv⟩ := List.getElem?_eq_some_iff.1 hv
    have hj' : j < 5329 := by simpa using hj
    have := h.cell hk (show j / 73 < 73 by omega) (show j % 73 < 73 by omega)
    rw [show 5329 * k + 73 * (j / 73) + j % 73 = 5329 * k + j by omega] at this
    rw [this, ← hv]
    simp
  · have h1 : (73 * x + y) / 73 = x := by omega
    have h2 : (73 * x + y) % 73 = y := by omega
    have h3 : 73 * x + y < 5329 := by omega
    simp [h1, h2, h3]
  · obtain ⟨j, -, rfl⟩ := List.mem_map.1 hv
    rfl
theorem tab_size : (Try.prog.info? 60).map (·.size) = some 5329 := by
  have hz := tab_zero
  cases hi : Try.prog.info? 60 with
  | none => rw [hi] at hz; cases hz
  | some i =>
    rw [hi] at hz
    simp only [Option.map_some, Option.some.injEq, Prod.mk.injEq] at hz
    simp [hz.1]
end Go.Proofs.Ytjceppinjeehiaa
