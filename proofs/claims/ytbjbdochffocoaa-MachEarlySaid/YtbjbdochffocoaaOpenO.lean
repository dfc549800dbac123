/- Arguments that are programs of operations: how they are opened. Conditions: none. -/
import Derived.Test.YtbjbdochffocoaaMachA
namespace Go.Proofs.Ytbjbdochffocoaa
open Go.RowKit Go.ChangeShapes Go.WideShapes Go.ChangeAt
set_option linter.unusedVariables false
theorem listO3 {α : Type} : ∀ {l : List α}, l.length = 3 → ∃ a b c, l = [a, b, c]
  | [a, b, c], _ => ⟨a, b, c, rfl⟩
theorem listO6 {α : Type} : ∀ {l : List α}, l.length = 6 → ∃ a b c d e f, l = [a, b, c, d, e, f]
  | [a, b, c, d, e, f], _ => ⟨a, b, c, d, e, f, rfl⟩
theorem listO2 {α : Type} : ∀ {l : List α}, l.length = 2 → ∃ a b, l = [a, b]
  | [a, b], _ => ⟨a, b, rfl⟩
theorem ceO_int : Try.prog.cellsOf 3 = 1 := by kernel_rfl
theorem ceO_cell : Try.prog.cellsOf 34 = 2 := by kernel_rfl
theorem ceO_srcs : Try.prog.cellsOf 35 = 1 := by kernel_rfl
theorem ceO_src : Try.prog.cellsOf 52 = 3 := by kernel_rfl
theorem ceO_op : Try.prog.cellsOf 37 = 6 := by kernel_rfl
section
variable {w : World} {base : Nat} {H : Type} {enc : TypeId × Value → H} {spare : Nat → Bool} {held : Bool} {fuel : Nat} {cs : List Value} {x : DataW H × List MemPlace}
theorem trodO_int (h : DataW.trod enc Try.prog w base spare held fuel 3 cs = some x) : ∃ z : Int, cs = [.int .i64 z] := by
  obtain ⟨z, hz, _⟩ := DataW.trod_int Try.underlying3 h
  exact ⟨z, hz⟩
set_option maxRecDepth 100000 in
theorem trodO_cell (h : DataW.trod enc Try.prog w base spare held fuel 34 cs = some x) : ∃ a b : Int, cs = [.int .i64 a, .int .i64 b] := by
  obtain ⟨xs, m, _, _, hcl, hxn, hx⟩ := DataW.trod_array Try.underlying34 h
  rw [ceO_cell] at hcl
  obtain ⟨c0, c1, rfl⟩ := listO2 hcl
  have g0 := hx 0 (by omega)
  have g1 := hx 1 (by omega)
  rw [ceO_int, List.getElem?_eq_getElem (by omega)] at g0 g1
  obtain ⟨z0, h0⟩ := trodO_int g0
  obtain ⟨z1, h1⟩ := trodO_int g1
  simp at h0 h1
  subst h0 h1
  exact ⟨z0, z1, rfl⟩
set_option maxRecDepth 100000 in
theorem trodO_src (h : DataW.trod enc Try.prog w base spare held fuel 52 cs = some x) : ∃ s : SrcD, cs = encSr s := by
  obtain ⟨xs, m, _, _, hcl, hxn, hx⟩ := DataW.trod_struct Try.underlying52 h
  rw [ceO_src] at hcl
  obtain ⟨c0, c1, c2, rfl⟩ := listO3 hcl
  have hxl : xs.length = 3 := hxn
  have g0 := hx 0 _ rfl
  have g1 := hx 1 _ rfl
  have g2 := hx 2 _ rfl
  rw [List.getElem?_eq_getElem (by omega)] at g0 g1 g2
  simp only [List.getElem_toArray, List.getElem_cons_zero, List.getElem_cons_succ, ceO_int] at g0 g1 g2
  obtain ⟨z0, h0⟩ := trodO_int g0
  obtain ⟨z1, h1⟩ := trodO_int g1
  obtain ⟨z2, h2⟩ := trodO_int g2
  simp at h0 h1 h2
  subst h0 h1 h2
  exact ⟨⟨z0, z1, z2⟩, rfl⟩
set_option maxRecDepth 100000 in
theorem trodO_op (h : DataW.trod enc Try.prog w base spare held fuel 37 cs = some x) : ∃ o : OpD, cs = encOp o ∧ SlOf w w.heap.size 3 encSr o.fv o.src := by
  obtain ⟨xs, m, _, _, hcl, hxn, hx⟩ := DataW.trod_struct Try.underlying37 h
  rw [ceO_op] at hcl
  obtain ⟨c0, c1, c2, c3, c4, c5, rfl⟩ := listO6 hcl
  have hxl : xs.length = 5 := hxn
  have g0 := hx 0 _ rfl
  have g1 := hx 1 _ rfl
  have g2 := hx 2 _ rfl
  have g3 := hx 3 _ rfl
  have g4 := hx 4 _ rfl
  rw [List.getElem?_eq_getElem (by omega)] at g0 g1 g2 g3 g4
  simp only [List.getElem_toArray, List.getElem_cons_zero, List.getElem_cons_succ, ceO_int, ceO_cell, ceO_srcs] at g0 g1 g2 g3 g4
  obtain ⟨z0, h0⟩ := trodO_int g0
  obtain ⟨a, b, h1⟩ := trodO_cell g1
  obtain ⟨z2, h2⟩ := trodO_int g2
  obtain ⟨z3, h3⟩ := trodO_int g3
  simp at h0 h1 h2 h3
  obtain ⟨rfl, rfl⟩ := h1
  subst h0 h2 h3
  obtain ⟨l, hl, -⟩ := open_slOf (enc := encSr) (Good := fun _ => True) Try.underlying35 ceO_src (by omega) (fun _ => rfl) (fun m cs y hy => by obtain ⟨q, hq⟩ := trodO_src hy; exact ⟨q, hq, trivial⟩) (v := c5) (by simpa using g4)
  exact ⟨⟨z0, (a, b), z2, z3, c5, l⟩, rfl, hl⟩
end
set_option maxRecDepth 100000 in
theorem open_ops {w : World} {r : Reach} {b0 base : Nat} {H : Type} {enc : TypeId × Value → H} {spare : Nat → Bool} {held : Bool} {v : Value} {d : DataW H} {ps : List MemPlace}
    (hval : Value.okWide Try.prog w r b0 22 v) (hd : DataW.Trod enc Try.prog w base spare held 22 v d ps) : ∃ p : List OpD, ProgRd w v p := by
  obtain ⟨a0, len, cap, rfl⟩ := okWide_slice Try.underlying22 hval
  obtain ⟨fuel, hf⟩ := hd
  obtain ⟨l, hl, hg⟩ := open_slOf (enc := encOp) (Good := fun o => SlOf w w.heap.size 3 encSr o.fv o.src) Try.underlying22 ceO_op (by omega) (fun _ => rfl) (fun m cs y hy => trodO_op hy) hf
  exact ⟨l, hl, hg⟩
end Go.Proofs.Ytbjbdochffocoaa
