/- Recurrences as data, and how an argument is opened as one. Conditions: none. -/
import Derived.Test.YtndfdgdahinkpaaKitF
namespace Go.Proofs.Ytndfdgdahinkpaa
open Go.RowKit Go.ChangeShapes Go.WideShapes Go.ChangeAt
set_option linter.unusedVariables false
abbrev P3 := Int × Int × Int
def encP (p : P3) : List Value := [.int .i64 p.1, .int .i64 p.2.1, .int .i64 p.2.2]
/-- An inequality. -/
structure IneqD where
  a : P3
  b : Int
/-- What an operation uses. -/
structure ArgD where
  var : Int
  at_ : P3
/-- A variable; argsV: the slice of what it uses. -/
structure VarD where
  name : ByteArray
  op : Int
  argsV : Value
  args : List ArgD
  i0 : Int
  i1 : Int
  i2 : Int
  i3 : Int
/-- A recurrence; lv, vv: its slices. -/
structure RecD where
  n : Int
  lv : Value
  l : List IneqD
  vv : Value
  vars : List VarD
def encI (q : IneqD) : List Value := [.int .i64 q.a.1, .int .i64 q.a.2.1, .int .i64 q.a.2.2, .int .i64 q.b]
def encA (a : ArgD) : List Value := [.int .i64 a.var, .int .i64 a.at_.1, .int .i64 a.at_.2.1, .int .i64 a.at_.2.2]
def encV (v : VarD) : List Value := [.string v.name, .int .i64 v.op, v.argsV, .int .i64 v.i0, .int .i64 v.i1, .int .i64 v.i2, .int .i64 v.i3]
def recV (r : RecD) : Value := .agg #[.int .i64 r.n, r.lv, r.vv]
def VarRd (w : World) (v : VarD) : Prop := SlOf w w.heap.size 4 encA v.argsV v.args ∧ v.name.size ≤ maxLen
/-- In world w the recurrence reads as told. -/
structure RecRd (w : World) (r : RecD) : Prop where
  l : SlOf w w.heap.size 4 encI r.lv r.l
  vars : SlOf w w.heap.size 7 encV r.vv r.vars
  each : ∀ v ∈ r.vars, VarRd w v
theorem RecRd.below {w w' : World} {r : RecD} (h : RecRd w r) (hb : Below w.heap.size w w') : RecRd w' r :=
  ⟨h.l.below hb, h.vars.below hb, fun v hv => ⟨(h.each v hv).1.below hb, (h.each v hv).2⟩⟩
theorem list3 {α : Type} : ∀ {l : List α}, l.length = 3 → ∃ a b c, l = [a, b, c]
  | [a, b, c], _ => ⟨a, b, c, rfl⟩
theorem list4 {α : Type} : ∀ {l : List α}, l.length = 4 → ∃ a b c d, l = [a, b, c, d]
  | [a, b, c, d], _ => ⟨a, b, c, d, rfl⟩
theorem list7 {α : Type} : ∀ {l : List α}, l.length = 7 → ∃ a b c d e f g, l = [a, b, c, d, e, f, g]
  | [a, b, c, d, e, f, g], _ => ⟨a, b, c, d, e, f, g, rfl⟩
section
variable {w : World} {base : Nat} {H : Type} {enc : TypeId × Value → H} {spare : Nat → Bool} {held : Bool} {fuel : Nat} {cs : List Value} {x : DataW H × List MemPlace}
theorem trod_int1 (h : DataW.trod enc Try.prog w base spare held fuel 3 cs = some x) : ∃ z : Int, cs = [.int .i64 z] := by
  obtain ⟨z, hz, _⟩ := DataW.trod_int Try.underlying3 h
  exact ⟨z, hz⟩
theorem ce_int : Try.prog.cellsOf 3 = 1 := by kernel_rfl
theorem ce_pt : Try.prog.cellsOf 29 = 3 := by kernel_rfl
set_option maxRecDepth 100000 in
theorem trod_arr3 (h : DataW.trod enc Try.prog w base spare held fuel 29 cs = some x) : ∃ p : P3, cs = encP p := by
  obtain ⟨xs, m, _, _, hcl, hxn, hx⟩ := DataW.trod_array Try.underlying29 h
  rw [ce_pt] at hcl
  obtain ⟨c0, c1, c2, rfl⟩ := list3 hcl
  have g0 := hx 0 (by omega)
  have g1 := hx 1 (by omega)
  have g2 := hx 2 (by omega)
  rw [ce_int, List.getElem?_eq_getElem (by omega)] at g0 g1 g2
  obtain ⟨z0, h0⟩ := trod_int1 g0
  obtain ⟨z1, h1⟩ := trod_int1 g1
  obtain ⟨z2, h2⟩ := trod_int1 g2
  simp at h0 h1 h2
  subst h0 h1 h2
  exact ⟨(z0, z1, z2), rfl⟩
theorem ce_ineq : Try.prog.cellsOf 126 = 4 := by kernel_rfl
set_option maxRecDepth 100000 in
theorem trod_ineq (h : DataW.trod enc Try.prog w base spare held fuel 126 cs = some x) : ∃ q : IneqD, cs = encI q := by
  obtain ⟨xs, m, _, _, hcl, hxn, hx⟩ := DataW.trod_struct Try.underlying126 h
  rw [ce_ineq] at hcl
  obtain ⟨c0, c1, c2, c3, rfl⟩ := list4 hcl
  have hxl : xs.length = 2 := hxn
  have g0 := hx 0 _ rfl
  have g1 := hx 1 _ rfl
  rw [List.getElem?_eq_getElem (by omega)] at g0 g1
  simp only [List.getElem_toArray, List.getElem_cons_zero, List.getElem_cons_succ, ce_int, ce_pt] at g0 g1
  obtain ⟨p, h0⟩ := trod_arr3 g0
  obtain ⟨z, h1⟩ := trod_int1 g1
  simp [encP] at h0 h1
  obtain ⟨rfl, rfl, rfl⟩ := h0
  subst h1
  exact ⟨⟨p, z⟩, rfl⟩
theorem ce_arg : Try.prog.cellsOf 123 = 4 := by kernel_rfl
set_option maxRecDepth 100000 in
theorem trod_arg (h : DataW.trod enc Try.prog w base spare held fuel 123 cs = some x) : ∃ q : ArgD, cs = encA q := by
  obtain ⟨xs, m, _, _, hcl, hxn, hx⟩ := DataW.trod_struct Try.underlying123 h
  rw [ce_arg] at hcl
  obtain ⟨c0, c1, c2, c3, rfl⟩ := list4 hcl
  have hxl : xs.length = 2 := hxn
  have g0 := hx 0 _ rfl
  have g1 := hx 1 _ rfl
  rw [List.getElem?_eq_getElem (by omega)] at g0 g1
  simp only [List.getElem_toArray, List.getElem_cons_zero, List.getElem_cons_succ, ce_int, ce_pt] at g0 g1
  obtain ⟨z, h0⟩ := trod_int1 g0
  obtain ⟨p, h1⟩ := trod_arr3 g1
  simp [encP] at h0 h1
  obtain ⟨rfl, rfl, rfl⟩ := h1
  subst h0
  exact ⟨⟨z, p⟩, rfl⟩
theorem ce_var : Try.prog.cellsOf 82 = 7 := by kernel_rfl
theorem ce_str : Try.prog.cellsOf 9 = 1 := by kernel_rfl
theorem ce_args : Try.prog.cellsOf 79 = 1 := by kernel_rfl
theorem ce_i4 : Try.prog.cellsOf 80 = 4 := by kernel_rfl
set_option maxRecDepth 100000 in
theorem trod_arr4 (h : DataW.trod enc Try.prog w base spare held fuel 80 cs = some x) : ∃ a b c d : Int, cs = [.int .i64 a, .int .i64 b, .int .i64 c, .int .i64 d] := by
  obtain ⟨xs, m, _, _, hcl, hxn, hx⟩ := DataW.trod_array Try.underlying80 h
  rw [ce_i4] at hcl
  obtain ⟨c0, c1, c2, c3, rfl⟩ := list4 hcl
  have g0 := hx 0 (by omega)
  have g1 := hx 1 (by omega)
  have g2 := hx 2 (by omega)
  have g3 := hx 3 (by omega)
  rw [ce_int, List.getElem?_eq_getElem (by omega)] at g0 g1 g2 g3
  obtain ⟨z0, h0⟩ := trod_int1 g0
  obtain ⟨z1, h1⟩ := trod_int1 g1
  obtain ⟨z2, h2⟩ := trod_int1 g2
  obtain ⟨z3, h3⟩ := trod_int1 g3
  simp at h0 h1 h2 h3
  subst h0 h1 h2 h3
  exact ⟨z0, z1, z2, z3, rfl⟩
set_option maxRecDepth 100000 in
theorem trod_var (h : DataW.trod enc Try.prog w base spare held fuel 82 cs = some x) : ∃ q : VarD, cs = encV q ∧ VarRd w q := by
  obtain ⟨xs, m, _, _, hcl, hxn, hx⟩ := DataW.trod_struct Try.underlying82 h
  rw [ce_var] at hcl
  obtain ⟨c0, c1, c2, c3, c4, c5, c6, rfl⟩ := list7 hcl
  have hxl : xs.length = 4 := hxn
  have g0 := hx 0 _ rfl
  have g1 := hx 1 _ rfl
  have g2 := hx 2 _ rfl
  have g3 := hx 3 _ rfl
  rw [List.getElem?_eq_getElem (by omega)] at g0 g1 g2 g3
  simp only [List.getElem_toArray, List.getElem_cons_zero, List.getElem_cons_succ, ce_int, ce_str, ce_args, ce_i4] at g0 g1 g2 g3
  obtain ⟨s, h0, _, hs⟩ := DataW.trod_string Try.underlying9 g0
  obtain ⟨z, h1⟩ := trod_int1 g1
  obtain ⟨a, b, c, d, h3⟩ := trod_arr4 g3
  simp at h0 h1 h3
  obtain ⟨rfl, rfl, rfl, rfl⟩ := h3
  subst h0 h1
  obtain ⟨l, hl, -⟩ := open_slOf (enc := encA) (Good := fun _ => True) Try.underlying79 ce_arg (by omega) (fun _ => rfl) (fun m cs y hy => by obtain ⟨q, hq⟩ := trod_arg hy; exact ⟨q, hq, trivial⟩) (v := c2) (by simpa using g2)
  exact ⟨⟨s, z, c2, l, a, b, c, d⟩, rfl, hl, hs⟩
end
set_option maxRecDepth 100000 in
theorem open_rec {w : World} {r : Reach} {b0 base : Nat} {H : Type} {enc : TypeId × Value → H} {spare : Nat → Bool} {held : Bool} {v : Value} {d : DataW H} {ps : List MemPlace}
    (hval : Value.okWide Try.prog w r b0 27 v) (hd : DataW.Trod enc Try.prog w base spare held 27 v d ps) : ∃ q : RecD, v = recV q ∧ RecRd w q := by
  obtain ⟨cs, rfl, hs⟩ := okWide_struct Try.underlying27 hval
  obtain ⟨fuel, hf⟩ := hd
  obtain ⟨xs, m, _, _, hcl, hxn, hx⟩ := DataW.trod_struct Try.underlying27 hf
  rw [show Try.prog.cellsOf 27 = 3 by kernel_rfl] at hs hcl
  obtain ⟨l⟩ := cs
  obtain ⟨c0, c1, c2, rfl⟩ := list3 (l := l) hs
  have hxl : xs.length = 2 := hxn
  have g0 := hx 0 _ rfl
  have g1 := hx 1 _ rfl
  rw [List.getElem?_eq_getElem (by omega)] at g0 g1
  simp only [List.getElem_toArray, List.getElem_cons_zero, List.getElem_cons_succ, show Try.prog.cellsOf 24 = 2 by kernel_rfl, show Try.prog.cellsOf 25 = 1 by kernel_rfl] at g0 g1
  obtain ⟨ys, m2, _, _, _, hyn, hy⟩ := DataW.trod_struct Try.underlying24 g0
  have hyl : ys.length = 2 := hyn
  have e0 := hy 0 _ rfl
  have e1 := hy 1 _ rfl
  rw [List.getElem?_eq_getElem (by omega)] at e0 e1
  simp only [List.getElem_toArray, List.getElem_cons_zero, List.getElem_cons_succ, ce_int, show Try.prog.cellsOf 22 = 1 by kernel_rfl] at e0 e1
  obtain ⟨z, h0⟩ := trod_int1 e0
  simp [Value.cells] at h0
  subst h0
  obtain ⟨li, hl, -⟩ := open_slOf (enc := encI) (Good := fun _ => True) Try.underlying22 ce_ineq (by omega) (fun _ => rfl) (fun m cs y hy => by obtain ⟨q, hq⟩ := trod_ineq hy; exact ⟨q, hq, trivial⟩) (v := c1) (by simpa [Value.cells] using e1)
  obtain ⟨lv, hv, hg⟩ := open_slOf (enc := encV) (Good := VarRd w) Try.underlying25 ce_var (by omega) (fun _ => rfl) (fun m cs y hy => trod_var hy) (v := c2) (by simpa [Value.cells] using g1)
  exact ⟨⟨z, c1, li, c2, lv⟩, rfl, hl, hv, hg⟩
end Go.Proofs.Ytndfdgdahinkpaa
