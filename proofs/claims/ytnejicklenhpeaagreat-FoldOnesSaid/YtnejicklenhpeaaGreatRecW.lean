/- Recurrences as data, and how an argument is opened as one. The leaves of packages poly and rec, and of the reference for domains: their walks. Conditions: none. -/
import Derived.Test.YtnejicklenhpeaaGreatKitA
import Derived.Test.YtnejicklenhpeaaGreatSpaceP
namespace Go.Proofs.YtnejicklenhpeaaGreat
open Go.RowKit Go.ChangeShapes Go.WideShapes Go.ChangeAt
set_option linter.unusedVariables false
abbrev P3 := Int × Int × Int
def encP (p : P3) : List Value := [.int .i64 p.1, .int .i64 p.2.1, .int .i64 p.2.2]
/-- An inequality. -/
structure IneqD where
  a : P3
  b : Int
/-- What an operation uses. -/
structure ArgD where
  var : Int
  at_ : P3
/-- A variable; argsV: the slice of what it uses. -/
structure VarD where
  name : ByteArray
  op : Int
  argsV : Value
  args : List ArgD
  i0 : Int
  i1 : Int
  i2 : Int
  i3 : Int
/-- A recurrence; lv, vv: its slices. -/
structure RecD where
  n : Int
  lv : Value
  l : List IneqD
  vv : Value
  vars : List VarD
def encI (q : IneqD) : List Value := [.int .i64 q.a.1, .int .i64 q.a.2.1, .int .i64 q.a.2.2, .int .i64 q.b]
def encA (a : ArgD) : List Value := [.int .i64 a.var, .int .i64 a.at_.1, .int .i64 a.at_.2.1, .int .i64 a.at_.2.2]
def encV (v : VarD) : List Value := [.string v.name, .int .i64 v.op, v.argsV, .int .i64 v.i0, .int .i64 v.i1, .int .i64 v.i2, .int .i64 v.i3]
def recV (r : RecD) : Value := .agg #[.int .i64 r.n, r.lv, r.vv]
def VarRd (w : World) (v : VarD) : Prop := SlOf w w.heap.size 4 encA v.argsV v.args ∧ v.name.size ≤ maxLen
/-- In world w the recurrence reads as told. -/
structure RecRd (w : World) (r : RecD) : Prop where
  l : SlOf w w.heap.size 4 encI r.lv r.l
  vars : SlOf w w.heap.size 7 encV r.vv r.vars
  each : ∀ v ∈ r.vars, VarRd w v
theorem RecRd.below {w w' : World} {r : RecD} (h : RecRd w r) (hb : Below w.heap.size w w') : RecRd w' r :=
  ⟨h.l.below hb, h.vars.below hb, fun v hv => ⟨(h.each v hv).1.below hb, (h.each v hv).2⟩⟩
theorem list3 {α : Type} : ∀ {l : List α}, l.length = 3 → ∃ a b c, l = [a, b, c]
  | [a, b, c], _ => ⟨a, b, c, rfl⟩
theorem list4 {α : Type} : ∀ {l : List α}, l.length = 4 → ∃ a b c d, l = [a, b, c, d]
  | [a, b, c, d], _ => ⟨a, b, c, d, rfl⟩
theorem list7 {α : Type} : ∀ {l : List α}, l.length = 7 → ∃ a b c d e f g, l = [a, b, c, d, e, f, g]
  | [a, b, c, d, e, f, g], _ => ⟨a, b, c, d, e, f, g, rfl⟩
section
variable {w : World} {base : Nat} {H : Type} {enc : TypeId × Value → H} {spare : Nat → Bool} {held : Bool} {fuel : Nat} {cs : List Value} {x : DataW H × List MemPlace}
theorem trod_int1 (h : DataW.trod enc Tryz.prog w base spare held fuel 3 cs = some x) : ∃ z : Int, cs = [.int .i64 z] := by
  obtain ⟨z, hz, _⟩ := DataW.trod_int Tryz.underlying3 h
  exact ⟨z, hz⟩
theorem ce_int : Tryz.prog.cellsOf 3 = 1 := by kernel_rfl
theorem ce_pt : Tryz.prog.cellsOf 29 = 3 := by kernel_rfl
set_option maxRecDepth 100000 in
theorem trod_arr3 (h : DataW.trod enc Tryz.prog w base spare held fuel 29 cs = some x) : ∃ p : P3, cs = encP p := by
  obtain ⟨xs, m, _, _, hcl, hxn, hx⟩ := DataW.trod_array Tryz.underlying29 h
  rw [ce_pt] at hcl
  obtain ⟨c0, c1, c2, rfl⟩ := list3 hcl
  have g0 := hx 0 (by omega)
  have g1 := hx 1 (by omega)
  have g2 := hx 2 (by omega)
  rw [ce_int, List.getElem?_eq_getElem (by omega)] at g0 g1 g2
  obtain ⟨z0, h0⟩ := trod_int1 g0
  obtain ⟨z1, h1⟩ := trod_int1 g1
  obtain ⟨z2, h2⟩ := trod_int1 g2
  simp at h0 h1 h2
  subst h0 h1 h2
  exact ⟨(z0, z1, z2), rfl⟩
theorem ce_ineq : Tryz.prog.cellsOf 174 = 4 := by kernel_rfl
set_option maxRecDepth 100000 in
theorem trod_ineq (h : DataW.trod enc Tryz.prog w base spare held fuel 174 cs = some x) : ∃ q : IneqD, cs = encI q := by
  obtain ⟨xs, m, _, _, hcl, hxn, hx⟩ := DataW.trod_struct Tryz.underlying174 h
  rw [ce_ineq] at hcl
  obtain ⟨c0, c1, c2, c3, rfl⟩ := list4 hcl
  have hxl : xs.length = 2 := hxn
  have g0 := hx 0 _ rfl
  have g1 := hx 1 _ rfl
  rw [List.getElem?_eq_getElem (by omega)] at g0 g1
  simp only [List.getElem_toArray, List.getElem_cons_zero, List.getElem_cons_succ, ce_int, ce_pt] at g0 g1
  obtain ⟨p, h0⟩ := trod_arr3 g0
  obtain ⟨z, h1⟩ := trod_int1 g1
  simp [encP] at h0 h1
  obtain ⟨rfl, rfl, rfl⟩ := h0
  subst h1
  exact ⟨⟨p, z⟩, rfl⟩
theorem ce_arg : Tryz.prog.cellsOf 223 = 4 := by kernel_rfl
set_option maxRecDepth 100000 in
theorem trod_arg (h : DataW.trod enc Tryz.prog w base spare held fuel 223 cs = some x) : ∃ q : ArgD, cs = encA q := by
  obtain ⟨xs, m, _, _, hcl, hxn, hx⟩ := DataW.trod_struct Tryz.underlying223 h
  rw [ce_arg] at hcl
  obtain ⟨c0, c1, c2, c3, rfl⟩ := list4 hcl
  have hxl : xs.length = 2 := hxn
  have g0 := hx 0 _ rfl
  have g1 := hx 1 _ rfl
  rw [List.getElem?_eq_getElem (by omega)] at g0 g1
  simp only [List.getElem_toArray, List.getElem_cons_zero, List.getElem_cons_succ, ce_int, ce_pt] at g0 g1
  obtain ⟨z, h0⟩ := trod_int1 g0
  obtain ⟨p, h1⟩ := trod_arr3 g1
  simp [encP] at h0 h1
  obtain ⟨rfl, rfl, rfl⟩ := h1
  subst h0
  exact ⟨⟨z, p⟩, rfl⟩
theorem ce_var : Tryz.prog.cellsOf 85 = 7 := by kernel_rfl
theorem ce_str : Tryz.prog.cellsOf 9 = 1 := by kernel_rfl
theorem ce_args : Tryz.prog.cellsOf 82 = 1 := by kernel_rfl
theorem ce_i4 : Tryz.prog.cellsOf 83 = 4 := by kernel_rfl
set_option maxRecDepth 100000 in
theorem trod_arr4 (h : DataW.trod enc Tryz.prog w base spare held fuel 83 cs = some x) : ∃ a b c d : Int, cs = [.int .i64 a, .int .i64 b, .int .i64 c, .int .i64 d] := by
  obtain ⟨xs, m, _, _, hcl, hxn, hx⟩ := DataW.trod_array Tryz.underlying83 h
  rw [ce_i4] at hcl
  obtain ⟨c0, c1, c2, c3, rfl⟩ := list4 hcl
  have g0 := hx 0 (by omega)
  have g1 := hx 1 (by omega)
  have g2 := hx 2 (by omega)
  have g3 := hx 3 (by omega)
  rw [ce_int, List.getElem?_eq_getElem (by omega)] at g0 g1 g2 g3
  obtain ⟨z0, h0⟩ := trod_int1 g0
  obtain ⟨z1, h1⟩ := trod_int1 g1
  obtain ⟨z2, h2⟩ := trod_int1 g2
  obtain ⟨z3, h3⟩ := trod_int1 g3
  simp at h0 h1 h2 h3
  subst h0 h1 h2 h3
  exact ⟨z0, z1, z2, z3, rfl⟩
set_option maxRecDepth 100000 in
theorem trod_var (h : DataW.trod enc Tryz.prog w base spare held fuel 85 cs = some x) : ∃ q : VarD, cs = encV q ∧ VarRd w q := by
  obtain ⟨xs, m, _, _, hcl, hxn, hx⟩ := DataW.trod_struct Tryz.underlying85 h
  rw [ce_var] at hcl
  obtain ⟨c0, c1, c2, c3, c4, c5, c6, rfl⟩ := list7 hcl
  have hxl : xs.length = 4 := hxn
  have g0 := hx 0 _ rfl
  have g1 := hx 1 _ rfl
  have g2 := hx 2 _ rfl
  have g3 := hx 3 _ rfl
  rw [List.getElem?_eq_getElem (by omega)] at g0 g1 g2 g3
  simp only [List.getElem_toArray, List.getElem_cons_zero, List.getElem_cons_succ, ce_int, ce_str, ce_args, ce_i4] at g0 g1 g2 g3
  obtain ⟨s, h0, _, hs⟩ := DataW.trod_string Tryz.underlying9 g0
  obtain ⟨z, h1⟩ := trod_int1 g1
  obtain ⟨a, b, c, d, h3⟩ := trod_arr4 g3
  simp at h0 h1 h3
  obtain ⟨rfl, rfl, rfl, rfl⟩ := h3
  subst h0 h1
  obtain ⟨l, hl, -⟩ := open_slOf (enc := encA) (Good := fun _ => True) Tryz.underlying82 ce_arg (by omega) (fun _ => rfl) (fun m cs y hy => by obtain ⟨q, hq⟩ := trod_arg hy; exact ⟨q, hq, trivial⟩) (v := c2) (by simpa using g2)
  exact ⟨⟨s, z, c2, l, a, b, c, d⟩, rfl, hl, hs⟩
end
set_option maxRecDepth 100000 in
theorem open_rec {w : World} {r : Reach} {b0 base : Nat} {H : Type} {enc : TypeId × Value → H} {spare : Nat → Bool} {held : Bool} {v : Value} {d : DataW H} {ps : List MemPlace}
    (hval : Value.okWide Tryz.prog w r b0 27 v) (hd : DataW.Trod enc Tryz.prog w base spare held 27 v d ps) : ∃ q : RecD, v = recV q ∧ RecRd w q := by
  obtain ⟨cs, rfl, hs⟩ := okWide_struct Tryz.underlying27 hval
  obtain ⟨fuel, hf⟩ := hd
  obtain ⟨xs, m, _, _, hcl, hxn, hx⟩ := DataW.trod_struct Tryz.underlying27 hf
  rw [show Tryz.prog.cellsOf 27 = 3 by kernel_rfl] at hs hcl
  obtain ⟨l⟩ := cs
  obtain ⟨c0, c1, c2, rfl⟩ := list3 (l := l) hs
  have hxl : xs.length = 2 := hxn
  have g0 := hx 0 _ rfl
  have g1 := hx 1 _ rfl
  rw [List.getElem?_eq_getElem (by omega)] at g0 g1
  simp only [List.getElem_toArray, List.getElem_cons_zero, List.getElem_cons_succ, show Tryz.prog.cellsOf 24 = 2 by kernel_rfl, show Tryz.prog.cellsOf 25 = 1 by kernel_rfl] at g0 g1
  obtain ⟨ys, m2, _, _, _, hyn, hy⟩ := DataW.trod_struct Tryz.underlying24 g0
  have hyl : ys.length = 2 := hyn
  have e0 := hy 0 _ rfl
  have e1 := hy 1 _ rfl
  rw [List.getElem?_eq_getElem (by omega)] at e0 e1
  simp only [List.getElem_toArray, List.getElem_cons_zero, List.getElem_cons_succ, ce_int, show Tryz.prog.cellsOf 22 = 1 by kernel_rfl] at e0 e1
  obtain ⟨z, h0⟩ := trod_int1 e0
  simp [Value.cells] at h0
  subst h0
  obtain ⟨li, hl, -⟩ := open_slOf (enc := encI) (Good := fun _ => True) Tryz.underlying22 ce_ineq (by omega) (fun _ => rfl) (fun m cs y hy => by obtain ⟨q, hq⟩ := trod_ineq hy; exact ⟨q, hq, trivial⟩) (v := c1) (by simpa [Value.cells] using e1)
  obtain ⟨lv, hv, hg⟩ := open_slOf (enc := encV) (Good := VarRd w) Tryz.underlying25 ce_var (by omega) (fun _ => rfl) (fun m cs y hy => trod_var hy) (v := c2) (by simpa [Value.cells] using g1)
  exact ⟨⟨z, c1, li, c2, lv⟩, rfl, hl, hv, hg⟩
end Go.Proofs.YtnejicklenhpeaaGreat
namespace Go.Proofs.YtnejicklenhpeaaGreat
open Go.RowKit
def ptV (p : P3) : Value := .agg #[.int .i64 p.1, .int .i64 p.2.1, .int .i64 p.2.2]
def dot3 (a b : P3) : Int := a.1 * b.1 + a.2.1 * b.2.1 + a.2.2 * b.2.2
theorem pbetween_l (lo n hi : Int) (w : World) :
    Calls Tryz.prog 148 #[.int .i64 (lo), .int .i64 (n), .int .i64 (hi)] w fun e w' => e = .returned (.bool (btw lo n hi)) ∧ w' = w := by
  by_cases h1 : lo ≤ n <;> by_cases h2 : n ≤ hi
  all_goals
    go_enter Tryz.func148, Tryz.ntmps148
    go_wp2
    go_ret
    exact ⟨ret_bool (by simp only [btw]; rw [Bool.eq_iff_iff]; simp; try omega), rfl⟩
theorem rbetween_l (lo n hi : Int) (w : World) :
    Calls Tryz.prog 157 #[.int .i64 (lo), .int .i64 (n), .int .i64 (hi)] w fun e w' => e = .returned (.bool (btw lo n hi)) ∧ w' = w := by
  by_cases h1 : lo ≤ n <;> by_cases h2 : n ≤ hi
  all_goals
    go_enter Tryz.func157, Tryz.ntmps157
    go_wp2
    go_ret
    exact ⟨ret_bool (by simp only [btw]; rw [Bool.eq_iff_iff]; simp; try omega), rfl⟩
set_option maxHeartbeats 4000000 in
set_option maxRecDepth 100000 in
theorem pranged_l (n x0 x1 x2 m : Int) (hn : 1 ≤ n) (hm : 0 ≤ m ∧ m ≤ 1000) (w : World) :
    Calls Tryz.prog 151 #[.agg #[.int .i64 x0, .int .i64 x1, .int .i64 x2], .int .i64 n, .int .i64 m] w fun e w' => e = .returned (.bool (flatB n x0 x1 x2 m)) ∧ Below w.heap.size w w' := by
  have i0 := ix3_0
  have i1 := ix3_1
  have i2 := ix3_2
  obtain ⟨hm0, hm1⟩ := hm
  have hneg : IntKind.i64.wrap (-m) = -m := IntWalk.i64_in _ (by omega)
  generalize h0 : btw (-m) x0 m = b0
  have H0 := Lib.hid h0; clear h0
  generalize h1 : btw (-m) x1 m = b1
  have H1 := Lib.hid h1; clear h1
  generalize h2 : btw (-m) x2 m = b2
  have H2 := Lib.hid h2; clear h2
  go_enter Tryz.func151, Tryz.ntmps151
  go_wp2
  refine wp_loop_rounds 4 ?_
  iterate 4 (all_goals (try (rw [rounds_succ]; go_wp2_with (go_at_call 148; refine (pbetween_l _ _ _ _).mono ?_; go_must (rintro e w1 ⟨rfl, rfl⟩; first | rw [H0.out] | rw [H1.out] | rw [H2.out])))))
  all_goals
    go_ret
    refine ⟨ret_bool ?_, by repeat (first | exact Below.refl _ _ | assumption | (refine Below.drew ?_) | (refine below_drewN ?_ _) | (refine Below.alloc ?_ (by first | (simp; done) | (simp; omega) | omega) _) | (refine Below.setCell ?_ (by first | (simp; done) | (simp; omega) | omega) _) | (refine Below.trans ?_ (Below.mono (by assumption) (by first | (simp; done) | (simp; omega) | omega))))⟩
    have e0 := H0.out; have e1 := H1.out; have e2 := H2.out
    clear H0 H1 H2 i0 i1 i2
    simp_all [flatB] <;> omega
set_option maxHeartbeats 4000000 in
theorem ptimes_l (a0 a1 a2 b0 b1 b2 : Int) (h0 : -1000000 ≤ a0 * b0 ∧ a0 * b0 ≤ 1000000) (h1 : -1000000 ≤ a1 * b1 ∧ a1 * b1 ≤ 1000000) (h2 : -1000000 ≤ a2 * b2 ∧ a2 * b2 ≤ 1000000) (w : World) :
    Calls Tryz.prog 211 #[.agg #[.int .i64 a0, .int .i64 a1, .int .i64 a2], .agg #[.int .i64 b0, .int .i64 b1, .int .i64 b2]] w fun e w' => e = .returned (.int .i64 (a0 * b0 + a1 * b1 + a2 * b2)) ∧ Below w.heap.size w w' := by
  obtain ⟨h3, h4⟩ := h0; obtain ⟨h5, h6⟩ := h1; obtain ⟨h7, h8⟩ := h2
  go_enter Tryz.func211, Tryz.ntmps211
  go_wp2
  go_ret
  exact ⟨rfl, by repeat (first | exact Below.refl _ _ | assumption | (refine Below.drew ?_) | (refine below_drewN ?_ _) | (refine Below.alloc ?_ (by first | (simp; done) | (simp; omega) | omega) _) | (refine Below.setCell ?_ (by first | (simp; done) | (simp; omega) | omega) _) | (refine Below.trans ?_ (Below.mono (by assumption) (by first | (simp; done) | (simp; omega) | omega))))⟩
set_option maxHeartbeats 4000000 in
theorem rdot_l (a0 a1 a2 b0 b1 b2 : Int) (h0 : -1000000 ≤ a0 * b0 ∧ a0 * b0 ≤ 1000000) (h1 : -1000000 ≤ a1 * b1 ∧ a1 * b1 ≤ 1000000) (h2 : -1000000 ≤ a2 * b2 ∧ a2 * b2 ≤ 1000000) (w : World) :
    Calls Tryz.prog 137 #[.agg #[.int .i64 a0, .int .i64 a1, .int .i64 a2], .agg #[.int .i64 b0, .int .i64 b1, .int .i64 b2]] w fun e w' => e = .returned (.int .i64 (a0 * b0 + a1 * b1 + a2 * b2)) ∧ Below w.heap.size w w' := by
  obtain ⟨h3, h4⟩ := h0; obtain ⟨h5, h6⟩ := h1; obtain ⟨h7, h8⟩ := h2
  go_enter Tryz.func137, Tryz.ntmps137
  go_wp2
  go_ret
  exact ⟨rfl, by repeat (first | exact Below.refl _ _ | assumption | (refine Below.drew ?_) | (refine below_drewN ?_ _) | (refine Below.alloc ?_ (by first | (simp; done) | (simp; omega) | omega) _) | (refine Below.setCell ?_ (by first | (simp; done) | (simp; omega) | omega) _) | (refine Below.trans ?_ (Below.mono (by assumption) (by first | (simp; done) | (simp; omega) | omega))))⟩
/-- All coordinates are within m. -/
def Sm (m : Int) (p : P3) : Prop := (-m ≤ p.1 ∧ p.1 ≤ m) ∧ (-m ≤ p.2.1 ∧ p.2.1 ≤ m) ∧ (-m ≤ p.2.2 ∧ p.2.2 ≤ m)
def holdQ (p : P3) (by_ : Int) (q : IneqD) : Bool := decide (dot3 q.a p ≤ q.b * by_)
def holdsB (l : List IneqD) (p : P3) (by_ : Int) : Bool := l.all (holdQ p by_)
set_option maxHeartbeats 4000000 in
set_option maxRecDepth 100000 in
theorem holds1_l (q : IneqD) (p : P3) (b1 b2 : Nat) (hq : Sm 20 q.a) (hqb : -1000 ≤ q.b ∧ q.b ≤ 1000) (hp : Sm 20 p) (w : World) (h1 : b1 < w.heap.size) (h2 : b2 < w.heap.size)
    (c0 : w.cell? ⟨b1, 0, none⟩ = some (.int .i64 p.1)) (c1 : w.cell? ⟨b1, 1, none⟩ = some (.int .i64 p.2.1)) (c2 : w.cell? ⟨b1, 2, none⟩ = some (.int .i64 p.2.2)) (c3 : w.cell? ⟨b2, 0, none⟩ = some (.int .i64 1)) :
    Calls Tryz.prog 210 #[.agg #[.int .i64 q.a.1, .int .i64 q.a.2.1, .int .i64 q.a.2.2, .int .i64 q.b], .pointer (some ⟨b1, 0, none⟩), .pointer (some ⟨b2, 0, none⟩)] w fun e w' => e = .returned (.bool (!holdQ p 1 q)) ∧ Below w.heap.size w w' := by
  have m0 := mul_bd hq.1 hp.1
  have m1 := mul_bd hq.2.1 hp.2.1
  have m2 := mul_bd hq.2.2 hp.2.2
  have HR := Lib.hid (show (!holdQ p 1 q) = decide (q.b < q.a.1 * p.1 + q.a.2.1 * p.2.1 + q.a.2.2 * p.2.2) by
    simp only [holdQ, dot3, Int.mul_one]
    by_cases h : q.a.1 * p.1 + q.a.2.1 * p.2.1 + q.a.2.2 * p.2.2 ≤ q.b
    · rw [decide_eq_true h, decide_eq_false (by omega)]; rfl
    · rw [decide_eq_false h, decide_eq_true (by omega)]; rfl)
  rw [HR.out]
  obtain ⟨⟨q0, q1, q2⟩, qb⟩ := q
  obtain ⟨p0, p1, p2⟩ := p
  simp only at c0 c1 c2 m0 m1 m2 hqb ⊢
  clear HR hq hp
  have hw1 : IntKind.i64.wrap (qb * 1) = qb := by rw [Int.mul_one]; exact IntWalk.i64_in _ (by omega)
  have hw2 : IntKind.i64.wrap qb = qb := IntWalk.i64_in _ (by omega)
  have hz1 := z1 (show b1 + 1 ≤ w.heap.size by omega)
  have hz2 := z1 (show b2 + 1 ≤ w.heap.size by omega)
  go_enter Tryz.func210, Tryz.ntmps210
  go_wp2
  obtain ⟨W, hW⟩ : ∃ W : World, w.alloc (Obj.cells #[Value.int IntKind.i64 q0, Value.int IntKind.i64 q1, Value.int IntKind.i64 q2, Value.int IntKind.i64 qb] 174) = W := ⟨_, rfl⟩
  have kw : Below w.heap.size w W := by rw [← hW]; exact (by repeat (first | exact Below.refl _ _ | assumption | (refine Below.drew ?_) | (refine below_drewN ?_ _) | (refine Below.alloc ?_ (by first | (simp; done) | (simp; omega) | omega) _) | (refine Below.setCell ?_ (by first | (simp; done) | (simp; omega) | omega) _) | (refine Below.trans ?_ (Below.mono (by assumption) (by first | (simp; done) | (simp; omega) | omega)))))
  have ks : W.heap.size = w.heap.size + 1 := by rw [← hW]; simp
  have y0 : W.cell? ⟨w.heap.size, 0, none⟩ = some (.int .i64 q0) := by subst hW; go_simp
  have y1 : W.cell? ⟨w.heap.size, 1, none⟩ = some (.int .i64 q1) := by subst hW; go_simp
  have y2 : W.cell? ⟨w.heap.size, 2, none⟩ = some (.int .i64 q2) := by subst hW; go_simp
  have y3 : W.cell? ⟨w.heap.size, 3, none⟩ = some (.int .i64 qb) := by subst hW; go_simp
  have d0 := (kw.cell (p := ⟨b1, 0, none⟩) h1).trans c0
  have d1 := (kw.cell (p := ⟨b1, 1, none⟩) h1).trans c1
  have d2 := (kw.cell (p := ⟨b1, 2, none⟩) h1).trans c2
  have d3 := (kw.cell (p := ⟨b2, 0, none⟩) h2).trans c3
  rw [hW]
  have g1 : b1 < W.heap.size := by omega
  have g2 : b2 < W.heap.size := by omega
  have g3 : w.heap.size < W.heap.size := by omega
  clear hW c0 c1 c2 c3
  have KW := Lib.hid kw; clear kw
  go_region_held3 (fun w' => Below W.heap.size W w' ∧ w'.cell? ⟨w.heap.size, 0, none⟩ = some (.int .i64 q0) ∧ w'.cell? ⟨w.heap.size, 1, none⟩ = some (.int .i64 q1) ∧ w'.cell? ⟨w.heap.size, 2, none⟩ = some (.int .i64 q2) ∧ w'.cell? ⟨w.heap.size, 3, none⟩ = some (.int .i64 qb) ∧ w'.cell? ⟨b1, 0, none⟩ = some (.int .i64 p0) ∧ w'.cell? ⟨b1, 1, none⟩ = some (.int .i64 p1) ∧ w'.cell? ⟨b1, 2, none⟩ = some (.int .i64 p2) ∧ w'.cell? ⟨b2, 0, none⟩ = some (.int .i64 1)) (((refine (fun kb => ⟨kb, (kb.cell (p := ⟨w.heap.size, 0, none⟩) g3).trans y0, (kb.cell (p := ⟨w.heap.size, 1, none⟩) g3).trans y1, (kb.cell (p := ⟨w.heap.size, 2, none⟩) g3).trans y2, (kb.cell (p := ⟨w.heap.size, 3, none⟩) g3).trans y3, (kb.cell (p := ⟨b1, 0, none⟩) g1).trans d0, (kb.cell (p := ⟨b1, 1, none⟩) g1).trans d1, (kb.cell (p := ⟨b1, 2, none⟩) g1).trans d2, (kb.cell (p := ⟨b2, 0, none⟩) g2).trans d3⟩) (?_ : Below W.heap.size W _)); exact (by repeat (first | exact Below.refl _ _ | assumption | (refine Below.drew ?_) | (refine below_drewN ?_ _) | (refine Below.alloc ?_ (by first | (simp; done) | (simp; omega) | omega) _) | (refine Below.setCell ?_ (by first | (simp; done) | (simp; omega) | omega) _) | (refine Below.trans ?_ (Below.mono (by assumption) (by first | (simp; done) | (simp; omega) | omega))))))) (first | (go_at_call 211; refine (ptimes_l _ _ _ _ _ _ (by omega) (by omega) (by omega) _).mono ?_; go_must (rintro e w2 ⟨rfl, hb2⟩)))
  all_goals
    go_wp2
    go_ret
    exact ⟨rfl, KW.out.trans ((show Below W.heap.size W w2 from (by repeat (first | exact Below.refl _ _ | assumption | (refine Below.drew ?_) | (refine below_drewN ?_ _) | (refine Below.alloc ?_ (by first | (simp; done) | (simp; omega) | omega) _) | (refine Below.setCell ?_ (by first | (simp; done) | (simp; omega) | omega) _) | (refine Below.trans ?_ (Below.mono (by assumption) (by first | (simp; done) | (simp; omega) | omega)))))).mono (by omega))⟩
theorem sz_h1 (W : World) : (sizeOf (Tryz.prog.elem 22)).run Tryz.prog W = .ok 4 W := by kernel_rfl
theorem un_h1 : Tryz.prog.underlying 22 = some (.slice (Tryz.prog.elem 22)) := by kernel_rfl
set_option maxHeartbeats 4000000 in
set_option maxRecDepth 100000 in
theorem idx_h1 (b1 b2 : Value) (l : List IneqD) (p : IneqD → Bool) (w : World) (v : Value) (hv : SlOf w w.heap.size 4 encI v l)
    (hf : ∀ q ∈ l, ∀ W, Below w.heap.size w W → Calls Tryz.prog 210 #[.agg #[.int .i64 q.a.1, .int .i64 q.a.2.1, .int .i64 q.a.2.2, .int .i64 q.b], b1, b2] W fun e W' => e = .returned (.bool (p q)) ∧ Below W.heap.size W W') :
    Calls Tryz.prog 209 #[v, .func (.func 210) #[] #[b1, b2]] w fun e w' => (∃ z : Int, e = .returned (.int .i64 z) ∧ decide (0 ≤ z) = l.any p) ∧ Below w.heap.size w w' := by
  obtain ⟨a, cap, g, off, rfl, hlc, hcm, hx⟩ := SlOf.at (enc := encI) (fun _ => rfl) un_h1 sz_h1 hv
  have HX := Lib.hid hx; clear hx hv
  have HF := Lib.hid hf; clear hf
  unfold maxLen at hcm
  go_enter Tryz.func209, Tryz.ntmps209
  go_wp2
  go_loopw [8] (fun i wr => ∃ k : Nat, k ≤ l.length ∧ i = .int .i64 (k : Nat) ∧ (∀ j (h : j < l.length), j < k → p l[j] = false) ∧ Below w.heap.size w wr) (fun i _ => l.length - (intOf i).toNat)
  case atStart => exact ⟨0, Nat.zero_le _, rfl, fun j _ h => absurd h (by omega), Below.refl _ _⟩
  case round =>
    obtain ⟨k, hk, rfl, hno, hb⟩ := hrel
    have HNO := Lib.hid hno; clear hno
    by_cases hlt : k < l.length
    rotate_left
    · go_wp2
      go_ret
      refine ⟨⟨-1, rfl, ?_⟩, hb⟩
      have : l.any p = false := List.any_eq_false.2 (fun c hc => by
        obtain ⟨j, hj, rfl⟩ := List.getElem_of_mem hc
        rw [HNO.out j hj (by omega)]
        simp)
      rw [this]; rfl
    obtain ⟨-, hi, hg, hc⟩ := HX.out k hlt
    have rd := fun j hj => (hb.cell (p := ⟨g, off + 4 * k + j, none⟩) hg).trans (hc j hj)
    clear hc
    have HFK := Lib.hid (HF.out l[k] (List.getElem_mem hlt) wr hb)
    cases hbd : p l[k]
    · have HBD := Lib.hid hbd; clear hbd
      have HFK2 := Lib.hid (HBD.out ▸ HFK.out); clear HFK
      generalize l[k] = q at HFK2 rd
      obtain ⟨⟨q0, q1, q2⟩, q3⟩ := q
      have r0 : wr.cell? ⟨g, off + 4 * k, none⟩ = some (.int .i64 q0) := rd 0 (by omega)
      have r1 : wr.cell? ⟨g, off + 4 * k + 1, none⟩ = some (.int .i64 q1) := rd 1 (by omega)
      have r2 : wr.cell? ⟨g, off + 4 * k + 2, none⟩ = some (.int .i64 q2) := rd 2 (by omega)
      have r3 : wr.cell? ⟨g, off + 4 * k + 3, none⟩ = some (.int .i64 q3) := rd 3 (by omega)
      clear rd
      go_wp2_with (go_at_call 210; refine HFK2.out.mono ?_; go_must (rintro e w1 ⟨rfl, hb1⟩))
      go_roundw
      case rel =>
        refine ⟨k + 1, hlt, by simp, fun j h hj => ?_, hb.trans (hb1.mono hb.size)⟩
        by_cases he : j = k
        · subst he; exact HBD.out
        · exact HNO.out j h (by omega)
      case measure => simp only [intOf]; omega
    · have HBD := Lib.hid hbd; clear hbd
      have HFK2 := Lib.hid (HBD.out ▸ HFK.out); clear HFK
      generalize l[k] = q at HFK2 rd
      obtain ⟨⟨q0, q1, q2⟩, q3⟩ := q
      have r0 : wr.cell? ⟨g, off + 4 * k, none⟩ = some (.int .i64 q0) := rd 0 (by omega)
      have r1 : wr.cell? ⟨g, off + 4 * k + 1, none⟩ = some (.int .i64 q1) := rd 1 (by omega)
      have r2 : wr.cell? ⟨g, off + 4 * k + 2, none⟩ = some (.int .i64 q2) := rd 2 (by omega)
      have r3 : wr.cell? ⟨g, off + 4 * k + 3, none⟩ = some (.int .i64 q3) := rd 3 (by omega)
      clear rd
      go_wp2_with (go_at_call 210; refine HFK2.out.mono ?_; go_must (rintro e w1 ⟨rfl, hb1⟩))
      go_ret
      refine ⟨⟨(k : Int), rfl, ?_⟩, hb.trans (hb1.mono hb.size)⟩
      have : l.any p = true := List.any_eq_true.2 ⟨_, List.getElem_mem hlt, HBD.out⟩
      rw [this]; simp
set_option maxHeartbeats 4000000 in
theorem con_h1 (b1 b2 : Value) (l : List IneqD) (p : IneqD → Bool) (w : World) (v : Value) (hv : SlOf w w.heap.size 4 encI v l)
    (hf : ∀ q ∈ l, ∀ W, Below w.heap.size w W → Calls Tryz.prog 210 #[.agg #[.int .i64 q.a.1, .int .i64 q.a.2.1, .int .i64 q.a.2.2, .int .i64 q.b], b1, b2] W fun e W' => e = .returned (.bool (p q)) ∧ Below W.heap.size W W') :
    Calls Tryz.prog 149 #[v, .func (.func 210) #[] #[b1, b2]] w fun e w' => e = .returned (.bool (l.any p)) ∧ Below w.heap.size w w' := by
  have H := Lib.hid ((idx_h1 (l := l) (p := p) (w := w) (v := v) (hv := hv) (hf := hf)))
  clear hv hf
  go_enter Tryz.func149, Tryz.ntmps149
  go_wp2_with (go_at_call 209; refine H.out.mono ?_; clear H; go_must (rintro e w1 ⟨⟨z, rfl, hz⟩, hb1⟩; have HZ := Lib.hid hz; clear hz))
  go_ret
  exact ⟨ret_bool HZ.out, hb1⟩
end Go.Proofs.YtnejicklenhpeaaGreat
