/- An argument that is a list of moves of a rack: how it is opened. Conditions: none. -/
import Derived.Test.YtlljfbakpljenaaOpenC
namespace Go.Proofs.Ytlljfbakpljenaa
open Go.RowKit Go.ChangeShapes Go.WideShapes Go.ChangeAt
set_option linter.unusedVariables false
/-- A move: what it is, a disk, a number, bytes, and how much is kept of each disk. -/
structure MoveD where
  what : Int
  disk : Int
  n : Int
  bv : Value
  bl : List Int
  k0 : Int
  k1 : Int
  k2 : Int
def encMv (m : MoveD) : List Value := [.int .u8 m.what, .int .i64 m.disk, .int .i64 m.n, m.bv, .int .i64 m.k0, .int .i64 m.k1, .int .i64 m.k2]
structure MoveOk (w : World) (m : MoveD) : Prop where
  what : 0 ≤ m.what ∧ m.what ≤ 255
  n : -9223372036854775808 ≤ m.n ∧ m.n ≤ 9223372036854775807
  bytes : BSl w w.heap.size m.bv m.bl
theorem listR7 {α : Type} : ∀ {l : List α}, l.length = 7 → ∃ a b c d e f g, l = [a, b, c, d, e, f, g]
  | [a, b, c, d, e, f, g], _ => ⟨a, b, c, d, e, f, g, rfl⟩
theorem listR3 {α : Type} : ∀ {l : List α}, l.length = 3 → ∃ a b c, l = [a, b, c]
  | [a, b, c], _ => ⟨a, b, c, rfl⟩
theorem ceR_int : Try.prog.cellsOf 3 = 1 := by kernel_rfl
theorem ceR_u8 : Try.prog.cellsOf 5 = 1 := by kernel_rfl
theorem ceR_bytes : Try.prog.cellsOf 27 = 1 := by kernel_rfl
theorem ceR_keep : Try.prog.cellsOf 29 = 3 := by kernel_rfl
theorem ceR_mv : Try.prog.cellsOf 33 = 7 := by kernel_rfl
section
variable {w : World} {base : Nat} {H : Type} {enc : TypeId × Value → H} {spare : Nat → Bool} {held : Bool} {fuel : Nat} {cs : List Value} {x : DataW H × List MemPlace}
theorem trodR_int (h : DataW.trod enc Try.prog w base spare held fuel 3 cs = some x) : ∃ z : Int, cs = [.int .i64 z] ∧ -9223372036854775808 ≤ z ∧ z ≤ 9223372036854775807 := by
  obtain ⟨z, hz, _, hw⟩ := DataW.trod_int Try.underlying3 h
  have := wf_i64 hw
  exact ⟨z, hz, this⟩
theorem trodR_u8 (h : DataW.trod enc Try.prog w base spare held fuel 5 cs = some x) : ∃ z : Int, cs = [.int .u8 z] ∧ 0 ≤ z ∧ z ≤ 255 := by
  obtain ⟨z, hz, _, hw⟩ := DataW.trod_int Try.underlying5 h
  exact ⟨z, hz, wf_u8 hw⟩
set_option maxRecDepth 100000 in
theorem trodR_keep (h : DataW.trod enc Try.prog w base spare held fuel 29 cs = some x) : ∃ a b c : Int, cs = [.int .i64 a, .int .i64 b, .int .i64 c] := by
  obtain ⟨xs, m, _, _, hcl, hxn, hx⟩ := DataW.trod_array Try.underlying29 h
  rw [ceR_keep] at hcl
  obtain ⟨c0, c1, c2, rfl⟩ := listR3 hcl
  have g0 := hx 0 (by omega)
  have g1 := hx 1 (by omega)
  have g2 := hx 2 (by omega)
  rw [ceR_int, List.getElem?_eq_getElem (by omega)] at g0 g1 g2
  obtain ⟨z0, h0, -⟩ := trodR_int g0
  obtain ⟨z1, h1, -⟩ := trodR_int g1
  obtain ⟨z2, h2, -⟩ := trodR_int g2
  simp at h0 h1 h2
  subst h0 h1 h2
  exact ⟨z0, z1, z2, rfl⟩
set_option maxRecDepth 100000 in
theorem trodR_mv (h : DataW.trod enc Try.prog w base spare held fuel 33 cs = some x) : ∃ o : MoveD, cs = encMv o ∧ MoveOk w o := by
  obtain ⟨xs, m, _, _, hcl, hxn, hx⟩ := DataW.trod_struct Try.underlying33 h
  rw [ceR_mv] at hcl
  obtain ⟨c0, c1, c2, c3, c4, c5, c6, rfl⟩ := listR7 hcl
  have hxl : xs.length = 5 := hxn
  have g0 := hx 0 _ rfl
  have g1 := hx 1 _ rfl
  have g2 := hx 2 _ rfl
  have g3 := hx 3 _ rfl
  have g4 := hx 4 _ rfl
  rw [List.getElem?_eq_getElem (by omega)] at g0 g1 g2 g3 g4
  simp only [List.getElem_toArray, List.getElem_cons_zero, List.getElem_cons_succ, ceR_int, ceR_u8, ceR_bytes, ceR_keep] at g0 g1 g2 g3 g4
  obtain ⟨z0, h0, b0⟩ := trodR_u8 g0
  obtain ⟨z1, h1, b1⟩ := trodR_int g1
  obtain ⟨z2, h2, b2⟩ := trodR_int g2
  obtain ⟨k0, k1, k2, h4⟩ := trodR_keep g4
  simp at h0 h1 h2 h4
  obtain ⟨rfl, rfl, rfl⟩ := h4
  subst h0 h1 h2
  obtain ⟨l, hl⟩ := bytes_trod (v := c3) Try.underlying27 Try.underlying5 ceR_u8 (by simpa using g3)
  exact ⟨⟨z0, z1, z2, c3, l, k0, k1, k2⟩, rfl, b0, b2, hl⟩
end
set_option maxRecDepth 100000 in
theorem open_moves {w : World} {r : Reach} {b0 base : Nat} {H : Type} {enc : TypeId × Value → H} {spare : Nat → Bool} {held : Bool} {v : Value} {d : DataW H} {ps : List MemPlace}
    (hval : Value.okWide Try.prog w r b0 22 v) (hd : DataW.Trod enc Try.prog w base spare held 22 v d ps) : ∃ p : List MoveD, SlOf w w.heap.size 7 encMv v p ∧ ∀ m ∈ p, MoveOk w m := by
  obtain ⟨a0, len, cap, rfl⟩ := okWide_slice Try.underlying22 hval
  obtain ⟨fuel, hf⟩ := hd
  exact open_slOf (enc := encMv) (Good := MoveOk w) Try.underlying22 ceR_mv (by omega) (fun _ => rfl) (fun m cs y hy => trodR_mv hy) hf
end Go.Proofs.Ytlljfbakpljenaa
