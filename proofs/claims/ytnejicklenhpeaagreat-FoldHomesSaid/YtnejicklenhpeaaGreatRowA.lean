/- Rows of whole numbers in a block of their own. Conditions: none. -/
import Derived.Laws.MakeOwn
import Derived.Test.YtnejicklenhpeaaGreatIdxA
namespace Go.Proofs.YtnejicklenhpeaaGreat
open Go.RowKit Go.Lib
set_option linter.unusedVariables false
/-- Block b holds the numbers l. -/
structure RowI (w : World) (b : Nat) (l : List Int) : Prop where
  lt : b < w.heap.size
  cell : ∀ i (h : i < l.length), w.cell? ⟨b, i, none⟩ = some (.int .i64 l[i])
  free : ∀ i, i < l.length → w.frozen? ⟨b, i, none⟩ = false
section
variable {w w' : World} {b : Nat} {l : List Int}
theorem RowI.of_block (h : RowI w b l) (hb : w'.heap[b]? = w.heap[b]?) (hs : b < w'.heap.size) : RowI w' b l :=
  ⟨hs, fun i hi => (World.cell?_of_block (a := ⟨b, i, none⟩) hb).trans (h.cell i hi), fun i hi => by
    rw [← h.free i hi]; simp only [World.frozen?, hb]⟩
theorem RowI.kept (h : RowI w b l) (hb : Below w.heap.size w w') : RowI w' b l :=
  h.of_block (hb.block b h.lt) (Nat.lt_of_lt_of_le h.lt hb.size)
theorem RowI.drew (h : RowI w b l) : RowI w.drew b l := h.kept (Below.refl _ _).drew
theorem RowI.drewN (h : RowI w b l) (n : Nat) : RowI (w.drewN n) b l := h.kept (below_drewN (Below.refl _ _) n)
theorem RowI.alloc (h : RowI w b l) (o : Obj) : RowI (w.alloc o) b l := h.kept ((Below.refl _ _).alloc (Nat.le_refl _) _)
theorem RowI.set (h : RowI w b l) (i : Nat) (hi : i < l.length) (x : Int) : RowI (w.setCell ⟨b, i, none⟩ (.int .i64 x)) b (l.set i x) := by
  refine ⟨by simpa using h.lt, fun j hj => ?_, fun j hj => ?_⟩
  · simp only [List.length_set] at hj
    by_cases e : i = j
    · subst e
      rw [World.cell?_setCell_same _ _ _ (h.cell i hj)]
      simp
    · rw [World.cell?_setCell_other _ _ _ _ (by intro e'; simp only [Addr.mk.injEq] at e'; omega), h.cell j hj]
      simp [List.getElem_set_ne e]
  · simp only [List.length_set] at hj
    rw [World.frozen?_setCell]; exact h.free j hj
theorem RowI.other (h : RowI w b l) (c o : Nat) (v : Value) (hc : c ≠ b) : RowI (w.setCell ⟨c, o, none⟩ v) b l := by
  refine h.of_block (Below.heap_setCell _ _ _ _ (fun e => hc e.symm)) (by simpa using h.lt)
theorem RowI.sl (h : RowI w b l) (cap : Nat) (hc : l.length ≤ cap) (hm : cap ≤ maxLen) : SlOf w w.heap.size 1 encInt (.slice (some ⟨b, 0, none⟩) l.length cap) l := by
  refine ⟨_, cap, rfl, flat_len (enc := encInt) (sz := 1) (fun _ => rfl) l, hc, hm, by simp, .inr ⟨b, 0, rfl, h.lt, fun i hi => ?_⟩⟩
  have hi2 : i < l.length := by simpa using hi
  have h2 := flat_at (enc := encInt) (sz := 1) (fun _ => rfl) l i 0 hi2 (by omega)
  simp only [Nat.one_mul, Nat.add_zero] at h2
  rw [Nat.zero_add, h.cell i hi2, h2]; rfl
end
theorem int_info : (Tryz.prog.info? 3).map (fun i => (i.zero, i.size, i.bytes)) = some (some (.int .i64 0), 1, 8) := by kernel_rfl
theorem make_ints (n : Nat) (hn : n ≤ 1000000) : ∃ Z : Array Value, (∀ W, (Instr.makeSlice 39 (.int .i64 (n : Int)) (.int .i64 (n : Int))).run Tryz.prog W = .ok (.slice (some ⟨W.heap.size, 0, none⟩) n n) (W.alloc (.cells Z 3))) ∧ ∀ W : World, RowI (W.alloc (.cells Z 3)) W.heap.size (List.replicate n 0) := by
  obtain ⟨i0, hi, hz0, hz1, hz2⟩ := info_parts int_info
  refine ⟨madeCells (Value.int .i64 0).cells n, fun W => ?_, fun W => ⟨by simp, fun i h => ?_, fun i h => by go_simp⟩⟩
  · have := run_make (P := Tryz.prog) W 39 3 i0 _ Tryz.underlying39 hi hz0 .i64 .i64 (n : Int) (n : Int) (by omega) (by omega) (by rw [hz2]; omega) (by omega)
    rw [Int.toNat_natCast, hz1, Nat.mul_one] at this
    exact this
  · have hi2 : i < n := by simpa using h
    rw [World.cell?_alloc_new]
    simp [madeCells, Value.cells, hi2, Nat.mod_one]
end Go.Proofs.YtnejicklenhpeaaGreat
