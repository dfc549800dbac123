/- slices.Compact on a row of cells of the call's own: its walk. -/
import Derived.Test.YtndfdgdahinkpaaCelB
import Derived.Lib.SlicesCompact
import Derived.Lib.SliceRun
namespace Go.Proofs.Ytndfdgdahinkpaa
open Go.RowKit Go.Lib
theorem zeros_C (n : Nat) : (Builtin.zeroCells #[Value.int .i64 0, Value.int .i64 0] n).toList = List.replicate (n * 2) (.int .i64 0) := by
  simp only [Builtin.zeroCells]
  refine List.ext_getElem (by simp) (fun i h1 h2 => ?_)
  simp only [Array.getElem_toList, Array.getElem_map, Array.getElem_range, List.getElem_replicate]
  rcases Nat.mod_two_eq_zero_or_one i with e | e <;> (show #[Value.int .i64 0, Value.int .i64 0][i % 2]! = _; rw [e]; rfl)
theorem clear_C (w : World) (ty : TypeId) (b o n c : Nat) (hn : 0 < n) (hc : ∀ j, j < n * 2 → (w.cell? ⟨b, o + j, none⟩).isSome = true) (hf : ∀ j, j < n * 2 → w.frozen? ⟨b, o + j, none⟩ = false) :
    (Builtin.clear_ #[64] ty #[.slice (some ⟨b, o, none⟩) n c]).run Try.prog w = .ok (.tuple #[]) (w.setCells b o (List.replicate (n * 2) (.int .i64 0))) := by
  have hst := run_storeCells_cells (P := Try.prog) b o (List.replicate (n * 2) (.int .i64 0)) 0 w (by simpa using hc) (by simpa using hf) (by intro v hv'; rw [List.eq_of_mem_replicate hv']; rfl)
  simp only [Nat.add_zero] at hst
  obtain ⟨m, rfl⟩ : ∃ m, n = m + 1 := ⟨n - 1, by omega⟩
  simp [Builtin.clear_, run_underlying Try.underlying64, Value.cells, zeros_C, hst]
/-- Block g holds the cells d from its head on, and none of them is frozen. -/
def RowC (W : World) (g : Nat) (d : Array (Int × Int)) : Prop := g < W.heap.size ∧ ∀ j, j < d.size → W.cell? ⟨g, j * 2, none⟩ = some (.int .i64 d[j]!.1) ∧ W.cell? ⟨g, j * 2 + 1, none⟩ = some (.int .i64 d[j]!.2) ∧ W.frozen? ⟨g, j * 2, none⟩ = false ∧ W.frozen? ⟨g, j * 2 + 1, none⟩ = false
theorem RowC.drewN {W : World} {g : Nat} {d : Array (Int × Int)} (h : RowC W g d) (q : Nat) : RowC (W.drewN q) g d := h
theorem below_setC {B : Nat} {a : World} (b : Nat) (hb : B ≤ b) : ∀ (vs : List Value) (o : Nat) {w : World}, Below B a w → Below B a (w.setCells b o vs)
  | [], _, _, h => h
  | v :: r, o, _, h => below_setC b hb r (o + 1) (h.setCell (p := ⟨b, o, none⟩) hb v)
theorem RowC.cut {W : World} {g : Nat} {d : Array (Int × Int)} (h : RowC W g d) (o : Nat) (ho : d.size * 2 ≤ o) (vs : List Value) : RowC (W.setCells g o vs) g d := by
  refine ⟨Nat.lt_of_lt_of_le h.1 (below_setC g (Nat.zero_le g) vs o (Below.refl 0 W)).size, fun j hj => ?_⟩
  obtain ⟨a, b, c, e⟩ := h.2 j hj
  refine ⟨?_, ?_, ?_, ?_⟩
  · rw [World.cell?_setCells_out g vs o W _ (fun _ _ => .inl (by show j * 2 < o; omega))]; exact a
  · rw [World.cell?_setCells_out g vs o W _ (fun _ _ => .inl (by show j * 2 + 1 < o; omega))]; exact b
  · rw [World.frozen?_setCells]; exact c
  · rw [World.frozen?_setCells]; exact e
theorem RowC.low {W : World} {g : Nat} {dk : Array (Int × Int)} {cs : List (Int × Int)} (h : RowC W g dk) (hs : cs.length ≤ dk.size) (hl : ∀ j, j < cs.length → cs[j]? = some dk[j]!) : RowC W g cs.toArray := by
  refine ⟨h.1, fun j hj => ?_⟩
  have hj' : j < cs.length := by simpa using hj
  have e : cs.toArray[j]! = dk[j]! := by
    have := hl j hj'
    rw [List.getElem?_eq_getElem hj', Option.some.injEq] at this
    rw [getElem!_pos cs.toArray j hj, List.getElem_toArray, this]
  rw [e]
  exact h.2 j (by omega)
theorem RowC.set {W : World} {g : Nat} {d : Array (Int × Int)} (h : RowC W g d) (k : Nat) (hk : k < d.size) (x : Int × Int) : RowC ((W.setCell ⟨g, k * 2, none⟩ (.int .i64 x.1)).setCell ⟨g, k * 2 + 1, none⟩ (.int .i64 x.2)) g (d.setIfInBounds k x) := by
  show RowC (W.setCells g (k * 2) [.int .i64 x.1, .int .i64 x.2]) g (d.setIfInBounds k x)
  refine ⟨Nat.lt_of_lt_of_le h.1 (below_setC g (Nat.zero_le g) _ _ (Below.refl 0 W)).size, fun j hj => ?_⟩
  have hj' : j < d.size := by simpa using hj
  obtain ⟨a, b, c, e⟩ := h.2 j hj'
  rw [World.frozen?_setCells, World.frozen?_setCells]
  by_cases hjk : j = k
  · subst hjk
    have hx : (d.setIfInBounds j x)[j]! = x := by rw [getElem!_pos _ j hj]; simp
    rw [hx]
    have hin := World.cell?_setCells_in g [Value.int .i64 x.1, Value.int .i64 x.2] (j * 2) W (fun i hi => by
      obtain rfl | rfl : i = 0 ∨ i = 1 := by simp at hi; omega
      · exact (by rw [show j * 2 + 0 = j * 2 from rfl, a]; rfl)
      · exact (by rw [b]; rfl))
    exact ⟨hin 0 (by simp), hin 1 (by simp), c, e⟩
  · have hx : (d.setIfInBounds k x)[j]! = d[j]! := by
      rw [getElem!_pos _ j hj, getElem!_pos _ j hj']
      rw [Array.getElem_setIfInBounds, if_neg (Ne.symm hjk)]
    rw [hx]
    refine ⟨?_, ?_, c, e⟩
    · rw [World.cell?_setCells_out g _ _ W _ (fun _ _ => by show j * 2 < k * 2 ∨ k * 2 + 2 ≤ j * 2; omega)]; exact a
    · rw [World.cell?_setCells_out g _ _ W _ (fun _ _ => by show j * 2 + 1 < k * 2 ∨ k * 2 + 2 ≤ j * 2 + 1; omega)]; exact b
theorem Below.drewN2 {B : Nat} {W V : World} (h : Below B W V) (q : Nat) : Below B W (V.drewN q) := h.trans (by repeat (first | exact Below.refl _ _ | assumption | (refine Below.drew ?_) | (refine below_drewN ?_ _) | (refine Below.alloc ?_ (by first | (simp; done) | (simp; omega) | omega) _) | (refine Below.setCell ?_ (by first | (simp; done) | (simp; omega) | omega) _) | (refine Below.trans ?_ (Below.mono (by assumption) (by first | (simp; done) | (simp; omega) | omega)))))
end Go.Proofs.Ytndfdgdahinkpaa
