/- The cell of a point, for any direction: the program's and the reference's. -/
import Derived.Test.YtndfdgdahinkpaaRecP
import Derived.Test.YtndfdgdahinkpaaSpaceN
namespace Go.Proofs.Ytndfdgdahinkpaa
open Go.RowKit
def dirB (n : Int) (u : P3) : Bool := validB n u.1 u.2.1 u.2.2
def axK (n : Int) (u : P3) : Int := findK n u.1 u.2.1 u.2.2
/-- The cell of a point. -/
def cellC (n : Int) (u p : P3) : Int × Int := (cA n (axK n u) u.1 u.2.1 u.2.2 p.1 p.2.1 p.2.2, cB n (axK n u) u.1 u.2.1 u.2.2 p.1 p.2.1 p.2.2)
theorem dir_cases {n : Int} {u : P3} (h : dirB n u = true) : (n = 1 ∧ axK n u = 0 ∧ u.2.1 = 0 ∧ u.2.2 = 0) ∨ (n = 2 ∧ (axK n u = 0 ∨ axK n u = 1) ∧ u.2.2 = 0) ∨ (n = 3 ∧ (axK n u = 0 ∨ axK n u = 1 ∨ axK n u = 2)) := by
  obtain ⟨hn, hf, hk⟩ := validB_out h
  have h1 := btw_out hn
  have h2 := findK_nonneg n u.1 u.2.1 u.2.2
  have h3 := findK_le n u.1 u.2.1 u.2.2
  have h4 := findK_le1 n u.1 u.2.1 u.2.2
  have h5 := flat_pad hn hf
  unfold axK
  rcases h5 with ⟨rfl, e1, e2, _⟩ | ⟨rfl, e2, _⟩ | ⟨rfl, _⟩
  · refine .inl ⟨rfl, ?_, e1, e2⟩
    have := h3 (by omega); have := h4 (by omega); omega
  · refine .inr (.inl ⟨rfl, ?_, e2⟩)
    have := h3 (by omega); omega
  · exact .inr (.inr ⟨rfl, by omega⟩)
theorem cell_l (n : Int) (u p : P3) (h : dirB n u = true) (w : World) :
    Calls Try.prog 39 #[.agg #[.int .i64 n, .int .i64 (axK n u), .int .i64 u.1, .int .i64 u.2.1, .int .i64 u.2.2], .agg #[.int .i64 p.1, .int .i64 p.2.1, .int .i64 p.2.2]] w fun e w' => e = .returned (.agg #[.int .i64 (cellC n u p).1, .int .i64 (cellC n u p).2]) ∧ Below w.heap.size w w' := by
  have hc := dir_cases h
  unfold cellC
  generalize axK n u = k at *
  rcases hc with ⟨rfl, rfl, _⟩ | ⟨rfl, rfl | rfl, _⟩ | ⟨rfl, rfl | rfl | rfl⟩
  · exact cell10 _ _ _ _ _ _ w
  · exact cell20 _ _ _ _ _ _ w
  · exact cell21 _ _ _ _ _ _ w
  · exact cell30 _ _ _ _ _ _ w
  · exact cell31 _ _ _ _ _ _ w
  · exact cell32 _ _ _ _ _ _ w
theorem rFold_l (n : Int) (u p : P3) (h : dirB n u = true) (m : Int) (hp : flatB n p.1 p.2.1 p.2.2 m = true) (w : World) :
    Calls Try.prog 60 #[.int .i64 n, .agg #[.int .i64 u.1, .int .i64 u.2.1, .int .i64 u.2.2], .agg #[.int .i64 p.1, .int .i64 p.2.1, .int .i64 p.2.2]] w fun e w' => e = .returned (.agg #[.int .i64 (cellC n u p).1, .int .i64 (cellC n u p).2]) ∧ Below w.heap.size w w' := by
  have hc := dir_cases h
  obtain ⟨hn, hf, hk⟩ := validB_out h
  have hpad := flat_pad hn hp
  have hb : (btw 1 n 3 && flatB n u.1 u.2.1 u.2.2 3) = true := by rw [hn, hf]; rfl
  unfold cellC
  unfold axK at *
  obtain ⟨u0, u1, u2⟩ := u
  obtain ⟨p0, p1, p2⟩ := p
  simp only at hc hpad hb hf hp hn ⊢
  rcases hc with ⟨rfl, e, rfl, rfl⟩ | ⟨rfl, e | e, rfl⟩ | ⟨rfl, e | e | e⟩
  · obtain ⟨_, rfl, rfl, _⟩ | ⟨h, _⟩ | ⟨h, _⟩ := hpad
    · rw [e]; exact Fold10 _ _ w hb e
    · omega
    · omega
  · obtain ⟨h, _⟩ | ⟨_, rfl, _⟩ | ⟨h, _⟩ := hpad
    · omega
    · rw [e]; exact Fold20 _ _ _ _ w hb e
    · omega
  · obtain ⟨h, _⟩ | ⟨_, rfl, _⟩ | ⟨h, _⟩ := hpad
    · omega
    · rw [e]; exact Fold21 _ _ _ _ w hb e
    · omega
  · rw [e]; exact Fold30 _ _ _ _ _ _ w hb e
  · rw [e]; exact Fold31 _ _ _ _ _ _ w hb e
  · rw [e]; exact Fold32 _ _ _ _ _ _ w hb e
end Go.Proofs.Ytndfdgdahinkpaa
