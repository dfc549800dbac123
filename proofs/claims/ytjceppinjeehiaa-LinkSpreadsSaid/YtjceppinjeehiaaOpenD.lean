/- Opening arguments that are slices of cells. -/
import Derived.Test.YtjceppinjeehiaaOpenB
import Derived.Test.YtjceppinjeehiaaLinkC
import Derived.ChangeSlices
namespace Go.Proofs.Ytjceppinjeehiaa
open Go.ChangeShapes Go.WideShapes Go.ChangeAt Go.RowKit
theorem list2 {α : Type} : ∀ {l : List α}, l.length = 2 → ∃ a b, l = [a, b]
  | [a, b], _ => ⟨a, b, rfl⟩
def rdI (w : World) (a : Addr) : Int := match w.cell? a with | some (.int _ z) => z | _ => 0
set_option maxRecDepth 100000 in
theorem cells_trod {w : World} {base : Nat} {H : Type} {enc : TypeId × Value → H} {spare held : _} {fuel : Nat} {v : Value} {x : DataW H × List MemPlace}
    (hf : DataW.trod enc Try.prog w base spare held fuel 22 [v] = some x) : ∃ g off l, CRd w v g off l := by
  have ce : Try.prog.cellsOf 24 = 2 := by kernel_rfl
  have ci : Try.prog.cellsOf 3 = 1 := by kernel_rfl
  rcases DataW.trod_slice Try.underlying22 hf with ⟨hcs, _⟩ | ⟨a, len, cap, elems, rest, n, _, hcs, _, _, hl, hm, hlen, hel, _⟩
  · obtain rfl : v = .slice none 0 0 := by simpa using hcs
    exact ⟨0, 0, [], 0, Nat.le_refl _, by unfold maxLen; omega, .inl ⟨⟨_, _, rfl⟩, rfl⟩⟩
  · obtain rfl : v = .slice (some a) len cap := by simpa using hcs
    have key : ∀ i, i < len → w.cell? (a.add (i * 2)) = some (.int .i64 (rdI w (a.add (i * 2)))) ∧ w.cell? ((a.add (i * 2)).add 1) = some (.int .i64 (rdI w ((a.add (i * 2)).add 1))) := by
      intro i hi
      have h1 := hel i hi
      rw [ce] at h1
      obtain ⟨y, hy⟩ : ∃ y, elems[i]? = some y := ⟨elems[i], by simp [hlen, hi]⟩
      rw [hy, Option.bind_eq_some_iff] at h1
      obtain ⟨cs, hc, ht⟩ := h1
      obtain ⟨xs, m, _, _, hcl, hxn, hx⟩ := DataW.trod_array Try.underlying24 ht
      obtain ⟨_, hl2, hcell⟩ := World.cells?_some hc
      obtain ⟨c0, c1, rfl⟩ := list2 hl2
      have one : ∀ (c : Value) (y : DataW H × List MemPlace), DataW.trod enc Try.prog w base spare held m 3 [c] = some y → ∃ z, c = .int .i64 z := by
        intro c y hy
        obtain ⟨z, hz, _⟩ := DataW.trod_int Try.underlying3 hy
        exact ⟨z, by simpa using hz⟩
      have g0 := hx 0 (by omega)
      have g1 := hx 1 (by omega)
      rw [ci] at g0 g1
      obtain ⟨y0, hy0⟩ : ∃ y, xs[0]? = some y := ⟨xs[0], by simp⟩
      obtain ⟨y1, hy1⟩ : ∃ y, xs[1]? = some y := ⟨xs[1], by simp⟩
      rw [hy0] at g0
      rw [hy1] at g1
      obtain ⟨z0, rfl⟩ := one c0 y0 (by simpa using g0)
      obtain ⟨z1, rfl⟩ := one c1 y1 (by simpa using g1)
      have e0 := hcell 0 (by omega)
      have e1 := hcell 1 (by omega)
      have ea : (a.add (i * 2)).add 0 = a.add (i * 2) := by simp [Addr.add]
      rw [ea] at e0
      have e0' : w.cell? (a.add (i * 2)) = some (.int .i64 z0) := by simpa using e0
      have e1' : w.cell? ((a.add (i * 2)).add 1) = some (.int .i64 z1) := by simpa using e1
      exact ⟨by rw [rdI, e0'], by rw [rdI, e1']⟩
    by_cases h0 : len = 0
    · subst h0
      exact ⟨0, 0, [], cap, Nat.zero_le _, hm, .inl ⟨⟨_, _, rfl⟩, rfl⟩⟩
    · have hc0 := (key 0 (by omega)).1
      have hsp : a.spot = none := by
        cases hs : a.spot with
        | none => rfl
        | some p =>
          have e : a.add (0 * 2) = a := by simp [Addr.add]
          rw [e] at hc0
          simp only [World.cell?, hs, Option.isSome_some, if_true] at hc0
          split at hc0 <;> simp at hc0
      obtain ⟨b, off, sp⟩ := a
      obtain rfl : sp = none := hsp
      have ead : ∀ j, (⟨b, off, none⟩ : Addr).add j = ⟨b, off + j, none⟩ := fun j => by simp only [Addr.add]; split <;> simp_all
      refine ⟨b, off, (List.range len).map fun i => (rdI w ⟨b, off + 2 * i, none⟩, rdI w ⟨b, off + 2 * i + 1, none⟩), cap, by simpa using hl, hm, .inr ⟨by simp, ?_, fun k hk => ?_⟩⟩
      · exact World.block_lt_of_cell? w ⟨b, off + 0 * 2, none⟩ (by rw [ead] at hc0; exact hc0)
      · have hk' : k < len := by simpa using hk
        have h1 := key k hk'
        have e2 : (⟨b, off + k * 2, none⟩ : Addr).add 1 = ⟨b, off + k * 2 + 1, none⟩ := by simp only [Addr.add]; split <;> simp_all
        rw [ead, e2, Nat.mul_comm] at h1
        simpa using h1
set_option maxRecDepth 100000 in
theorem open_cells {w : World} {r : Reach} {b0 base : Nat} {H : Type} {enc : TypeId × Value → H} {spare' held : _} {v : Value} {d : DataW H} {ps : List MemPlace}
    (hval : Value.okWide Try.prog w r b0 22 v) (hd : DataW.Trod enc Try.prog w base spare' held 22 v d ps) : ∃ g off l, CRd w v g off l := by
  obtain ⟨a0, len, cap, rfl⟩ := okWide_slice Try.underlying22 hval
  obtain ⟨fuel, hf⟩ := hd
  exact cells_trod hf
end Go.Proofs.Ytjceppinjeehiaa
