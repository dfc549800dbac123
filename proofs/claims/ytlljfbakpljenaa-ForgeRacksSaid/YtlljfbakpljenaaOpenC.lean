/- Opening arguments that are slices of bytes, and arrays of three such slices. Conditions: none. -/
import Derived.Test.YtlljfbakpljenaaKitA
import Derived.Test.YtlljfbakpljenaaByteC
import Derived.ChangeSlices
namespace Go.Proofs.Ytlljfbakpljenaa
open Go.ChangeShapes Go.WideShapes Go.ChangeAt Go.RowKit
set_option linter.unusedVariables false
theorem bytes_trod {P : Program} {w : World} {base : Nat} {H : Type} {enc : TypeId × Value → H} {spare held : _} {fuel : Nat} {t e : TypeId} {v : Value} {x : DataW H × List MemPlace}
    (ht : P.underlying t = some (.slice e)) (he : P.underlying e = some (.int .u8)) (ce : P.cellsOf e = 1) (hf : DataW.trod enc P w base spare held fuel t [v] = some x) : ∃ l, BSl w w.heap.size v l := by
  rcases open_ints ht he ce hf with ⟨hcs, hx⟩ | ⟨a, len, cap, zs, hcs, _, hl, hm, hz, hx, hcell, hwz⟩
  · obtain rfl : v = .slice none 0 0 := by simpa using hcs
    exact ⟨[], BSl.nil _ _⟩
  · obtain rfl : v = .slice (some a) len cap := by simpa using hcs
    have hlz : len ≤ zs.length := by rw [hz]; split <;> omega
    have hlen : (zs.take len).length = len := by simp; omega
    have hy : Byts (zs.take len) := by
      intro z hz'
      have := wf_u8 (hwz z (List.mem_of_mem_take hz'))
      omega
    have key : Rd w w.heap.size (some a) (zs.take len) := by
      by_cases h0 : len = 0
      · subst h0; exact .inl rfl
      · have hc0 := hcell 0 (by omega)
        have hsp : a.spot = none := by
          cases hs : a.spot with
          | none => rfl
          | some p =>
            have e : a.add 0 = a := by simp [Addr.add]
            rw [e] at hc0
            simp only [World.cell?, hs, Option.isSome_some, if_true] at hc0
            split at hc0 <;> simp at hc0
        obtain ⟨b, off, sp⟩ := a
        obtain rfl : sp = none := hsp
        refine .inr ⟨b, off, rfl, World.block_lt_of_cell? w _ (by simpa [Addr.add] using hc0), fun i hi => ?_⟩
        rw [hlen] at hi
        have h1 := hcell i (by omega)
        have e2 : (⟨b, off, none⟩ : Addr).add i = ⟨b, off + i, none⟩ := by simp only [Addr.add]; split <;> simp_all
        rw [e2] at h1
        rw [h1]
        simp [hi]
    have := BSl.of_rd (cap := cap) key (by omega) hm (by simp) hy
    rw [hlen] at this
    exact ⟨_, this⟩
theorem open_bytes {P : Program} {w : World} {r : Reach} {b0 base : Nat} {H : Type} {enc : TypeId × Value → H} {spare' held : _} {t e : TypeId} {v : Value} {d : DataW H} {ps : List MemPlace}
    (ht : P.underlying t = some (.slice e)) (he : P.underlying e = some (.int .u8)) (ce : P.cellsOf e = 1) (hval : Value.okWide P w r b0 t v) (hd : DataW.Trod enc P w base spare' held t v d ps) : ∃ l, BSl w w.heap.size v l := by
  obtain ⟨a0, len, cap, rfl⟩ := okWide_slice ht hval
  obtain ⟨fuel, hf⟩ := hd
  exact bytes_trod ht he ce hf
theorem open_bytes3 {P : Program} {w : World} {r : Reach} {b0 base : Nat} {H : Type} {enc : TypeId × Value → H} {spare' held : _} {t u e : TypeId} {v : Value} {d : DataW H} {ps : List MemPlace}
    (ht : P.underlying t = some (.array 3 u)) (hu : P.underlying u = some (.slice e)) (he : P.underlying e = some (.int .u8)) (ce : P.cellsOf e = 1) (cu : P.cellsOf u = 1) (ct : P.cellsOf t = 3) (hval : Value.okWide P w r b0 t v) (hd : DataW.Trod enc P w base spare' held t v d ps) :
    ∃ x0 x1 x2 l0 l1 l2, v = .agg #[x0, x1, x2] ∧ BSl w w.heap.size x0 l0 ∧ BSl w w.heap.size x1 l1 ∧ BSl w w.heap.size x2 l2 := by
  obtain ⟨cs, rfl, hs⟩ := okWide_arr ht hval
  obtain ⟨fuel, hf⟩ := hd
  obtain ⟨xs, m, _, _, hl, hxn, hx⟩ := DataW.trod_array ht hf
  have hs3 : cs.size = 3 := by omega
  obtain ⟨l⟩ := cs
  match l, hs3 with
  | [v0, v1, v2], _ =>
    have g0 := hx 0 (by omega)
    have g1 := hx 1 (by omega)
    have g2 := hx 2 (by omega)
    rw [cu, List.getElem?_eq_getElem (by omega)] at g0 g1 g2
    obtain ⟨l0, h0⟩ := bytes_trod hu he ce g0
    obtain ⟨l1, h1⟩ := bytes_trod hu he ce g1
    obtain ⟨l2, h2⟩ := bytes_trod hu he ce g2
    exact ⟨v0, v1, v2, l0, l1, l2, rfl, h0, h1, h2⟩
end Go.Proofs.Ytlljfbakpljenaa
