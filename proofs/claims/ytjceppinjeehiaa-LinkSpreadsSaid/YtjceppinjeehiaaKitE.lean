/- How a slice that reads is indexed; and slices of integers as arguments. Conditions: none. -/
import Derived.Test.YtjceppinjeehiaaKitC
import Derived.Test.YtjceppinjeehiaaOpenB
import Derived.ChangeSlices
namespace Go.Proofs.Ytjceppinjeehiaa
open Go.RowKit Go.ChangeShapes Go.WideShapes Go.ChangeAt
set_option linter.unusedVariables false
theorem idx_any {P : Program} {t e : TypeId} {size : Nat} (hu : P.underlying t = some (.slice (P.elem t))) (hsz : ∀ W, (sizeOf (P.elem t)).run P W = .ok size W) (g off n cap k : Nat) (hk : k < n) (W : World) :
    (Instr.indexAt t (.slice (some ⟨g, off, none⟩) n cap) (.int .i64 (k : Int))).run P W = .ok (.pointer (some ⟨g, off + size * k, none⟩)) W := by
  rw [run_indexAt_slice (P := P) (w := W) _ _ _ _ _ _ hu, if_pos (by omega), hsz]
  simp only [Result.andThen, Int.toNat_natCast, Addr.add, Nat.mul_comm]
  split <;> simp_all
/-- Indexing a slice that reads: the cells of element k. -/
theorem Sl.at {P : Program} {t : TypeId} {size : Nat} (hu : P.underlying t = some (.slice (P.elem t))) (hsz : ∀ W, (sizeOf (P.elem t)).run P W = .ok size W) {w : World} {B n : Nat} {v : Value} {xs : List Value} (h : Sl w B size v n xs) :
    ∃ a cap g off, v = .slice a n cap ∧ n ≤ maxLen ∧ xs.length = n * size ∧ ∀ k, k < n → (∀ W, (Instr.indexAt t (.slice a n cap) (.int .i64 (k : Int))).run P W = .ok (.pointer (some ⟨g, off + size * k, none⟩)) W) ∧ g < B ∧ ∀ j, j < size → w.cell? ⟨g, off + size * k + j, none⟩ = xs[size * k + j]? := by
  obtain ⟨a, cap, rfl, hl, hc, hm, h0, rfl | ⟨g, off, rfl, hlt, hr⟩⟩ := h
  · exact ⟨a, cap, 0, 0, rfl, Nat.zero_le _, hl, fun k hk => absurd hk (by omega)⟩
  · refine ⟨_, cap, g, off, rfl, Nat.le_trans hc hm, hl, fun k hk => ⟨fun W => idx_any (e := t) hu hsz g off n cap k hk W, hlt, fun j hj => ?_⟩⟩
    rw [Nat.add_assoc]
    refine hr _ ?_
    have : size * k + size ≤ n * size := by
      have h1 : (k + 1) * size ≤ n * size := Nat.mul_le_mul_right size hk
      rw [Nat.add_mul, Nat.one_mul, Nat.mul_comm k size] at h1
      exact h1
    omega
def ints (l : List Int) : List Value := l.map (Value.int .i64)
/-- v reads the integers l, below block B. -/
def ISl (w : World) (B : Nat) (v : Value) (l : List Int) : Prop := Sl w B 1 v l.length (ints l)
theorem ISl.kept {w w' : World} {B : Nat} {v : Value} {l : List Int} (h : ISl w B v l) (hb : Below B w w') : ISl w' B v l := Sl.kept h hb
theorem size_ints (W : World) : (sizeOf (Try.prog.elem 25)).run Try.prog W = .ok 1 W := by kernel_rfl
theorem under_ints : Try.prog.underlying 25 = some (.slice (Try.prog.elem 25)) := by kernel_rfl
theorem ISl.at {w : World} {B : Nat} {v : Value} {l : List Int} (h : ISl w B v l) :
    ∃ a cap g off, v = .slice a l.length cap ∧ l.length ≤ maxLen ∧ ∀ k (hk : k < l.length), (∀ W, (Instr.indexAt 25 (.slice a l.length cap) (.int .i64 (k : Int))).run Try.prog W = .ok (.pointer (some ⟨g, off + k, none⟩)) W) ∧ g < B ∧ w.cell? ⟨g, off + k, none⟩ = some (.int .i64 l[k]) := by
  obtain ⟨a, cap, g, off, rfl, hm, hl, hx⟩ := Sl.at under_ints size_ints h
  refine ⟨a, cap, g, off, rfl, hm, fun k hk => ?_⟩
  obtain ⟨h1, h2, h3⟩ := hx k hk
  simp only [Nat.one_mul] at h1 h3
  refine ⟨h1, h2, ?_⟩
  have := h3 0 (by omega)
  simpa [ints, hk] using this
set_option maxRecDepth 100000 in
theorem ints_trod {w : World} {base : Nat} {H : Type} {enc : TypeId × Value → H} {spare held : _} {fuel : Nat} {v : Value} {x : DataW H × List MemPlace}
    (hf : DataW.trod enc Try.prog w base spare held fuel 25 [v] = some x) : ∃ l, ISl w w.heap.size v l ∧ ∀ z ∈ l, (Lit.int .i64 z).wf = true := by
  rcases open_ints Try.underlying25 Try.underlying3 (by kernel_rfl) hf with ⟨hcs, hx⟩ | ⟨a, len, cap, zs, hcs, _, hl, hm, hz, hx, hcell, hwz⟩
  · obtain rfl : v = .slice none 0 0 := by simpa using hcs
    exact ⟨[], Sl.nil _ _ _, by simp⟩
  · obtain rfl : v = .slice (some a) len cap := by simpa using hcs
    have hlz : len ≤ zs.length := by rw [hz]; split <;> omega
    have hlen : (zs.take len).length = len := by simp; omega
    refine ⟨zs.take len, ?_, fun z hz' => hwz z (List.mem_of_mem_take hz')⟩
    refine ⟨some a, cap, by rw [hlen], by simp [ints], by omega, hm, by simp, ?_⟩
    by_cases h0 : len = 0
    · subst h0; exact .inl (by simp)
    · have hc0 := hcell 0 (by omega)
      have hsp : a.spot = none := by
        cases hs : a.spot with
        | none => rfl
        | some p =>
          have e : a.add 0 = a := by simp [Addr.add]
          rw [e] at hc0
          simp only [World.cell?, hs, Option.isSome_some, if_true] at hc0
          split at hc0 <;> simp at hc0
      obtain ⟨b, off, sp⟩ := a
      obtain rfl : sp = none := hsp
      refine .inr ⟨b, off, rfl, World.block_lt_of_cell? w _ (by simpa [Addr.add] using hc0), fun i hi => ?_⟩
      rw [hlen] at hi
      have h1 := hcell i (by omega)
      have e2 : (⟨b, off, none⟩ : Addr).add i = ⟨b, off + i, none⟩ := by simp only [Addr.add]; split <;> simp_all
      rw [e2] at h1
      rw [h1]
      have hi2 : i < len := by omega
      simp [ints, hi2, List.getElem?_eq_getElem (show i < zs.length by omega)]
set_option maxRecDepth 100000 in
theorem open_intsl {w : World} {r : Reach} {b0 base : Nat} {H : Type} {enc : TypeId × Value → H} {spare' held : _} {v : Value} {d : DataW H} {ps : List MemPlace}
    (hval : Value.okWide Try.prog w r b0 25 v) (hd : DataW.Trod enc Try.prog w base spare' held 25 v d ps) : ∃ l, ISl w w.heap.size v l ∧ ∀ z ∈ l, (Lit.int .i64 z).wf = true := by
  obtain ⟨a0, len, cap, rfl⟩ := okWide_slice Try.underlying25 hval
  obtain ⟨fuel, hf⟩ := hd
  exact ints_trod hf
end Go.Proofs.Ytjceppinjeehiaa
