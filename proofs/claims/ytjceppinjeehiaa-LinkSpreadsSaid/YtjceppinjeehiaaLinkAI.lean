/- The reference's tables: what they hold, plainly; and how they lie. -/
import Derived.Test.YtjceppinjeehiaaLinkAH
import Derived.Laws.MakeOwn
import Derived.Deep.MidRow
namespace Go.Proofs.Ytjceppinjeehiaa
open Go.RowKit
/-- The tables of a block: N tables of 73 rows of 73 marks. -/
def Tab (w : World) (b N : Nat) (T : Nat → Nat → Nat → Bool) : Prop :=
  ∃ cur, w.heap[b]? = some (.cells cur 60 (0, 0)) ∧ cur.size = N * 5329 ∧ ∀ n x y, n < N → x < 73 → y < 73 → cur[5329 * n + 73 * x + y]? = some (.bool (T n x y))
theorem Tab.of_block {w w' : World} {b N : Nat} {T : Nat → Nat → Nat → Bool} (h : Tab w b N T) (hb : ∀ o, w.heap[b]? = some o → w'.heap[b]? = some o) : Tab w' b N T := by
  obtain ⟨cur, h1, h2⟩ := h
  exact ⟨cur, hb _ h1, h2⟩
theorem Tab.lt {w : World} {b N : Nat} {T : Nat → Nat → Nat → Bool} (h : Tab w b N T) : b < w.heap.size := by
  obtain ⟨cur, h1, _⟩ := h
  exact lt_of_block h1
theorem Tab.kept {w w' : World} {b N B : Nat} {T : Nat → Nat → Nat → Bool} (h : Tab w b N T) (hb : Below B w w') (hB : b < B) : Tab w' b N T := h.of_block fun _ ho => (hb.block b hB).trans ho
theorem Tab.cell {w : World} {b N : Nat} {T : Nat → Nat → Nat → Bool} (h : Tab w b N T) {n x y : Nat} (hn : n < N) (hx : x < 73) (hy : y < 73) : w.cell? ⟨b, 5329 * n + 73 * x + y, none⟩ = some (.bool (T n x y)) := by
  obtain ⟨cur, h1, _, h3⟩ := h
  simp only [World.cell?, h1]
  exact h3 n x y hn hx hy
theorem Tab.frozen {w : World} {b N : Nat} {T : Nat → Nat → Nat → Bool} (h : Tab w b N T) (o : Nat) : w.frozen? ⟨b, o, none⟩ = false := by
  obtain ⟨cur, h1, _⟩ := h
  simp [World.frozen?, h1]
theorem Tab.set {w : World} {b N : Nat} {T : Nat → Nat → Nat → Bool} (h : Tab w b N T) {n x y : Nat} (hx : x < 73) (hy : y < 73) :
    Tab (w.setCell ⟨b, 5329 * n + 73 * x + y, none⟩ (.bool true)) b N (fun n' x' y' => if n' = n ∧ x' = x ∧ y' = y then true else T n' x' y') := by
  obtain ⟨cur, h1, h2, h3⟩ := h
  refine ⟨cur.setIfInBounds (5329 * n + 73 * x + y) (.bool true), ?_, by simpa using h2, fun n' x' y' hn' hx' hy' => ?_⟩
  · have hlt := lt_of_block h1
    show (w.heap.modify b _)[b]? = _
    rw [Array.getElem?_eq_getElem (by rw [Array.size_modify]; exact hlt), Array.getElem_modify_self]
    rw [Array.getElem?_eq_getElem hlt] at h1
    injection h1 with h1
    rw [h1]
    rfl
  · by_cases he : n' = n ∧ x' = x ∧ y' = y
    · obtain ⟨rfl, rfl, rfl⟩ := he
      have := h3 n' x' y' hn' hx' hy'
      have hb := (Array.getElem?_eq_some_iff.1 this).1
      simp [hb]
    · show _ = some (Value.bool (if n' = n ∧ x' = x ∧ y' = y then true else T n' x' y'))
      rw [if_neg he, Array.getElem?_setIfInBounds_ne (by omega)]
      exact h3 n' x' y' hn' hx' hy'
/-- The cell of a place of a table. -/
def plc (x y : Nat) : C2 := ((x : Int) - 36, (y : Int) - 36)
/-- What the tables hold while table n + 1 is made: D says what was gone through. -/
structure Ins (links : List C2) (N n : Nat) (D : C2 → C2 → Prop) (T : Nat → Nat → Nat → Bool) : Prop where
  old : ∀ k, k ≤ n → ∀ x y, x < 73 → y < 73 → (T k x y = true ↔ Sums links k (plc x y))
  now : ∀ x y, x < 73 → y < 73 → (T (n + 1) x y = true ↔ ∃ b l, D b l ∧ l ∈ links ∧ Sums links n b ∧ plc x y = add2 b l)
  new : ∀ k, n + 1 < k → k < N → ∀ x y, x < 73 → y < 73 → T k x y = false
/-- What they hold between. -/
structure Inb (links : List C2) (N n : Nat) (T : Nat → Nat → Nat → Bool) : Prop where
  old : ∀ k, k ≤ n → ∀ x y, x < 73 → y < 73 → (T k x y = true ↔ Sums links k (plc x y))
  new : ∀ k, n < k → k < N → ∀ x y, x < 73 → y < 73 → T k x y = false
theorem Ins.congr {links : List C2} {N n : Nat} {D D' : C2 → C2 → Prop} {T : Nat → Nat → Nat → Bool} (h : Ins links N n D T) (hd : ∀ b l, Sums links n b → l ∈ links → (D b l ↔ D' b l)) : Ins links N n D' T :=
  ⟨h.old, fun x y hx hy => (h.now x y hx hy).trans ⟨fun ⟨b, l, h1, h2, h3, h4⟩ => ⟨b, l, (hd b l h3 h2).1 h1, h2, h3, h4⟩, fun ⟨b, l, h1, h2, h3, h4⟩ => ⟨b, l, (hd b l h3 h2).2 h1, h2, h3, h4⟩⟩, h.new⟩
theorem Inb.start {links : List C2} {N : Nat} {T : Nat → Nat → Nat → Bool} (h0 : ∀ k x y, k < N → x < 73 → y < 73 → T k x y = decide (k = 0 ∧ x = 36 ∧ y = 36)) (hN : 0 < N) : Inb links N 0 T := by
  refine ⟨fun k hk x y hx hy => ?_, fun k hk hk2 x y hx hy => ?_⟩
  · obtain rfl : k = 0 := by omega
    rw [h0 0 x y hN hx hy, decide_eq_true_eq, Sums, plc, Prod.mk.injEq]
    omega
  · rw [h0 k x y hk2 hx hy, decide_eq_false_iff_not]; omega
theorem Inb.open {links : List C2} {N n : Nat} {T : Nat → Nat → Nat → Bool} (h : Inb links N n T) (hn : n + 1 < N) {D : C2 → C2 → Prop} (hd : ∀ b l, Sums links n b → ¬ D b l) : Ins links N n D T :=
  ⟨h.old, fun x y hx hy => by
    rw [h.new (n + 1) (by omega) hn x y hx hy]
    exact ⟨(fun h => by cases h), fun ⟨b, l, h1, _, h3, _⟩ => absurd h1 (hd b l h3)⟩, fun k hk hk2 => h.new k (by omega) hk2⟩
theorem Ins.shut {links : List C2} {N n : Nat} {D : C2 → C2 → Prop} {T : Nat → Nat → Nat → Bool} (h : Ins links N n D T) (hd : ∀ b l, Sums links n b → D b l) : Inb links N (n + 1) T := by
  refine ⟨fun k hk x y hx hy => ?_, fun k hk hk2 => h.new k hk hk2⟩
  rcases Nat.lt_or_ge n k with h1 | h1
  · obtain rfl : k = n + 1 := by omega
    rw [h.now x y hx hy, Sums]
    exact ⟨fun ⟨b, l, _, h2, h3, h4⟩ => ⟨b, h3, l, h2, h4⟩, fun ⟨b, h3, l, h2, h4⟩ => ⟨b, l, hd b l h3, h2, h3, h4⟩⟩
  · exact h.old k h1 x y hx hy
/-- One mark is made. -/
theorem Ins.mark {links : List C2} {N n : Nat} {D D' : C2 → C2 → Prop} {T : Nat → Nat → Nat → Bool} (h : Ins links N n D T) {b0 l0 : C2} (hb0 : Sums links n b0) (hl0 : l0 ∈ links) {x0 y0 : Nat} (hp : plc x0 y0 = add2 b0 l0)
    (hd : ∀ b l, D' b l ↔ D b l ∨ (b = b0 ∧ l = l0)) : Ins links N n D' (fun n' x' y' => if n' = n + 1 ∧ x' = x0 ∧ y' = y0 then true else T n' x' y') := by
  refine ⟨fun k hk x y hx hy => ?_, fun x y hx hy => ?_, fun k hk hk2 x y hx hy => ?_⟩
  · rw [if_neg (by omega)]; exact h.old k hk x y hx hy
  · by_cases he : x = x0 ∧ y = y0
    · obtain ⟨rfl, rfl⟩ := he
      simp only [and_self, if_true]
      exact ⟨fun _ => ⟨b0, l0, (hd b0 l0).2 (.inr ⟨rfl, rfl⟩), hl0, hb0, hp⟩, fun _ => trivial⟩
    · rw [if_neg (by omega), h.now x y hx hy]
      constructor
      · rintro ⟨b, l, h1, h2, h3, h4⟩
        exact ⟨b, l, (hd b l).2 (.inl h1), h2, h3, h4⟩
      · rintro ⟨b, l, h1, h2, h3, h4⟩
        rcases (hd b l).1 h1 with h5 | ⟨rfl, rfl⟩
        · exact ⟨b, l, h5, h2, h3, h4⟩
        · rw [← hp] at h4
          simp only [plc, Prod.mk.injEq] at h4
          omega
  · rw [if_neg (by omega)]; exact h.new k hk hk2 x y hx hy
end Go.Proofs.Ytjceppinjeehiaa
