/- The points of a box that satisfy inequalities, in order: plain laws. -/
import Derived.Test.YtndfdgdahinkpaaRecD
import Derived.Test.YtndfdgdahinkpaaKitH
namespace Go.Proofs.Ytndfdgdahinkpaa
def rngL (m : Int) : List Int := (List.range (2 * m.toNat + 1)).map fun (k : Nat) => (k : Int) - m
def rowL (P : P3 → Bool) (zs : List Int) (x y : Int) : List P3 := (zs.map fun z => (x, y, z)).filter P
def slabL (P : P3 → Bool) (ys zs : List Int) (x : Int) : List P3 := ys.flatMap (rowL P zs x)
def boxL (P : P3 → Bool) (xs ys zs : List Int) : List P3 := xs.flatMap (slabL P ys zs)
/-- All points of a domain, in order. -/
def ptsL (n : Int) (l : List IneqD) : List P3 := boxL (fun p => holdsB l p 1) (rngL (farI n 0)) (rngL (farI n 1)) (rngL (farI n 2))
theorem far_cases (n i : Int) : farI n i = 20 ∨ farI n i = 0 := by unfold farI; split <;> simp
theorem rngL_len (m : Int) : (rngL m).length = 2 * m.toNat + 1 := by simp [rngL]
theorem rngL_at (m : Int) (k : Nat) (h : k < (rngL m).length) : (rngL m)[k] = (k : Int) - m := by simp [rngL]
theorem rngL_mem {m x : Int} (hm : 0 ≤ m) : x ∈ rngL m ↔ -m ≤ x ∧ x ≤ m := by
  simp only [rngL, List.mem_map, List.mem_range]
  constructor
  · rintro ⟨k, hk, rfl⟩; omega
  · intro h; exact ⟨(x + m).toNat, by omega, by omega⟩
theorem take_flat {α β : Type} (f : α → List β) (xs : List α) (i : Nat) (h : i < xs.length) : (xs.take (i + 1)).flatMap f = (xs.take i).flatMap f ++ f xs[i] := by
  rw [List.take_succ_eq_append_getElem h, List.flatMap_append]; simp
theorem pre_flat {α β : Type} (f : α → List β) (xs : List α) (i : Nat) : (xs.take i).flatMap f <+: xs.flatMap f := by
  have h : xs.flatMap f = (xs.take i).flatMap f ++ (xs.drop i).flatMap f := by rw [← List.flatMap_append, List.take_append_drop]
  exact ⟨_, h.symm⟩
theorem row_take (P : P3 → Bool) (zs : List Int) (x y : Int) (k : Nat) (h : k < zs.length) : rowL P (zs.take (k + 1)) x y = rowL P (zs.take k) x y ++ (if P (x, y, zs[k]) = true then [(x, y, zs[k])] else []) := by
  unfold rowL
  rw [List.take_succ_eq_append_getElem h, List.map_append, List.filter_append]
  simp [List.filter_cons]
theorem row_pre (P : P3 → Bool) (zs : List Int) (x y : Int) (k : Nat) : rowL P (zs.take k) x y <+: rowL P zs x y := by
  have h : rowL P zs x y = rowL P (zs.take k) x y ++ rowL P (zs.drop k) x y := by unfold rowL; rw [← List.filter_append, ← List.map_append, List.take_append_drop]
  exact ⟨_, h.symm⟩
theorem box_pre (P : P3 → Bool) (xs ys zs : List Int) (i j k : Nat) (hi : i < xs.length) (hj : j < ys.length) :
    (xs.take i).flatMap (slabL P ys zs) ++ ((ys.take j).flatMap (rowL P zs xs[i]) ++ rowL P (zs.take k) xs[i] ys[j]) <+: boxL P xs ys zs := by
  have h1 : (ys.take j).flatMap (rowL P zs xs[i]) ++ rowL P (zs.take k) xs[i] ys[j] <+: slabL P ys zs xs[i] := by
    refine List.IsPrefix.trans ((List.prefix_append_right_inj _).2 (row_pre P zs xs[i] ys[j] k)) ?_
    rw [← take_flat (rowL P zs xs[i]) ys j hj]
    exact pre_flat _ _ _
  refine List.IsPrefix.trans ((List.prefix_append_right_inj _).2 h1) ?_
  rw [← take_flat (slabL P ys zs) xs i hi]
  exact pre_flat _ _ _
theorem row_len (P : P3 → Bool) (zs : List Int) (x y : Int) : (rowL P zs x y).length ≤ zs.length := by
  unfold rowL
  exact Nat.le_trans (List.length_filter_le _ _) (by simp)
theorem flat_le {α β : Type} (f : α → List β) (m : Nat) : ∀ (xs : List α), (∀ x ∈ xs, (f x).length ≤ m) → (xs.flatMap f).length ≤ xs.length * m
  | [], _ => by simp
  | x :: r, h => by
    rw [List.flatMap_cons, List.length_append, List.length_cons, Nat.succ_mul]
    have h1 := h x (by simp)
    have h2 := flat_le f m r (fun y hy => h y (by simp [hy]))
    omega
theorem box_len (P : P3 → Bool) (xs ys zs : List Int) (hx : xs.length ≤ 41) (hy : ys.length ≤ 41) (hz : zs.length ≤ 41) : (boxL P xs ys zs).length ≤ 68921 := by
  have h1 : ∀ x, (slabL P ys zs x).length ≤ 1681 := fun x => by
    have := flat_le (rowL P zs x) 41 ys (fun y _ => Nat.le_trans (row_len _ _ _ _) hz)
    unfold slabL
    omega
  have := flat_le (slabL P ys zs) 1681 xs (fun x _ => h1 x)
  unfold boxL
  omega
theorem rngL_le {n i : Int} : (rngL (farI n i)).length ≤ 41 := by
  rw [rngL_len]
  rcases far_cases n i with h | h <;> rw [h] <;> decide
theorem ptsL_len (n : Int) (l : List IneqD) : (ptsL n l).length ≤ 68921 := box_len _ _ _ _ rngL_le rngL_le rngL_le
theorem flat_box {n x y z : Int} (hn : 1 ≤ n ∧ n ≤ 3) (hx : x ∈ rngL (farI n 0)) (hy : y ∈ rngL (farI n 1)) (hz : z ∈ rngL (farI n 2)) : flatB n x y z 20 = true := by
  rw [rngL_mem (by unfold farI; split <;> omega)] at hx hy hz
  simp only [farI] at hx hy hz
  simp only [flatB, btw, Bool.and_eq_true, Bool.or_eq_true, decide_eq_true_eq]
  obtain ⟨h1, h2⟩ := hn
  split at hx <;> split at hy <;> split at hz <;> omega
theorem mem_ptsL {n : Int} {l : List IneqD} (hn : 1 ≤ n ∧ n ≤ 3) (p : P3) : p ∈ ptsL n l ↔ flatB n p.1 p.2.1 p.2.2 20 = true ∧ holdsB l p 1 = true := by
  obtain ⟨x, y, z⟩ := p
  simp only [ptsL, boxL, slabL, rowL, List.mem_flatMap, List.mem_filter, List.mem_map]
  constructor
  · rintro ⟨x', hx, y', hy, ⟨z', hz, e⟩, hP⟩
    simp only [Prod.mk.injEq] at e
    obtain ⟨rfl, rfl, rfl⟩ := e
    exact ⟨flat_box hn hx hy hz, hP⟩
  · rintro ⟨hf, hP⟩
    simp only [flatB, btw, Bool.and_eq_true, Bool.or_eq_true, decide_eq_true_eq] at hf
    refine ⟨x, ?_, y, ?_, ⟨z, ?_, rfl⟩, hP⟩
    all_goals
      rw [rngL_mem (by unfold farI; split <;> omega)]
      unfold farI
      split <;> omega
/-- A point comes ahead of another one. -/
def ltP (a b : P3) : Prop := a.1 < b.1 ∨ (a.1 = b.1 ∧ (a.2.1 < b.2.1 ∨ (a.2.1 = b.2.1 ∧ a.2.2 < b.2.2)))
theorem rngL_sorted (m : Int) : (rngL m).Pairwise (· < ·) := by
  unfold rngL
  rw [List.pairwise_map]
  exact List.pairwise_lt_range.imp (fun h => by omega)
theorem box_sorted (P : P3 → Bool) (xs ys zs : List Int) (hx : xs.Pairwise (· < ·)) (hy : ys.Pairwise (· < ·)) (hz : zs.Pairwise (· < ·)) : (boxL P xs ys zs).Pairwise ltP := by
  have mrow : ∀ x y p, p ∈ rowL P zs x y → p.1 = x ∧ p.2.1 = y := fun x y p hp => by
    simp only [rowL, List.mem_filter, List.mem_map] at hp
    obtain ⟨⟨z, _, rfl⟩, _⟩ := hp
    exact ⟨rfl, rfl⟩
  have mslab : ∀ x p, p ∈ slabL P ys zs x → p.1 = x := fun x p hp => by
    simp only [slabL, List.mem_flatMap] at hp
    obtain ⟨y, _, hp⟩ := hp
    exact (mrow x y p hp).1
  have h1 : ∀ x y, (rowL P zs x y).Pairwise ltP := fun x y => by
    unfold rowL
    refine List.Pairwise.filter _ ?_
    rw [List.pairwise_map]
    exact hz.imp (fun h => .inr ⟨rfl, .inr ⟨rfl, h⟩⟩)
  have h2 : ∀ x, (slabL P ys zs x).Pairwise ltP := fun x => by
    unfold slabL
    rw [List.pairwise_flatMap]
    exact ⟨fun y _ => h1 x y, hy.imp (fun {a b} h p hp q hq => by
      obtain ⟨e1, e2⟩ := mrow x a p hp
      obtain ⟨e3, e4⟩ := mrow x b q hq
      exact .inr ⟨by rw [e1, e3], .inl (by rw [e2, e4]; exact h)⟩)⟩
  unfold boxL
  rw [List.pairwise_flatMap]
  exact ⟨fun x _ => h2 x, hx.imp (fun {a b} h p hp q hq => by
    exact .inl (by rw [mslab a p hp, mslab b q hq]; exact h))⟩
theorem ptsL_sorted (n : Int) (l : List IneqD) : (ptsL n l).Pairwise ltP := box_sorted _ _ _ _ (rngL_sorted _) (rngL_sorted _) (rngL_sorted _)
theorem ltP_ne {a b : P3} (h : ltP a b) : a ≠ b := by
  rintro rfl
  unfold ltP at h
  omega
theorem ptsL_nodup (n : Int) (l : List IneqD) : (ptsL n l).Nodup := (ptsL_sorted n l).imp ltP_ne
end Go.Proofs.Ytndfdgdahinkpaa
