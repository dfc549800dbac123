/- Events in order: the reference's Arranged: its walk. -/
import Derived.Deep.CutRange
import Derived.Test.YtndfdgdahinkpaaEvJ
namespace Go.Proofs.Ytndfdgdahinkpaa
open Go.RowKit
theorem beforeB_iff (a b : EvD) : beforeB a b = true ↔ (a.t < b.t ∨ (a.t = b.t ∧ (a.c.1 < b.c.1 ∨ (a.c.1 = b.c.1 ∧ (a.c.2 < b.c.2 ∨ (a.c.2 = b.c.2 ∧ (a.e.1 < b.e.1 ∨ (a.e.1 = b.e.1 ∧ (a.e.2.1 < b.e.2.1 ∨ (a.e.2.1 = b.e.2.1 ∧ (a.e.2.2.1 < b.e.2.2.1 ∨ (a.e.2.2.1 = b.e.2.2.1 ∧ a.e.2.2.2 < b.e.2.2.2)))))))))))) := by
  obtain ⟨t, ⟨c0, c1⟩, ⟨v, x, y, z⟩⟩ := a
  obtain ⟨t', ⟨d0, d1⟩, ⟨v', x', y', z'⟩⟩ := b
  simp only [beforeB, lessC, ltE, Prod.mk.injEq]
  by_cases h1 : t = t'
  · by_cases h2 : c0 = d0
    · by_cases h3 : c1 = d1
      · by_cases h4 : v = v'
        · by_cases h5 : x = x'
          · by_cases h6 : y = y' <;> simp [h1, h2, h3, h4, h5, h6] <;> omega
          · simp [h1, h2, h3, h4, h5] <;> omega
        · simp [h1, h2, h3, h4] <;> omega
      · simp [h1, h2, h3] <;> omega
    · simp [h1, h2] <;> omega
  · simp [h1] <;> omega
def leB (a b : EvD) : Bool := !beforeB b a
theorem leB_total (a b : EvD) : (leB a b || leB b a) = true := by
  unfold leB
  cases h1 : beforeB b a
  · rfl
  · cases h2 : beforeB a b
    · rfl
    · exfalso
      rw [beforeB_iff] at h1 h2
      omega
theorem leB_trans (a b c : EvD) (h1 : leB a b = true) (h2 : leB b c = true) : leB a c = true := by
  unfold leB at *
  simp only [Bool.not_eq_true'] at *
  have e1 : ¬ (beforeB b a = true) := by rw [h1]; simp
  have e2 : ¬ (beforeB c b = true) := by rw [h2]; simp
  have e3 : ¬ (beforeB c a = true) := by
    rw [beforeB_iff] at *
    omega
  simpa using e3
theorem leB_anti (a b : EvD) (h1 : leB a b = true) (h2 : leB b a = true) : a = b := by
  unfold leB at *
  simp only [Bool.not_eq_true'] at *
  have e1 : ¬ (beforeB b a = true) := by rw [h1]; simp
  have e2 : ¬ (beforeB a b = true) := by rw [h2]; simp
  rw [beforeB_iff] at *
  obtain ⟨t, ⟨c0, c1⟩, ⟨v, x, y, z⟩⟩ := a
  obtain ⟨t', ⟨d0, d1⟩, ⟨v', x', y', z'⟩⟩ := b
  simp only at e1 e2
  simp only [EvD.mk.injEq, Prod.mk.injEq]
  omega
def SortedE (l : List EvD) : Prop := l.Pairwise (fun a b => leB a b = true)
def encE (x : EvD) : List Value := [.int .i64 x.t, .int .i64 x.c.1, .int .i64 x.c.2, .int .i64 x.e.1, .int .i64 x.e.2.1, .int .i64 x.e.2.2.1, .int .i64 x.e.2.2.2]
theorem sz_evs (W : World) : (sizeOf (Try.prog.elem 111)).run Try.prog W = .ok 7 W := by kernel_rfl
theorem un_evs : Try.prog.underlying 111 = some (.slice (Try.prog.elem 111)) := by kernel_rfl
theorem slEv : SlT Try.prog 111 54 (.agg #[.int .i64 0, .int .i64 0, .int .i64 0, .int .i64 0, .int .i64 0, .int .i64 0, .int .i64 0]) 7 56 := ⟨Try.underlying111, by kernel_rfl, rfl, by decide⟩
section
variable {α : Type} {P : Program} {t : TypeId} {sz : Nat} {enc : α → List Value} {w : World} {B : Nat} {v : Value} {l : List α}
theorem drop_flat (he : ∀ a, (enc a).length = sz) : ∀ (l : List α) (i : Nat), (l.drop i).flatMap enc = (l.flatMap enc).drop (i * sz)
  | [], i => by simp
  | a :: r, 0 => by simp
  | a :: r, i + 1 => by
    rw [List.drop_succ_cons, drop_flat he r i, List.flatMap_cons, Nat.succ_mul, Nat.add_comm (i * sz) sz, ← List.drop_drop]
    congr 1
    rw [List.drop_left' (he a)]
theorem take_flat7 (he : ∀ a, (enc a).length = sz) (l : List α) (i : Nat) (hi : i ≤ l.length) : (l.take i).flatMap enc = (l.flatMap enc).take (i * sz) := by
  have h1 : l.flatMap enc = (l.take i).flatMap enc ++ (l.drop i).flatMap enc := by rw [← List.flatMap_append, List.take_append_drop]
  rw [h1, List.take_left']
  rw [flat_len he, List.length_take, Nat.min_eq_left hi]
theorem SlOf.drop (he : ∀ a, (enc a).length = sz) (hu : P.underlying t = some (.slice (P.elem t))) (hsz : ∀ W, (sizeOf (P.elem t)).run P W = .ok sz W) (h : SlOf w B sz enc v l) (i : Nat) (hi : i ≤ l.length) :
    ∃ a' c', (∀ W, (Instr.slice t v (some (.int .i64 (i : Int))) none none).run P W = .ok (.slice a' (l.length - i) c') W) ∧ SlOf w B sz enc (.slice a' (l.length - i) c') (l.drop i) := by
  obtain ⟨a, cap, rfl, hl, hc, hm, h0, hr⟩ := h
  refine ⟨if cap = i then a else a.map (·.add (i * sz)), cap - i, fun W => ?_, ?_⟩
  · rw [run_slice_l (P := P) (w := W) t a l.length cap hu .i64 (i : Int) (by omega) (by omega), hsz]
    simp only [Result.andThen, sliced, Int.toNat_natCast]
  · refine ⟨_, cap - i, by rw [List.length_drop], ?_, by rw [List.length_drop]; omega, by omega, ?_, ?_⟩
    · rw [flat_len he]
    · intro hn
      split at hn
      · have := h0 hn; omega
      · have : a = none := by simpa using hn
        have := h0 this; omega
    · rw [List.length_drop]
      rcases hr with h1 | ⟨b, off, rfl, hlt, hx⟩
      · exact .inl (by omega)
      · by_cases hci : l.length - i = 0
        · exact .inl hci
        refine .inr ⟨b, off + i * sz, ?_, hlt, fun j hj => ?_⟩
        · rw [if_neg (by omega)]
          simp only [Option.map_some, Addr.add]
          split <;> simp_all
        · rw [drop_flat he, List.getElem?_drop, Nat.add_assoc]
          refine hx _ ?_
          rw [Nat.sub_mul] at hj
          have : i * sz ≤ l.length * sz := Nat.mul_le_mul_right sz hi
          omega
theorem SlOf.take (he : ∀ a, (enc a).length = sz) (hu : P.underlying t = some (.slice (P.elem t))) (hsz : ∀ W, (sizeOf (P.elem t)).run P W = .ok sz W) (h : SlOf w B sz enc v l) (i : Nat) (hi : i ≤ l.length) :
    ∃ a' c', (∀ W, (Instr.slice t v none (some (.int .i64 (i : Int))) none).run P W = .ok (.slice a' i c') W) ∧ SlOf w B sz enc (.slice a' i c') (l.take i) := by
  obtain ⟨a, cap, rfl, hl, hc, hm, h0, hr⟩ := h
  refine ⟨if cap = 0 then a else a.map (·.add (0 * sz)), cap, fun W => ?_, ?_⟩
  · rw [run_slice_h (P := P) (w := W) t a l.length cap hu .i64 (i : Int) (by omega) (by omega), hsz]
    simp only [Result.andThen, sliced, Int.toNat_natCast, Nat.sub_zero]
  · have hli : (l.take i).length = i := by rw [List.length_take]; omega
    refine ⟨_, cap, by rw [hli], ?_, by rw [hli]; omega, hm, ?_, ?_⟩
    · rw [flat_len he]
    · intro hn
      split at hn
      · exact h0 hn
      · have : a = none := by simpa using hn
        exact h0 this
    · rw [hli]
      rcases hr with h1 | ⟨b, off, rfl, hlt, hx⟩
      · exact .inl (by omega)
      · by_cases hci : i = 0
        · exact .inl hci
        refine .inr ⟨b, off, ?_, hlt, fun j hj => ?_⟩
        · rw [if_neg (by omega)]
          simp only [Option.map_some, Addr.add, Nat.zero_mul, Nat.add_zero]
          split <;> simp_all
        · rw [take_flat7 he l i hi, List.getElem?_take, if_pos hj]
          refine hx _ ?_
          have : i * sz ≤ l.length * sz := Nat.mul_le_mul_right sz hi
          omega
end
end Go.Proofs.Ytndfdgdahinkpaa
