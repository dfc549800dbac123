/- Slices whose elements are told by data: how they read, and how they are opened as arguments. Conditions: none. -/
import Derived.Test.YtndfdgdahinkpaaKitC
import Derived.Test.YtndfdgdahinkpaaOpenB
import Derived.ChangeSlices
namespace Go.Proofs.Ytndfdgdahinkpaa
open Go.RowKit Go.ChangeShapes Go.WideShapes Go.ChangeAt
set_option linter.unusedVariables false
/-- In world w the slice v reads the elements l, each as enc says, below block B. -/
def SlOf {α : Type} (w : World) (B sz : Nat) (enc : α → List Value) (v : Value) (l : List α) : Prop := Sl w B sz v l.length (l.flatMap enc)
theorem SlOf.kept {α : Type} {w w' : World} {B sz : Nat} {enc : α → List Value} {v : Value} {l : List α} (h : SlOf w B sz enc v l) (hb : Below B w w') : SlOf w' B sz enc v l := Sl.kept h hb
theorem SlOf.mono {α : Type} {w : World} {B B' sz : Nat} {enc : α → List Value} {v : Value} {l : List α} (h : SlOf w B sz enc v l) (hB : B ≤ B') : SlOf w B' sz enc v l := Sl.mono h hB
theorem SlOf.below {α : Type} {w w' : World} {sz : Nat} {enc : α → List Value} {v : Value} {l : List α} (h : SlOf w w.heap.size sz enc v l) (hb : Below w.heap.size w w') : SlOf w' w'.heap.size sz enc v l := (h.kept hb).mono hb.size
theorem flat_len {α : Type} {enc : α → List Value} {sz : Nat} (he : ∀ a, (enc a).length = sz) : ∀ l : List α, (l.flatMap enc).length = l.length * sz
  | [] => by simp
  | a :: r => by rw [List.flatMap_cons, List.length_append, flat_len he r, he, List.length_cons, Nat.succ_mul, Nat.add_comm]
theorem flat_at {α : Type} {enc : α → List Value} {sz : Nat} (he : ∀ a, (enc a).length = sz) : ∀ (l : List α) (k j : Nat) (hk : k < l.length), j < sz → (l.flatMap enc)[sz * k + j]? = (enc l[k])[j]?
  | a :: r, 0, j, _, hj => by
    rw [List.flatMap_cons, Nat.mul_zero, Nat.zero_add, List.getElem?_append_left (by rw [he]; exact hj)]; rfl
  | a :: r, k + 1, j, hk, hj => by
    have h := flat_at he r k j (by simpa using hk) hj
    rw [List.flatMap_cons, List.getElem?_append_right (by rw [he, Nat.mul_add]; omega), he]
    rw [show sz * (k + 1) + j - sz = sz * k + j by rw [Nat.mul_add]; omega]
    exact h
theorem idx_of {P : Program} {t : TypeId} {size : Nat} (hu : P.underlying t = some (.slice (P.elem t))) (hsz : ∀ W, (sizeOf (P.elem t)).run P W = .ok size W) (g off n cap k : Nat) (hk : k < n) (W : World) :
    (Instr.indexAt t (.slice (some ⟨g, off, none⟩) n cap) (.int .i64 (k : Int))).run P W = .ok (.pointer (some ⟨g, off + size * k, none⟩)) W := by
  rw [run_indexAt_slice (P := P) (w := W) _ _ _ _ _ _ hu, if_pos (by omega), hsz]
  simp only [Result.andThen, Int.toNat_natCast, Addr.add, Nat.mul_comm]
  split <;> simp_all
/-- Indexing such a slice. -/
theorem SlOf.at {α : Type} {P : Program} {t : TypeId} {sz : Nat} {enc : α → List Value} (he : ∀ a, (enc a).length = sz) (hu : P.underlying t = some (.slice (P.elem t))) (hsz : ∀ W, (sizeOf (P.elem t)).run P W = .ok sz W) {w : World} {B : Nat} {v : Value} {l : List α} (h : SlOf w B sz enc v l) :
    ∃ a cap g off, v = .slice a l.length cap ∧ l.length ≤ cap ∧ cap ≤ maxLen ∧ ∀ k (hk : k < l.length), a = some ⟨g, off, none⟩ ∧ (∀ W, (Instr.indexAt t (.slice a l.length cap) (.int .i64 (k : Int))).run P W = .ok (.pointer (some ⟨g, off + sz * k, none⟩)) W) ∧ g < B ∧ ∀ j, j < sz → w.cell? ⟨g, off + sz * k + j, none⟩ = (enc l[k])[j]? := by
  obtain ⟨a, cap, rfl, hl, hc, hm, h0, h1 | ⟨g, off, rfl, hlt, hr⟩⟩ := h
  · exact ⟨a, cap, 0, 0, rfl, hc, hm, fun k hk => absurd hk (by omega)⟩
  · refine ⟨_, cap, g, off, rfl, hc, hm, fun k hk => ⟨rfl, fun W => idx_of hu hsz g off _ cap k hk W, hlt, fun j hj => ?_⟩⟩
    rw [Nat.add_assoc, ← flat_at he l k j hk hj]
    refine hr _ ?_
    have h1 : (k + 1) * sz ≤ l.length * sz := Nat.mul_le_mul_right sz hk
    rw [Nat.add_mul, Nat.one_mul, Nat.mul_comm k sz] at h1
    omega
theorem spot_none {w : World} {a : Addr} {v : Value} (h : w.cell? a = some v) : a.spot = none := by
  cases hs : a.spot with
  | none => rfl
  | some p =>
    simp only [World.cell?, hs, Option.isSome_some, if_true] at h
    split at h <;> simp at h
/-- Opening a slice, its elements opened each. -/
theorem open_slOf {α : Type} {P : Program} {w : World} {base : Nat} {H : Type} {enc' : TypeId × Value → H} {spare held : _} {t e : TypeId} {sz : Nat} {enc : α → List Value} {Good : α → Prop}
    (hu : P.underlying t = some (.slice e)) (hc : P.cellsOf e = sz) (hpos : 0 < sz) (he : ∀ a, (enc a).length = sz)
    (hel : ∀ m cs y, DataW.trod enc' P w base spare held m e cs = some y → ∃ a, cs = enc a ∧ Good a)
    {fuel : Nat} {v : Value} {x : DataW H × List MemPlace} (hf : DataW.trod enc' P w base spare held fuel t [v] = some x) : ∃ l : List α, SlOf w w.heap.size sz enc v l ∧ ∀ a ∈ l, Good a := by
  rcases DataW.trod_slice hu hf with ⟨hcs, _⟩ | ⟨a, len, cap, elems, rest, n, _, hcs, _, _, hl, hm, hlen, hel2, _⟩
  · obtain rfl : v = .slice none 0 0 := by simpa using hcs
    exact ⟨[], Sl.nil _ _ _, by simp⟩
  · obtain rfl : v = .slice (some a) len cap := by simpa using hcs
    have key : ∀ i, i < len → ∃ d : α, Good d ∧ ∀ j, j < sz → w.cell? ((a.add (i * sz)).add j) = (enc d)[j]? := by
      intro i hi
      have h1 := hel2 i hi
      rw [hc] at h1
      obtain ⟨y, hy⟩ : ∃ y, elems[i]? = some y := ⟨elems[i], by simp [hlen, hi]⟩
      rw [hy, Option.bind_eq_some_iff] at h1
      obtain ⟨cs, hcs, ht⟩ := h1
      obtain ⟨d, rfl, hg⟩ := hel _ _ _ ht
      obtain ⟨_, hl2, hcell⟩ := World.cells?_some hcs
      exact ⟨d, hg, fun j hj => hcell j (by omega)⟩
    by_cases h0 : len = 0
    · subst h0
      exact ⟨[], ⟨some a, cap, rfl, by simp, Nat.zero_le _, hm, by simp, .inl rfl⟩, by simp⟩
    · obtain ⟨d0, _, h00⟩ := key 0 (by omega)
      have hsp : a.spot = none := by
        have h1 := h00 0 hpos
        have e1 : (a.add (0 * sz)).add 0 = a := by simp [Addr.add]
        rw [e1, List.getElem?_eq_getElem (by rw [he]; exact hpos)] at h1
        exact spot_none h1
      obtain ⟨b, off, sp⟩ := a
      obtain rfl : sp = none := hsp
      have ead : ∀ j, (⟨b, off, none⟩ : Addr).add j = ⟨b, off + j, none⟩ := fun j => by simp only [Addr.add]; split <;> simp_all
      have ead2 : ∀ o j, (⟨b, o, none⟩ : Addr).add j = ⟨b, o + j, none⟩ := fun o j => by simp only [Addr.add]; split <;> simp_all
      have kk : ∀ i : Fin len, ∃ d : α, Good d ∧ ∀ j, j < sz → w.cell? ⟨b, off + i * sz + j, none⟩ = (enc d)[j]? := fun i => by
        obtain ⟨d, h1, h2⟩ := key i i.2
        exact ⟨d, h1, fun j hj => by have := h2 j hj; rwa [ead, ead2] at this⟩
      refine ⟨List.ofFn fun i : Fin len => (kk i).choose, ?_, fun d hd => ?_⟩
      · refine ⟨_, cap, by rw [List.length_ofFn], flat_len he _, by rw [List.length_ofFn]; exact hl, hm, by simp, .inr ⟨b, off, rfl, ?_, fun i hi => ?_⟩⟩
        · have h1 := (kk ⟨0, by omega⟩).choose_spec.2 0 hpos
          rw [List.getElem?_eq_getElem (by rw [he]; exact hpos)] at h1
          exact World.block_lt_of_cell? w _ h1
        · rw [List.length_ofFn] at hi
          have hq : i / sz < len := Nat.div_lt_of_lt_mul (by rw [Nat.mul_comm]; exact hi)
          have hr : i % sz < sz := Nat.mod_lt _ hpos
          have h1 := (kk ⟨i / sz, hq⟩).choose_spec.2 (i % sz) hr
          have e1 : i / sz * sz + i % sz = i := by rw [Nat.mul_comm]; exact Nat.div_add_mod i sz
          have h2 := flat_at he (List.ofFn fun i : Fin len => (kk i).choose) (i / sz) (i % sz) (by rw [List.length_ofFn]; exact hq) hr
          rw [show sz * (i / sz) + i % sz = i from Nat.div_add_mod i sz] at h2
          rw [h2, List.getElem_ofFn, ← h1, Nat.add_assoc, e1]
      · rw [List.mem_ofFn] at hd
        obtain ⟨i, rfl⟩ := hd
        exact (kk i).choose_spec.1
end Go.Proofs.Ytndfdgdahinkpaa
