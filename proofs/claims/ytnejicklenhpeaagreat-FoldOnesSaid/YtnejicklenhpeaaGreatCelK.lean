/- Rows of rows: a slice whose elements are slices. The moves of all arguments: the program's Moves: its walk. Conditions: none. -/
import Derived.Test.YtnejicklenhpeaaGreatKitA
import Derived.Test.YtnejicklenhpeaaGreatCelI
namespace Go.Proofs.YtnejicklenhpeaaGreat
open Go.RowKit
def encW (v : Value) : List Value := [v]
theorem Sl.grown {w w' : World} {B sz n : Nat} {v : Value} {xs : List Value} {row : Option Nat} (h : Sl w B sz v n xs) (hB : B ≤ w.heap.size) (hg : w.grownBy w' row) (hne : ∀ g, v.ownBlock = some g → row ≠ some g) : Sl w' B sz v n xs := by
  obtain ⟨a, cap, rfl, hl, hc, hm, h0, hr⟩ := h
  refine ⟨a, cap, rfl, hl, hc, hm, h0, hr.imp id ?_⟩
  rintro ⟨b, off, rfl, hlt, hx⟩
  refine ⟨b, off, rfl, hlt, fun i hi => ?_⟩
  rw [← hx i hi]
  exact World.cell?_of_block (a := ⟨b, off + i, none⟩) (hg.block b (by omega) (fun e => hne b rfl e.symm))
/-- The slices vs read the rows ll; none of them lies in the block out. -/
structure RowsOf {α : Type} (w : World) (sz : Nat) (enc : α → List Value) (out : Option Nat) (vs : List Value) (ll : List (List α)) : Prop where
  len : vs.length = ll.length
  row : ∀ (i : Nat) (v : Value) (l : List α), vs[i]? = some v → ll[i]? = some l → SlOf w w.heap.size sz enc v l
  apart : ∀ v ∈ vs, ∀ g, v.ownBlock = some g → g < w.heap.size ∧ out ≠ some g
section
variable {α : Type} {w w' : World} {sz : Nat} {enc : α → List Value} {out : Option Nat} {vs : List Value} {ll : List (List α)}
theorem RowsOf.nil (w : World) (sz : Nat) (enc : α → List Value) (out : Option Nat) : RowsOf w sz enc out [] ([] : List (List α)) :=
  ⟨rfl, fun i v l h => by simp at h, fun v h => by simp at h⟩
theorem RowsOf.kept (h : RowsOf w sz enc out vs ll) (hb : Below w.heap.size w w') : RowsOf w' sz enc out vs ll :=
  ⟨h.len, fun i v l h1 h2 => (h.row i v l h1 h2).below hb, fun v hv g hg => ⟨Nat.lt_of_lt_of_le (h.apart v hv g hg).1 hb.size, (h.apart v hv g hg).2⟩⟩
theorem RowsOf.push (h : RowsOf w sz enc out vs ll) {v : Value} {l : List α} (hv : SlOf w w.heap.size sz enc v l) (ha : ∀ g, v.ownBlock = some g → g < w.heap.size ∧ out ≠ some g) (hg : w.grownBy w' out) {g5 : Nat} (hat : out = some g5 ∨ w.heap.size ≤ g5) : RowsOf w' sz enc (some g5) (vs ++ [v]) (ll ++ [l]) := by
  refine ⟨by simp [h.len], fun i x m h1 h2 => ?_, fun x hx g hxg => ?_⟩
  · rcases Nat.lt_or_ge i vs.length with hi | hi
    · rw [List.getElem?_append_left hi] at h1
      rw [List.getElem?_append_left (by rw [← h.len]; exact hi)] at h2
      have hmem : x ∈ vs := List.mem_of_getElem? h1
      exact SlOf.mono (Sl.grown (h.row i x m h1 h2) (Nat.le_refl _) hg (fun g e => (h.apart x hmem g e).2)) hg.size
    · rw [List.getElem?_append_right hi] at h1
      rw [List.getElem?_append_right (by rw [← h.len]; exact hi)] at h2
      have hi0 : i - vs.length = 0 := by
        have := (List.getElem?_eq_some_iff.1 h1).1
        simp at this; omega
      rw [hi0] at h1
      rw [← h.len, hi0] at h2
      simp at h1 h2
      subst h1 h2
      exact SlOf.mono (Sl.grown hv (Nat.le_refl _) hg (fun g e => (ha g e).2)) hg.size
  · have hlt : g < w.heap.size ∧ out ≠ some g := by
      rcases List.mem_append.1 hx with hx | hx
      · exact h.apart x hx g hxg
      · simp at hx; subst hx; exact ha g hxg
    refine ⟨Nat.lt_of_lt_of_le hlt.1 hg.size, fun e => ?_⟩
    cases e
    rcases hat with e | e
    · exact hlt.2 e
    · have := hlt.1; omega
end
/-- The slice v reads the rows ll. -/
def RowsSl {α : Type} (w : World) (sz : Nat) (enc : α → List Value) (v : Value) (ll : List (List α)) : Prop :=
  ∃ vs : List Value, SlOf w w.heap.size 1 encW v vs ∧ vs.length = ll.length ∧ ∀ (i : Nat) (x : Value) (l : List α), vs[i]? = some x → ll[i]? = some l → SlOf w w.heap.size sz enc x l
theorem RowsSl.nil {α : Type} (w : World) (sz : Nat) (enc : α → List Value) : RowsSl w sz enc (.slice none 0 0) ([] : List (List α)) :=
  ⟨[], Sl.nil _ _ _, rfl, fun i v l h => by simp at h⟩
theorem RowsSl.below {α : Type} {w w' : World} {sz : Nat} {enc : α → List Value} {v : Value} {ll : List (List α)} (h : RowsSl w sz enc v ll) (hb : Below w.heap.size w w') : RowsSl w' sz enc v ll := by
  obtain ⟨vs, h1, h2, h3⟩ := h
  exact ⟨vs, h1.below hb, h2, fun i x l a b => (h3 i x l a b).below hb⟩
theorem RowsSl.shape {α : Type} {w : World} {sz : Nat} {enc : α → List Value} {v : Value} {ll : List (List α)} (h : RowsSl w sz enc v ll) : ∃ a c, v = .slice a ll.length c := by
  obtain ⟨vs, ⟨a, c, h1, -⟩, h2, -⟩ := h
  exact ⟨a, c, by rw [h1, h2]⟩
theorem RowsSl.at {α : Type} {P : Program} {t : TypeId} {sz : Nat} {enc : α → List Value} {w : World} {v : Value} {ll : List (List α)} (hu : P.underlying t = some (.slice (P.elem t))) (hsz : ∀ W, (sizeOf (P.elem t)).run P W = .ok 1 W) (h : RowsSl w sz enc v ll) :
    ∃ a cap g off, v = .slice a ll.length cap ∧ ll.length ≤ cap ∧ cap ≤ maxLen ∧ ∀ i (hi : i < ll.length), (∀ W, (Instr.indexAt t (.slice a ll.length cap) (.int .i64 (i : Int))).run P W = .ok (.pointer (some ⟨g, off + i, none⟩)) W) ∧ g < w.heap.size ∧ ∃ x, w.cell? ⟨g, off + i, none⟩ = some x ∧ SlOf w w.heap.size sz enc x ll[i] := by
  obtain ⟨vs, h1, h2, h3⟩ := h
  obtain ⟨a, cap, g, off, rfl, hlc, hcm, hx⟩ := SlOf.at (enc := encW) (fun _ => rfl) hu hsz h1
  refine ⟨a, cap, g, off, by rw [h2], by omega, hcm, fun i hi => ?_⟩
  have hv : i < vs.length := by rw [h2]; exact hi
  obtain ⟨-, hi1, hg, hc⟩ := hx i hv
  refine ⟨fun W => by rw [← h2]; simpa using hi1 W, hg, vs[i], ?_, h3 i _ _ (List.getElem?_eq_getElem _) (List.getElem?_eq_getElem hi)⟩
  have := hc 0 (Nat.lt_succ_self 0)
  simpa [encW] using this
end Go.Proofs.YtnejicklenhpeaaGreat
namespace Go.Proofs.YtnejicklenhpeaaGreat
open Go.RowKit Go.Lib
set_option linter.unusedVariables false
theorem cell_small {n : Int} {u p : P3} (hd : dirB n u = true) (h : Sm 20 p) : (-80 ≤ (cellC n u p).1 ∧ (cellC n u p).1 ≤ 80) ∧ (-80 ≤ (cellC n u p).2 ∧ (cellC n u p).2 ≤ 80) := by
  obtain ⟨p0, p1, p2⟩ := p
  obtain ⟨u0, u1, u2⟩ := u
  obtain ⟨hn, hf, hk⟩ := validB_out hd
  have hu := flat_out hf
  obtain ⟨h0, h1, h2⟩ := h
  simp only at h0 h1 h2 hu
  have ho := findK_one (n := n) (x0 := u0) (x1 := u1) (x2 := u2)
  have key : ∀ {pi pk uk ui : Int}, (-20 ≤ pi ∧ pi ≤ 20) → (-20 ≤ pk ∧ pk ≤ 20) → (uk = 1 ∨ uk = -1) → (-3 ≤ ui ∧ ui ≤ 3) → -80 ≤ cw pi pk uk ui ∧ cw pi pk uk ui ≤ 80 := by
    intro pi pk uk ui a b c d
    rw [cw_eq (by omega) (by omega) c d]
    rcases c with rfl | rfl
    · have := mul_bd (a := pk) (b := ui) (A := 20) (B := 3) b d
      rw [Int.mul_one]; omega
    · have := mul_bd (a := pk) (b := ui) (A := 20) (B := 3) b d
      rw [show pk * -1 * ui = -(pk * ui) by rw [Int.mul_neg, Int.mul_one, Int.neg_mul]]; omega
  have hdir := dir_cases hd
  unfold axK at hdir
  simp only at hdir
  unfold cellC axK
  simp only
  constructor
  · unfold cA
    split
    · omega
    · split
      · exact key h1 h0 (ho.1 (by assumption)) hu.2.1
      · split
        · exact key h0 h1 (ho.2.1 (by assumption)) hu.1
        · refine key h0 h2 (ho.2.2 ?_) hu.1
          have := findK_nonneg n u0 u1 u2
          omega
  · unfold cB
    split
    · omega
    · split
      · exact key h2 h0 (ho.1 (by assumption)) hu.2.2
      · split
        · exact key h2 h1 (ho.2.1 (by assumption)) hu.2.2
        · refine key h1 h2 (ho.2.2 ?_) hu.2.1
          have := findK_nonneg n u0 u1 u2
          omega
/-- The move of an argument. -/
def moveC (n : Int) (u : P3) (a : ArgD) : Int × Int := (-(cellC n u a.at_).1, -(cellC n u a.at_).2)
def movesL (r : RecD) (u : P3) : List (List (Int × Int)) := r.vars.map fun v => v.args.map (moveC r.n u)
def MovesR (r : RecD) (u : P3) (e : Ending) (w' : World) : Prop := ∃ v, e = .returned (.tuple #[v, .int .i64 (askE r u)]) ∧ RowsSl w' 2 encC v (if askE r u = 0 then movesL r u else [])
theorem movesR_err {r : RecD} {u : P3} {k : Int} (h : askE r u = k) (hk : k ≠ 0) (w' : World) : MovesR r u (.returned (.tuple #[.slice none 0 0, .int .i64 k])) w' := by
  unfold MovesR
  rw [h, if_neg hk]
  exact ⟨_, rfl, RowsSl.nil _ _ _⟩
theorem movesR_ok {r : RecD} {u : P3} (h : askE r u = 0) {w' : World} {v : Value} (hs : RowsSl w' 2 encC v (movesL r u)) : MovesR r u (.returned (.tuple #[v, .int .i64 0])) w' := by
  unfold MovesR
  rw [h, if_pos rfl]
  exact ⟨_, rfl, hs⟩
theorem arg_flat {r : RecD} (h : validR r.n r.l r.vars = true) {v : VarD} (hv : v ∈ r.vars) {a : ArgD} (ha : a ∈ v.args) : flatB r.n a.at_.1 a.at_.2.1 a.at_.2.2 3 = true ∧ 0 ≤ a.var ∧ a.var < r.vars.length := by
  have h1 := List.all_eq_true.1 (validR_out h).2.2.2 v hv
  simp only [varB, Bool.and_eq_true] at h1
  have h2 := List.all_eq_true.1 h1.2.2.2.2 a ha
  simp only [argB, Bool.and_eq_true] at h2
  have := btw_out h2.2
  exact ⟨h2.1, this.1, by omega⟩
theorem arg_cell {r : RecD} {u : P3} (h : validR r.n r.l r.vars = true) (hd : dirB r.n u = true) {v : VarD} (hv : v ∈ r.vars) {a : ArgD} (ha : a ∈ v.args) : (-80 ≤ (cellC r.n u a.at_).1 ∧ (cellC r.n u a.at_).1 ≤ 80) ∧ (-80 ≤ (cellC r.n u a.at_).2 ∧ (cellC r.n u a.at_).2 ≤ 80) := by
  obtain ⟨a0, a1, a2⟩ := flat_sm (arg_flat h hv ha).1
  simp only at a0 a1 a2
  exact cell_small hd ⟨by omega, by omega, by omega⟩
theorem arg_len {r : RecD} (h : validR r.n r.l r.vars = true) {v : VarD} (hv : v ∈ r.vars) : v.args.length ≤ 3 := by
  have h1 := List.all_eq_true.1 (validR_out h).2.2.2 v hv
  simp only [varB, Bool.and_eq_true, decide_eq_true_eq] at h1
  have h2 := h1.2.2.1
  unfold needsI at h2
  (repeat' split at h2) <;> omega
end Go.Proofs.YtnejicklenhpeaaGreat
