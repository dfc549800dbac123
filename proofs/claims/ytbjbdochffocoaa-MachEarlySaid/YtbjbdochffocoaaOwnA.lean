/- Programs in memory of their own: what is known of one, how a store turns it; slices.Clone, copied, Copied. -/
import Derived.Test.YtbjbdochffocoaaRunD
namespace Go.Proofs.Ytbjbdochffocoaa
open Go.RowKit Go.Lib
set_option linter.unusedVariables false
theorem slOps : SlT Try.prog 22 37 (.agg #[.int .i64 0, .int .i64 0, .int .i64 0, .int .i64 0, .int .i64 0, .slice none 0 0]) 6 64 := ⟨Try.underlying22, by kernel_rfl, rfl, by decide⟩
theorem slSrc : SlT Try.prog 35 52 (.agg #[.int .i64 0, .int .i64 0, .int .i64 0]) 3 24 := ⟨Try.underlying35, by kernel_rfl, rfl, by decide⟩
/-- The row of operations q in block g. -/
def OpsOwn (w : World) (B : Nat) (v : Value) (q : List OpD) : Prop := OwnOf w B 37 6 encOp v q
def SrcOwn (w : World) (B : Nat) (o : OpD) : Prop := OwnOf w B 52 3 encSr o.fv o.src
/-- The first k operations of q have their sources in memory of their own, apart from block g and from each other. -/
structure RowsO (w : World) (B g : Nat) (q : List OpD) (k : Nat) : Prop where
  own : ∀ i (h : i < q.length), i < k → SrcOwn w B q[i] ∧ ∃ b, q[i].fv.ownBlock = some b ∧ b ≠ g
  sep : ∀ i j (hi : i < q.length) (hj : j < q.length), i < k → j < k → i ≠ j → q[i].fv.ownBlock ≠ q[j].fv.ownBlock
theorem OwnOf.other {α : Type} {enc : α → List Value} {base sz : Nat} {w : World} {e : TypeId} {v : Value} {l : List α} (h : OwnOf w base e sz enc v l) {g : Nat} (hg : v.ownBlock ≠ some g) (o : Nat) (x : Value) : OwnOf (w.setCell ⟨g, o, none⟩ x) base e sz enc v l := by
  refine ⟨h.1, h.2.imp id ?_⟩
  rintro ⟨b, cap, cur, rfl, hbg, hb, r⟩
  have hne : b ≠ g := fun e => hg (by rw [e]; rfl)
  exact ⟨b, cap, cur, rfl, hbg, (Below.heap_setCell _ _ _ _ (fun e => hne e)).trans hb, r⟩
theorem RowsO.kept {w w' : World} {B g k : Nat} {q : List OpD} (h : RowsO w B g q k) (hb : Below w.heap.size w w') : RowsO w' B g q k :=
  ⟨fun i hi hk => ⟨(h.own i hi hk).1.kept hb, (h.own i hi hk).2⟩, h.sep⟩
theorem RowsO.store {w : World} {B g k : Nat} {q : List OpD} (h : RowsO w B g q k) (o : Nat) (x : Value) : RowsO (w.setCell ⟨g, o, none⟩ x) B g q k :=
  ⟨fun i hi hk => ⟨OwnOf.other (h.own i hi hk).1 (by obtain ⟨b, e, hne⟩ := (h.own i hi hk).2; rw [e]; intro e2; exact hne (Option.some.inj e2)) _ _, (h.own i hi hk).2⟩, h.sep⟩
theorem RowsO.same {w : World} {B g k : Nat} {q r : List OpD} (h : RowsO w B g q k) (hl : r.length = q.length) (hs : ∀ i (h1 : i < r.length) (h2 : i < q.length), i < k → r[i].fv = q[i].fv ∧ r[i].src = q[i].src) : RowsO w B g r k :=
  ⟨fun i hi hk => by
    obtain ⟨e1, e2⟩ := hs i hi (by omega) hk
    unfold SrcOwn
    rw [e1, e2]; exact h.own i (by omega) hk, fun i j hi hj h1 h2 h3 => by
    rw [(hs i hi (by omega) h1).1, (hs j hj (by omega) h2).1]; exact h.sep i j (by omega) (by omega) h1 h2 h3⟩
theorem RowsO.step {w : World} {B g k lo : Nat} {q : List OpD} (h : RowsO w B g q k) (hk : k < q.length) (hown : OwnOf w lo 52 3 encSr q[k].fv q[k].src) (hB : B ≤ lo) (hg : g < lo) (hne : q[k].src ≠ []) (hlo : ∀ i (hi : i < q.length), i < k → ∀ b, q[i].fv.ownBlock = some b → b < lo) : RowsO w B g q (k + 1) := by
  have hb : ∃ b, q[k].fv.ownBlock = some b ∧ lo ≤ b := by
    obtain ⟨-, ⟨e1, e2⟩ | ⟨b, cap, cur, e, hb, -⟩⟩ := id hown
    · exact absurd (List.eq_nil_of_length_eq_zero e2) hne
    · exact ⟨b, by rw [e]; rfl, hb⟩
  obtain ⟨b, e, hlb⟩ := hb
  refine ⟨fun i hi hik => ?_, fun i j hi hj h1 h2 hij => ?_⟩
  · by_cases hkk : i = k
    · subst hkk; exact ⟨OwnOf.mono hown hB, b, e, by omega⟩
    · exact h.own i hi (by omega)
  · by_cases e1 : i = k
    · subst e1
      obtain ⟨c, e2, -⟩ := (h.own j hj (by omega)).2
      rw [e, e2]
      have := hlo j hj (by omega) c e2
      intro e3; have := Option.some.inj e3; omega
    · by_cases e2 : j = k
      · subst e2
        obtain ⟨c, e3, -⟩ := (h.own i hi (by omega)).2
        rw [e, e3]
        have := hlo i hi (by omega) c e3
        intro e4; have := Option.some.inj e4; omega
      · exact h.sep i j hi hj (by omega) (by omega) hij
theorem RowsO.zero (w : World) (B g : Nat) (q : List OpD) : RowsO w B g q 0 := ⟨fun i hi hk => by omega, fun i j hi hj h1 => by omega⟩
theorem RowsO.lo {w : World} {B g k : Nat} {q : List OpD} (h : RowsO w B g q k) : ∀ i (hi : i < q.length), i < k → ∀ b, q[i].fv.ownBlock = some b → b < w.heap.size := fun i hi hk b e => (OwnOf.lt (h.own i hi hk).1 b e).2
/-- A program all of whose memory is its own, from block B on. -/
def ProgOwn (w : World) (B : Nat) (v : Value) (q : List OpD) : Prop := OpsOwn w B v q ∧ ∀ g, v.ownBlock = some g → RowsO w B g q q.length
theorem ProgOwn.nil (w : World) (B : Nat) : ProgOwn w B (.slice none 0 0) [] := ⟨OwnOf.nil _ _ _ _ _, fun g e => by simp [Value.ownBlock] at e⟩
theorem ProgOwn.kept {w w' : World} {B : Nat} {v : Value} {q : List OpD} (h : ProgOwn w B v q) (hb : Below w.heap.size w w') : ProgOwn w' B v q := ⟨OwnOf.kept h.1 hb, fun g e => (h.2 g e).kept hb⟩
theorem ProgOwn.rd {w : World} {B : Nat} {v : Value} {q : List OpD} (h : ProgOwn w B v q) : ProgRd w v q := by
  refine ⟨OwnOf.sl h.1, fun o ho => ?_⟩
  obtain ⟨i, hi, rfl⟩ := List.getElem_of_mem ho
  obtain ⟨-, ⟨e1, e2⟩ | ⟨b, cap, cur, e, hb, -⟩⟩ := id h.1
  · omega
  · exact OwnOf.sl ((h.2 b (by rw [e]; rfl)).own i hi hi).1
theorem ProgOwn.mono {w : World} {B B' : Nat} {v : Value} {q : List OpD} (h : ProgOwn w B v q) (hB : B' ≤ B) : ProgOwn w B' v q :=
  ⟨OwnOf.mono h.1 hB, fun g e => ⟨fun i hi hk => ⟨OwnOf.mono ((h.2 g e).own i hi hk).1 hB, ((h.2 g e).own i hi hk).2⟩, (h.2 g e).sep⟩⟩
/-- The cells of an operation of a row of one's own. -/
theorem ops_own_at {w : World} {B g n cap : Nat} {q : List OpD} (h : OpsOwn w B (.slice (some ⟨g, 0, none⟩) n cap) q) (hn : q.length = n) (k : Nat) (hk : k < n) (o : OpD) (ho : q[k]? = some o) :
    (∀ W, (Instr.indexAt 22 (.slice (some ⟨g, 0, none⟩) n cap) (.int .i64 (k : Int))).run Try.prog W = .ok (.pointer (some ⟨g, 6 * k, none⟩)) W) ∧
    (w.cell? ⟨g, 6 * k, none⟩ = some (.int .i64 o.t) ∧ w.cell? ⟨g, 6 * k + 1, none⟩ = some (.int .i64 o.c.1) ∧ w.cell? ⟨g, 6 * k + 2, none⟩ = some (.int .i64 o.c.2) ∧ w.cell? ⟨g, 6 * k + 3, none⟩ = some (.int .i64 o.unit) ∧ w.cell? ⟨g, 6 * k + 4, none⟩ = some (.int .i64 o.kind) ∧ w.cell? ⟨g, 6 * k + 5, none⟩ = some o.fv) ∧ ∀ j, w.frozen? ⟨g, j, none⟩ = false := by
  subst hn
  obtain ⟨hkl, rfl⟩ := List.getElem?_eq_some_iff.1 ho
  have hc : ∀ j, j < 6 → w.cell? ⟨g, 6 * k + j, none⟩ = (encOp q[k])[j]? := fun j hj => by
    rw [World.ownsRow.cellAt h (6 * k + j) (by omega)]
    exact flat_at (enc := encOp) (fun _ => rfl) q k j hkl hj
  refine ⟨fun W => ?_, ⟨hc 0 (by omega), hc 1 (by omega), hc 2 (by omega), hc 3 (by omega), hc 4 (by omega), hc 5 (by omega)⟩, fun j => World.ownsRow.frozenAt h j⟩
  have := idx_of (P := Try.prog) un_ops sz_ops g 0 q.length cap k hkl W
  simpa using this
theorem flat_set {α : Type} {enc : α → List Value} {sz : Nat} (he : ∀ a, (enc a).length = sz) : ∀ (l : List α) (k j : Nat) (hk : k < l.length) (a : α) (x : Value), j < sz → enc a = (enc l[k]).set j x → (l.flatMap enc).set (sz * k + j) x = (l.set k a).flatMap enc
  | [], k, j, hk, a, x, hj, h => by simp at hk
  | y :: t, 0, j, hk, a, x, hj, h => by
    simp only [List.getElem_cons_zero] at h
    rw [List.set_cons_zero, List.flatMap_cons, List.flatMap_cons, h, Nat.mul_zero, Nat.zero_add, List.set_append_left _ _ (by rw [he]; exact hj)]
  | y :: t, k + 1, j, hk, a, x, hj, h => by
    have := flat_set he t k j (by simpa using hk) a x hj (by simpa using h)
    rw [List.set_cons_succ, List.flatMap_cons, List.flatMap_cons, ← this, List.set_append_right _ _ (by rw [he, Nat.mul_succ]; omega), he, show sz * (k + 1) + j - sz = sz * k + j by rw [Nat.mul_succ]; omega]
theorem OwnOf.put {α : Type} {enc : α → List Value} {base sz g n cap : Nat} {w : World} {e : TypeId} {l : List α} (he : ∀ a, (enc a).length = sz) (h : OwnOf w base e sz enc (.slice (some ⟨g, 0, none⟩) n cap) l) (hn : l.length = n) (k j : Nat) (hk : k < n) (hj : j < sz) (a : α) (x : Value) (ha : enc a = (enc (l[k]'(by omega))).set j x) :
    OwnOf (w.setCell ⟨g, sz * k + j, none⟩ x) base e sz enc (.slice (some ⟨g, 0, none⟩) n cap) (l.set k a) := by
  subst hn
  have h0 : w.ownsRow base e sz (.slice (some ⟨g, 0, none⟩) l.length cap) l.length (l.flatMap enc) := h
  have h1 := (h0.stored (sz * k + j) x).1
  rw [flat_set he l k j hk a x hj ha] at h1
  unfold OwnOf
  rw [List.length_set]
  exact h1
theorem oneCell_ops {w : World} {v : Value} {p : List OpD} (h : ProgRd w v p) : (p.flatMap encOp).all Value.oneCell' = true := by
  rw [List.all_eq_true]
  intro x hx
  obtain ⟨o, ho, hx⟩ := List.mem_flatMap.1 hx
  obtain ⟨a, c, hf, -⟩ := (h.each o ho).shape
  simp only [encOp, List.mem_cons, List.not_mem_nil, or_false] at hx
  rcases hx with rfl | rfl | rfl | rfl | rfl | rfl <;> (try rfl)
  rw [hf]; rfl
theorem oneCell_src (l : List SrcD) : (l.flatMap encSr).all Value.oneCell' = true := by
  rw [List.all_eq_true]
  intro x hx
  obtain ⟨o, ho, hx⟩ := List.mem_flatMap.1 hx
  simp only [encSr, List.mem_cons, List.not_mem_nil, or_false] at hx
  rcases hx with rfl | rfl | rfl <;> rfl
end Go.Proofs.Ytbjbdochffocoaa
