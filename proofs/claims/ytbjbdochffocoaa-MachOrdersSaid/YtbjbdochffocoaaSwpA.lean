/- Programs with two operations exchanged, plainly, in memory of their own. -/
import Derived.Test.YtbjbdochffocoaaOwnI
namespace Go.Proofs.Ytbjbdochffocoaa
open Go.RowKit Go.Lib
set_option linter.unusedVariables false
/-- The exchange is done in the list, and in the sources of the operations before i, and of i before k. -/
structure ExTo (a b : Nat) (p q : List OpD) (i k : Nat) : Prop where
  len : q.length = p.length
  at_ : ∀ j (h : j < q.length) (h2 : exI a b j < p.length), q[j].t = p[exI a b j].t ∧ q[j].c = p[exI a b j].c ∧ q[j].unit = p[exI a b j].unit ∧ q[j].kind = p[exI a b j].kind ∧ ∀ m, q[j].src[m]? = (p[exI a b j].src[m]?).map (fun s => if j < i ∨ (j = i ∧ m < k) then exS a b s else s)
theorem ExTo.slen {a b : Nat} {p q : List OpD} {i k : Nat} (h : ExTo a b p q i k) {j : Nat} (hj : j < q.length) (h2 : exI a b j < p.length) : q[j].src.length = p[exI a b j].src.length := by
  have h3 := (h.at_ j hj h2).2.2.2.2
  have h4 := h3 q[j].src.length
  rw [List.getElem?_eq_none (Nat.le_refl _)] at h4
  have h5 := h3 p[exI a b j].src.length
  rw [List.getElem?_eq_none (l := p[exI a b j].src) (Nat.le_refl _), Option.map_none] at h5
  rw [List.getElem?_eq_none_iff] at h5
  have h6 := Option.map_eq_none_iff.1 h4.symm
  rw [List.getElem?_eq_none_iff] at h6
  omega
theorem ExTo.done {a b : Nat} {p q : List OpD} (h : ExTo a b p q p.length 0) (ha : a < p.length) (hb : b < p.length) : Exch a b p q := by
  refine ⟨h.len, ha, hb, fun i h1 h2 => ?_⟩
  obtain ⟨e1, e2, e3, e4, e5⟩ := h.at_ i h1 h2
  refine ⟨e1, e2, e3, e4, List.ext_getElem? (fun m => ?_)⟩
  rw [e5 m, List.getElem?_map]
  congr 1
  funext s
  rw [if_pos (.inl (by rw [← h.len]; exact h1))]
theorem ExTo.next {a b : Nat} {p q : List OpD} {i k : Nat} (h : ExTo a b p q i k) (hi : i < q.length) (h2 : exI a b i < p.length) (hk : k = q[i].src.length) : ExTo a b p q (i + 1) 0 := by
  refine ⟨h.len, fun j h1 h3 => ?_⟩
  obtain ⟨e1, e2, e3, e4, e5⟩ := h.at_ j h1 h3
  refine ⟨e1, e2, e3, e4, fun m => ?_⟩
  rw [e5 m]
  by_cases hm : m < p[exI a b j].src.length
  · rw [List.getElem?_eq_getElem hm, Option.map_some, Option.map_some]
    by_cases e : j = i
    · subst e
      rw [if_pos (.inr ⟨rfl, by have := h.slen h1 h3; omega⟩), if_pos (.inl (by omega))]
    · by_cases e2 : j < i
      · rw [if_pos (.inl e2), if_pos (.inl (by omega))]
      · rw [if_neg (by omega), if_neg (by omega)]
  · rw [List.getElem?_eq_none (by omega), Option.map_none, Option.map_none]
theorem ExTo.step {a b : Nat} {p q : List OpD} {i k : Nat} (h : ExTo a b p q i k) (hi : i < q.length) (hk : k < q[i].src.length) (s' : SrcD) (hs : s' = exS a b q[i].src[k]) : ExTo a b p (q.set i { q[i] with src := q[i].src.set k s' }) i (k + 1) := by
  refine ⟨by rw [List.length_set]; exact h.len, fun j h1 h3 => ?_⟩
  have h1' : j < q.length := by simpa using h1
  obtain ⟨e1, e2, e3, e4, e5⟩ := h.at_ j h1' h3
  by_cases e : i = j
  · subst e
    simp only [List.getElem_set_self]
    refine ⟨e1, e2, e3, e4, fun m => ?_⟩
    by_cases hm : k = m
    · subst hm
      have h5 := e5 k
      rw [List.getElem?_eq_getElem hk] at h5
      have hkp : k < p[exI a b i].src.length := by rw [← h.slen h1' h3]; exact hk
      rw [List.getElem?_eq_getElem hkp, Option.map_some, Option.some.injEq, if_neg (by omega)] at h5
      rw [List.getElem?_set_self hk, hs, h5, List.getElem?_eq_getElem hkp, Option.map_some, if_pos (by right; simp)]
    · rw [List.getElem?_set_ne hm, e5 m]
      congr 1
      funext s
      by_cases hmk : m < k
      · rw [if_pos (by right; simp; omega), if_pos (by right; simp; omega)]
      · rw [if_neg (by omega), if_neg (by omega)]
  · rw [List.getElem_set_ne e]
    refine ⟨e1, e2, e3, e4, fun m => ?_⟩
    rw [e5 m]
    congr 1
    funext s
    by_cases hji : j < i
    · rw [if_pos (.inl hji), if_pos (.inl hji)]
    · rw [if_neg (by omega), if_neg (by omega)]
theorem ExTo.skip {a b : Nat} {p q : List OpD} {i k : Nat} (h : ExTo a b p q i k) (hi : i < q.length) (hk : k < q[i].src.length) (hs : exS a b q[i].src[k] = q[i].src[k]) : ExTo a b p q i (k + 1) := by
  have := h.step hi hk q[i].src[k] hs.symm
  rwa [List.set_getElem_self, List.set_getElem_self] at this
/-- The list with two operations exchanged. -/
theorem ExTo.start {a b : Nat} {p q : List OpD} (h : SameP p q) (ha : a < q.length) (hb : b < q.length) : ExTo a b p ((q.set a q[b]).set b q[a]) 0 0 := by
  refine ⟨by simp; exact h.len, fun j h1 h2 => ?_⟩
  have hj : j < q.length := by simpa using h1
  have h3 : exI a b j < q.length := by rw [h.len]; exact h2
  have e : ((q.set a q[b]).set b q[a])[j] = q[exI a b j] := by
    unfold exI
    by_cases e1 : b = j
    · subst e1
      rw [List.getElem_set_self]
      by_cases e2 : b = a
      · subst e2; simp
      · simp [e2]
    · rw [List.getElem_set_ne e1]
      by_cases e2 : a = j
      · subst e2; rw [List.getElem_set_self]; simp
      · rw [List.getElem_set_ne e2]
        simp [show ¬ j = a from fun e => e2 e.symm, show ¬ j = b from fun e => e1 e.symm]
  rw [e]
  obtain ⟨e1, e2, e3, e4, e5⟩ := h.at_ (exI a b j) h3 h2
  refine ⟨e1, e2, e3, e4, fun m => ?_⟩
  rw [e5]
  cases p[exI a b j].src[m]? with
  | none => rfl
  | some s => rw [Option.map_some, if_neg (by omega)]
/-- All cells of one operation, written. -/
def put6 (w : World) (g c : Nat) (o : OpD) : World := (((((w.setCell ⟨g, c, none⟩ (.int .i64 o.t)).setCell ⟨g, c + 1, none⟩ (.int .i64 o.c.1)).setCell ⟨g, c + 2, none⟩ (.int .i64 o.c.2)).setCell ⟨g, c + 3, none⟩ (.int .i64 o.unit)).setCell ⟨g, c + 4, none⟩ (.int .i64 o.kind)).setCell ⟨g, c + 5, none⟩ o.fv
theorem OpsOwn.put6 {w : World} {B g n cap : Nat} {q : List OpD} (h : OpsOwn w B (.slice (some ⟨g, 0, none⟩) n cap) q) (hn : q.length = n) (k : Nat) (hk : k < n) (o : OpD) : OpsOwn (put6 w g (6 * k) o) B (.slice (some ⟨g, 0, none⟩) n cap) (q.set k o) := by
  have hkq : k < q.length := by omega
  have step : ∀ {w' : World} {q' : List OpD} (h' : OpsOwn w' B (.slice (some ⟨g, 0, none⟩) n cap) q') (hn' : q'.length = n) (j : Nat) (hj : j < 6) (a x) (ha : encOp a = (encOp (q'[k]'(by omega))).set j x), OpsOwn (w'.setCell ⟨g, 6 * k + j, none⟩ x) B (.slice (some ⟨g, 0, none⟩) n cap) (q'.set k a) := fun h' hn' j hj a x ha =>
    OwnOf.put (enc := encOp) (fun _ => rfl) h' hn' k j hk hj a x ha
  have e : ∀ (x y : OpD), (q.set k x).set k y = q.set k y := fun x y => by rw [List.set_set]
  have g1 : ∀ x : OpD, (q.set k x)[k]'(by simpa using hkq) = x := fun x => List.getElem_set_self _
  have hl : ∀ x : OpD, (q.set k x).length = n := fun x => by rw [List.length_set]; exact hn
  have h0 := step h hn 0 (by omega) { q[k] with t := o.t } (.int .i64 o.t) rfl
  have h1 := step h0 (hl _) 1 (by omega) { q[k] with t := o.t, c := (o.c.1, q[k].c.2) } (.int .i64 o.c.1) (by rw [g1]; rfl)
  rw [e] at h1
  have h2 := step h1 (hl _) 2 (by omega) { q[k] with t := o.t, c := o.c } (.int .i64 o.c.2) (by rw [g1]; rfl)
  rw [e] at h2
  have h3 := step h2 (hl _) 3 (by omega) { q[k] with t := o.t, c := o.c, unit := o.unit } (.int .i64 o.unit) (by rw [g1]; rfl)
  rw [e] at h3
  have h4 := step h3 (hl _) 4 (by omega) { q[k] with t := o.t, c := o.c, unit := o.unit, kind := o.kind } (.int .i64 o.kind) (by rw [g1]; rfl)
  rw [e] at h4
  have h5 := step h4 (hl _) 5 (by omega) o o.fv (by rw [g1]; rfl)
  rw [e] at h5
  exact h5
theorem RowsO.put6 {w : World} {B g k : Nat} {q : List OpD} (h : RowsO w B g q k) (c : Nat) (o : OpD) : RowsO (put6 w g c o) B g q k := (((((h.store _ _).store _ _).store _ _).store _ _).store _ _).store _ _
theorem swap_get {q : List OpD} {a b : Nat} (ha : a < q.length) (hb : b < q.length) (j : Nat) (hj : j < ((q.set a q[b]).set b q[a]).length) (h3 : exI a b j < q.length) : ((q.set a q[b]).set b q[a])[j] = q[exI a b j] := by
  unfold exI
  by_cases e1 : b = j
  · subst e1
    rw [List.getElem_set_self]
    by_cases e2 : b = a
    · subst e2; simp
    · simp [e2]
  · rw [List.getElem_set_ne e1]
    by_cases e2 : a = j
    · subst e2; rw [List.getElem_set_self]; simp
    · rw [List.getElem_set_ne e2]
      simp [show ¬ j = a from fun e => e2 e.symm, show ¬ j = b from fun e => e1 e.symm]
theorem RowsO.swap {w : World} {B g : Nat} {q : List OpD} (h : RowsO w B g q q.length) {a b : Nat} (ha : a < q.length) (hb : b < q.length) : RowsO w B g ((q.set a q[b]).set b q[a]) ((q.set a q[b]).set b q[a]).length := by
  have hl : ((q.set a q[b]).set b q[a]).length = q.length := by simp
  refine ⟨fun i hi _ => ?_, fun i j hi hj _ _ hij => ?_⟩
  · have h3 := exI_lt ha hb (show i < q.length by omega)
    rw [swap_get ha hb i hi h3]; exact h.own _ h3 h3
  · have h3 := exI_lt ha hb (show i < q.length by omega)
    have h4 := exI_lt ha hb (show j < q.length by omega)
    rw [swap_get ha hb i hi h3, swap_get ha hb j hj h4]
    refine h.sep _ _ h3 h4 h3 h4 (fun e => hij ?_)
    have := congrArg (exI a b) e
    rwa [exI_exI, exI_exI] at this
theorem ProgOwn.swap {w : World} {B g n cap : Nat} {q : List OpD} (h : ProgOwn w B (.slice (some ⟨g, 0, none⟩) n cap) q) (hn : q.length = n) {a b : Nat} (ha : a < q.length) (hb : b < q.length) :
    ProgOwn (Go.Proofs.Ytbjbdochffocoaa.put6 (Go.Proofs.Ytbjbdochffocoaa.put6 w g (6 * a) q[b]) g (6 * b) q[a]) B (.slice (some ⟨g, 0, none⟩) n cap) ((q.set a q[b]).set b q[a]) := by
  refine ⟨(OpsOwn.put6 (h.1.put6 hn a (by omega) q[b]) (by simpa using hn) b (by omega) q[a]), fun g' e => ?_⟩
  cases e
  exact ((((h.2 g rfl).swap ha hb).put6 _ _).put6 _ _)
theorem ProgOwn.swap' {w : World} {B g n cap : Nat} {q : List OpD} (h : ProgOwn w B (.slice (some ⟨g, 0, none⟩) n cap) q) (hn : q.length = n) {a b : Nat} (ha : a < q.length) (hb : b < q.length) (hab : a ≠ b) :
    ProgOwn (Go.Proofs.Ytbjbdochffocoaa.put6 (Go.Proofs.Ytbjbdochffocoaa.put6 w g (6 * b) q[a]) g (6 * a) q[b]) B (.slice (some ⟨g, 0, none⟩) n cap) ((q.set a q[b]).set b q[a]) := by
  rw [List.set_comm _ _ hab]
  refine ⟨(OpsOwn.put6 (h.1.put6 hn b (by omega) q[a]) (by simpa using hn) a (by omega) q[b]), fun g' e => ?_⟩
  cases e
  rw [← List.set_comm _ _ hab]
  exact ((((h.2 g rfl).swap ha hb).put6 _ _).put6 _ _)
theorem ProgOwn.srcput {w : World} {B g n cap : Nat} {q : List OpD} (h : ProgOwn w B (.slice (some ⟨g, 0, none⟩) n cap) q) {i : Nat} (hi : i < q.length) {bi m ci : Nat} (hf : q[i].fv = .slice (some ⟨bi, 0, none⟩) m ci) (hm : q[i].src.length = m) (k : Nat) (hk : k < q[i].src.length) (x : Int) :
    ProgOwn (w.setCell ⟨bi, 3 * k, none⟩ (.int .i64 x)) B (.slice (some ⟨g, 0, none⟩) n cap) (q.set i { q[i] with src := q[i].src.set k { q[i].src[k] with op := x } }) := by
  have hR := h.2 g rfl
  obtain ⟨b, eb, hbg⟩ := (hR.own i hi hi).2
  rw [hf] at eb
  simp only [Value.ownBlock, Option.some.injEq] at eb
  subst eb
  have hflat : (q.set i { q[i] with src := q[i].src.set k { q[i].src[k] with op := x } }).flatMap encOp = q.flatMap encOp := by
    have h1 : ∀ (l : List OpD) (i : Nat) (hi : i < l.length) (s : List SrcD), (l.set i { l[i] with src := s }).flatMap encOp = l.flatMap encOp := fun l => by
      induction l with
      | nil => intro i hi; simp at hi
      | cons y t ih =>
        intro i hi s
        cases i with
        | zero => simp [encOp]
        | succ i =>
          have := ih i (by simpa using hi) s
          simp only [List.set_cons_succ, List.flatMap_cons, List.getElem_cons_succ]
          rw [this]
    exact h1 q i hi _
  refine ⟨?_, fun g' e => ?_⟩
  · have := OwnOf.other h.1 (g := bi) (by simp [Value.ownBlock]; exact fun e => hbg e.symm) (3 * k) (.int .i64 x)
    unfold OpsOwn
    unfold OwnOf at this ⊢
    rw [hflat, List.length_set]; exact this
  · cases e
    rw [List.length_set]
    refine ⟨fun j hj hk2 => ?_, fun j j' hj hj' h1 h2 h3 => ?_⟩
    · have hj2 : j < q.length := by simpa using hj
      by_cases e : i = j
      · subst e
        rw [List.getElem_set_self]
        refine ⟨?_, bi, by simp only [hf]; rfl, hbg⟩
        have h4 : OwnOf w B 52 3 encSr (.slice (some ⟨bi, 0, none⟩) m ci) q[i].src := by have := (hR.own i hi hi).1; unfold SrcOwn at this; rwa [hf] at this
        have h5 := OwnOf.put (enc := encSr) (fun _ => rfl) h4 hm k 0 (by omega) (by omega) { q[i].src[k] with op := x } (.int .i64 x) rfl
        unfold SrcOwn
        simp only [hf]
        exact h5
      · rw [List.getElem_set_ne e]
        refine ⟨OwnOf.other (hR.own j hj2 hj2).1 (fun e2 => ?_) _ _, (hR.own j hj2 hj2).2⟩
        refine hR.sep i j hi hj2 hi hj2 e ?_
        rw [hf, e2]; rfl
    · have hj2 : j < q.length := by simpa using hj
      have hj3 : j' < q.length := by simpa using hj'
      have e6 : ∀ l (hl : l < (q.set i { q[i] with src := q[i].src.set k { q[i].src[k] with op := x } }).length) (hl2 : l < q.length), (q.set i { q[i] with src := q[i].src.set k { q[i].src[k] with op := x } })[l].fv = q[l].fv := fun l hl hl2 => by
        by_cases e : i = l
        · subst e; rw [List.getElem_set_self]
        · rw [List.getElem_set_ne e]
      rw [e6 j hj hj2, e6 j' hj' hj3]
      exact hR.sep j j' hj2 hj3 hj2 hj3 h3
end Go.Proofs.Ytbjbdochffocoaa
