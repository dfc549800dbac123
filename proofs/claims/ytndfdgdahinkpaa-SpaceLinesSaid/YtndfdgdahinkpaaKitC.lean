/- Laws of my own on slices that a call makes: one element put behind, what stays as it was, how such a slice reads. Conditions: none. -/
import Derived.Test.YtndfdgdahinkpaaKitB
import Derived.Maps.AppendAt
import Derived.Laws.AppendOwnNone
namespace Go.Proofs.Ytndfdgdahinkpaa
open Go.RowKit
/-- The row of the table for a slice type: its elements' type, zero value, cells and bytes. -/
def SlT (P : Program) (t e : TypeId) (z : Value) (size bytes : Nat) : Prop :=
  P.underlying t = some (.slice e) ∧ (P.info? e).map (fun i => (i.zero, i.size, i.bytes)) = some (some z, size, bytes) ∧ z.cells.size = size ∧ 0 < size
/-- 'append(s, x)' of one element, s the call's own: one law for both arms. -/
theorem wpList_push {P : Program} {ops : Array Oper} {rest : List Oper} {o : Oper} {a : Act} {Q : Exit → Act → World → Prop} {w0 : World} {cs : Array Value} {t0 : TypeId} (hgd : o.guard = none) (s x : Operand) (t : TypeId)
    (ho : o.op = .call { callee := .builtin .append, args := #[s, x], argTypes := #[t, t] })
    {base : Nat} {e : TypeId} {z : Value} {size bytes : Nat} (T : SlT P t e z size bytes)
    {v : Value} {n : Nat} {xs : List Value} (hown : w0.ownsRow base e size v n xs) (hs : a.eval s = v)
    {b c : Nat} (hx : a.eval x = .slice (some ⟨b, 0, none⟩) 1 c) (hb : b = w0.heap.size) (hcs : cs.size = size) (h1 : cs.toList.all Value.oneCell' = true)
    (h63 : n + 1 ≤ 1073741824) (hbytes : bytes ≤ 1024) (hbase : base ≤ w0.heap.size)
    (h : ∀ (g c' : Nat) (w' : World), w'.ownsRow base e size (.slice (some ⟨g, 0, none⟩) (n + 1) c') (n + 1) (xs ++ cs.toList) → w0.grownBy w' v.ownBlock → (v.ownBlock = some g ∨ w0.heap.size ≤ g) → wpList P ops Q rest (a.put o.dst (.slice (some ⟨g, 0, none⟩) (n + 1) c')) w') :
    wpList P ops Q (o :: rest) a (w0.alloc (.cells cs t0)) := by
  obtain ⟨ht, hinf, hzs, hsz⟩ := T
  obtain ⟨i, hi, hz, hz1, hz2⟩ := info_parts hinf
  subst hb
  refine wpList_append_own_at _ hgd s x t ho base e i z size bytes ht hi hz hz1 hz2 hzs hsz v n xs hs (hown.alloc _) ⟨w0.heap.size, 0, none⟩ 1 c cs.toList hx (by simp [hcs]) ?_ ?_ (by unfold maxLen; omega) ?_ (by simp; omega) ?_
  · intro j u hj
    have hj' : cs[j]? = some u := by simpa using hj
    have e : (⟨w0.heap.size, 0, none⟩ : Addr).add j = ⟨w0.heap.size, j, none⟩ := by simp only [Addr.add]; split <;> simp_all
    rw [e]
    simp only [World.cell?, heap_alloc_new]
    exact hj'
  · intro u hu
    exact List.all_eq_true.1 h1 u hu
  · have : (n + 1) * bytes ≤ 1073741824 * 1024 := Nat.mul_le_mul h63 hbytes
    omega
  · intro v' w' ho' hg _ hat
    rcases ho'.2 with ⟨_, hn⟩ | ⟨g, cap, cur, rfl, hr⟩
    · omega
    · refine h g cap w' ho' ((World.grownBy_alloc _ _ _).trans hg) ?_
      rcases hat with hat | hat
      · exact .inl hat.symm
      · simp [Value.ownBlock] at hat; exact .inr (by omega)
/-- Below the base of what was grown all is as it was. -/
theorem below_push {B base : Nat} {W w w' : World} {e : TypeId} {size n : Nat} {v : Value} {xs : List Value} (hb : Below B W w) (hown : w.ownsRow base e size v n xs) (hB : B ≤ base) (hw : B ≤ w.heap.size) (hg : w.grownBy w' v.ownBlock) : Below B W w' := by
  refine hb.grown hg hw (fun k hk => ?_)
  rcases hown.2 with ⟨rfl, _⟩ | ⟨g, cap, cur, rfl, hbg, _⟩
  · simp [Value.ownBlock] at hk
  · simp [Value.ownBlock] at hk; omega
/-- In world w the slice v of n elements reads the cells xs, which lie below block B. -/
def Sl (w : World) (B size : Nat) (v : Value) (n : Nat) (xs : List Value) : Prop :=
  ∃ a cap, v = .slice a n cap ∧ xs.length = n * size ∧ n ≤ cap ∧ cap ≤ maxLen ∧ (a = none → cap = 0) ∧ (n = 0 ∨ ∃ b off, a = some ⟨b, off, none⟩ ∧ b < B ∧ ∀ i, i < n * size → w.cell? ⟨b, off + i, none⟩ = xs[i]?)
theorem Sl.kept {w w' : World} {B size n : Nat} {v : Value} {xs : List Value} (h : Sl w B size v n xs) (hb : Below B w w') : Sl w' B size v n xs := by
  obtain ⟨a, cap, rfl, hl, hc, hm, h0, hr⟩ := h
  refine ⟨a, cap, rfl, hl, hc, hm, h0, hr.imp id ?_⟩
  rintro ⟨b, off, rfl, hlt, hx⟩
  exact ⟨b, off, rfl, hlt, fun i hi => (hb.cell (p := ⟨b, off + i, none⟩) hlt).trans (hx i hi)⟩
theorem Sl.mono {w : World} {B B' size n : Nat} {v : Value} {xs : List Value} (h : Sl w B size v n xs) (hB : B ≤ B') : Sl w B' size v n xs := by
  obtain ⟨a, cap, rfl, hl, hc, hm, h0, hr⟩ := h
  refine ⟨a, cap, rfl, hl, hc, hm, h0, hr.imp id ?_⟩
  rintro ⟨b, off, rfl, hlt, hx⟩
  exact ⟨b, off, rfl, Nat.lt_of_lt_of_le hlt hB, hx⟩
theorem Sl.of_own {w : World} {base : Nat} {e : TypeId} {size : Nat} {v : Value} {n : Nat} {xs : List Value} (h : w.ownsRow base e size v n xs) : Sl w w.heap.size size v n xs := by
  obtain ⟨hl, ⟨rfl, rfl⟩ | ⟨g, cap, cur, rfl, hbg, hg, hc, hm, hs, ht⟩⟩ := h
  · exact ⟨none, 0, rfl, hl, Nat.le_refl _, by unfold maxLen; omega, fun _ => rfl, .inl rfl⟩
  · refine ⟨_, cap, rfl, hl, hc, hm, by simp, .inr ⟨g, 0, rfl, lt_of_block hg, fun i hi => ?_⟩⟩
    rw [Nat.zero_add]
    exact World.ownsRow.cellAt (w := w) (base := base) (e := e) (size := size) ⟨hl, .inr ⟨g, cap, cur, rfl, hbg, hg, hc, hm, hs, ht⟩⟩ i hi
theorem Sl.nil (w : World) (B size : Nat) : Sl w B size (.slice none 0 0) 0 [] := ⟨none, 0, rfl, by simp, Nat.le_refl _, by unfold maxLen; omega, fun _ => rfl, .inl rfl⟩
/-- 'append(s, x...)', s the call's own, x any slice that reads: its cells are put behind. -/
theorem wpList_concat {P : Program} {ops : Array Oper} {rest : List Oper} {o : Oper} {a : Act} {Q : Exit → Act → World → Prop} {w : World} (hgd : o.guard = none) (s x : Operand) (t : TypeId)
    (ho : o.op = .call { callee := .builtin .append, args := #[s, x], argTypes := #[t, t] })
    {base : Nat} {e : TypeId} {z : Value} {size bytes : Nat} (T : SlT P t e z size bytes)
    {v : Value} {n : Nat} {xs : List Value} (hown : w.ownsRow base e size v n xs) (hs : a.eval s = v)
    {vx : Value} {B m : Nat} {news : List Value} (hsl : Sl w B size vx m news) (hx : a.eval x = vx) (h1 : news.all Value.oneCell' = true)
    (h63 : n + m ≤ 1073741824) (hbytes : bytes ≤ 1024) (hbase : base ≤ w.heap.size)
    (h : ∀ (b' : Option Addr) (c' : Nat) (w' : World), w'.ownsRow base e size (.slice b' (n + m) c') (n + m) (xs ++ news) → w.grownBy w' v.ownBlock → ((Value.slice b' (n + m) c').ownBlock = v.ownBlock ∨ (Value.slice b' (n + m) c').ownBlock = some w.heap.size) → wpList P ops Q rest (a.put o.dst (.slice b' (n + m) c')) w') :
    wpList P ops Q (o :: rest) a w := by
  obtain ⟨ht, hinf, hzs, hsz⟩ := T
  obtain ⟨i, hi, hz, hz1, hz2⟩ := info_parts hinf
  obtain ⟨ax, cap, rfl, hl, hc, hm, h0, hr⟩ := hsl
  cases ax with
  | none =>
    have hc0 := h0 rfl
    subst hc0
    have hm0 : m = 0 := by omega
    subst hm0
    have hn0 : news = [] := List.eq_nil_of_length_eq_zero (by simpa using hl)
    subst hn0
    refine wpList_append_own_none hgd s x t ho base e i size ht hi v n xs hs hown hx ?_
    have hv : ∃ b' c', v = .slice b' n c' := by
      rcases hown.2 with ⟨rfl, rfl⟩ | ⟨g, cap, cur, rfl, _⟩
      · exact ⟨_, _, rfl⟩
      · exact ⟨_, _, rfl⟩
    obtain ⟨b', c', rfl⟩ := hv
    exact h b' c' w (by simpa using hown) (World.grownBy.refl _ _) (.inl rfl)
  | some ad =>
    refine wpList_append_own_at _ hgd s x t ho base e i z size bytes ht hi hz hz1 hz2 hzs hsz v n xs hs hown ad m cap news hx hl ?_ (fun u hu => List.all_eq_true.1 h1 u hu) (by unfold maxLen; omega) ?_ hbase ?_
    · intro j u hj
      have hjl : j < news.length := (List.getElem?_eq_some_iff.1 hj).1
      rcases hr with rfl | ⟨b, off, he, _, hcell⟩
      · omega
      · cases he
        have e2 : (⟨b, off, none⟩ : Addr).add j = ⟨b, off + j, none⟩ := by simp only [Addr.add]; split <;> simp_all
        rw [e2, hcell j (by omega)]; exact hj
    · have : (n + m) * bytes ≤ 1073741824 * 1024 := Nat.mul_le_mul h63 hbytes
      omega
    · intro v' w' ho' hg _ hat
      have hv : ∃ b' c', v' = .slice b' (n + m) c' := by
        rcases ho'.2 with ⟨rfl, e⟩ | ⟨g, cap, cur, rfl, _⟩
        · exact ⟨_, _, by rw [e]⟩
        · exact ⟨_, _, rfl⟩
      obtain ⟨b', c', rfl⟩ := hv
      exact h b' c' w' ho' hg hat
end Go.Proofs.Ytndfdgdahinkpaa
