/- The reference's Apply and value: plain part and walks. -/
import Derived.Test.YtbjbdochffocoaaMachQ
namespace Go.Proofs.Ytbjbdochffocoaa
open Go.RowKit Go.Lib
set_option linter.unusedVariables false
/-- A row of ints that a slice value reads. -/
def RdL (w : World) (a : Option Addr) (cap n g off : Nat) (f : Nat → Int) : Prop := ∀ k, k < n → (∀ V, (Instr.indexAt 25 (.slice a n cap) (.int .i64 (k : Int))).run Try.prog V = .ok (.pointer (some ⟨g, off + k, none⟩)) V) ∧ g < w.heap.size ∧ w.cell? ⟨g, off + k, none⟩ = some (.int .i64 (f k))
theorem RdL.below {w w' : World} {a : Option Addr} {cap n g off : Nat} {f : Nat → Int} (h : RdL w a cap n g off f) (hb : Below w.heap.size w w') : RdL w' a cap n g off f :=
  fun k hk => ⟨(h k hk).1, by have := (h k hk).2.1; have := hb.size; omega, (hb.cell (p := ⟨g, off + k, none⟩) (h k hk).2.1).trans (h k hk).2.2⟩
theorem rdL_of {w : World} {v : Value} {l : List Int} (h : SlOf w w.heap.size 1 encInt v l) : ∃ a cap g off, v = .slice a l.length cap ∧ RdL w a cap l.length g off (fun k => l.getD k 0) := by
  obtain ⟨a, cap, g, off, rfl, h1, h2, hx⟩ := SlOf.at (enc := encInt) (fun _ => rfl) un_int sz_int1 h
  refine ⟨a, cap, g, off, rfl, fun k hk => ?_⟩
  obtain ⟨-, i0, g0, c0⟩ := hx k hk
  refine ⟨fun V => by simpa using i0 V, g0, ?_⟩
  have := c0 0 Nat.zero_lt_one
  simpa [encInt, List.getD_eq_getElem?_getD, List.getElem?_eq_getElem hk] using this
/-- Some values are formed, each out of formed ones; -1 stands for one that is not. -/
structure PartV (p : List OpD) (l : List Int) : Prop where
  len : l.length = p.length
  each : ∀ i (h : i < p.length), l.getD i 0 = -1 ∨ (0 ≤ l.getD i 0 ∧ l.getD i 0 ≤ 10006 ∧ l.getD i 0 = valO (fun j => l.getD j 0) p[i] ∧ ∀ s ∈ p[i].src, 0 ≤ s.op → 0 ≤ l.getD s.op.toNat 0)
def ExtV (l m : List Int) : Prop := ∀ j, 0 ≤ l.getD j 0 → m.getD j 0 = l.getD j 0
theorem ExtV.refl (l : List Int) : ExtV l l := fun _ _ => rfl
theorem ExtV.trans {l m n : List Int} (h : ExtV l m) (k : ExtV m n) : ExtV l n := fun j hj => by
  have := h j hj
  rw [k j (by omega), this]
theorem PartV.set {p : List OpD} {l : List Int} (h : PartV p l) {i : Nat} (hi : i < p.length) (hn : l.getD i 0 = -1) (hs : ∀ s ∈ p[i].src, 0 ≤ s.op → 0 ≤ l.getD s.op.toNat 0) : PartV p (l.set i (valO (fun j => l.getD j 0) p[i])) ∧ ExtV l (l.set i (valO (fun j => l.getD j 0) p[i])) := by
  have hil : i < l.length := by rw [h.len]; exact hi
  have hne : ∀ j, 0 ≤ l.getD j 0 → (l.set i (valO (fun j => l.getD j 0) p[i])).getD j 0 = l.getD j 0 := fun j hj => getD_set _ _ _ _ (fun e => by subst e; omega)
  have heq : ∀ o : OpD, (∀ s ∈ o.src, 0 ≤ s.op → 0 ≤ l.getD s.op.toNat 0) → valO (fun j => (l.set i (valO (fun j => l.getD j 0) p[i])).getD j 0) o = valO (fun j => l.getD j 0) o := fun o ho => valO_eq (fun s hs h0 => hne _ (ho s hs h0))
  refine ⟨⟨by rw [List.length_set]; exact h.len, fun j hj => ?_⟩, hne⟩
  by_cases e : i = j
  · subst e
    have := valO_bd (fun j => l.getD j 0) p[i]
    refine .inr ⟨?_, ?_, ?_, fun s hs2 h0 => ?_⟩
    · rw [getD_set_self _ _ _ hil]; omega
    · rw [getD_set_self _ _ _ hil]; omega
    · rw [getD_set_self _ _ _ hil, heq _ hs]
    · rw [hne _ (hs s hs2 h0)]; exact hs s hs2 h0
  · rw [getD_set _ _ _ _ e]
    rcases h.each j hj with h1 | ⟨h1, h2, h3, h4⟩
    · exact .inl h1
    · exact .inr ⟨h1, h2, by rw [heq _ h4]; exact h3, fun s hs2 h0 => by rw [hne _ (h4 s hs2 h0)]; exact h4 s hs2 h0⟩
theorem PartV.all {p : List OpD} {l : List Int} (h : PartV p l) (ha : ∀ i, i < p.length → 0 ≤ l.getD i 0) : RunOk p l :=
  ⟨h.len, fun i hi => by
    rcases h.each i hi with h1 | h1
    · have := ha i hi; omega
    · exact h1.2.2.1⟩
theorem PartV.start (p : List OpD) : PartV p (List.replicate p.length (-1)) :=
  ⟨by simp, fun i hi => .inl (by simp [List.getD_eq_getElem?_getD, hi])⟩
theorem PartV.set' {p : List OpD} {l : List Int} (h : PartV p l) {i : Nat} (hi : i < p.length) (hs : ∀ s ∈ p[i].src, 0 ≤ s.op → 0 ≤ l.getD s.op.toNat 0) : PartV p (l.set i (valO (fun j => l.getD j 0) p[i])) ∧ ExtV l (l.set i (valO (fun j => l.getD j 0) p[i])) := by
  rcases h.each i hi with h1 | h1
  · exact h.set hi h1 hs
  · have hil : i < l.length := by rw [h.len]; exact hi
    have e : l.set i (valO (fun j => l.getD j 0) p[i]) = l := by
      rw [← h1.2.2.1, List.getD_eq_getElem?_getD, List.getElem?_eq_getElem hil]
      exact List.set_getElem_self hil
    rw [e]; exact ⟨h, ExtV.refl l⟩
theorem PartV.bd {p : List OpD} {l : List Int} (h : PartV p l) (j : Nat) (h0 : 0 ≤ l.getD j 0) : l.getD j 0 ≤ 10006 := by
  by_cases hj : j < p.length
  · rcases h.each j hj with h1 | h1
    · omega
    · exact h1.2.1
  · rw [List.getD_eq_getElem?_getD, List.getElem?_eq_none (by rw [h.len]; omega)]; simp
theorem PartV.src {p : List OpD} {l : List Int} (h : PartV p l) (hv : validP p = true) {i : Nat} (hi : i < p.length) (hs : ∀ s ∈ p[i].src, 0 ≤ s.op → 0 ≤ l.getD s.op.toNat 0) (m : Nat) : 0 ≤ (p[i].src.map (srcV fun j => l.getD j 0)).getD m 0 ∧ (p[i].src.map (srcV fun j => l.getD j 0)).getD m 0 ≤ 10006 := by
  rw [List.getD_eq_getElem?_getD]
  by_cases hm : m < p[i].src.length
  · rw [List.getElem?_eq_getElem (by simpa using hm), List.getElem_map]
    have hsm := List.getElem_mem hm
    have h2 := (valid_at hv hi).2 _ hsm
    generalize p[i].src[m] = s at *
    simp only [Option.getD_some]
    unfold srcV
    by_cases h0 : s.op < 0
    · rw [if_pos h0]; have := src_const h2 h0; omega
    · rw [if_neg h0]; exact ⟨hs s hsm (by omega), h.bd _ (hs s hsm (by omega))⟩
  · rw [List.getElem?_eq_none (by simpa using hm)]; simp
theorem KeepS.set {vb N0 : Nat} {W W' : World} (h : KeepS (fun b => b = vb) N0 W W') (o : Nat) (x : Value) : KeepS (fun b => b = vb) N0 W (W'.setCell ⟨vb, o, none⟩ x) :=
  ⟨by simpa using h.1, fun b hb hs => (Below.heap_setCell _ _ _ _ (fun e => hs e)).trans (h.2 b hb hs)⟩
theorem OwnOf.keptS {α : Type} {enc : α → List Value} {vb base sz : Nat} {w w1 : World} {e : TypeId} {v : Value} {l : List α} (h : OwnOf w base e sz enc v l) (hk : KeepS (fun b => b = vb) w.heap.size w w1) (hv : vb < base) : OwnOf w1 base e sz enc v l := by
  refine ⟨h.1, h.2.imp id ?_⟩
  rintro ⟨g, cap, cur, rfl, hbg, hg, r⟩
  exact ⟨g, cap, cur, rfl, hbg, by rw [hk.2 g (lt_of_block hg) (by omega)]; exact hg, r⟩
theorem RowI.grown {α : Type} {enc : α → List Value} {vb base sz : Nat} {w w1 : World} {e : TypeId} {v : Value} {l : List α} {m : List Int} (h : RowI w vb m) (ho : OwnOf w base e sz enc v l) (hv : vb < base) (hg : w.grownBy w1 v.ownBlock) : RowI w1 vb m :=
  h.of_block (hg.block vb h.lt (fun he => by have := (ho.lt vb he.symm).1; omega)) (Nat.lt_of_lt_of_le h.lt hg.size)
theorem KeepS.own {α : Type} {enc : α → List Value} {vb base sz : Nat} {W w w1 : World} {e : TypeId} {v : Value} {l : List α} (h : KeepS (fun b => b = vb) base W w) (ho : OwnOf w base e sz enc v l) (hb : base ≤ w.heap.size) (hg : w.grownBy w1 v.ownBlock) : KeepS (fun b => b = vb) base W w1 :=
  h.trans (KeepS.grown hg hb (fun r e => .inr (ho.lt r e).1))
set_option maxHeartbeats 4000000 in
theorem Apply_l (k : Int) (l : List Int) (v : Value) (w : World) (hv : SlOf w w.heap.size 1 encInt v l) (hk : needK k ≠ 0) (hl : (l.length : Int) = needK k) (hb : ∀ i, 0 ≤ l.getD i 0 ∧ l.getD i 0 ≤ 10006) : Calls Try.prog 67 #[.int .i64 k, v] w fun e w' => e = .returned (.int .i64 (doK k (l.getD 0 0) (l.getD 1 0) (l.getD 2 0) % 10007)) ∧ Below w.heap.size w w' := by
  obtain ⟨ad, cap, g, off, rfl, hx⟩ := rdL_of hv
  have h0 := hb 0; have h1 := hb 1; have h2 := hb 2
  have HX := Lib.hid hx
  clear hb hv hx
  rcases need_cases hk with rfl | rfl | rfl | rfl | rfl | rfl | rfl
  · have hn : l.length = 1 := by simp [needK] at hl; omega
    obtain ⟨i0, g0, c0⟩ := HX.out 0 (by omega)
    rw [hn] at i0 ⊢
    have j0 : ∀ V, (Instr.indexAt 25 (.slice ad 1 cap) (.int .i64 0)).run Try.prog V = .ok (.pointer (some ⟨g, off, none⟩)) V := i0
    have d0 : w.cell? ⟨g, off, none⟩ = some (.int .i64 (l.getD 0 0)) := c0
    clear i0 c0 g0 HX hl hk hn
    generalize l.getD 0 0 = a0 at *
    generalize l.getD 1 0 = a1 at *
    generalize l.getD 2 0 = a2 at *
    obtain ⟨p0, q0⟩ := h0; obtain ⟨p1, q1⟩ := h1; obtain ⟨p2, q2⟩ := h2
    go_enter Try.func67, Try.ntmps67
    go_wp2
    go_ret
    exact ⟨by first | rfl | (simp only [doK]; simp) | (simp only [doK]; go_simp; rfl), by repeat (first | exact Below.refl _ _ | assumption | (refine Below.drew ?_) | (refine below_drewN ?_ _) | (refine Below.alloc ?_ (by first | (simp; done) | (simp; omega) | omega) _) | (refine Below.setCell ?_ (by first | (simp; done) | (simp; omega) | omega) _) | (refine Below.trans ?_ (Below.mono (by assumption) (by first | (simp; done) | (simp; omega) | omega))))⟩
  · have hn : l.length = 2 := by simp [needK] at hl; omega
    obtain ⟨i0, g0, c0⟩ := HX.out 0 (by omega)
    obtain ⟨i1, g1, c1⟩ := HX.out 1 (by omega)
    rw [hn] at i0 i1 ⊢
    have j0 : ∀ V, (Instr.indexAt 25 (.slice ad 2 cap) (.int .i64 0)).run Try.prog V = .ok (.pointer (some ⟨g, off, none⟩)) V := i0
    have d0 : w.cell? ⟨g, off, none⟩ = some (.int .i64 (l.getD 0 0)) := c0
    have j1 : ∀ V, (Instr.indexAt 25 (.slice ad 2 cap) (.int .i64 1)).run Try.prog V = .ok (.pointer (some ⟨g, off + 1, none⟩)) V := i1
    have d1 : w.cell? ⟨g, off + 1, none⟩ = some (.int .i64 (l.getD 1 0)) := c1
    clear i0 c0 g0 i1 c1 g1 HX hl hk hn
    generalize l.getD 0 0 = a0 at *
    generalize l.getD 1 0 = a1 at *
    generalize l.getD 2 0 = a2 at *
    obtain ⟨p0, q0⟩ := h0; obtain ⟨p1, q1⟩ := h1; obtain ⟨p2, q2⟩ := h2
    have w1 : IntKind.i64.wrap (a0 + a1) = a0 + a1 := IntWalk.i64_in _ (by omega)
    go_enter Try.func67, Try.ntmps67
    go_wp2
    go_quiet (fail)
    go_wp2
    go_ret
    exact ⟨by first | rfl | (simp only [doK]; simp) | (simp only [doK]; go_simp; rfl), by repeat (first | exact Below.refl _ _ | assumption | (refine Below.drew ?_) | (refine below_drewN ?_ _) | (refine Below.alloc ?_ (by first | (simp; done) | (simp; omega) | omega) _) | (refine Below.setCell ?_ (by first | (simp; done) | (simp; omega) | omega) _) | (refine Below.trans ?_ (Below.mono (by assumption) (by first | (simp; done) | (simp; omega) | omega))))⟩
  · have hn : l.length = 2 := by simp [needK] at hl; omega
    obtain ⟨i0, g0, c0⟩ := HX.out 0 (by omega)
    obtain ⟨i1, g1, c1⟩ := HX.out 1 (by omega)
    rw [hn] at i0 i1 ⊢
    have j0 : ∀ V, (Instr.indexAt 25 (.slice ad 2 cap) (.int .i64 0)).run Try.prog V = .ok (.pointer (some ⟨g, off, none⟩)) V := i0
    have d0 : w.cell? ⟨g, off, none⟩ = some (.int .i64 (l.getD 0 0)) := c0
    have j1 : ∀ V, (Instr.indexAt 25 (.slice ad 2 cap) (.int .i64 1)).run Try.prog V = .ok (.pointer (some ⟨g, off + 1, none⟩)) V := i1
    have d1 : w.cell? ⟨g, off + 1, none⟩ = some (.int .i64 (l.getD 1 0)) := c1
    clear i0 c0 g0 i1 c1 g1 HX hl hk hn
    generalize l.getD 0 0 = a0 at *
    generalize l.getD 1 0 = a1 at *
    generalize l.getD 2 0 = a2 at *
    obtain ⟨p0, q0⟩ := h0; obtain ⟨p1, q1⟩ := h1; obtain ⟨p2, q2⟩ := h2
    have w1 : IntKind.i64.wrap (a0 - a1) = a0 - a1 := IntWalk.i64_in _ (by omega)
    have w2 : IntKind.i64.wrap (a0 - a1 + 10007) = a0 - a1 + 10007 := IntWalk.i64_in _ (by omega)
    go_enter Try.func67, Try.ntmps67
    go_wp2
    go_quiet (fail)
    go_wp2
    go_ret
    exact ⟨by first | rfl | (simp only [doK]; simp) | (simp only [doK]; go_simp; rfl), by repeat (first | exact Below.refl _ _ | assumption | (refine Below.drew ?_) | (refine below_drewN ?_ _) | (refine Below.alloc ?_ (by first | (simp; done) | (simp; omega) | omega) _) | (refine Below.setCell ?_ (by first | (simp; done) | (simp; omega) | omega) _) | (refine Below.trans ?_ (Below.mono (by assumption) (by first | (simp; done) | (simp; omega) | omega))))⟩
  · have hn : l.length = 2 := by simp [needK] at hl; omega
    obtain ⟨i0, g0, c0⟩ := HX.out 0 (by omega)
    obtain ⟨i1, g1, c1⟩ := HX.out 1 (by omega)
    rw [hn] at i0 i1 ⊢
    have j0 : ∀ V, (Instr.indexAt 25 (.slice ad 2 cap) (.int .i64 0)).run Try.prog V = .ok (.pointer (some ⟨g, off, none⟩)) V := i0
    have d0 : w.cell? ⟨g, off, none⟩ = some (.int .i64 (l.getD 0 0)) := c0
    have j1 : ∀ V, (Instr.indexAt 25 (.slice ad 2 cap) (.int .i64 1)).run Try.prog V = .ok (.pointer (some ⟨g, off + 1, none⟩)) V := i1
    have d1 : w.cell? ⟨g, off + 1, none⟩ = some (.int .i64 (l.getD 1 0)) := c1
    clear i0 c0 g0 i1 c1 g1 HX hl hk hn
    generalize l.getD 0 0 = a0 at *
    generalize l.getD 1 0 = a1 at *
    generalize l.getD 2 0 = a2 at *
    obtain ⟨p0, q0⟩ := h0; obtain ⟨p1, q1⟩ := h1; obtain ⟨p2, q2⟩ := h2
    obtain ⟨r1, r2⟩ := prod_bd ⟨p0, q0⟩ ⟨p1, q1⟩
    have w1 : IntKind.i64.wrap (a0 * a1) = a0 * a1 := IntWalk.i64_in _ (by omega)
    go_enter Try.func67, Try.ntmps67
    go_wp2
    go_quiet (fail)
    go_wp2
    go_ret
    exact ⟨by first | rfl | (simp only [doK]; simp) | (simp only [doK]; go_simp; rfl), by repeat (first | exact Below.refl _ _ | assumption | (refine Below.drew ?_) | (refine below_drewN ?_ _) | (refine Below.alloc ?_ (by first | (simp; done) | (simp; omega) | omega) _) | (refine Below.setCell ?_ (by first | (simp; done) | (simp; omega) | omega) _) | (refine Below.trans ?_ (Below.mono (by assumption) (by first | (simp; done) | (simp; omega) | omega))))⟩
  · have hn : l.length = 3 := by simp [needK] at hl; omega
    obtain ⟨i0, g0, c0⟩ := HX.out 0 (by omega)
    obtain ⟨i1, g1, c1⟩ := HX.out 1 (by omega)
    obtain ⟨i2, g2, c2⟩ := HX.out 2 (by omega)
    rw [hn] at i0 i1 i2 ⊢
    have j0 : ∀ V, (Instr.indexAt 25 (.slice ad 3 cap) (.int .i64 0)).run Try.prog V = .ok (.pointer (some ⟨g, off, none⟩)) V := i0
    have d0 : w.cell? ⟨g, off, none⟩ = some (.int .i64 (l.getD 0 0)) := c0
    have j1 : ∀ V, (Instr.indexAt 25 (.slice ad 3 cap) (.int .i64 1)).run Try.prog V = .ok (.pointer (some ⟨g, off + 1, none⟩)) V := i1
    have d1 : w.cell? ⟨g, off + 1, none⟩ = some (.int .i64 (l.getD 1 0)) := c1
    have j2 : ∀ V, (Instr.indexAt 25 (.slice ad 3 cap) (.int .i64 2)).run Try.prog V = .ok (.pointer (some ⟨g, off + 2, none⟩)) V := i2
    have d2 : w.cell? ⟨g, off + 2, none⟩ = some (.int .i64 (l.getD 2 0)) := c2
    clear i0 c0 g0 i1 c1 g1 i2 c2 g2 HX hl hk hn
    generalize l.getD 0 0 = a0 at *
    generalize l.getD 1 0 = a1 at *
    generalize l.getD 2 0 = a2 at *
    obtain ⟨p0, q0⟩ := h0; obtain ⟨p1, q1⟩ := h1; obtain ⟨p2, q2⟩ := h2
    obtain ⟨r1, r2⟩ := prod_bd ⟨p1, q1⟩ ⟨p2, q2⟩
    have w1 : IntKind.i64.wrap (a1 * a2) = a1 * a2 := IntWalk.i64_in _ (by omega)
    have w2 : IntKind.i64.wrap (a0 + a1 * a2) = a0 + a1 * a2 := IntWalk.i64_in _ (by omega)
    go_enter Try.func67, Try.ntmps67
    go_wp2
    go_quiet (fail)
    go_wp2
    go_ret
    exact ⟨by first | rfl | (simp only [doK]; simp) | (simp only [doK]; go_simp; rfl), by repeat (first | exact Below.refl _ _ | assumption | (refine Below.drew ?_) | (refine below_drewN ?_ _) | (refine Below.alloc ?_ (by first | (simp; done) | (simp; omega) | omega) _) | (refine Below.setCell ?_ (by first | (simp; done) | (simp; omega) | omega) _) | (refine Below.trans ?_ (Below.mono (by assumption) (by first | (simp; done) | (simp; omega) | omega))))⟩
  · have hn : l.length = 2 := by simp [needK] at hl; omega
    obtain ⟨i0, g0, c0⟩ := HX.out 0 (by omega)
    obtain ⟨i1, g1, c1⟩ := HX.out 1 (by omega)
    rw [hn] at i0 i1 ⊢
    have j0 : ∀ V, (Instr.indexAt 25 (.slice ad 2 cap) (.int .i64 0)).run Try.prog V = .ok (.pointer (some ⟨g, off, none⟩)) V := i0
    have d0 : w.cell? ⟨g, off, none⟩ = some (.int .i64 (l.getD 0 0)) := c0
    have j1 : ∀ V, (Instr.indexAt 25 (.slice ad 2 cap) (.int .i64 1)).run Try.prog V = .ok (.pointer (some ⟨g, off + 1, none⟩)) V := i1
    have d1 : w.cell? ⟨g, off + 1, none⟩ = some (.int .i64 (l.getD 1 0)) := c1
    clear i0 c0 g0 i1 c1 g1 HX hl hk hn
    generalize l.getD 0 0 = a0 at *
    generalize l.getD 1 0 = a1 at *
    generalize l.getD 2 0 = a2 at *
    obtain ⟨p0, q0⟩ := h0; obtain ⟨p1, q1⟩ := h1; obtain ⟨p2, q2⟩ := h2
    have r1 : 0 ≤ max a0 a1 ∧ max a0 a1 ≤ 10006 := by omega
    obtain ⟨r2, r3⟩ := r1
    go_enter Try.func67, Try.ntmps67
    go_wp2
    go_quiet (fail)
    go_wp2
    go_ret
    exact ⟨by first | rfl | (simp only [doK]; simp) | (simp only [doK]; go_simp; rfl), by repeat (first | exact Below.refl _ _ | assumption | (refine Below.drew ?_) | (refine below_drewN ?_ _) | (refine Below.alloc ?_ (by first | (simp; done) | (simp; omega) | omega) _) | (refine Below.setCell ?_ (by first | (simp; done) | (simp; omega) | omega) _) | (refine Below.trans ?_ (Below.mono (by assumption) (by first | (simp; done) | (simp; omega) | omega))))⟩
  · have hn : l.length = 2 := by simp [needK] at hl; omega
    obtain ⟨i0, g0, c0⟩ := HX.out 0 (by omega)
    obtain ⟨i1, g1, c1⟩ := HX.out 1 (by omega)
    rw [hn] at i0 i1 ⊢
    have j0 : ∀ V, (Instr.indexAt 25 (.slice ad 2 cap) (.int .i64 0)).run Try.prog V = .ok (.pointer (some ⟨g, off, none⟩)) V := i0
    have d0 : w.cell? ⟨g, off, none⟩ = some (.int .i64 (l.getD 0 0)) := c0
    have j1 : ∀ V, (Instr.indexAt 25 (.slice ad 2 cap) (.int .i64 1)).run Try.prog V = .ok (.pointer (some ⟨g, off + 1, none⟩)) V := i1
    have d1 : w.cell? ⟨g, off + 1, none⟩ = some (.int .i64 (l.getD 1 0)) := c1
    clear i0 c0 g0 i1 c1 g1 HX hl hk hn
    generalize l.getD 0 0 = a0 at *
    generalize l.getD 1 0 = a1 at *
    generalize l.getD 2 0 = a2 at *
    obtain ⟨p0, q0⟩ := h0; obtain ⟨p1, q1⟩ := h1; obtain ⟨p2, q2⟩ := h2
    have r1 : 0 ≤ min a0 a1 ∧ min a0 a1 ≤ 10006 := by omega
    obtain ⟨r2, r3⟩ := r1
    go_enter Try.func67, Try.ntmps67
    go_wp2
    go_quiet (fail)
    go_wp2
    go_ret
    exact ⟨by first | rfl | (simp only [doK]; simp) | (simp only [doK]; go_simp; rfl), by repeat (first | exact Below.refl _ _ | assumption | (refine Below.drew ?_) | (refine below_drewN ?_ _) | (refine Below.alloc ?_ (by first | (simp; done) | (simp; omega) | omega) _) | (refine Below.setCell ?_ (by first | (simp; done) | (simp; omega) | omega) _) | (refine Below.trans ?_ (Below.mono (by assumption) (by first | (simp; done) | (simp; omega) | omega))))⟩
end Go.Proofs.Ytbjbdochffocoaa
