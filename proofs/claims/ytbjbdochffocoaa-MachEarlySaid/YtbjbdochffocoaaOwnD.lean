/- The reference's Copied: its walk. -/
import Derived.Test.YtbjbdochffocoaaOwnC
namespace Go.Proofs.Ytbjbdochffocoaa
open Go.RowKit Go.Lib
set_option linter.unusedVariables false
/-- The first k operations of p, copied. -/
structure HeadP (p q : List OpD) (k : Nat) : Prop where
  len : q.length = k
  at_ : ∀ i (h : i < q.length) (h2 : i < p.length), SameO p[i] q[i]
theorem HeadP.step {p q : List OpD} {k : Nat} (h : HeadP p q k) (hk : k < p.length) (f : Value) : HeadP p (q ++ [{ p[k] with fv := f }]) (k + 1) := by
  refine ⟨by rw [List.length_append, h.len]; rfl, fun i h1 h2 => ?_⟩
  rw [List.length_append, h.len] at h1
  by_cases e : i < q.length
  · rw [List.getElem_append_left e]; exact h.at_ i e h2
  · have : i = k := by rw [h.len] at e; simp at h1; omega
    subst this
    rw [List.getElem_append_right (by rw [h.len]; omega)]
    simp only [h.len, Nat.sub_self, List.getElem_cons_zero]
    exact ⟨rfl, rfl, rfl, rfl, rfl⟩
theorem RowsO.grown {w w1 : World} {B g k : Nat} {q : List OpD} {row : Option Nat} (h : RowsO w B g q k) (hr : row = none ∨ row = some g) (hg : w.grownBy w1 row) : RowsO w1 B g q k :=
  ⟨fun i hi hk => ⟨OwnOf.grown (h.own i hi hk).1 hg (by
    obtain ⟨b, e, hne⟩ := (h.own i hi hk).2
    rcases hr with rfl | rfl
    · left; rw [e]; intro e2; cases e2
    · left; rw [e]; intro e2; exact hne (Option.some.inj e2)), (h.own i hi hk).2⟩, h.sep⟩
theorem RowsO.turn {w : World} {B g g' k : Nat} {q : List OpD} (h : RowsO w B g q k) (hg : ∀ i (hi : i < q.length), i < k → q[i].fv.ownBlock ≠ some g') : RowsO w B g' q k :=
  ⟨fun i hi hk => ⟨(h.own i hi hk).1, by
    obtain ⟨b, e, -⟩ := (h.own i hi hk).2
    exact ⟨b, e, fun e2 => hg i hi hk (by rw [e, e2])⟩⟩, h.sep⟩
theorem RowsO.app {w : World} {B g k : Nat} {q : List OpD} (h : RowsO w B g q k) (hk : k = q.length) (o : OpD) : RowsO w B g (q ++ [o]) k := by
  subst hk
  refine ⟨fun i hi hik => ?_, fun i j hi hj h1 h2 h3 => ?_⟩
  · rw [List.getElem_append_left hik]; exact h.own i hik hik
  · rw [List.getElem_append_left h1, List.getElem_append_left h2]; exact h.sep i j h1 h2 h1 h2 h3
/-- The rows of operations copied so far, beside the slice v of them. -/
def RowsV (w : World) (B : Nat) (v : Value) (q : List OpD) : Prop := (v.ownBlock = none → q = []) ∧ ∀ g, v.ownBlock = some g → RowsO w B g q q.length
theorem RowsV.kept {w w' : World} {B : Nat} {v : Value} {q : List OpD} (h : RowsV w B v q) (hb : Below w.heap.size w w') : RowsV w' B v q := ⟨h.1, fun g e => (h.2 g e).kept hb⟩
theorem RowsV.nil (w : World) (B : Nat) (v : Value) : RowsV w B v [] := ⟨fun _ => rfl, fun g _ => RowsO.zero _ _ _ _⟩
/-- A copied operation is put behind the others. -/
theorem RowsV.push {wr w4 w7 : World} {B : Nat} {v : Value} {q : List OpD} {o : OpD} {g7 c7 n : Nat} (h : RowsV wr B v q) (h4 : RowsV w4 B v q) (hown : OwnOf w4 (wr.heap.size + 1) 52 3 encSr o.fv o.src) (hB : B ≤ wr.heap.size) (hne : o.src ≠ []) (hv : ∀ g, v.ownBlock = some g → g < wr.heap.size)
    (hg : w4.grownBy w7 v.ownBlock) (hat : v.ownBlock = some g7 ∨ w4.heap.size ≤ g7) : RowsV w7 B (.slice (some ⟨g7, 0, none⟩) n c7) (q ++ [o]) := by
  refine ⟨fun e => by simp [Value.ownBlock] at e, fun g e => ?_⟩
  simp only [Value.ownBlock, Option.some.injEq] at e
  subst e
  have hob : ∃ b, o.fv.ownBlock = some b ∧ wr.heap.size + 1 ≤ b ∧ b < w4.heap.size := by
    obtain ⟨-, ⟨e1, e2⟩ | ⟨b, cap, cur, e, hb, hc, -⟩⟩ := id hown
    · exact absurd (List.eq_nil_of_length_eq_zero e2) hne
    · exact ⟨b, by rw [e]; rfl, hb, lt_of_block hc⟩
  obtain ⟨b, eb, hb1, hb2⟩ := hob
  have hown7 : OwnOf w7 (wr.heap.size + 1) 52 3 encSr o.fv o.src := hown.grown hg (.inl (by rw [eb]; intro e; have := hv b e.symm; omega))
  have hlen : (q ++ [o]).length = q.length + 1 := by simp
  have hlast : (q ++ [o])[q.length]'(by rw [hlen]; omega) = o := by simp
  cases hvb : v.ownBlock with
  | none =>
    have hq := h.1 hvb
    subst hq
    have hg7 : w4.heap.size ≤ g7 := by rcases hat with e | e; rw [hvb] at e; cases e; exact e
    refine ⟨fun i hi _ => ?_, fun i j hi hj h1 h2 h3 => ?_⟩
    · have : i = 0 := by simp at hi; omega
      subst this
      exact ⟨OwnOf.mono hown7 (by omega), b, eb, by omega⟩
    · simp at hi hj; omega
  | some g =>
    rw [hvb] at hg hat
    have hR := (h4.2 g hvb).grown (.inr rfl) hg
    have hlo := (h.2 g hvb).lo
    have hg0 := hv g hvb
    have hR2 : RowsO w7 B g7 q q.length := by
      rcases hat with e | e
      · cases e; exact hR
      · exact hR.turn (fun i hi hk e2 => by have := hlo i hi hk _ e2; have := hg.size; omega)
    rw [hlen]
    refine ⟨fun i hi hk => ?_, fun i j hi hj h1 h2 h3 => ?_⟩
    · by_cases e : i = q.length
      · subst e
        rw [hlast]
        refine ⟨OwnOf.mono hown7 (by omega), b, eb, ?_⟩
        rcases hat with e | e
        · cases e; omega
        · omega
      · have hi2 : i < q.length := by omega
        rw [List.getElem_append_left hi2]; exact hR2.own i hi2 hi2
    · by_cases e : i = q.length
      · subst e
        have hj2 : j < q.length := by omega
        rw [hlast, List.getElem_append_left hj2, eb]
        intro e3
        have := hlo j hj2 hj2 b e3.symm; omega
      · have hi2 : i < q.length := by omega
        rw [List.getElem_append_left hi2]
        by_cases e2 : j = q.length
        · subst e2
          rw [hlast, eb]
          intro e3
          have := hlo i hi2 hi2 b e3; omega
        · have hj2 : j < q.length := by omega
          rw [List.getElem_append_left hj2]; exact hR2.sep i j hi2 hj2 hi2 hj2 h3
theorem RowsV.other {w : World} {B : Nat} {v : Value} {q : List OpD} (h : RowsV w B v q) (b o : Nat) (x : Value) (hb : ∀ i (hi : i < q.length), q[i].fv.ownBlock ≠ some b) : RowsV (w.setCell ⟨b, o, none⟩ x) B v q :=
  ⟨h.1, fun g e => ⟨fun i hi hk => ⟨OwnOf.other ((h.2 g e).own i hi hk).1 (hb i hi) _ _, ((h.2 g e).own i hi hk).2⟩, (h.2 g e).sep⟩⟩
theorem RowsV.lo {w : World} {B : Nat} {v : Value} {q : List OpD} (h : RowsV w B v q) : ∀ i (hi : i < q.length), ∀ b, q[i].fv.ownBlock = some b → b < w.heap.size := fun i hi b e => by
  cases hv : v.ownBlock with
  | none => have := h.1 hv; subst this; simp at hi
  | some g => exact (h.2 g hv).lo i hi hi b e
set_option maxHeartbeats 8000000 in
set_option maxRecDepth 100000 in
theorem rCopied_l (p : List OpD) (hv : validP p = true) (v : Value) (w : World) (hp : ProgRd w v p) :
    Calls Try.prog 47 #[v] w fun e w' => CopyR p w.heap.size e w' ∧ Below w.heap.size w w' := by
  have HP := Lib.hid hp
  have hl4 := (small_of hv).len
  have HVS := Lib.hid (fun o ho => valid_src hv (o := o) ho)
  obtain ⟨a, cap, g, off, rfl, hl, hm, hat⟩ := ops_at hp
  have HX := Lib.hid hat
  clear hp hv hat
  have hln : (p.length : Int) ≤ 4000 := by omega
  go_enter Try.func47, Try.ntmps47
  go_wp2_with fail
  go_loopw [3, 4] (fun t3 t4 wr => ∃ (k : Nat) (q : List OpD), k ≤ p.length ∧ t4 = .int .i64 (k : Nat) ∧ Hid (HeadP p q k) ∧ Hid (OpsOwn wr w.heap.size t3 q) ∧ Hid (RowsV wr w.heap.size t3 q) ∧ Below w.heap.size w wr) (fun t3 t4 _ => p.length - (intOf t4).toNat)
  case atStart => exact ⟨0, [], Nat.zero_le _, rfl, Lib.hid ⟨rfl, fun i h => by simp at h⟩, Lib.hid (OwnOf.nil _ _ _ _ _), Lib.hid (RowsV.nil _ _ _), Below.refl _ _⟩
  case round =>
    obtain ⟨k, q, hk, rfl, HM, HO, HR, hb⟩ := hrel
    have hs := hb.size
    by_cases hlt : k < p.length
    rotate_left
    · have hke : k = p.length := by omega
      have hlz : ¬ (k : Int) < (p.length : Int) := by omega
      have HF := Lib.hid (show SameP p q from ⟨by rw [HM.out.len, hke], HM.out.at_⟩)
      clear hke hlt
      go_wp2
      go_ret
      exact ⟨⟨_, q, rfl, ⟨HO.out, HR.out.2⟩, HF.out⟩, hb⟩
    have hlz : (k : Int) < (p.length : Int) := by omega
    obtain ⟨hix, hg, q0, q1, q2, q3, q4, q5⟩ := HX.out k hlt
    have hmem := List.getElem_mem hlt
    have HSR := Lib.hid (fun (V : World) (hV : Below wr.heap.size wr V) => ((HP.out.below (hb.trans (hV.mono hs))).each p[k] hmem))
    obtain ⟨fa, fc, hfe, -⟩ := (HP.out.each p[k] hmem).shape
    have HVK := Lib.hid (HVS.out p[k] hmem)
    have r0 := (hb.cell (p := ⟨g, off + 6 * k, none⟩) hg).trans q0
    have r1 := (hb.cell (p := ⟨g, off + 6 * k + 1, none⟩) hg).trans q1
    have r2 := (hb.cell (p := ⟨g, off + 6 * k + 2, none⟩) hg).trans q2
    have r3 := (hb.cell (p := ⟨g, off + 6 * k + 3, none⟩) hg).trans q3
    have r4 := (hb.cell (p := ⟨g, off + 6 * k + 4, none⟩) hg).trans q4
    have r5 := (hb.cell (p := ⟨g, off + 6 * k + 5, none⟩) hg).trans q5
    have HMS := Lib.hid (fun f => HM.out.step hlt f)
    have HQL := Lib.hid (show q.length = k from HM.out.len)
    have hql : q.length + 1 ≤ 1073741824 := by rw [HQL.out]; omega
    have HLT := Lib.hid hlt
    have hgw : g < wr.heap.size := by omega
    clear q0 q1 q2 q3 q4 q5
    generalize p[k] = o at *
    clear hmem hlt
    obtain ⟨t, ⟨c0, c1⟩, u, kd, fv, src⟩ := o
    simp only at r0 r1 r2 r3 r4 r5 hfe HSR HVK HMS
    subst hfe
    have hbl : ∀ b, u3.ownBlock = some b → b < wr.heap.size := fun b e => (OwnOf.lt HO.out b e).2
    have HBL := Lib.hid hbl
    clear hbl
    have hzg := z2 (show g + 1 + 1 ≤ wr.heap.size + 1 by omega)
    have hsl : src.length ≤ 3 := HVK.out.2
    have HE := Lib.hid (fun (o1 : Obj) => show ((wr.alloc o1).alloc (Obj.cells #[] 52)).ownsRow (wr.heap.size + 1) 52 3 (.slice (some ⟨wr.heap.size + 1, 0, none⟩) 0 0) 0 [] by have := World.ownsRow_lit (base := wr.heap.size + 1) (e := 52) (size := 3) (wr.alloc o1) #[] 0 (by simp) (by unfold maxLen; omega) (by simp); simpa using this)
    have HB2 := Lib.hid (fun o1 => show Below w.heap.size w ((wr.alloc o1).alloc (Obj.cells #[] 52)) from (hb.alloc hs _).alloc (by simp; omega) _)
    have HW2 := Lib.hid (fun o1 => show Below wr.heap.size wr ((wr.alloc o1).alloc (Obj.cells #[] 52)) from ((Below.refl _ _).alloc (Nat.le_refl _) _).alloc (by simp) _)
    have HS2 := Lib.hid (fun o1 => show ((wr.alloc o1).alloc (Obj.cells #[] 52)).heap.size = wr.heap.size + 2 by simp)
    -- behind both appends
    have HST := Lib.hid (show ∀ (o1 : Obj) (b3 : Option Addr) (c3 : Nat) (w3 : World), ((wr.alloc o1).alloc (Obj.cells #[] 52)).grownBy w3 (some (wr.heap.size + 1)) → w3.ownsRow (wr.heap.size + 1) 52 3 (.slice b3 src.length c3) src.length (src.flatMap encSr) → ∀ (y : Value) (o : Nat), OpsOwn (w3.setCell ⟨wr.heap.size, o, none⟩ y) w.heap.size u3 q ∧ RowsV (w3.setCell ⟨wr.heap.size, o, none⟩ y) w.heap.size u3 q ∧ OwnOf (w3.setCell ⟨wr.heap.size, o, none⟩ y) (wr.heap.size + 1) 52 3 encSr (.slice b3 src.length c3) src ∧ Below w.heap.size w (w3.setCell ⟨wr.heap.size, o, none⟩ y) ∧ wr.heap.size + 2 ≤ (w3.setCell ⟨wr.heap.size, o, none⟩ y).heap.size from fun o1 b3 c3 w3 hg3 ho3 y o => by
      have hk := HW2.out o1
      have hsz := hg3.size
      rw [HS2.out] at hsz
      have ho : OwnOf w3 (wr.heap.size + 1) 52 3 encSr (.slice b3 src.length c3) src := ho3
      refine ⟨?_, ?_, ?_, ?_, by simp; omega⟩
      · exact OwnOf.other (OwnOf.grown (OwnOf.kept HO.out hk) hg3 (.inl (fun e => by have := HBL.out _ e; omega))) (fun e => by have := HBL.out _ e; omega) _ _
      · have h2 := HR.out.kept hk
        have h3 : RowsV w3 w.heap.size u3 q := ⟨h2.1, fun gg e => ⟨fun i hi hk => ⟨OwnOf.grown ((h2.2 gg e).own i hi hk).1 hg3 (.inl (fun e => by have := HR.out.lo i hi _ e; omega)), ((h2.2 gg e).own i hi hk).2⟩, (h2.2 gg e).sep⟩⟩
        exact h3.other _ _ _ (fun i hi e => by have := HR.out.lo i hi _ e; omega)
      · exact OwnOf.other ho (fun e => by have := (OwnOf.lt ho _ e).1; omega) _ _
      · exact ((HB2.out o1).grown hg3 (by rw [HS2.out]; omega) (fun r e => by cases e; omega)).setCell (p := ⟨wr.heap.size, o, none⟩) hs _)
    go_wp2_with (first | (at_builtin; refine wpList_concat rfl _ _ _ rfl slSrc (HE.out _) rfl (HSR.out _ (HW2.out _)) rfl (oneCell_src _) (by omega) (by omega) (by simp) ?_; clear HE; intro b3 c3 w3 hown3 hg3 hat3; have x0 : w3.cell? ⟨wr.heap.size, 0, none⟩ = some (.int .i64 t) := (hg3.cell_far ⟨wr.heap.size, 0, none⟩ (by simp; omega) (by simp [Value.ownBlock])).trans (by go_simp); have x1 : w3.cell? ⟨wr.heap.size, 1, none⟩ = some (.int .i64 c0) := (hg3.cell_far ⟨wr.heap.size, 1, none⟩ (by simp; omega) (by simp [Value.ownBlock])).trans (by go_simp); have x2 : w3.cell? ⟨wr.heap.size, 2, none⟩ = some (.int .i64 c1) := (hg3.cell_far ⟨wr.heap.size, 2, none⟩ (by simp; omega) (by simp [Value.ownBlock])).trans (by go_simp); have x3 : w3.cell? ⟨wr.heap.size, 3, none⟩ = some (.int .i64 u) := (hg3.cell_far ⟨wr.heap.size, 3, none⟩ (by simp; omega) (by simp [Value.ownBlock])).trans (by go_simp); have x4 : w3.cell? ⟨wr.heap.size, 4, none⟩ = some (.int .i64 kd) := (hg3.cell_far ⟨wr.heap.size, 4, none⟩ (by simp; omega) (by simp [Value.ownBlock])).trans (by go_simp); have x5 : w3.cell? ⟨wr.heap.size, 5, none⟩ = some (.slice fa src.length fc) := (hg3.cell_far ⟨wr.heap.size, 5, none⟩ (by simp; omega) (by simp [Value.ownBlock])).trans (by go_simp); have f5 : w3.frozen? ⟨wr.heap.size, 5, none⟩ = false := (hg3.frozen_far ⟨wr.heap.size, 5, none⟩ (by simp; omega) (by simp [Value.ownBlock])).trans (by go_simp); simp only [Nat.zero_add, List.nil_append] at hown3 ⊢; have HT3 := Lib.hid (HST.out _ b3 c3 w3 (by simpa [Value.ownBlock] using hg3) hown3); clear hown3 hg3 hat3) | (at_builtin; refine wpList_push rfl _ _ _ rfl slOps (HT3.out _ _).1 rfl rfl (by first | rfl | simp) rfl rfl hql (by omega) (by have := (HT3.out (.slice b3 src.length c3) 5).2.2.2.2; omega) ?_; intro g7 c7 w7 hown7 hg7 hat7))
    go_roundw
    case rel => exact ⟨k + 1, q ++ [⟨t, (c0, c1), u, kd, .slice b3 src.length c3, src⟩], HLT.out, by simp, Lib.hid (HMS.out _), Lib.hid (OwnOf.snoc (enc := encOp) (by simpa [encOp] using hown7) rfl), Lib.hid (RowsV.push HR.out (HT3.out _ _).2.1 (HT3.out _ _).2.2.1 hs HVK.out.1 HBL.out hg7 hat7), below_push (HT3.out _ _).2.2.2.1 (HT3.out _ _).1 (Nat.le_refl _) (by have := (HT3.out (.slice b3 src.length c3) 5).2.2.2.2; omega) hg7⟩
    case measure => simp only [intOf]; have := HLT.out; omega
end Go.Proofs.Ytbjbdochffocoaa
