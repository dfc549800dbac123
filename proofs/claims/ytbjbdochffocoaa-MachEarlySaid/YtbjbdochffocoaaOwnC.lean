/- copied and Copied: programs copied into memory of their own. -/
import Derived.Test.YtbjbdochffocoaaOwnB
namespace Go.Proofs.Ytbjbdochffocoaa
open Go.RowKit Go.Lib
set_option linter.unusedVariables false
def SameO (a b : OpD) : Prop := b.t = a.t ∧ b.c = a.c ∧ b.unit = a.unit ∧ b.kind = a.kind ∧ b.src = a.src
/-- q is p, but for where its sources lie. -/
structure SameP (p q : List OpD) : Prop where
  len : q.length = p.length
  at_ : ∀ i (h : i < q.length) (h2 : i < p.length), SameO p[i] q[i]
/-- .. from operation k on it is p itself. -/
structure MixP (p q : List OpD) (k : Nat) : Prop where
  len : q.length = p.length
  at_ : ∀ i (h : i < q.length) (h2 : i < p.length), SameO p[i] q[i] ∧ (k ≤ i → q[i] = p[i])
theorem MixP.start (p : List OpD) : MixP p p 0 := ⟨rfl, fun i h h2 => ⟨⟨rfl, rfl, rfl, rfl, rfl⟩, fun _ => rfl⟩⟩
theorem MixP.step {p q : List OpD} {k : Nat} (h : MixP p q k) (hk : k < p.length) (f : Value) : MixP p (q.set k { p[k] with fv := f }) (k + 1) := by
  refine ⟨by rw [List.length_set]; exact h.len, fun i h1 h2 => ?_⟩
  have h3 : i < q.length := by rw [h.len]; exact h2
  by_cases e : k = i
  · subst e; rw [List.getElem_set_self]; exact ⟨⟨rfl, rfl, rfl, rfl, rfl⟩, fun h => by omega⟩
  · rw [List.getElem_set_ne e]; exact ⟨(h.at_ i h3 h2).1, fun hi => (h.at_ i h3 h2).2 (by omega)⟩
theorem MixP.same {p q : List OpD} {k : Nat} (h : MixP p q k) : SameP p q := ⟨h.len, fun i h1 h2 => (h.at_ i h1 h2).1⟩
theorem ownR_some {α : Type} {enc : α → List Value} {w : World} {B sz : Nat} {e : TypeId} {v : Value} {l : List α} (h : OwnOf w B e sz enc v l) : (v = .slice none 0 0 ∧ l = []) ∨ ∃ g cap, v = .slice (some ⟨g, 0, none⟩) l.length cap ∧ B ≤ g ∧ g < w.heap.size := by
  obtain ⟨-, ⟨e1, e2⟩ | ⟨b, cap, cur, e, hb, hc, -⟩⟩ := id h
  · exact .inl ⟨e1, List.eq_nil_of_length_eq_zero e2⟩
  · exact .inr ⟨b, cap, e, hb, lt_of_block hc⟩
theorem RowsO.put {w : World} {B g k : Nat} {q : List OpD} (h : RowsO w B g q k) (o : OpD) : RowsO w B g (q.set k o) k :=
  h.same (by rw [List.length_set]) (fun i h1 h2 hk => by rw [List.getElem_set_ne (by omega)]; exact ⟨rfl, rfl⟩)
theorem valid_src {p : List OpD} (hv : validP p = true) {o : OpD} (ho : o ∈ p) : o.src ≠ [] ∧ o.src.length ≤ 3 := by
  obtain ⟨i, hi, rfl⟩ := List.getElem_of_mem ho
  have hhd := (valid_at hv hi).1
  obtain ⟨hk1, hk2⟩ : needK p[i].kind ≠ 0 ∧ ((p[i].src.length : Int) = needK p[i].kind) := by
    simp only [headB, Bool.and_eq_true, decide_eq_true_eq] at hhd
    exact hhd.1.1
  generalize p[i] = o at *
  have : 0 < o.src.length ∧ o.src.length ≤ 3 := by
    rcases need_cases hk1 with e | e | e | e | e | e | e <;> rw [e] at hk2 <;> simp [needK] at hk2 <;> omega
  exact ⟨fun e => by rw [e] at this; simp at this, this.2⟩
/-- A copy of a program, in memory of its own. -/
def CopyR (p : List OpD) (B : Nat) (e : Ending) (w' : World) : Prop := ∃ v' q, e = .returned v' ∧ ProgOwn w' B v' q ∧ SameP p q
set_option maxHeartbeats 8000000 in
set_option maxRecDepth 100000 in
theorem copied_l (p : List OpD) (hv : validP p = true) (v : Value) (w : World) (hp : ProgRd w v p) :
    Calls Try.prog 49 #[v] w fun e w' => CopyR p w.heap.size e w' ∧ Below w.heap.size w w' := by
  have HP := Lib.hid hp
  have hl4 := (small_of hv).len
  have HVS := Lib.hid (fun o ho => valid_src hv (o := o) ho)
  have HCO := Lib.hid (cloneOps_l p v w hp.ops (oneCell_ops hp) (by omega))
  clear hp hv
  go_enter Try.func49, Try.ntmps49
  go_wp2_with (go_at_call 62; refine HCO.out.mono ?_; go_must (rintro e w1 ⟨⟨v1, rfl, hown⟩, hb1⟩; have HOW := Lib.hid hown; have HB1 := Lib.hid hb1; rcases ownR_some hown with ⟨rfl, hpn⟩ | ⟨g, cap, rfl, hg1, hg2⟩ <;> clear hown hb1))
  · have HPN := Lib.hid hpn
    clear hpn
    refine wp_loop_rounds 1 ?_
    rw [rounds_succ]
    go_wp2
    go_ret
    exact ⟨⟨_, [], rfl, ProgOwn.nil _ _, by rw [HPN.out]; exact ⟨rfl, fun i h => by simp at h⟩⟩, HB1.out⟩
  have hs1 := HB1.out.size
  have hln : (p.length : Int) ≤ 4000 := by omega
  go_loopw [9] (fun t9 wr => ∃ (k : Nat) (q : List OpD), k ≤ p.length ∧ t9 = .int .i64 (k : Nat) ∧ Hid (MixP p q k) ∧ Hid (OpsOwn wr w.heap.size (.slice (some ⟨g, 0, none⟩) p.length cap) q) ∧ Hid (RowsO wr w.heap.size g q k) ∧ Below w.heap.size w wr ∧ w1.heap.size ≤ wr.heap.size) (fun t9 _ => p.length - (intOf t9).toNat)
  case atStart => exact ⟨0, p, Nat.zero_le _, rfl, Lib.hid (MixP.start p), HOW, Lib.hid (RowsO.zero _ _ _ _), HB1.out, Nat.le_refl _⟩
  case round =>
    obtain ⟨k, q, hk, rfl, HM, HO, HR, hb, hsw⟩ := hrel
    have hs := hb.size
    by_cases hlt : k < p.length
    rotate_left
    · have hke : k = p.length := by omega
      have hlz : ¬ (k : Int) < (p.length : Int) := by omega
      have HRE := Lib.hid (show RowsO wr w.heap.size g q q.length by rw [HM.out.len, ← hke]; exact HR.out)
      clear hke hlt
      go_wp2
      go_ret
      exact ⟨⟨_, q, rfl, ⟨HO.out, fun g' e => by cases e; exact HRE.out⟩, HM.out.same⟩, hb⟩
    have hlz : (k : Int) < (p.length : Int) := by omega
    have hkq : k < q.length := by rw [HM.out.len]; exact hlt
    obtain ⟨-, heq0⟩ := HM.out.at_ k hkq hlt
    have heq := heq0 (Nat.le_refl _)
    obtain ⟨hix, ⟨-, -, -, -, -, d5⟩, -⟩ := ops_own_at HO.out HM.out.len k hlt p[k] (by rw [List.getElem?_eq_getElem hkq, heq])
    have HOA := Lib.hid (fun (V : World) (h : Below wr.heap.size wr V) => by
      obtain ⟨-, ⟨-, -, -, -, -, e5⟩, f⟩ := ops_own_at (HO.out.kept h : OpsOwn V w.heap.size _ q) HM.out.len k hlt p[k] (by rw [List.getElem?_eq_getElem hkq, heq])
      exact (⟨e5, f (6 * k + 5)⟩ : V.cell? ⟨g, 6 * k + 5, none⟩ = some p[k].fv ∧ V.frozen? ⟨g, 6 * k + 5, none⟩ = false))
    have HMS := Lib.hid (fun f => HM.out.step hlt f)
    have hmem := List.getElem_mem hlt
    have HCS := Lib.hid (cloneSrc_l p[k].src p[k].fv wr ((HP.out.below hb).each p[k] hmem) (oneCell_src _) (by have := (HVS.out p[k] hmem).2; omega))
    have HFIN := Lib.hid (show ∀ (V : World) (f : Value), OwnOf V wr.heap.size 52 3 encSr f p[k].src → Below wr.heap.size wr V → OpsOwn (V.setCell ⟨g, 6 * k + 5, none⟩ f) w.heap.size (.slice (some ⟨g, 0, none⟩) p.length cap) (q.set k { p[k] with fv := f }) ∧ RowsO (V.setCell ⟨g, 6 * k + 5, none⟩ f) w.heap.size g (q.set k { p[k] with fv := f }) (k + 1) from fun V f ho hV => by
      refine ⟨OwnOf.put (enc := encOp) (fun _ => rfl) (OwnOf.kept HO.out hV) HM.out.len k 5 hlt (by omega) _ _ (by rw [heq]; rfl), ?_⟩
      refine RowsO.store ?_ _ _
      have hl2 : k < (q.set k { p[k] with fv := f }).length := by rw [List.length_set]; exact hkq
      have e3 : (q.set k { p[k] with fv := f })[k] = { p[k] with fv := f } := List.getElem_set_self _
      refine ((HR.out.kept hV).put _).step hl2 (lo := wr.heap.size) (by rw [e3]; exact ho) hs (by omega) (by rw [e3]; exact (HVS.out p[k] hmem).1) (fun i hi hik b e => ?_)
      rw [List.getElem_set_ne (by omega)] at e
      exact HR.out.lo i (by simpa using hi) hik b e)
    have HLT := Lib.hid hlt
    have hgw : g < wr.heap.size := by omega
    obtain ⟨fa, fc, hfe, -⟩ := ((HP.out.below hb).each p[k] hmem).shape
    clear heq heq0
    generalize p[k] = o at *
    clear hkq hmem hlt
    obtain ⟨t, ⟨c0, c1⟩, u, kd, fv, src⟩ := o
    simp only at hfe d5 HOA HMS HCS HFIN
    subst hfe
    go_wp2_with (go_at_call 63; refine HCS.out.mono ?_; go_must (rintro e w2 ⟨⟨v2, rfl, hown2⟩, hb2⟩; obtain ⟨a2, c2, hv2⟩ := hown2.shape; subst hv2; have HO2 := Lib.hid hown2; have HB2 := Lib.hid hb2; obtain ⟨e5, f5⟩ := HOA.out w2 hb2; clear hown2 hb2))
    go_roundw
    case rel => exact ⟨k + 1, _, HLT.out, by simp, HMS.out _, Lib.hid (HFIN.out _ _ HO2.out HB2.out).1, Lib.hid (HFIN.out _ _ HO2.out HB2.out).2, (hb.trans (HB2.out.mono hs)).setCell (p := ⟨g, 6 * k + 5, none⟩) hg1 _, by have := HB2.out.size; simp; omega⟩
    case measure => simp only [intOf]; have := HLT.out; omega
end Go.Proofs.Ytbjbdochffocoaa
