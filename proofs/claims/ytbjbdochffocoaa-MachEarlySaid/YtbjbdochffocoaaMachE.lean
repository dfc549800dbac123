/- Package mach: operation, Valid: their walks. -/
import Derived.Test.YtbjbdochffocoaaMachD
namespace Go.Proofs.Ytbjbdochffocoaa
open Go.RowKit
set_option linter.unusedVariables false
theorem op1_l (n : Int) (hn : 0 ≤ n ∧ n ≤ 1000000000000) (s : SrcD) (bn : Nat) (w : World) (hlt : bn < w.heap.size) (c0 : w.cell? ⟨bn, 0, none⟩ = some (.int .i64 n)) :
    Calls Try.prog 60 #[.agg #[.int .i64 s.op, .int .i64 s.val, .int .i64 s.hops], .pointer (some ⟨bn, 0, none⟩)] w fun e w' => e = .returned (.bool (!srcB n s)) ∧ Below w.heap.size w w' := by
  have H := Lib.hid (fun W => source_l n hn s W)
  generalize srcB n s = B at *
  obtain ⟨op, val, hops⟩ := s
  simp only at H
  have hz1 := z1 (show bn + 1 ≤ w.heap.size by omega)
  clear hn
  go_enter Try.func60, Try.ntmps60
  go_wp2_with (go_at_call 61; refine (H.out _).mono ?_; go_must (rintro e w1 ⟨rfl, hb1⟩))
  go_ret
  exact ⟨rfl, by repeat (first | exact Below.refl _ _ | assumption | (refine Below.drew ?_) | (refine below_drewN ?_ _) | (refine Below.alloc ?_ (by first | (simp; done) | (simp; omega) | omega) _) | (refine Below.setCell ?_ (by first | (simp; done) | (simp; omega) | omega) _) | (refine Below.trans ?_ (Below.mono (by assumption) (by first | (simp; done) | (simp; omega) | omega))))⟩
theorem sz_ms (W : World) : (sizeOf (Try.prog.elem 35)).run Try.prog W = .ok 3 W := by kernel_rfl
theorem un_ms : Try.prog.underlying 35 = some (.slice (Try.prog.elem 35)) := by kernel_rfl
set_option maxHeartbeats 4000000 in
set_option maxRecDepth 100000 in
theorem idx_ms (b1 : Value) (l : List SrcD) (p : SrcD → Bool) (w : World) (v : Value) (hv : SlOf w w.heap.size 3 encSr v l)
    (hf : ∀ q ∈ l, ∀ W, Below w.heap.size w W → Calls Try.prog 60 #[.agg #[.int .i64 q.op, .int .i64 q.val, .int .i64 q.hops], b1] W fun e W' => e = .returned (.bool (p q)) ∧ Below W.heap.size W W') :
    Calls Try.prog 75 #[v, .func (.func 60) #[] #[b1]] w fun e w' => (∃ z : Int, e = .returned (.int .i64 z) ∧ decide (0 ≤ z) = l.any p) ∧ Below w.heap.size w w' := by
  obtain ⟨a, cap, g, off, rfl, hlc, hcm, hx⟩ := SlOf.at (enc := encSr) (fun _ => rfl) un_ms sz_ms hv
  have HX := Lib.hid hx; clear hx hv
  have HF := Lib.hid hf; clear hf
  unfold maxLen at hcm
  go_enter Try.func75, Try.ntmps75
  go_wp2
  go_loopw [8] (fun i wr => ∃ k : Nat, k ≤ l.length ∧ i = .int .i64 (k : Nat) ∧ (∀ j (h : j < l.length), j < k → p l[j] = false) ∧ Below w.heap.size w wr) (fun i _ => l.length - (intOf i).toNat)
  case atStart => exact ⟨0, Nat.zero_le _, rfl, fun j _ h => absurd h (by omega), Below.refl _ _⟩
  case round =>
    obtain ⟨k, hk, rfl, hno, hb⟩ := hrel
    have HNO := Lib.hid hno; clear hno
    by_cases hlt : k < l.length
    rotate_left
    · go_wp2
      go_ret
      refine ⟨⟨-1, rfl, ?_⟩, hb⟩
      have : l.any p = false := List.any_eq_false.2 (fun c hc => by
        obtain ⟨j, hj, rfl⟩ := List.getElem_of_mem hc
        rw [HNO.out j hj (by omega)]
        simp)
      rw [this]; rfl
    obtain ⟨-, hi, hg, hc⟩ := HX.out k hlt
    have rd := fun j hj => (hb.cell (p := ⟨g, off + 3 * k + j, none⟩) hg).trans (hc j hj)
    clear hc
    have HFK := Lib.hid (HF.out l[k] (List.getElem_mem hlt) wr hb)
    cases hbd : p l[k]
    · have HBD := Lib.hid hbd; clear hbd
      have HFK2 := Lib.hid (HBD.out ▸ HFK.out); clear HFK
      generalize l[k] = q at HFK2 rd
      obtain ⟨q0, q1, q2⟩ := q
      have r0 : wr.cell? ⟨g, off + 3 * k, none⟩ = some (.int .i64 q0) := rd 0 (by omega)
      have r1 : wr.cell? ⟨g, off + 3 * k + 1, none⟩ = some (.int .i64 q1) := rd 1 (by omega)
      have r2 : wr.cell? ⟨g, off + 3 * k + 2, none⟩ = some (.int .i64 q2) := rd 2 (by omega)
      clear rd
      go_wp2_with (go_at_call 60; refine HFK2.out.mono ?_; go_must (rintro e w1 ⟨rfl, hb1⟩))
      go_roundw
      case rel =>
        refine ⟨k + 1, hlt, by simp, fun j h hj => ?_, hb.trans (hb1.mono hb.size)⟩
        by_cases he : j = k
        · subst he; exact HBD.out
        · exact HNO.out j h (by omega)
      case measure => simp only [intOf]; omega
    · have HBD := Lib.hid hbd; clear hbd
      have HFK2 := Lib.hid (HBD.out ▸ HFK.out); clear HFK
      generalize l[k] = q at HFK2 rd
      obtain ⟨q0, q1, q2⟩ := q
      have r0 : wr.cell? ⟨g, off + 3 * k, none⟩ = some (.int .i64 q0) := rd 0 (by omega)
      have r1 : wr.cell? ⟨g, off + 3 * k + 1, none⟩ = some (.int .i64 q1) := rd 1 (by omega)
      have r2 : wr.cell? ⟨g, off + 3 * k + 2, none⟩ = some (.int .i64 q2) := rd 2 (by omega)
      clear rd
      go_wp2_with (go_at_call 60; refine HFK2.out.mono ?_; go_must (rintro e w1 ⟨rfl, hb1⟩))
      go_ret
      refine ⟨⟨(k : Int), rfl, ?_⟩, hb.trans (hb1.mono hb.size)⟩
      have : l.any p = true := List.any_eq_true.2 ⟨_, List.getElem_mem hlt, HBD.out⟩
      rw [this]; simp
set_option maxHeartbeats 4000000 in
theorem con_ms (b1 : Value) (l : List SrcD) (p : SrcD → Bool) (w : World) (v : Value) (hv : SlOf w w.heap.size 3 encSr v l)
    (hf : ∀ q ∈ l, ∀ W, Below w.heap.size w W → Calls Try.prog 60 #[.agg #[.int .i64 q.op, .int .i64 q.val, .int .i64 q.hops], b1] W fun e W' => e = .returned (.bool (p q)) ∧ Below W.heap.size W W') :
    Calls Try.prog 59 #[v, .func (.func 60) #[] #[b1]] w fun e w' => e = .returned (.bool (l.any p)) ∧ Below w.heap.size w w' := by
  have H := Lib.hid ((idx_ms (l := l) (p := p) (w := w) (v := v) (hv := hv) (hf := hf)))
  clear hv hf
  go_enter Try.func59, Try.ntmps59
  go_wp2_with (go_at_call 75; refine H.out.mono ?_; clear H; go_must (rintro e w1 ⟨⟨z, rfl, hz⟩, hb1⟩; have HZ := Lib.hid hz; clear hz))
  go_ret
  exact ⟨ret_bool HZ.out, hb1⟩
theorem not_any' {α : Type} (l : List α) (f : α → Bool) : (!(l.any fun q => !f q)) = l.all f := by
  induction l with
  | nil => rfl
  | cons a l ih => rw [List.any_cons, List.all_cons, ← ih]; simp
set_option maxHeartbeats 4000000 in
set_option maxRecDepth 100000 in
theorem operation_l (n : Int) (hn : 0 ≤ n ∧ n ≤ 1000000000000) (o : OpD) (w : World) (ho : SlOf w w.heap.size 3 encSr o.fv o.src) :
    Calls Try.prog 46 #[.agg #[.int .i64 o.t, .int .i64 o.c.1, .int .i64 o.c.2, .int .i64 o.unit, .int .i64 o.kind, o.fv], .int .i64 n] w fun e w' => e = .returned (.bool (opB n o)) ∧ Below w.heap.size w w' := by
  obtain ⟨t, ⟨c0, c1⟩, u, k, fv, src⟩ := o
  simp only at ho ⊢
  have HV := Lib.hid ho
  obtain ⟨fa, fc, rfl, hlm⟩ := SlOf.shape ho
  clear ho
  obtain ⟨W0, hW0⟩ : ∃ W : World, (w.alloc (Obj.cells #[.int .i64 t, .int .i64 c0, .int .i64 c1, .int .i64 u, .int .i64 k, .slice fa src.length fc] 37)).alloc (Obj.cells #[.int .i64 n] 3) = W := ⟨_, rfl⟩
  have kw0 : Below w.heap.size w W0 := by rw [← hW0]; exact (by repeat (first | exact Below.refl _ _ | assumption | (refine Below.drew ?_) | (refine below_drewN ?_ _) | (refine Below.alloc ?_ (by first | (simp; done) | (simp; omega) | omega) _) | (refine Below.setCell ?_ (by first | (simp; done) | (simp; omega) | omega) _) | (refine Below.trans ?_ (Below.mono (by assumption) (by first | (simp; done) | (simp; omega) | omega)))))
  have ks0 : W0.heap.size = w.heap.size + 2 := by rw [← hW0]; simp
  have RD0 := Lib.hid (show ∀ V, Below W0.heap.size W0 V → V.cell? ⟨w.heap.size, 0, none⟩ = some (.int .i64 t) ∧ V.cell? ⟨w.heap.size, 1, none⟩ = some (.int .i64 c0) ∧ V.cell? ⟨w.heap.size, 2, none⟩ = some (.int .i64 c1) ∧ V.cell? ⟨w.heap.size, 3, none⟩ = some (.int .i64 u) ∧ V.cell? ⟨w.heap.size, 4, none⟩ = some (.int .i64 k) ∧ V.cell? ⟨w.heap.size, 5, none⟩ = some (.slice fa src.length fc) ∧ V.cell? ⟨w.heap.size + 1, 0, none⟩ = some (.int .i64 n) from fun V h => by
      refine ⟨(h.cell (p := ⟨w.heap.size, 0, none⟩) (by simp; omega)).trans ?_, (h.cell (p := ⟨w.heap.size, 1, none⟩) (by simp; omega)).trans ?_, (h.cell (p := ⟨w.heap.size, 2, none⟩) (by simp; omega)).trans ?_, (h.cell (p := ⟨w.heap.size, 3, none⟩) (by simp; omega)).trans ?_, (h.cell (p := ⟨w.heap.size, 4, none⟩) (by simp; omega)).trans ?_, (h.cell (p := ⟨w.heap.size, 5, none⟩) (by simp; omega)).trans ?_, (h.cell (p := ⟨w.heap.size + 1, 0, none⟩) (by simp; omega)).trans ?_⟩ <;> (subst hW0; go_simp))
  have HW0 := Lib.hid hW0; have KW0 := Lib.hid kw0; clear hW0 kw0
  have HC := Lib.hid (show ∀ V, Below W0.heap.size W0 V → Calls Try.prog 59 #[.slice fa src.length fc, .func (.func 60) #[] #[.pointer (some ⟨w.heap.size + 1, 0, none⟩)]] V fun e w' => e = .returned (.bool (src.any fun q => !srcB n q)) ∧ Below V.heap.size V w' from
    fun V hV => con_ms _ src (fun q => !srcB n q) V _ ((HV.out.below KW0.out).below hV) (fun q _ U hU => op1_l n hn q _ U (by have := hV.size; have := hU.size; omega) ((hU.cell (p := ⟨w.heap.size + 1, 0, none⟩) (by have := hV.size; simp; omega)).trans (RD0.out V hV).2.2.2.2.2.2)))
  have HR := Lib.hid (not_any' src (srcB n))
  generalize hA : (src.any fun q => !srcB n q) = A at *
  clear hA
  have E := Lib.hid (show opB n ⟨t, (c0, c1), u, k, .slice fa src.length fc, src⟩ = (decide (needK k ≠ 0) && decide ((src.length : Int) = needK k) && (btwM (-100000) t 100000 && btwM 0 u 3) && (btwM (-1000) c0 1000 && btwM (-1000) c1 1000) && src.all (srcB n)) from rfl)
  rw [← HR.out] at E
  clear HR HV
  have K0 := Below.refl W0.heap.size W0
  obtain ⟨k0_0, k0_1, k0_2, k0_3, k0_4, k0_5, k0_6⟩ := RD0.out _ K0
  by_cases hk : needK k = 0
  · have E2 := Lib.hid (show opB n ⟨t, (c0, c1), u, k, .slice fa src.length fc, src⟩ = false by rw [E.out]; simp [hk])
    clear E
    go_enter Try.func46, Try.ntmps46
    go_wp2_with (go_at_call 56; rw [HW0.out]; refine (needs0_l _ _).mono ?_; go_must (rintro e w1 ⟨⟨fv, rfl⟩, rfl⟩; rw [hk]))
    go_ret
    exact ⟨ret_bool E2.out.symm, KW0.out⟩
  have hkz : (needK k == 0) = false := by rw [beq_eq_false_iff_ne]; exact hk
  by_cases hl : (src.length : Int) = needK k
  rotate_left
  · have E2 := Lib.hid (show opB n ⟨t, (c0, c1), u, k, .slice fa src.length fc, src⟩ = false by rw [E.out]; simp [hl])
    have hlz : ((src.length : Int) != needK k) = true := by simpa using hl
    clear E hl hk
    go_enter Try.func46, Try.ntmps46
    go_wp2_with (go_at_call 56; rw [HW0.out]; refine (needs0_l _ _).mono ?_; go_must (rintro e w1 ⟨⟨fv, rfl⟩, rfl⟩))
    go_ret
    exact ⟨ret_bool E2.out.symm, KW0.out⟩
  have hlz : ((src.length : Int) != needK k) = false := by simpa using hl
  have E2 := Lib.hid (show opB n ⟨t, (c0, c1), u, k, .slice fa src.length fc, src⟩ = ((btwM (-100000) t 100000 && btwM 0 u 3) && (btwM (-1000) c0 1000 && btwM (-1000) c1 1000) && !A) by rw [E.out]; simp [hk, hl])
  clear E hk hl
  cases hT : btwM (-100000) t 100000
  all_goals
    have HT := Lib.hid hT; clear hT
    rw [HT.out] at E2
    cases hU : btwM 0 u 3
    all_goals
      have HU := Lib.hid hU; clear hU
      rw [HU.out] at E2
      cases hX : btwM (-1000) c0 1000
      all_goals
        have HX := Lib.hid hX; clear hX
        rw [HX.out] at E2
        cases hY : btwM (-1000) c1 1000
        all_goals
          have HY := Lib.hid hY; clear hY
          rw [HY.out] at E2
          go_enter Try.func46, Try.ntmps46
          go_wp2_with (first | (go_at_call 56; rw [HW0.out]; refine (needs0_l _ _).mono ?_; go_must (rintro e w1 ⟨⟨fv, rfl⟩, rfl⟩)) | (go_at_call 48; refine (mbetween_l _ _ _ _).mono ?_; go_must (rintro e w2 ⟨rfl, rfl⟩; first | rw [HT.out] | rw [HU.out] | rw [HX.out] | rw [HY.out])) | (go_at_call 59; refine (HC.out _ (Below.refl _ _)).mono ?_; go_must (rintro e w3 ⟨rfl, hb3⟩)))
          go_ret
          first
          | exact ⟨ret_bool (by rw [E2.out]; rfl), KW0.out⟩
          | exact ⟨ret_bool (by rw [E2.out]; simp), below_at KW0.out (by omega) hb3⟩
end Go.Proofs.Ytbjbdochffocoaa
