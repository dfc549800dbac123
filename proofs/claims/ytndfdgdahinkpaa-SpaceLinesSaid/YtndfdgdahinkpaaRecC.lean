/- Package poly: holds and Valid: their walks. -/
import Derived.Test.YtndfdgdahinkpaaRecB
namespace Go.Proofs.Ytndfdgdahinkpaa
open Go.RowKit
theorem not_any_not {α : Type} (l : List α) (f : α → Bool) : (!(l.any fun q => !f q)) = l.all f := by
  induction l with
  | nil => rfl
  | cons a r ih => simp only [List.any_cons, List.all_cons, ← ih]; cases f a <;> simp
def rngQ (n : Int) (q : IneqD) : Bool := flatB n q.a.1 q.a.2.1 q.a.2.2 20 && btw (-1000) q.b 1000
def validD (n : Int) (l : List IneqD) : Bool := btw 1 n 3 && decide (l.length ≤ 6) && l.all (rngQ n)
def SmQ (q : IneqD) : Prop := Sm 20 q.a ∧ (-1000 ≤ q.b ∧ q.b ≤ 1000)
theorem flatB_sm {n x0 x1 x2 m : Int} (h : flatB n x0 x1 x2 m = true) : Sm m (x0, x1, x2) := by
  simp only [flatB, btw, Bool.and_eq_true, decide_eq_true_eq] at h
  exact ⟨h.1.1.1.1, h.1.1.1.2, h.1.2⟩
theorem rngQ_sm {n : Int} {q : IneqD} (h : rngQ n q = true) : SmQ q := by
  simp only [rngQ, Bool.and_eq_true] at h
  exact ⟨flatB_sm h.1, btw_out h.2⟩
theorem validD_out {n : Int} {l : List IneqD} (h : validD n l = true) : (1 ≤ n ∧ n ≤ 3) ∧ l.length ≤ 6 ∧ ∀ q ∈ l, SmQ q := by
  simp only [validD, Bool.and_eq_true, decide_eq_true_eq, List.all_eq_true] at h
  exact ⟨btw_out h.1.1, h.1.2, fun q hq => rngQ_sm (h.2 q hq)⟩
theorem SlOf.shape {α : Type} {w : World} {B sz : Nat} {enc : α → List Value} {v : Value} {l : List α} (h : SlOf w B sz enc v l) : ∃ a cap, v = .slice a l.length cap ∧ l.length ≤ 9223372036854775807 := by
  obtain ⟨a, cap, rfl, _, h1, h2, _⟩ := h
  unfold maxLen at h2
  exact ⟨a, cap, rfl, by omega⟩
set_option maxHeartbeats 4000000 in
set_option maxRecDepth 100000 in
theorem holds_l (l : List IneqD) (p : P3) (hq : ∀ q ∈ l, SmQ q) (hp : Sm 20 p) (w : World) (v : Value) (hv : SlOf w w.heap.size 4 encI v l) :
    Calls Try.prog 88 #[v, .agg #[.int .i64 p.1, .int .i64 p.2.1, .int .i64 p.2.2], .int .i64 1] w fun e w' => e = .returned (.bool (holdsB l p 1)) ∧ Below w.heap.size w w' := by
  obtain ⟨W, hW⟩ : ∃ W : World, (w.alloc (Obj.cells #[.int .i64 p.1, .int .i64 p.2.1, .int .i64 p.2.2] 29)).alloc (Obj.cells #[.int .i64 1] 3) = W := ⟨_, rfl⟩
  have kw : Below w.heap.size w W := by rw [← hW]; exact (by repeat (first | exact Below.refl _ _ | assumption | (refine Below.drew ?_) | (refine below_drewN ?_ _) | (refine Below.alloc ?_ (by first | (simp; done) | (simp; omega) | omega) _) | (refine Below.setCell ?_ (by first | (simp; done) | (simp; omega) | omega) _) | (refine Below.trans ?_ (Below.mono (by assumption) (by first | (simp; done) | (simp; omega) | omega)))))
  have ks : W.heap.size = w.heap.size + 2 := by rw [← hW]; simp
  have y0 : W.cell? ⟨w.heap.size, 0, none⟩ = some (.int .i64 p.1) := by subst hW; go_simp
  have y1 : W.cell? ⟨w.heap.size, 1, none⟩ = some (.int .i64 p.2.1) := by subst hW; go_simp
  have y2 : W.cell? ⟨w.heap.size, 2, none⟩ = some (.int .i64 p.2.2) := by subst hW; go_simp
  have y3 : W.cell? ⟨w.heap.size + 1, 0, none⟩ = some (.int .i64 1) := by subst hW; go_simp
  have H := Lib.hid (con_h1 (.pointer (some ⟨w.heap.size, 0, none⟩)) (.pointer (some ⟨w.heap.size + 1, 0, none⟩)) l (fun q => !holdQ p 1 q) W v (hv.below kw) (fun q hqm V hV => holds1_l q p w.heap.size (w.heap.size + 1) (hq q hqm).1 (hq q hqm).2 hp V (by have := hV.size; omega) (by have := hV.size; omega)
    ((hV.cell (p := ⟨w.heap.size, 0, none⟩) (by simp; omega)).trans y0) ((hV.cell (p := ⟨w.heap.size, 1, none⟩) (by simp; omega)).trans y1) ((hV.cell (p := ⟨w.heap.size, 2, none⟩) (by simp; omega)).trans y2) ((hV.cell (p := ⟨w.heap.size + 1, 0, none⟩) (by simp; omega)).trans y3)))
  have HR := Lib.hid (show (!(l.any fun q => !holdQ p 1 q)) = holdsB l p 1 from not_any_not _ _)
  have HW := Lib.hid hW
  have KW := Lib.hid kw
  clear hW kw y0 y1 y2 y3 hq hp hv
  generalize hb : (l.any fun q => !holdQ p 1 q) = b at *
  go_enter Try.func88, Try.ntmps88
  go_wp2_with fail
  rw [HW.out]
  go_wp2_with (go_at_call 84; refine H.out.mono ?_; clear H; go_must (rintro e w1 ⟨rfl, hb1⟩))
  go_ret
  exact ⟨ret_bool (by rw [← HR.out]), KW.out.trans (hb1.mono (by omega))⟩
set_option maxHeartbeats 4000000 in
set_option maxRecDepth 100000 in
theorem pValid1_l (n : Int) (hn : 1 ≤ n) (q : IneqD) (b : Nat) (w : World) (h1 : b < w.heap.size) (c0 : w.cell? ⟨b, 0, none⟩ = some (.int .i64 n)) :
    Calls Try.prog 85 #[.agg #[.int .i64 q.a.1, .int .i64 q.a.2.1, .int .i64 q.a.2.2, .int .i64 q.b], .pointer (some ⟨b, 0, none⟩)] w fun e w' => e = .returned (.bool (!rngQ n q)) ∧ Below w.heap.size w w' := by
  have hz1 := z1 (show b + 1 ≤ w.heap.size by omega)
  unfold rngQ
  obtain ⟨⟨q0, q1, q2⟩, qb⟩ := q
  simp only
  cases hb : flatB n q0 q1 q2 20 <;> cases hc : btw (-1000) qb 1000
  all_goals
    have HB := Lib.hid hb; clear hb
    have HC := Lib.hid hc; clear hc
    go_enter Try.func85, Try.ntmps85
    go_wp2_with (first | (go_at_call 86; refine (pranged_l _ _ _ _ _ hn (by omega) _).mono ?_; go_must (rintro e w1 ⟨rfl, hb1⟩; rw [HB.out]; obtain ⟨hc1, hf1⟩ := bcell hb1; have hz1 := hb1.size; (try simp at hz1); (first | have z := z10 hz1 | have z := z9 hz1 | have z := z8 hz1 | have z := z7 hz1 | have z := z6 hz1 | have z := z5 hz1 | have z := z4 hz1 | have z := z3 hz1 | have z := z2 hz1 | have z := z1 hz1 | skip))) | (go_at_call 83; refine (pbetween_l _ _ _ _).mono ?_; go_must (rintro e w2 ⟨rfl, rfl⟩; rw [HC.out])))
    go_ret
    exact ⟨by simp, by repeat (first | exact Below.refl _ _ | assumption | (refine Below.drew ?_) | (refine below_drewN ?_ _) | (refine Below.alloc ?_ (by first | (simp; done) | (simp; omega) | omega) _) | (refine Below.setCell ?_ (by first | (simp; done) | (simp; omega) | omega) _) | (refine Below.trans ?_ (Below.mono (by assumption) (by first | (simp; done) | (simp; omega) | omega))))⟩
theorem sz_v1 (W : World) : (sizeOf (Try.prog.elem 22)).run Try.prog W = .ok 4 W := by kernel_rfl
theorem un_v1 : Try.prog.underlying 22 = some (.slice (Try.prog.elem 22)) := by kernel_rfl
set_option maxHeartbeats 4000000 in
set_option maxRecDepth 100000 in
theorem idx_v1 (b1 : Value) (l : List IneqD) (p : IneqD → Bool) (w : World) (v : Value) (hv : SlOf w w.heap.size 4 encI v l)
    (hf : ∀ q ∈ l, ∀ W, Below w.heap.size w W → Calls Try.prog 85 #[.agg #[.int .i64 q.a.1, .int .i64 q.a.2.1, .int .i64 q.a.2.2, .int .i64 q.b], b1] W fun e W' => e = .returned (.bool (p q)) ∧ Below W.heap.size W W') :
    Calls Try.prog 102 #[v, .func (.func 85) #[] #[b1]] w fun e w' => (∃ z : Int, e = .returned (.int .i64 z) ∧ decide (0 ≤ z) = l.any p) ∧ Below w.heap.size w w' := by
  obtain ⟨a, cap, g, off, rfl, hlc, hcm, hx⟩ := SlOf.at (enc := encI) (fun _ => rfl) un_v1 sz_v1 hv
  have HX := Lib.hid hx; clear hx hv
  have HF := Lib.hid hf; clear hf
  unfold maxLen at hcm
  go_enter Try.func102, Try.ntmps102
  go_wp2
  go_loopw [8] (fun i wr => ∃ k : Nat, k ≤ l.length ∧ i = .int .i64 (k : Nat) ∧ (∀ j (h : j < l.length), j < k → p l[j] = false) ∧ Below w.heap.size w wr) (fun i _ => l.length - (intOf i).toNat)
  case atStart => exact ⟨0, Nat.zero_le _, rfl, fun j _ h => absurd h (by omega), Below.refl _ _⟩
  case round =>
    obtain ⟨k, hk, rfl, hno, hb⟩ := hrel
    have HNO := Lib.hid hno; clear hno
    by_cases hlt : k < l.length
    rotate_left
    · go_wp2
      go_ret
      refine ⟨⟨-1, rfl, ?_⟩, hb⟩
      have : l.any p = false := List.any_eq_false.2 (fun c hc => by
        obtain ⟨j, hj, rfl⟩ := List.getElem_of_mem hc
        rw [HNO.out j hj (by omega)]
        simp)
      rw [this]; rfl
    obtain ⟨-, hi, hg, hc⟩ := HX.out k hlt
    have rd := fun j hj => (hb.cell (p := ⟨g, off + 4 * k + j, none⟩) hg).trans (hc j hj)
    clear hc
    have HFK := Lib.hid (HF.out l[k] (List.getElem_mem hlt) wr hb)
    cases hbd : p l[k]
    · have HBD := Lib.hid hbd; clear hbd
      have HFK2 := Lib.hid (HBD.out ▸ HFK.out); clear HFK
      generalize l[k] = q at HFK2 rd
      obtain ⟨⟨q0, q1, q2⟩, q3⟩ := q
      have r0 : wr.cell? ⟨g, off + 4 * k, none⟩ = some (.int .i64 q0) := rd 0 (by omega)
      have r1 : wr.cell? ⟨g, off + 4 * k + 1, none⟩ = some (.int .i64 q1) := rd 1 (by omega)
      have r2 : wr.cell? ⟨g, off + 4 * k + 2, none⟩ = some (.int .i64 q2) := rd 2 (by omega)
      have r3 : wr.cell? ⟨g, off + 4 * k + 3, none⟩ = some (.int .i64 q3) := rd 3 (by omega)
      clear rd
      go_wp2_with (go_at_call 85; refine HFK2.out.mono ?_; go_must (rintro e w1 ⟨rfl, hb1⟩))
      go_roundw
      case rel =>
        refine ⟨k + 1, hlt, by simp, fun j h hj => ?_, hb.trans (hb1.mono hb.size)⟩
        by_cases he : j = k
        · subst he; exact HBD.out
        · exact HNO.out j h (by omega)
      case measure => simp only [intOf]; omega
    · have HBD := Lib.hid hbd; clear hbd
      have HFK2 := Lib.hid (HBD.out ▸ HFK.out); clear HFK
      generalize l[k] = q at HFK2 rd
      obtain ⟨⟨q0, q1, q2⟩, q3⟩ := q
      have r0 : wr.cell? ⟨g, off + 4 * k, none⟩ = some (.int .i64 q0) := rd 0 (by omega)
      have r1 : wr.cell? ⟨g, off + 4 * k + 1, none⟩ = some (.int .i64 q1) := rd 1 (by omega)
      have r2 : wr.cell? ⟨g, off + 4 * k + 2, none⟩ = some (.int .i64 q2) := rd 2 (by omega)
      have r3 : wr.cell? ⟨g, off + 4 * k + 3, none⟩ = some (.int .i64 q3) := rd 3 (by omega)
      clear rd
      go_wp2_with (go_at_call 85; refine HFK2.out.mono ?_; go_must (rintro e w1 ⟨rfl, hb1⟩))
      go_ret
      refine ⟨⟨(k : Int), rfl, ?_⟩, hb.trans (hb1.mono hb.size)⟩
      have : l.any p = true := List.any_eq_true.2 ⟨_, List.getElem_mem hlt, HBD.out⟩
      rw [this]; simp
set_option maxHeartbeats 4000000 in
theorem con_v1 (b1 : Value) (l : List IneqD) (p : IneqD → Bool) (w : World) (v : Value) (hv : SlOf w w.heap.size 4 encI v l)
    (hf : ∀ q ∈ l, ∀ W, Below w.heap.size w W → Calls Try.prog 85 #[.agg #[.int .i64 q.a.1, .int .i64 q.a.2.1, .int .i64 q.a.2.2, .int .i64 q.b], b1] W fun e W' => e = .returned (.bool (p q)) ∧ Below W.heap.size W W') :
    Calls Try.prog 84 #[v, .func (.func 85) #[] #[b1]] w fun e w' => e = .returned (.bool (l.any p)) ∧ Below w.heap.size w w' := by
  have H := Lib.hid ((idx_v1 (l := l) (p := p) (w := w) (v := v) (hv := hv) (hf := hf)))
  clear hv hf
  go_enter Try.func84, Try.ntmps84
  go_wp2_with (go_at_call 102; refine H.out.mono ?_; clear H; go_must (rintro e w1 ⟨⟨z, rfl, hz⟩, hb1⟩; have HZ := Lib.hid hz; clear hz))
  go_ret
  exact ⟨ret_bool HZ.out, hb1⟩
set_option maxHeartbeats 4000000 in
set_option maxRecDepth 100000 in
theorem pValid_l (n : Int) (l : List IneqD) (w : World) (v : Value) (hv : SlOf w w.heap.size 4 encI v l) :
    Calls Try.prog 56 #[.agg #[.int .i64 n, v]] w fun e w' => e = .returned (.bool (validD n l)) ∧ Below w.heap.size w w' := by
  have HV := Lib.hid hv
  obtain ⟨a, cap, rfl, hlm⟩ := hv.shape
  clear hv
  unfold validD
  cases hb : btw 1 n 3
  · have HB := Lib.hid hb; clear hb
    go_enter Try.func56, Try.ntmps56
    go_wp2_with (first | (go_at_call 83; refine (pbetween_l _ _ _ _).mono ?_; go_must (rintro e w2 ⟨rfl, rfl⟩; rw [HB.out])))
    go_ret
    exact ⟨by simp, by repeat (first | exact Below.refl _ _ | assumption | (refine Below.drew ?_) | (refine below_drewN ?_ _) | (refine Below.alloc ?_ (by first | (simp; done) | (simp; omega) | omega) _) | (refine Below.setCell ?_ (by first | (simp; done) | (simp; omega) | omega) _) | (refine Below.trans ?_ (Below.mono (by assumption) (by first | (simp; done) | (simp; omega) | omega))))⟩
  have HB := Lib.hid hb
  have hn := (btw_out hb).1
  clear hb
  by_cases h6 : l.length ≤ 6
  rotate_left
  · have HD := Lib.hid (decide_eq_false h6)
    go_enter Try.func56, Try.ntmps56
    go_wp2_with (first | (go_at_call 83; refine (pbetween_l _ _ _ _).mono ?_; go_must (rintro e w2 ⟨rfl, rfl⟩; rw [HB.out])))
    go_ret
    exact ⟨ret_bool (by first | rfl | (rw [HD.out]; rfl)), by repeat (first | exact Below.refl _ _ | assumption | (refine Below.drew ?_) | (refine below_drewN ?_ _) | (refine Below.alloc ?_ (by first | (simp; done) | (simp; omega) | omega) _) | (refine Below.setCell ?_ (by first | (simp; done) | (simp; omega) | omega) _) | (refine Below.trans ?_ (Below.mono (by assumption) (by first | (simp; done) | (simp; omega) | omega))))⟩
  have HD := Lib.hid (decide_eq_true h6)
  obtain ⟨W, hW⟩ : ∃ W : World, w.alloc (Obj.cells #[.int .i64 n, .slice a l.length cap] 24) = W := ⟨_, rfl⟩
  have kw : Below w.heap.size w W := by rw [← hW]; exact (by repeat (first | exact Below.refl _ _ | assumption | (refine Below.drew ?_) | (refine below_drewN ?_ _) | (refine Below.alloc ?_ (by first | (simp; done) | (simp; omega) | omega) _) | (refine Below.setCell ?_ (by first | (simp; done) | (simp; omega) | omega) _) | (refine Below.trans ?_ (Below.mono (by assumption) (by first | (simp; done) | (simp; omega) | omega)))))
  have ks : W.heap.size = w.heap.size + 1 := by rw [← hW]; simp
  have y0 : W.cell? ⟨w.heap.size, 0, none⟩ = some (.int .i64 n) := by subst hW; go_simp
  have y1 : W.cell? ⟨w.heap.size, 1, none⟩ = some (.slice a l.length cap) := by subst hW; go_simp
  have H := Lib.hid (con_v1 (.pointer (some ⟨w.heap.size, 0, none⟩)) l (fun q => !rngQ n q) W _ (HV.out.below kw) (fun q hqm V hV => pValid1_l n hn q w.heap.size V (by have := hV.size; omega) ((hV.cell (p := ⟨w.heap.size, 0, none⟩) (by simp; omega)).trans y0)))
  have HR := Lib.hid (show (!(l.any fun q => !rngQ n q)) = l.all (rngQ n) from not_any_not _ _)
  have HW := Lib.hid hW
  have KW := Lib.hid kw
  clear hW kw HV
  generalize hb : (l.any fun q => !rngQ n q) = b at *
  go_enter Try.func56, Try.ntmps56
  go_wp2_with (first | (go_at_call 83; refine (pbetween_l _ _ _ _).mono ?_; go_must (rintro e w2 ⟨rfl, rfl⟩; rw [HB.out])) | (go_at_call 84; rw [HW.out]; refine H.out.mono ?_; clear H; go_must (rintro e w1 ⟨rfl, hb1⟩)))
  go_ret
  exact ⟨ret_bool (by rw [← HR.out]; simp [h6]), KW.out.trans (hb1.mono (by omega))⟩
end Go.Proofs.Ytndfdgdahinkpaa
