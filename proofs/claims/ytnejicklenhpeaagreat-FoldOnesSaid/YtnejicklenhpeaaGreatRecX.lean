/- Package poly: holds and Valid: their walks. The reference for domains: flat, Valid, far, has: their walks. Conditions: none. -/
import Derived.Test.YtnejicklenhpeaaGreatRecW
import Derived.Test.YtnejicklenhpeaaGreatIdxA
namespace Go.Proofs.YtnejicklenhpeaaGreat
open Go.RowKit
theorem not_any_not {α : Type} (l : List α) (f : α → Bool) : (!(l.any fun q => !f q)) = l.all f := by
  induction l with
  | nil => rfl
  | cons a r ih => simp only [List.any_cons, List.all_cons, ← ih]; cases f a <;> simp
def rngQ (n : Int) (q : IneqD) : Bool := flatB n q.a.1 q.a.2.1 q.a.2.2 20 && btw (-1000) q.b 1000
def validD (n : Int) (l : List IneqD) : Bool := btw 1 n 3 && decide (l.length ≤ 6) && l.all (rngQ n)
def SmQ (q : IneqD) : Prop := Sm 20 q.a ∧ (-1000 ≤ q.b ∧ q.b ≤ 1000)
theorem flatB_sm {n x0 x1 x2 m : Int} (h : flatB n x0 x1 x2 m = true) : Sm m (x0, x1, x2) := by
  simp only [flatB, btw, Bool.and_eq_true, decide_eq_true_eq] at h
  exact ⟨h.1.1.1.1, h.1.1.1.2, h.1.2⟩
theorem rngQ_sm {n : Int} {q : IneqD} (h : rngQ n q = true) : SmQ q := by
  simp only [rngQ, Bool.and_eq_true] at h
  exact ⟨flatB_sm h.1, btw_out h.2⟩
theorem validD_out {n : Int} {l : List IneqD} (h : validD n l = true) : (1 ≤ n ∧ n ≤ 3) ∧ l.length ≤ 6 ∧ ∀ q ∈ l, SmQ q := by
  simp only [validD, Bool.and_eq_true, decide_eq_true_eq, List.all_eq_true] at h
  exact ⟨btw_out h.1.1, h.1.2, fun q hq => rngQ_sm (h.2 q hq)⟩
set_option maxHeartbeats 4000000 in
set_option maxRecDepth 100000 in
theorem holds_l (l : List IneqD) (p : P3) (hq : ∀ q ∈ l, SmQ q) (hp : Sm 20 p) (w : World) (v : Value) (hv : SlOf w w.heap.size 4 encI v l) :
    Calls Tryz.prog 153 #[v, .agg #[.int .i64 p.1, .int .i64 p.2.1, .int .i64 p.2.2], .int .i64 1] w fun e w' => e = .returned (.bool (holdsB l p 1)) ∧ Below w.heap.size w w' := by
  obtain ⟨W, hW⟩ : ∃ W : World, (w.alloc (Obj.cells #[.int .i64 p.1, .int .i64 p.2.1, .int .i64 p.2.2] 29)).alloc (Obj.cells #[.int .i64 1] 3) = W := ⟨_, rfl⟩
  have kw : Below w.heap.size w W := by rw [← hW]; exact (by repeat (first | exact Below.refl _ _ | assumption | (refine Below.drew ?_) | (refine below_drewN ?_ _) | (refine Below.alloc ?_ (by first | (simp; done) | (simp; omega) | omega) _) | (refine Below.setCell ?_ (by first | (simp; done) | (simp; omega) | omega) _) | (refine Below.trans ?_ (Below.mono (by assumption) (by first | (simp; done) | (simp; omega) | omega)))))
  have ks : W.heap.size = w.heap.size + 2 := by rw [← hW]; simp
  have y0 : W.cell? ⟨w.heap.size, 0, none⟩ = some (.int .i64 p.1) := by subst hW; go_simp
  have y1 : W.cell? ⟨w.heap.size, 1, none⟩ = some (.int .i64 p.2.1) := by subst hW; go_simp
  have y2 : W.cell? ⟨w.heap.size, 2, none⟩ = some (.int .i64 p.2.2) := by subst hW; go_simp
  have y3 : W.cell? ⟨w.heap.size + 1, 0, none⟩ = some (.int .i64 1) := by subst hW; go_simp
  have H := Lib.hid (con_h1 (.pointer (some ⟨w.heap.size, 0, none⟩)) (.pointer (some ⟨w.heap.size + 1, 0, none⟩)) l (fun q => !holdQ p 1 q) W v (hv.below kw) (fun q hqm V hV => holds1_l q p w.heap.size (w.heap.size + 1) (hq q hqm).1 (hq q hqm).2 hp V (by have := hV.size; omega) (by have := hV.size; omega)
    ((hV.cell (p := ⟨w.heap.size, 0, none⟩) (by simp; omega)).trans y0) ((hV.cell (p := ⟨w.heap.size, 1, none⟩) (by simp; omega)).trans y1) ((hV.cell (p := ⟨w.heap.size, 2, none⟩) (by simp; omega)).trans y2) ((hV.cell (p := ⟨w.heap.size + 1, 0, none⟩) (by simp; omega)).trans y3)))
  have HR := Lib.hid (show (!(l.any fun q => !holdQ p 1 q)) = holdsB l p 1 from not_any_not _ _)
  have HW := Lib.hid hW
  have KW := Lib.hid kw
  clear hW kw y0 y1 y2 y3 hq hp hv
  generalize hb : (l.any fun q => !holdQ p 1 q) = b at *
  go_enter Tryz.func153, Tryz.ntmps153
  go_wp2_with fail
  rw [HW.out]
  go_wp2_with (go_at_call 149; refine H.out.mono ?_; clear H; go_must (rintro e w1 ⟨rfl, hb1⟩))
  go_ret
  exact ⟨ret_bool (by rw [← HR.out]), KW.out.trans (hb1.mono (by omega))⟩
set_option maxHeartbeats 4000000 in
set_option maxRecDepth 100000 in
theorem pValid1_l (n : Int) (hn : 1 ≤ n) (q : IneqD) (b : Nat) (w : World) (h1 : b < w.heap.size) (c0 : w.cell? ⟨b, 0, none⟩ = some (.int .i64 n)) :
    Calls Tryz.prog 150 #[.agg #[.int .i64 q.a.1, .int .i64 q.a.2.1, .int .i64 q.a.2.2, .int .i64 q.b], .pointer (some ⟨b, 0, none⟩)] w fun e w' => e = .returned (.bool (!rngQ n q)) ∧ Below w.heap.size w w' := by
  have hz1 := z1 (show b + 1 ≤ w.heap.size by omega)
  unfold rngQ
  obtain ⟨⟨q0, q1, q2⟩, qb⟩ := q
  simp only
  cases hb : flatB n q0 q1 q2 20 <;> cases hc : btw (-1000) qb 1000
  all_goals
    have HB := Lib.hid hb; clear hb
    have HC := Lib.hid hc; clear hc
    go_enter Tryz.func150, Tryz.ntmps150
    go_wp2_with (first | (go_at_call 151; refine (pranged_l _ _ _ _ _ hn (by omega) _).mono ?_; go_must (rintro e w1 ⟨rfl, hb1⟩; rw [HB.out]; obtain ⟨hc1, hf1⟩ := bcell hb1; have hz1 := hb1.size; (try simp at hz1); (first | have z := z10 hz1 | have z := z9 hz1 | have z := z8 hz1 | have z := z7 hz1 | have z := z6 hz1 | have z := z5 hz1 | have z := z4 hz1 | have z := z3 hz1 | have z := z2 hz1 | have z := z1 hz1 | skip))) | (go_at_call 148; refine (pbetween_l _ _ _ _).mono ?_; go_must (rintro e w2 ⟨rfl, rfl⟩; rw [HC.out])))
    go_ret
    exact ⟨by simp, by repeat (first | exact Below.refl _ _ | assumption | (refine Below.drew ?_) | (refine below_drewN ?_ _) | (refine Below.alloc ?_ (by first | (simp; done) | (simp; omega) | omega) _) | (refine Below.setCell ?_ (by first | (simp; done) | (simp; omega) | omega) _) | (refine Below.trans ?_ (Below.mono (by assumption) (by first | (simp; done) | (simp; omega) | omega))))⟩
theorem sz_v1 (W : World) : (sizeOf (Tryz.prog.elem 22)).run Tryz.prog W = .ok 4 W := by kernel_rfl
theorem un_v1 : Tryz.prog.underlying 22 = some (.slice (Tryz.prog.elem 22)) := by kernel_rfl
set_option maxHeartbeats 4000000 in
set_option maxRecDepth 100000 in
theorem idx_v1 (b1 : Value) (l : List IneqD) (p : IneqD → Bool) (w : World) (v : Value) (hv : SlOf w w.heap.size 4 encI v l)
    (hf : ∀ q ∈ l, ∀ W, Below w.heap.size w W → Calls Tryz.prog 150 #[.agg #[.int .i64 q.a.1, .int .i64 q.a.2.1, .int .i64 q.a.2.2, .int .i64 q.b], b1] W fun e W' => e = .returned (.bool (p q)) ∧ Below W.heap.size W W') :
    Calls Tryz.prog 209 #[v, .func (.func 150) #[] #[b1]] w fun e w' => (∃ z : Int, e = .returned (.int .i64 z) ∧ decide (0 ≤ z) = l.any p) ∧ Below w.heap.size w w' := by
  obtain ⟨a, cap, g, off, rfl, hlc, hcm, hx⟩ := SlOf.at (enc := encI) (fun _ => rfl) un_v1 sz_v1 hv
  have HX := Lib.hid hx; clear hx hv
  have HF := Lib.hid hf; clear hf
  unfold maxLen at hcm
  go_enter Tryz.func209, Tryz.ntmps209
  go_wp2
  go_loopw [8] (fun i wr => ∃ k : Nat, k ≤ l.length ∧ i = .int .i64 (k : Nat) ∧ (∀ j (h : j < l.length), j < k → p l[j] = false) ∧ Below w.heap.size w wr) (fun i _ => l.length - (intOf i).toNat)
  case atStart => exact ⟨0, Nat.zero_le _, rfl, fun j _ h => absurd h (by omega), Below.refl _ _⟩
  case round =>
    obtain ⟨k, hk, rfl, hno, hb⟩ := hrel
    have HNO := Lib.hid hno; clear hno
    by_cases hlt : k < l.length
    rotate_left
    · go_wp2
      go_ret
      refine ⟨⟨-1, rfl, ?_⟩, hb⟩
      have : l.any p = false := List.any_eq_false.2 (fun c hc => by
        obtain ⟨j, hj, rfl⟩ := List.getElem_of_mem hc
        rw [HNO.out j hj (by omega)]
        simp)
      rw [this]; rfl
    obtain ⟨-, hi, hg, hc⟩ := HX.out k hlt
    have rd := fun j hj => (hb.cell (p := ⟨g, off + 4 * k + j, none⟩) hg).trans (hc j hj)
    clear hc
    have HFK := Lib.hid (HF.out l[k] (List.getElem_mem hlt) wr hb)
    cases hbd : p l[k]
    · have HBD := Lib.hid hbd; clear hbd
      have HFK2 := Lib.hid (HBD.out ▸ HFK.out); clear HFK
      generalize l[k] = q at HFK2 rd
      obtain ⟨⟨q0, q1, q2⟩, q3⟩ := q
      have r0 : wr.cell? ⟨g, off + 4 * k, none⟩ = some (.int .i64 q0) := rd 0 (by omega)
      have r1 : wr.cell? ⟨g, off + 4 * k + 1, none⟩ = some (.int .i64 q1) := rd 1 (by omega)
      have r2 : wr.cell? ⟨g, off + 4 * k + 2, none⟩ = some (.int .i64 q2) := rd 2 (by omega)
      have r3 : wr.cell? ⟨g, off + 4 * k + 3, none⟩ = some (.int .i64 q3) := rd 3 (by omega)
      clear rd
      go_wp2_with (go_at_call 150; refine HFK2.out.mono ?_; go_must (rintro e w1 ⟨rfl, hb1⟩))
      go_roundw
      case rel =>
        refine ⟨k + 1, hlt, by simp, fun j h hj => ?_, hb.trans (hb1.mono hb.size)⟩
        by_cases he : j = k
        · subst he; exact HBD.out
        · exact HNO.out j h (by omega)
      case measure => simp only [intOf]; omega
    · have HBD := Lib.hid hbd; clear hbd
      have HFK2 := Lib.hid (HBD.out ▸ HFK.out); clear HFK
      generalize l[k] = q at HFK2 rd
      obtain ⟨⟨q0, q1, q2⟩, q3⟩ := q
      have r0 : wr.cell? ⟨g, off + 4 * k, none⟩ = some (.int .i64 q0) := rd 0 (by omega)
      have r1 : wr.cell? ⟨g, off + 4 * k + 1, none⟩ = some (.int .i64 q1) := rd 1 (by omega)
      have r2 : wr.cell? ⟨g, off + 4 * k + 2, none⟩ = some (.int .i64 q2) := rd 2 (by omega)
      have r3 : wr.cell? ⟨g, off + 4 * k + 3, none⟩ = some (.int .i64 q3) := rd 3 (by omega)
      clear rd
      go_wp2_with (go_at_call 150; refine HFK2.out.mono ?_; go_must (rintro e w1 ⟨rfl, hb1⟩))
      go_ret
      refine ⟨⟨(k : Int), rfl, ?_⟩, hb.trans (hb1.mono hb.size)⟩
      have : l.any p = true := List.any_eq_true.2 ⟨_, List.getElem_mem hlt, HBD.out⟩
      rw [this]; simp
set_option maxHeartbeats 4000000 in
theorem con_v1 (b1 : Value) (l : List IneqD) (p : IneqD → Bool) (w : World) (v : Value) (hv : SlOf w w.heap.size 4 encI v l)
    (hf : ∀ q ∈ l, ∀ W, Below w.heap.size w W → Calls Tryz.prog 150 #[.agg #[.int .i64 q.a.1, .int .i64 q.a.2.1, .int .i64 q.a.2.2, .int .i64 q.b], b1] W fun e W' => e = .returned (.bool (p q)) ∧ Below W.heap.size W W') :
    Calls Tryz.prog 149 #[v, .func (.func 150) #[] #[b1]] w fun e w' => e = .returned (.bool (l.any p)) ∧ Below w.heap.size w w' := by
  have H := Lib.hid ((idx_v1 (l := l) (p := p) (w := w) (v := v) (hv := hv) (hf := hf)))
  clear hv hf
  go_enter Tryz.func149, Tryz.ntmps149
  go_wp2_with (go_at_call 209; refine H.out.mono ?_; clear H; go_must (rintro e w1 ⟨⟨z, rfl, hz⟩, hb1⟩; have HZ := Lib.hid hz; clear hz))
  go_ret
  exact ⟨ret_bool HZ.out, hb1⟩
set_option maxHeartbeats 4000000 in
set_option maxRecDepth 100000 in
theorem pValid_l (n : Int) (l : List IneqD) (w : World) (v : Value) (hv : SlOf w w.heap.size 4 encI v l) :
    Calls Tryz.prog 104 #[.agg #[.int .i64 n, v]] w fun e w' => e = .returned (.bool (validD n l)) ∧ Below w.heap.size w w' := by
  have HV := Lib.hid hv
  obtain ⟨a, cap, rfl, hlm⟩ := hv.shape
  clear hv
  unfold validD
  cases hb : btw 1 n 3
  · have HB := Lib.hid hb; clear hb
    go_enter Tryz.func104, Tryz.ntmps104
    go_wp2_with (first | (go_at_call 148; refine (pbetween_l _ _ _ _).mono ?_; go_must (rintro e w2 ⟨rfl, rfl⟩; rw [HB.out])))
    go_ret
    exact ⟨by simp, by repeat (first | exact Below.refl _ _ | assumption | (refine Below.drew ?_) | (refine below_drewN ?_ _) | (refine Below.alloc ?_ (by first | (simp; done) | (simp; omega) | omega) _) | (refine Below.setCell ?_ (by first | (simp; done) | (simp; omega) | omega) _) | (refine Below.trans ?_ (Below.mono (by assumption) (by first | (simp; done) | (simp; omega) | omega))))⟩
  have HB := Lib.hid hb
  have hn := (btw_out hb).1
  clear hb
  by_cases h6 : l.length ≤ 6
  rotate_left
  · have HD := Lib.hid (decide_eq_false h6)
    go_enter Tryz.func104, Tryz.ntmps104
    go_wp2_with (first | (go_at_call 148; refine (pbetween_l _ _ _ _).mono ?_; go_must (rintro e w2 ⟨rfl, rfl⟩; rw [HB.out])))
    go_ret
    exact ⟨ret_bool (by first | rfl | (rw [HD.out]; rfl)), by repeat (first | exact Below.refl _ _ | assumption | (refine Below.drew ?_) | (refine below_drewN ?_ _) | (refine Below.alloc ?_ (by first | (simp; done) | (simp; omega) | omega) _) | (refine Below.setCell ?_ (by first | (simp; done) | (simp; omega) | omega) _) | (refine Below.trans ?_ (Below.mono (by assumption) (by first | (simp; done) | (simp; omega) | omega))))⟩
  have HD := Lib.hid (decide_eq_true h6)
  obtain ⟨W, hW⟩ : ∃ W : World, w.alloc (Obj.cells #[.int .i64 n, .slice a l.length cap] 24) = W := ⟨_, rfl⟩
  have kw : Below w.heap.size w W := by rw [← hW]; exact (by repeat (first | exact Below.refl _ _ | assumption | (refine Below.drew ?_) | (refine below_drewN ?_ _) | (refine Below.alloc ?_ (by first | (simp; done) | (simp; omega) | omega) _) | (refine Below.setCell ?_ (by first | (simp; done) | (simp; omega) | omega) _) | (refine Below.trans ?_ (Below.mono (by assumption) (by first | (simp; done) | (simp; omega) | omega)))))
  have ks : W.heap.size = w.heap.size + 1 := by rw [← hW]; simp
  have y0 : W.cell? ⟨w.heap.size, 0, none⟩ = some (.int .i64 n) := by subst hW; go_simp
  have y1 : W.cell? ⟨w.heap.size, 1, none⟩ = some (.slice a l.length cap) := by subst hW; go_simp
  have H := Lib.hid (con_v1 (.pointer (some ⟨w.heap.size, 0, none⟩)) l (fun q => !rngQ n q) W _ (HV.out.below kw) (fun q hqm V hV => pValid1_l n hn q w.heap.size V (by have := hV.size; omega) ((hV.cell (p := ⟨w.heap.size, 0, none⟩) (by simp; omega)).trans y0)))
  have HR := Lib.hid (show (!(l.any fun q => !rngQ n q)) = l.all (rngQ n) from not_any_not _ _)
  have HW := Lib.hid hW
  have KW := Lib.hid kw
  clear hW kw HV
  generalize hb : (l.any fun q => !rngQ n q) = b at *
  go_enter Tryz.func104, Tryz.ntmps104
  go_wp2_with (first | (go_at_call 148; refine (pbetween_l _ _ _ _).mono ?_; go_must (rintro e w2 ⟨rfl, rfl⟩; rw [HB.out])) | (go_at_call 149; rw [HW.out]; refine H.out.mono ?_; clear H; go_must (rintro e w1 ⟨rfl, hb1⟩)))
  go_ret
  exact ⟨ret_bool (by rw [← HR.out]; simp [h6]), KW.out.trans (hb1.mono (by omega))⟩
end Go.Proofs.YtnejicklenhpeaaGreat
namespace Go.Proofs.YtnejicklenhpeaaGreat
open Go.RowKit
set_option maxHeartbeats 4000000 in
set_option maxRecDepth 100000 in
theorem rflat_l (n x0 x1 x2 m : Int) (hn : 1 ≤ n) (hm : 0 ≤ m ∧ m ≤ 1000) (w : World) :
    Calls Tryz.prog 94 #[.agg #[.int .i64 x0, .int .i64 x1, .int .i64 x2], .int .i64 n, .int .i64 m] w fun e w' => e = .returned (.bool (flatB n x0 x1 x2 m)) ∧ Below w.heap.size w w' := by
  obtain ⟨hm0, hm1⟩ := hm
  have hneg : IntKind.i64.wrap (-m) = -m := IntWalk.i64_in _ (by omega)
  generalize h0 : btw (-m) x0 m = b0
  have H0 := Lib.hid h0; clear h0
  generalize h1 : btw (-m) x1 m = b1
  have H1 := Lib.hid h1; clear h1
  generalize h2 : btw (-m) x2 m = b2
  have H2 := Lib.hid h2; clear h2
  go_enter Tryz.func94, Tryz.ntmps94
  go_wp2
  refine wp_loop_rounds 4 ?_
  iterate 4 (all_goals (try (rw [rounds_succ]; go_wp2_with (go_at_call 95; refine (inRange_any _ _ _ (by omega)).mono ?_; go_must (rintro e w1 ⟨rfl, rfl⟩; first | rw [H0.out] | rw [H1.out] | rw [H2.out])))))
  all_goals
    go_ret
    refine ⟨ret_bool ?_, by repeat (first | exact Below.refl _ _ | assumption | (refine Below.drew ?_) | (refine below_drewN ?_ _) | (refine Below.alloc ?_ (by first | (simp; done) | (simp; omega) | omega) _) | (refine Below.setCell ?_ (by first | (simp; done) | (simp; omega) | omega) _) | (refine Below.trans ?_ (Below.mono (by assumption) (by first | (simp; done) | (simp; omega) | omega))))⟩
    have e0 := H0.out; have e1 := H1.out; have e2 := H2.out
    clear H0 H1 H2
    simp_all [flatB] <;> omega
set_option maxHeartbeats 4000000 in
theorem rFlat_l (n x0 x1 x2 m : Int) (hn : 1 ≤ n) (hm : 0 ≤ m ∧ m ≤ 1000) (w : World) :
    Calls Tryz.prog 155 #[.agg #[.int .i64 x0, .int .i64 x1, .int .i64 x2], .int .i64 n, .int .i64 m] w fun e w' => e = .returned (.bool (flatB n x0 x1 x2 m)) ∧ Below w.heap.size w w' := by
  go_enter Tryz.func155, Tryz.ntmps155
  go_wp2_with (go_at_call 94; refine (rflat_l _ _ _ _ _ hn hm _).mono ?_; go_must (rintro e w1 ⟨rfl, hb1⟩))
  go_ret
  exact ⟨rfl, by repeat (first | exact Below.refl _ _ | assumption | (refine Below.drew ?_) | (refine below_drewN ?_ _) | (refine Below.alloc ?_ (by first | (simp; done) | (simp; omega) | omega) _) | (refine Below.setCell ?_ (by first | (simp; done) | (simp; omega) | omega) _) | (refine Below.trans ?_ (Below.mono (by assumption) (by first | (simp; done) | (simp; omega) | omega))))⟩
def farI (n i : Int) : Int := if i < n then 20 else 0
set_option maxHeartbeats 4000000 in
theorem rfar_l (n i : Int) (v : Value) (w : World) :
    Calls Tryz.prog 87 #[.agg #[.int .i64 n, v], .int .i64 i] w fun e w' => e = .returned (.int .i64 (farI n i)) ∧ Below w.heap.size w w' := by
  unfold farI
  by_cases h : i < n
  all_goals
    go_enter Tryz.func87, Tryz.ntmps87
    go_wp2
    go_ret
    exact ⟨ret_int (by first | rfl | simp [h]), by repeat (first | exact Below.refl _ _ | assumption | (refine Below.drew ?_) | (refine below_drewN ?_ _) | (refine Below.alloc ?_ (by first | (simp; done) | (simp; omega) | omega) _) | (refine Below.setCell ?_ (by first | (simp; done) | (simp; omega) | omega) _) | (refine Below.trans ?_ (Below.mono (by assumption) (by first | (simp; done) | (simp; omega) | omega))))⟩
set_option maxHeartbeats 4000000 in
set_option maxRecDepth 100000 in
theorem rhas_l (n : Int) (l : List IneqD) (p : P3) (hn : 1 ≤ n ∧ n ≤ 3) (hq : ∀ q ∈ l, SmQ q) (w : World) (v : Value) (hv : SlOf w w.heap.size 4 encI v l) :
    Calls Tryz.prog 88 #[.agg #[.int .i64 n, v], .agg #[.int .i64 p.1, .int .i64 p.2.1, .int .i64 p.2.2]] w fun e w' => e = .returned (.bool (flatB n p.1 p.2.1 p.2.2 20 && holdsB l p 1)) ∧ Below w.heap.size w w' := by
  obtain ⟨a, cap, g, off, rfl, hlc, hcm, hx⟩ := SlOf.at (enc := encI) (fun _ => rfl) un_h1 sz_h1 hv
  have HX := Lib.hid hx; clear hx hv
  have HQ := Lib.hid hq; clear hq
  unfold maxLen at hcm
  obtain ⟨hn1, hn3⟩ := hn
  obtain ⟨p0, p1, p2⟩ := p
  simp only
  cases hf : flatB n p0 p1 p2 20
  · have HF := Lib.hid hf; clear hf
    go_enter Tryz.func88, Tryz.ntmps88
    go_wp2_with (go_at_call 94; refine (rflat_l _ _ _ _ _ hn1 (by omega) _).mono ?_; go_must (rintro e w1 ⟨rfl, hb1⟩; rw [HF.out]))
    go_ret
    exact ⟨by simp, by repeat (first | exact Below.refl _ _ | assumption | (refine Below.drew ?_) | (refine below_drewN ?_ _) | (refine Below.alloc ?_ (by first | (simp; done) | (simp; omega) | omega) _) | (refine Below.setCell ?_ (by first | (simp; done) | (simp; omega) | omega) _) | (refine Below.trans ?_ (Below.mono (by assumption) (by first | (simp; done) | (simp; omega) | omega))))⟩
  have HF := Lib.hid hf
  have HP := Lib.hid (flatB_sm hf)
  clear hf
  go_enter Tryz.func88, Tryz.ntmps88
  go_wp2_with (go_at_call 94; refine (rflat_l _ _ _ _ _ hn1 (by omega) _).mono ?_; go_must (rintro e w1 ⟨rfl, hb1⟩; rw [HF.out]; obtain ⟨hc1, hf1⟩ := bcell hb1; have hz1 := hb1.size; (try simp at hz1); (first | have z := z10 hz1 | have z := z9 hz1 | have z := z8 hz1 | have z := z7 hz1 | have z := z6 hz1 | have z := z5 hz1 | have z := z4 hz1 | have z := z3 hz1 | have z := z2 hz1 | have z := z1 hz1 | skip)))
  have y0 : w1.cell? ⟨w.heap.size + 1, 0, none⟩ = some (.int .i64 p0) := (hb1.cell (p := ⟨w.heap.size + 1, 0, none⟩) (by simp)).trans (by go_simp)
  have y1 : w1.cell? ⟨w.heap.size + 1, 1, none⟩ = some (.int .i64 p1) := (hb1.cell (p := ⟨w.heap.size + 1, 1, none⟩) (by simp)).trans (by go_simp)
  have y2 : w1.cell? ⟨w.heap.size + 1, 2, none⟩ = some (.int .i64 p2) := (hb1.cell (p := ⟨w.heap.size + 1, 2, none⟩) (by simp)).trans (by go_simp)
  have kw : Below w.heap.size w w1 := (show Below w.heap.size w ((w.alloc (Obj.cells #[.int .i64 n, .slice a l.length cap] 24)).alloc (Obj.cells #[.int .i64 p0, .int .i64 p1, .int .i64 p2] 29)) from (by repeat (first | exact Below.refl _ _ | assumption | (refine Below.drew ?_) | (refine below_drewN ?_ _) | (refine Below.alloc ?_ (by first | (simp; done) | (simp; omega) | omega) _) | (refine Below.setCell ?_ (by first | (simp; done) | (simp; omega) | omega) _) | (refine Below.trans ?_ (Below.mono (by assumption) (by first | (simp; done) | (simp; omega) | omega)))))).trans (hb1.mono (by simp; omega))
  have ks : w.heap.size + 2 ≤ w1.heap.size := by have := hb1.size; simp at this; omega
  clear hb1 hc1 hf1 z
  go_loopw [15] (fun i wr => ∃ k : Nat, k ≤ l.length ∧ i = .int .i64 (k : Nat) ∧ (∀ j (h : j < l.length), j < k → holdQ (p0, p1, p2) 1 l[j] = true) ∧ Below w1.heap.size w1 wr) (fun i _ => l.length - (intOf i).toNat)
  case atStart => exact ⟨0, Nat.zero_le _, rfl, fun j _ h => absurd h (by omega), Below.refl _ _⟩
  case round =>
    obtain ⟨k, hk, rfl, hno, hb⟩ := hrel
    have HNO := Lib.hid hno; clear hno
    by_cases hlt : k < l.length
    rotate_left
    · go_wp2
      go_ret
      refine ⟨ret_bool ?_, kw.trans (hb.mono (by omega))⟩
      have : holdsB l (p0, p1, p2) 1 = true := List.all_eq_true.2 (fun c hc => by
        obtain ⟨j, hj, rfl⟩ := List.getElem_of_mem hc
        exact HNO.out j hj (by omega))
      rw [this]; rfl
    obtain ⟨-, hi, hg, hc⟩ := HX.out k hlt
    have rd := fun j hj => (hb.cell (p := ⟨g, off + 4 * k + j, none⟩) (by simp; omega)).trans ((kw.cell (p := ⟨g, off + 4 * k + j, none⟩) hg).trans (hc j hj))
    clear hc
    have x0 := (hb.cell (p := ⟨w.heap.size + 1, 0, none⟩) (by simp; omega)).trans y0
    have x1 := (hb.cell (p := ⟨w.heap.size + 1, 1, none⟩) (by simp; omega)).trans y1
    have x2 := (hb.cell (p := ⟨w.heap.size + 1, 2, none⟩) (by simp; omega)).trans y2
    have hqk := HQ.out l[k] (List.getElem_mem hlt)
    have HK := Lib.hid (show holdQ (p0, p1, p2) 1 l[k] = decide (l[k].a.1 * p0 + l[k].a.2.1 * p1 + l[k].a.2.2 * p2 ≤ l[k].b) by simp [holdQ, dot3])
    have m0 := mul_bd hqk.1.1 HP.out.1
    have m1 := mul_bd hqk.1.2.1 HP.out.2.1
    have m2 := mul_bd hqk.1.2.2 HP.out.2.2
    have hb2 := hqk.2
    have HL := Lib.hid (show ∀ (h : holdQ (p0, p1, p2) 1 l[k] = false), holdsB l (p0, p1, p2) 1 = false from fun h => by
      rw [← Bool.not_eq_true]
      intro h2
      have := List.all_eq_true.1 h2 _ (List.getElem_mem hlt)
      rw [h] at this; cases this)
    have HN2 := Lib.hid (show holdQ (p0, p1, p2) 1 l[k] = true → ∀ j (h : j < l.length), j < k + 1 → holdQ (p0, p1, p2) 1 l[j] = true from fun h j h1 h2 => by
      by_cases he : j = k
      · subst he; exact h
      · exact HNO.out j h1 (by omega))
    clear hqk HNO
    generalize l[k] = q at *
    obtain ⟨⟨q0, q1, q2⟩, qb⟩ := q
    simp only at m0 m1 m2 hb2 HK
    have r0 : wr.cell? ⟨g, off + 4 * k, none⟩ = some (.int .i64 q0) := rd 0 (by omega)
    have r1 : wr.cell? ⟨g, off + 4 * k + 1, none⟩ = some (.int .i64 q1) := rd 1 (by omega)
    have r2 : wr.cell? ⟨g, off + 4 * k + 2, none⟩ = some (.int .i64 q2) := rd 2 (by omega)
    have r3 : wr.cell? ⟨g, off + 4 * k + 3, none⟩ = some (.int .i64 qb) := rd 3 (by omega)
    clear rd y0 y1 y2
    have EX : ∃ W : World, wr.alloc (Obj.cells #[.int .i64 q0, .int .i64 q1, .int .i64 q2, .int .i64 qb] 174) = W := ⟨_, rfl⟩
    by_cases hle : q0 * p0 + q1 * p1 + q2 * p2 ≤ qb
    all_goals
      go_wp2
      obtain ⟨W, hW⟩ := EX
      have KW := Lib.hid (show Below wr.heap.size wr W by rw [← hW]; exact (by repeat (first | exact Below.refl _ _ | assumption | (refine Below.drew ?_) | (refine below_drewN ?_ _) | (refine Below.alloc ?_ (by first | (simp; done) | (simp; omega) | omega) _) | (refine Below.setCell ?_ (by first | (simp; done) | (simp; omega) | omega) _) | (refine Below.trans ?_ (Below.mono (by assumption) (by first | (simp; done) | (simp; omega) | omega))))))
      have kz : W.heap.size = wr.heap.size + 1 := by rw [← hW]; simp
      have v0 : W.cell? ⟨wr.heap.size, 0, none⟩ = some (.int .i64 q0) := by subst hW; go_simp
      have v1 : W.cell? ⟨wr.heap.size, 1, none⟩ = some (.int .i64 q1) := by subst hW; go_simp
      have v2 : W.cell? ⟨wr.heap.size, 2, none⟩ = some (.int .i64 q2) := by subst hW; go_simp
      have v3 : W.cell? ⟨wr.heap.size, 3, none⟩ = some (.int .i64 qb) := by subst hW; go_simp
      have hzr := hb.size
      have u0 := (KW.out.cell (p := ⟨w.heap.size + 1, 0, none⟩) (by simp; omega)).trans x0
      have u1 := (KW.out.cell (p := ⟨w.heap.size + 1, 1, none⟩) (by simp; omega)).trans x1
      have u2 := (KW.out.cell (p := ⟨w.heap.size + 1, 2, none⟩) (by simp; omega)).trans x2
      rw [hW]
      have g1 : w.heap.size + 1 < W.heap.size := by omega
      have g2 : wr.heap.size < W.heap.size := by omega
      clear hW x0 x1 x2 r0 r1 r2 r3 hi
      go_region_held3 (fun w' => Below W.heap.size W w' ∧ w'.cell? ⟨wr.heap.size, 0, none⟩ = some (.int .i64 q0) ∧ w'.cell? ⟨wr.heap.size, 1, none⟩ = some (.int .i64 q1) ∧ w'.cell? ⟨wr.heap.size, 2, none⟩ = some (.int .i64 q2) ∧ w'.cell? ⟨wr.heap.size, 3, none⟩ = some (.int .i64 qb) ∧ w'.cell? ⟨w.heap.size + 1, 0, none⟩ = some (.int .i64 p0) ∧ w'.cell? ⟨w.heap.size + 1, 1, none⟩ = some (.int .i64 p1) ∧ w'.cell? ⟨w.heap.size + 1, 2, none⟩ = some (.int .i64 p2)) (((refine (fun kb => ⟨kb, (kb.cell (p := ⟨wr.heap.size, 0, none⟩) g2).trans v0, (kb.cell (p := ⟨wr.heap.size, 1, none⟩) g2).trans v1, (kb.cell (p := ⟨wr.heap.size, 2, none⟩) g2).trans v2, (kb.cell (p := ⟨wr.heap.size, 3, none⟩) g2).trans v3, (kb.cell (p := ⟨w.heap.size + 1, 0, none⟩) g1).trans u0, (kb.cell (p := ⟨w.heap.size + 1, 1, none⟩) g1).trans u1, (kb.cell (p := ⟨w.heap.size + 1, 2, none⟩) g1).trans u2⟩) (?_ : Below W.heap.size W _)); exact (by repeat (first | exact Below.refl _ _ | assumption | (refine Below.drew ?_) | (refine below_drewN ?_ _) | (refine Below.alloc ?_ (by first | (simp; done) | (simp; omega) | omega) _) | (refine Below.setCell ?_ (by first | (simp; done) | (simp; omega) | omega) _) | (refine Below.trans ?_ (Below.mono (by assumption) (by first | (simp; done) | (simp; omega) | omega))))))) (first | (go_at_call 137; refine (rdot_l _ _ _ _ _ _ (by omega) (by omega) (by omega) _).mono ?_; go_must (rintro e w2 ⟨rfl, hb2⟩)))
      go_wp2
    · go_roundw
      case rel =>
        refine ⟨k + 1, hlt, by simp, HN2.out ?_, hb.trans ((KW.out.trans ((show Below W.heap.size W w2 from (by repeat (first | exact Below.refl _ _ | assumption | (refine Below.drew ?_) | (refine below_drewN ?_ _) | (refine Below.alloc ?_ (by first | (simp; done) | (simp; omega) | omega) _) | (refine Below.setCell ?_ (by first | (simp; done) | (simp; omega) | omega) _) | (refine Below.trans ?_ (Below.mono (by assumption) (by first | (simp; done) | (simp; omega) | omega)))))).mono (by omega))).mono hzr)⟩
        rw [HK.out]; exact decide_eq_true hle
      case measure => simp only [intOf]; omega
    · go_ret
      refine ⟨ret_bool ?_, kw.trans ((hb.trans ((KW.out.trans ((show Below W.heap.size W w2 from (by repeat (first | exact Below.refl _ _ | assumption | (refine Below.drew ?_) | (refine below_drewN ?_ _) | (refine Below.alloc ?_ (by first | (simp; done) | (simp; omega) | omega) _) | (refine Below.setCell ?_ (by first | (simp; done) | (simp; omega) | omega) _) | (refine Below.trans ?_ (Below.mono (by assumption) (by first | (simp; done) | (simp; omega) | omega)))))).mono (by omega))).mono hzr)).mono (by omega))⟩
      have : holdsB l (p0, p1, p2) 1 = false := HL.out (by rw [HK.out]; exact decide_eq_false (by omega))
      rw [this]; rfl
set_option maxHeartbeats 4000000 in
set_option maxRecDepth 100000 in
theorem rValidD_l (n : Int) (l : List IneqD) (w : World) (v : Value) (hv : SlOf w w.heap.size 4 encI v l) :
    Calls Tryz.prog 44 #[.agg #[.int .i64 n, v]] w fun e w' => e = .returned (.bool (validD n l)) ∧ Below w.heap.size w w' := by
  obtain ⟨a, cap, g, off, rfl, hlc, hcm, hx⟩ := SlOf.at (enc := encI) (fun _ => rfl) un_h1 sz_h1 hv
  have HX := Lib.hid hx; clear hx hv
  unfold maxLen at hcm
  have EV := Lib.hid (show validD n l = (btw 1 n 3 && decide (l.length ≤ 6) && l.all (rngQ n)) from rfl)
  by_cases h1 : 1 ≤ n
  rotate_left
  · have EV2 := Lib.hid (show validD n l = false by rw [EV.out]; simp [btw, h1])
    go_enter Tryz.func44, Tryz.ntmps44
    go_wp2_with fail
    go_ret
    exact ⟨ret_bool EV2.out.symm, by repeat (first | exact Below.refl _ _ | assumption | (refine Below.drew ?_) | (refine below_drewN ?_ _) | (refine Below.alloc ?_ (by first | (simp; done) | (simp; omega) | omega) _) | (refine Below.setCell ?_ (by first | (simp; done) | (simp; omega) | omega) _) | (refine Below.trans ?_ (Below.mono (by assumption) (by first | (simp; done) | (simp; omega) | omega))))⟩
  by_cases h3 : n ≤ 3
  rotate_left
  · have EV2 := Lib.hid (show validD n l = false by rw [EV.out]; simp [btw, h3])
    go_enter Tryz.func44, Tryz.ntmps44
    go_wp2_with fail
    go_ret
    exact ⟨ret_bool EV2.out.symm, by repeat (first | exact Below.refl _ _ | assumption | (refine Below.drew ?_) | (refine below_drewN ?_ _) | (refine Below.alloc ?_ (by first | (simp; done) | (simp; omega) | omega) _) | (refine Below.setCell ?_ (by first | (simp; done) | (simp; omega) | omega) _) | (refine Below.trans ?_ (Below.mono (by assumption) (by first | (simp; done) | (simp; omega) | omega))))⟩
  by_cases h6 : l.length ≤ 6
  rotate_left
  · have EV2 := Lib.hid (show validD n l = false by rw [EV.out]; simp [h6])
    go_enter Tryz.func44, Tryz.ntmps44
    go_wp2_with fail
    go_ret
    exact ⟨ret_bool EV2.out.symm, by repeat (first | exact Below.refl _ _ | assumption | (refine Below.drew ?_) | (refine below_drewN ?_ _) | (refine Below.alloc ?_ (by first | (simp; done) | (simp; omega) | omega) _) | (refine Below.setCell ?_ (by first | (simp; done) | (simp; omega) | omega) _) | (refine Below.trans ?_ (Below.mono (by assumption) (by first | (simp; done) | (simp; omega) | omega))))⟩
  have EV3 := Lib.hid (show validD n l = l.all (rngQ n) by rw [EV.out]; simp [btw, h1, h3, h6])
  clear EV
  go_enter Tryz.func44, Tryz.ntmps44
  go_wp2_with fail
  go_loopw [22] (fun i wr => ∃ k : Nat, k ≤ l.length ∧ i = .int .i64 (k : Nat) ∧ (∀ j (h : j < l.length), j < k → rngQ n l[j] = true) ∧ Below (w.heap.size + 1) (w.alloc (Obj.cells #[.int .i64 n, .slice a l.length cap] 24)) wr) (fun i _ => l.length - (intOf i).toNat)
  case atStart => exact ⟨0, Nat.zero_le _, rfl, fun j _ h => absurd h (by omega), Below.refl _ _⟩
  case round =>
    obtain ⟨k, hk, rfl, hno, hb⟩ := hrel
    have HNO := Lib.hid hno; clear hno
    have kw : Below w.heap.size w wr := (show Below w.heap.size w (w.alloc (Obj.cells #[.int .i64 n, .slice a l.length cap] 24)) from (by repeat (first | exact Below.refl _ _ | assumption | (refine Below.drew ?_) | (refine below_drewN ?_ _) | (refine Below.alloc ?_ (by first | (simp; done) | (simp; omega) | omega) _) | (refine Below.setCell ?_ (by first | (simp; done) | (simp; omega) | omega) _) | (refine Below.trans ?_ (Below.mono (by assumption) (by first | (simp; done) | (simp; omega) | omega)))))).trans (hb.mono (by omega))
    have hzr := hb.size
    simp at hzr
    have hzz := z1 hzr
    by_cases hlt : k < l.length
    rotate_left
    · go_wp2
      go_ret
      refine ⟨ret_bool ?_, kw⟩
      rw [EV3.out]
      exact (List.all_eq_true.2 (fun c hc => by
        obtain ⟨j, hj, rfl⟩ := List.getElem_of_mem hc
        exact HNO.out j hj (by omega))).symm
    obtain ⟨-, hi, hg, hc⟩ := HX.out k hlt
    have rd := fun j hj => (kw.cell (p := ⟨g, off + 4 * k + j, none⟩) hg).trans (hc j hj)
    clear hc
    have x0 := (hb.cell (p := ⟨w.heap.size, 0, none⟩) (by simp)).trans (show _ = some (.int .i64 n) by go_simp)
    have HL := Lib.hid (show ∀ (h : rngQ n l[k] = false), validD n l = false from fun h => by
      rw [EV3.out, ← Bool.not_eq_true]
      intro h2
      have := List.all_eq_true.1 h2 _ (List.getElem_mem hlt)
      rw [h] at this; cases this)
    have HN2 := Lib.hid (show rngQ n l[k] = true → ∀ j (h : j < l.length), j < k + 1 → rngQ n l[j] = true from fun h j h1 h2 => by
      by_cases he : j = k
      · subst he; exact h
      · exact HNO.out j h1 (by omega))
    clear HNO
    have HQ := Lib.hid (show rngQ n l[k] = (flatB n l[k].a.1 l[k].a.2.1 l[k].a.2.2 20 && btw (-1000) l[k].b 1000) from rfl)
    generalize l[k] = q at *
    obtain ⟨⟨q0, q1, q2⟩, qb⟩ := q
    have r0 : wr.cell? ⟨g, off + 4 * k, none⟩ = some (.int .i64 q0) := rd 0 (by omega)
    have r1 : wr.cell? ⟨g, off + 4 * k + 1, none⟩ = some (.int .i64 q1) := rd 1 (by omega)
    have r2 : wr.cell? ⟨g, off + 4 * k + 2, none⟩ = some (.int .i64 q2) := rd 2 (by omega)
    have r3 : wr.cell? ⟨g, off + 4 * k + 3, none⟩ = some (.int .i64 qb) := rd 3 (by omega)
    clear rd
    cases hfb : flatB n q0 q1 q2 20
    · have HFB := Lib.hid hfb; clear hfb
      go_wp2_with (first | (go_at_call 94; refine (rflat_l _ _ _ _ _ h1 (by omega) _).mono ?_; go_must (rintro e w1 ⟨rfl, hb1⟩; rw [HFB.out]; obtain ⟨hc1, hf1⟩ := bcell hb1; have hz1 := hb1.size; (try simp at hz1); (first | have z := z10 hz1 | have z := z9 hz1 | have z := z8 hz1 | have z := z7 hz1 | have z := z6 hz1 | have z := z5 hz1 | have z := z4 hz1 | have z := z3 hz1 | have z := z2 hz1 | have z := z1 hz1 | skip))))
      go_ret
      exact ⟨ret_bool (HL.out (by rw [HQ.out]; show (flatB n q0 q1 q2 20 && btw (-1000) qb 1000) = _; rw [HFB.out]; rfl)).symm, below_at kw (by omega) (by repeat (first | exact Below.refl _ _ | assumption | (refine Below.drew ?_) | (refine below_drewN ?_ _) | (refine Below.alloc ?_ (by first | (simp; done) | (simp; omega) | omega) _) | (refine Below.setCell ?_ (by first | (simp; done) | (simp; omega) | omega) _) | (refine Below.trans ?_ (Below.mono (by assumption) (by first | (simp; done) | (simp; omega) | omega)))))⟩
    have HFB := Lib.hid hfb; clear hfb
    cases hbb : btw (-1000) qb 1000
    · have HBB := Lib.hid hbb; clear hbb
      go_wp2_with (first | (go_at_call 94; refine (rflat_l _ _ _ _ _ h1 (by omega) _).mono ?_; go_must (rintro e w1 ⟨rfl, hb1⟩; rw [HFB.out]; obtain ⟨hc1, hf1⟩ := bcell hb1; have hz1 := hb1.size; (try simp at hz1); (first | have z := z10 hz1 | have z := z9 hz1 | have z := z8 hz1 | have z := z7 hz1 | have z := z6 hz1 | have z := z5 hz1 | have z := z4 hz1 | have z := z3 hz1 | have z := z2 hz1 | have z := z1 hz1 | skip))) | (go_at_call 95; refine (inRange_any _ _ _ (by omega)).mono ?_; go_must (rintro e w2 ⟨rfl, rfl⟩; rw [HBB.out])))
      go_ret
      exact ⟨ret_bool (HL.out (by rw [HQ.out]; show (flatB n q0 q1 q2 20 && btw (-1000) qb 1000) = _; rw [HFB.out, HBB.out]; rfl)).symm, below_at kw (by omega) (by repeat (first | exact Below.refl _ _ | assumption | (refine Below.drew ?_) | (refine below_drewN ?_ _) | (refine Below.alloc ?_ (by first | (simp; done) | (simp; omega) | omega) _) | (refine Below.setCell ?_ (by first | (simp; done) | (simp; omega) | omega) _) | (refine Below.trans ?_ (Below.mono (by assumption) (by first | (simp; done) | (simp; omega) | omega)))))⟩
    have HBB := Lib.hid hbb; clear hbb
    go_wp2_with (first | (go_at_call 94; refine (rflat_l _ _ _ _ _ h1 (by omega) _).mono ?_; go_must (rintro e w1 ⟨rfl, hb1⟩; rw [HFB.out]; obtain ⟨hc1, hf1⟩ := bcell hb1; have hz1 := hb1.size; (try simp at hz1); (first | have z := z10 hz1 | have z := z9 hz1 | have z := z8 hz1 | have z := z7 hz1 | have z := z6 hz1 | have z := z5 hz1 | have z := z4 hz1 | have z := z3 hz1 | have z := z2 hz1 | have z := z1 hz1 | skip))) | (go_at_call 95; refine (inRange_any _ _ _ (by omega)).mono ?_; go_must (rintro e w2 ⟨rfl, rfl⟩; rw [HBB.out])))
    go_roundw
    case rel => exact ⟨k + 1, hlt, by simp, HN2.out (by rw [HQ.out]; show (flatB n q0 q1 q2 20 && btw (-1000) qb 1000) = _; rw [HFB.out, HBB.out]; rfl), below_at hb (by omega) (by repeat (first | exact Below.refl _ _ | assumption | (refine Below.drew ?_) | (refine below_drewN ?_ _) | (refine Below.alloc ?_ (by first | (simp; done) | (simp; omega) | omega) _) | (refine Below.setCell ?_ (by first | (simp; done) | (simp; omega) | omega) _) | (refine Below.trans ?_ (Below.mono (by assumption) (by first | (simp; done) | (simp; omega) | omega)))))⟩
    case measure => simp only [intOf]; omega
end Go.Proofs.YtnejicklenhpeaaGreat
