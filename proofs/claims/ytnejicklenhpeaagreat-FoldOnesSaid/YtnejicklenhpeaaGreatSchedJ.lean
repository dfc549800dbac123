/- Whether a schedule is legal, and the delays: the program's checked, legal, Legal, Delays and the reference's Asked, IsLegal: their walks. The error of a recurrence and a schedule; Legal and Delays; the reference's Asked: their walks. Conditions: none. -/
import Derived.Test.YtnejicklenhpeaaGreatSchedH
import Derived.Test.YtnejicklenhpeaaGreatSchedG
namespace Go.Proofs.YtnejicklenhpeaaGreat
open Go.RowKit
set_option linter.unusedVariables false
theorem lg11_l (x : Int) (w : World) : Calls Tryz.prog 172 #[.int .i64 x] w fun e w' => e = .returned (.bool (decide (x < 1))) ∧ Below w.heap.size w w' := by
  by_cases h : x < 1
  · have H := Lib.hid (show decide (x < 1) = true by simp [h])
    go_enter Tryz.func172, Tryz.ntmps172
    go_wp2
    go_ret
    exact ⟨ret_bool H.out.symm, by repeat (first | exact Below.refl _ _ | assumption | (refine Below.drew ?_) | (refine below_drewN ?_ _) | (refine Below.alloc ?_ (by first | (simp; done) | (simp; omega) | omega) _) | (refine Below.setCell ?_ (by first | (simp; done) | (simp; omega) | omega) _) | (refine Below.trans ?_ (Below.mono (by assumption) (by first | (simp; done) | (simp; omega) | omega))))⟩
  · have H := Lib.hid (show decide (x < 1) = false by simp [h])
    go_enter Tryz.func172, Tryz.ntmps172
    go_wp2
    go_ret
    exact ⟨ret_bool H.out.symm, by repeat (first | exact Below.refl _ _ | assumption | (refine Below.drew ?_) | (refine below_drewN ?_ _) | (refine Below.alloc ?_ (by first | (simp; done) | (simp; omega) | omega) _) | (refine Below.setCell ?_ (by first | (simp; done) | (simp; omega) | omega) _) | (refine Below.trans ?_ (Below.mono (by assumption) (by first | (simp; done) | (simp; omega) | omega))))⟩
theorem sz_lg (W : World) : (sizeOf (Tryz.prog.elem 39)).run Tryz.prog W = .ok 1 W := by kernel_rfl
theorem un_lg : Tryz.prog.underlying 39 = some (.slice (Tryz.prog.elem 39)) := by kernel_rfl
set_option maxHeartbeats 4000000 in
set_option maxRecDepth 100000 in
theorem idx_lg  (l : List Int) (p : Int → Bool) (w : World) (v : Value) (hv : SlOf w w.heap.size 1 encInt v l)
    (hf : ∀ q ∈ l, ∀ W, Below w.heap.size w W → Calls Tryz.prog 172 #[.int .i64 q] W fun e W' => e = .returned (.bool (p q)) ∧ Below W.heap.size W W') :
    Calls Tryz.prog 212 #[v, .func (.func 172) #[] #[]] w fun e w' => (∃ z : Int, e = .returned (.int .i64 z) ∧ decide (0 ≤ z) = l.any p) ∧ Below w.heap.size w w' := by
  obtain ⟨a, cap, g, off, rfl, hlc, hcm, hx⟩ := SlOf.at (enc := encInt) (fun _ => rfl) un_lg sz_lg hv
  have HX := Lib.hid hx; clear hx hv
  have HF := Lib.hid hf; clear hf
  unfold maxLen at hcm
  go_enter Tryz.func212, Tryz.ntmps212
  go_wp2
  go_loopw [8] (fun i wr => ∃ k : Nat, k ≤ l.length ∧ i = .int .i64 (k : Nat) ∧ (∀ j (h : j < l.length), j < k → p l[j] = false) ∧ Below w.heap.size w wr) (fun i _ => l.length - (intOf i).toNat)
  case atStart => exact ⟨0, Nat.zero_le _, rfl, fun j _ h => absurd h (by omega), Below.refl _ _⟩
  case round =>
    obtain ⟨k, hk, rfl, hno, hb⟩ := hrel
    have HNO := Lib.hid hno; clear hno
    by_cases hlt : k < l.length
    rotate_left
    · go_wp2
      go_ret
      refine ⟨⟨-1, rfl, ?_⟩, hb⟩
      have : l.any p = false := List.any_eq_false.2 (fun c hc => by
        obtain ⟨j, hj, rfl⟩ := List.getElem_of_mem hc
        rw [HNO.out j hj (by omega)]
        simp)
      rw [this]; rfl
    obtain ⟨-, hi, hg, hc⟩ := HX.out k hlt
    have rd := fun j hj => (hb.cell (p := ⟨g, off + 1 * k + j, none⟩) hg).trans (hc j hj)
    clear hc
    have HFK := Lib.hid (HF.out l[k] (List.getElem_mem hlt) wr hb)
    cases hbd : p l[k]
    · have HBD := Lib.hid hbd; clear hbd
      have HFK2 := Lib.hid (HBD.out ▸ HFK.out); clear HFK
      generalize l[k] = q at HFK2 rd
      skip
      have r0 : wr.cell? ⟨g, off + k, none⟩ = some (.int .i64 q) := by have := rd 0 (by omega); simpa [encInt] using this
      simp only [Nat.one_mul] at hi
      clear rd
      go_wp2_with (go_at_call 172; refine HFK2.out.mono ?_; go_must (rintro e w1 ⟨rfl, hb1⟩))
      go_roundw
      case rel =>
        refine ⟨k + 1, hlt, by simp, fun j h hj => ?_, hb.trans (hb1.mono hb.size)⟩
        by_cases he : j = k
        · subst he; exact HBD.out
        · exact HNO.out j h (by omega)
      case measure => simp only [intOf]; omega
    · have HBD := Lib.hid hbd; clear hbd
      have HFK2 := Lib.hid (HBD.out ▸ HFK.out); clear HFK
      generalize l[k] = q at HFK2 rd
      skip
      have r0 : wr.cell? ⟨g, off + k, none⟩ = some (.int .i64 q) := by have := rd 0 (by omega); simpa [encInt] using this
      simp only [Nat.one_mul] at hi
      clear rd
      go_wp2_with (go_at_call 172; refine HFK2.out.mono ?_; go_must (rintro e w1 ⟨rfl, hb1⟩))
      go_ret
      refine ⟨⟨(k : Int), rfl, ?_⟩, hb.trans (hb1.mono hb.size)⟩
      have : l.any p = true := List.any_eq_true.2 ⟨_, List.getElem_mem hlt, HBD.out⟩
      rw [this]; simp
set_option maxHeartbeats 4000000 in
theorem con_lg  (l : List Int) (p : Int → Bool) (w : World) (v : Value) (hv : SlOf w w.heap.size 1 encInt v l)
    (hf : ∀ q ∈ l, ∀ W, Below w.heap.size w W → Calls Tryz.prog 172 #[.int .i64 q] W fun e W' => e = .returned (.bool (p q)) ∧ Below W.heap.size W W') :
    Calls Tryz.prog 171 #[v, .func (.func 172) #[] #[]] w fun e w' => e = .returned (.bool (l.any p)) ∧ Below w.heap.size w w' := by
  have H := Lib.hid ((idx_lg (l := l) (p := p) (w := w) (v := v) (hv := hv) (hf := hf)))
  clear hv hf
  go_enter Tryz.func171, Tryz.ntmps171
  go_wp2_with (go_at_call 212; refine H.out.mono ?_; clear H; go_must (rintro e w1 ⟨⟨z, rfl, hz⟩, hb1⟩; have HZ := Lib.hid hz; clear hz))
  go_ret
  exact ⟨ret_bool HZ.out, hb1⟩
def lowB (l : List Int) : Bool := l.any (fun x => decide (x < 1))
set_option maxHeartbeats 4000000 in
theorem lg1_l (l : List Int) (w : World) (v : Value) (hv : SlOf w w.heap.size 1 encInt v l) : Calls Tryz.prog 170 #[v] w fun e w' => e = .returned (.bool (lowB l)) ∧ Below w.heap.size w w' := by
  have H := Lib.hid (con_lg l (fun x => decide (x < 1)) w v hv (fun q _ W _ => lg11_l q W))
  have HB := Lib.hid (show (l.any (fun x => decide (x < 1))) = lowB l from rfl)
  rw [HB.out] at H
  clear HB hv
  generalize lowB l = R at *
  go_enter Tryz.func170, Tryz.ntmps170
  go_wp2_with (go_at_call 171; refine H.out.mono ?_; clear H; go_must (rintro e w1 ⟨rfl, hb1⟩))
  go_ret
  exact ⟨rfl, hb1⟩
theorem sz_ri (W : World) : (sizeOf (Tryz.prog.elem 171)).run Tryz.prog W = .ok 1 W := by kernel_rfl
theorem un_ri : Tryz.prog.underlying 171 = some (.slice (Tryz.prog.elem 171)) := by kernel_rfl
set_option maxHeartbeats 4000000 in
set_option maxRecDepth 100000 in
theorem idx_rw (ll : List (List Int)) (w : World) (v : Value) (hv : RowsSl w 1 encInt v ll) :
    Calls Tryz.prog 227 #[v, .func (.func 170) #[] #[]] w fun e w' => (∃ z : Int, e = .returned (.int .i64 z) ∧ decide (0 ≤ z) = ll.any lowB) ∧ Below w.heap.size w w' := by
  obtain ⟨a, cap, g, off, rfl, hlc, hcm, hx⟩ := RowsSl.at un_ri sz_ri hv
  have HX := Lib.hid hx; clear hx hv
  have HF := Lib.hid (fun (l : List Int) (W : World) (v : Value) (h : SlOf W W.heap.size 1 encInt v l) => lg1_l l W v h)
  unfold maxLen at hcm
  go_enter Tryz.func227, Tryz.ntmps227
  go_wp2
  go_loopw [8] (fun i wr => ∃ k : Nat, k ≤ ll.length ∧ i = .int .i64 (k : Nat) ∧ (∀ j (h : j < ll.length), j < k → lowB ll[j] = false) ∧ Below w.heap.size w wr) (fun i _ => ll.length - (intOf i).toNat)
  case atStart => exact ⟨0, Nat.zero_le _, rfl, fun j _ h => absurd h (by omega), Below.refl _ _⟩
  case round =>
    obtain ⟨k, hk, rfl, hno, hb⟩ := hrel
    have HNO := Lib.hid hno; clear hno
    by_cases hlt : k < ll.length
    rotate_left
    · go_wp2
      go_ret
      refine ⟨⟨-1, rfl, ?_⟩, hb⟩
      have : ll.any lowB = false := List.any_eq_false.2 (fun c hc => by
        obtain ⟨j, hj, rfl⟩ := List.getElem_of_mem hc
        rw [HNO.out j hj (by omega)]
        simp)
      rw [this]; rfl
    obtain ⟨hi, hg, x, hc, hsx⟩ := HX.out k hlt
    have r0 := (hb.cell (p := ⟨g, off + k, none⟩) hg).trans hc
    have HSX := Lib.hid (hsx.below hb)
    clear hc hsx
    have HFK := Lib.hid (HF.out ll[k] wr x HSX.out)
    obtain ⟨xa, xc, hxe, -⟩ := HSX.out.shape
    subst hxe
    cases hbd : lowB ll[k]
    · have HBD := Lib.hid hbd; clear hbd
      have HFK2 := Lib.hid (HBD.out ▸ HFK.out); clear HFK HSX
      generalize ll[k].length = nx at *
      go_wp2_with (go_at_call 170; refine HFK2.out.mono ?_; go_must (rintro e w1 ⟨rfl, hb1⟩))
      go_roundw
      case rel =>
        refine ⟨k + 1, hlt, by simp, fun j h hj => ?_, hb.trans (hb1.mono hb.size)⟩
        by_cases he : j = k
        · subst he; exact HBD.out
        · exact HNO.out j h (by omega)
      case measure => simp only [intOf]; omega
    · have HBD := Lib.hid hbd; clear hbd
      have HFK2 := Lib.hid (HBD.out ▸ HFK.out); clear HFK HSX
      generalize ll[k].length = nx at *
      go_wp2_with (go_at_call 170; refine HFK2.out.mono ?_; go_must (rintro e w1 ⟨rfl, hb1⟩))
      go_ret
      refine ⟨⟨(k : Int), rfl, ?_⟩, hb.trans (hb1.mono hb.size)⟩
      have : ll.any lowB = true := List.any_eq_true.2 ⟨_, List.getElem_mem hlt, HBD.out⟩
      rw [this]; simp
set_option maxHeartbeats 4000000 in
theorem con_rw (ll : List (List Int)) (w : World) (v : Value) (hv : RowsSl w 1 encInt v ll) :
    Calls Tryz.prog 168 #[v, .func (.func 170) #[] #[]] w fun e w' => e = .returned (.bool (ll.any lowB)) ∧ Below w.heap.size w w' := by
  have H := Lib.hid (idx_rw ll w v hv)
  clear hv
  go_enter Tryz.func168, Tryz.ntmps168
  go_wp2_with (go_at_call 227; refine H.out.mono ?_; clear H; go_must (rintro e w1 ⟨⟨z, rfl, hz⟩, hb1⟩; have HZ := Lib.hid hz; clear hz))
  go_ret
  exact ⟨ret_bool HZ.out, hb1⟩
/-- Whether a schedule is legal: no delay is below 1. -/
def legalB (r : RecD) (s : SchedD) : Bool := !(delaysL r s).any lowB
set_option maxHeartbeats 4000000 in
set_option maxRecDepth 100000 in
theorem legal_l (r : RecD) (s : SchedD) (hv : validR r.n r.l r.vars = true) (hsb : schedB r s = true) (w : World) (hr : RecRd w r) (hs : SchedRd w s) :
    Calls Tryz.prog 124 #[.agg #[.int .i64 r.n, r.lv, r.vv], .agg #[.int .i64 s.f.1, .int .i64 s.f.2.1, .int .i64 s.f.2.2, s.ov]] w fun e w' => e = .returned (.bool (legalB r s)) ∧ Below w.heap.size w w' := by
  have HD := Lib.hid (fun (W : World) (h : RecRd W r) (h2 : SchedRd W s) => delays_l r s hv hsb W h h2)
  have HR := Lib.hid hr
  have HS := Lib.hid hs
  have HC := Lib.hid (fun (W : World) (v : Value) (h : RowsSl W 1 encInt v (delaysL r s)) => con_rw _ W v h)
  have HL := Lib.hid (show legalB r s = !(delaysL r s).any lowB from rfl)
  clear hr hs hv hsb
  obtain ⟨W0, hW0⟩ : ∃ W : World, (w.alloc (Obj.cells #[.int .i64 r.n, r.lv, r.vv] 27)).alloc (Obj.cells #[.int .i64 s.f.1, .int .i64 s.f.2.1, .int .i64 s.f.2.2, s.ov] 47) = W := ⟨_, rfl⟩
  have kw0 : Below w.heap.size w W0 := by rw [← hW0]; exact (by repeat (first | exact Below.refl _ _ | assumption | (refine Below.drew ?_) | (refine below_drewN ?_ _) | (refine Below.alloc ?_ (by first | (simp; done) | (simp; omega) | omega) _) | (refine Below.setCell ?_ (by first | (simp; done) | (simp; omega) | omega) _) | (refine Below.trans ?_ (Below.mono (by assumption) (by first | (simp; done) | (simp; omega) | omega)))))
  have ks0 : W0.heap.size = w.heap.size + 2 := by rw [← hW0]; simp
  have RD0 := Lib.hid (show ∀ V, Below W0.heap.size W0 V → V.cell? ⟨w.heap.size, 0, none⟩ = some (.int .i64 r.n) ∧ V.cell? ⟨w.heap.size, 1, none⟩ = some (r.lv) ∧ V.cell? ⟨w.heap.size, 2, none⟩ = some (r.vv) ∧ V.cell? ⟨w.heap.size + 1, 0, none⟩ = some (.int .i64 s.f.1) ∧ V.cell? ⟨w.heap.size + 1, 1, none⟩ = some (.int .i64 s.f.2.1) ∧ V.cell? ⟨w.heap.size + 1, 2, none⟩ = some (.int .i64 s.f.2.2) ∧ V.cell? ⟨w.heap.size + 1, 3, none⟩ = some (s.ov) from fun V h => by
      refine ⟨(h.cell (p := ⟨w.heap.size, 0, none⟩) (by simp; omega)).trans ?_, (h.cell (p := ⟨w.heap.size, 1, none⟩) (by simp; omega)).trans ?_, (h.cell (p := ⟨w.heap.size, 2, none⟩) (by simp; omega)).trans ?_, (h.cell (p := ⟨w.heap.size + 1, 0, none⟩) (by simp; omega)).trans ?_, (h.cell (p := ⟨w.heap.size + 1, 1, none⟩) (by simp; omega)).trans ?_, (h.cell (p := ⟨w.heap.size + 1, 2, none⟩) (by simp; omega)).trans ?_, (h.cell (p := ⟨w.heap.size + 1, 3, none⟩) (by simp; omega)).trans ?_⟩ <;> (subst hW0; go_simp))
  have HW0 := Lib.hid hW0; have KW0 := Lib.hid kw0; clear hW0 kw0
  generalize legalB r s = R at *
  go_enter Tryz.func124, Tryz.ntmps124
  go_wp2_with (first | (go_at_call 169; rw [HW0.out]; refine (HD.out _ (HR.out.below KW0.out) (HS.out.below KW0.out)).mono ?_; go_must (rintro e w1 ⟨⟨v, rfl, hrw⟩, hb1⟩; have HRW := Lib.hid hrw; have HB1 := Lib.hid hb1; clear hrw hb1)) | (go_at_call 168; refine (HC.out _ _ HRW.out).mono ?_; go_must (rintro e w2 ⟨rfl, hb2⟩)))
  go_ret
  exact ⟨ret_bool HL.out.symm, below_at KW0.out (by omega) (below_at HB1.out HB1.out.size hb2)⟩
set_option maxHeartbeats 4000000 in
set_option maxRecDepth 100000 in
theorem IsLegal_l (r : RecD) (s : SchedD) (hv : validR r.n r.l r.vars = true) (hsb : schedB r s = true) (w : World) (hr : RecRd w r) (hs : SchedRd w s) :
    Calls Tryz.prog 120 #[.agg #[.int .i64 r.n, r.lv, r.vv], .agg #[.int .i64 s.f.1, .int .i64 s.f.2.1, .int .i64 s.f.2.2, s.ov]] w fun e w' => e = .returned (.bool (legalB r s)) ∧ Below w.heap.size w w' := by
  have HD := Lib.hid (fun (W : World) (h : RecRd W r) (h2 : SchedRd W s) => rdelays_l r s hv hsb W h h2)
  have HR := Lib.hid hr
  have HS := Lib.hid hs
  have HL := Lib.hid (show legalB r s = !(delaysL r s).any lowB from rfl)
  clear hr hs hv hsb
  obtain ⟨W0, hW0⟩ : ∃ W : World, (w.alloc (Obj.cells #[.int .i64 r.n, r.lv, r.vv] 27)).alloc (Obj.cells #[.int .i64 s.f.1, .int .i64 s.f.2.1, .int .i64 s.f.2.2, s.ov] 47) = W := ⟨_, rfl⟩
  have kw0 : Below w.heap.size w W0 := by rw [← hW0]; exact (by repeat (first | exact Below.refl _ _ | assumption | (refine Below.drew ?_) | (refine below_drewN ?_ _) | (refine Below.alloc ?_ (by first | (simp; done) | (simp; omega) | omega) _) | (refine Below.setCell ?_ (by first | (simp; done) | (simp; omega) | omega) _) | (refine Below.trans ?_ (Below.mono (by assumption) (by first | (simp; done) | (simp; omega) | omega)))))
  have ks0 : W0.heap.size = w.heap.size + 2 := by rw [← hW0]; simp
  have RD0 := Lib.hid (show ∀ V, Below W0.heap.size W0 V → V.cell? ⟨w.heap.size, 0, none⟩ = some (.int .i64 r.n) ∧ V.cell? ⟨w.heap.size, 1, none⟩ = some (r.lv) ∧ V.cell? ⟨w.heap.size, 2, none⟩ = some (r.vv) ∧ V.cell? ⟨w.heap.size + 1, 0, none⟩ = some (.int .i64 s.f.1) ∧ V.cell? ⟨w.heap.size + 1, 1, none⟩ = some (.int .i64 s.f.2.1) ∧ V.cell? ⟨w.heap.size + 1, 2, none⟩ = some (.int .i64 s.f.2.2) ∧ V.cell? ⟨w.heap.size + 1, 3, none⟩ = some (s.ov) from fun V h => by
      refine ⟨(h.cell (p := ⟨w.heap.size, 0, none⟩) (by simp; omega)).trans ?_, (h.cell (p := ⟨w.heap.size, 1, none⟩) (by simp; omega)).trans ?_, (h.cell (p := ⟨w.heap.size, 2, none⟩) (by simp; omega)).trans ?_, (h.cell (p := ⟨w.heap.size + 1, 0, none⟩) (by simp; omega)).trans ?_, (h.cell (p := ⟨w.heap.size + 1, 1, none⟩) (by simp; omega)).trans ?_, (h.cell (p := ⟨w.heap.size + 1, 2, none⟩) (by simp; omega)).trans ?_, (h.cell (p := ⟨w.heap.size + 1, 3, none⟩) (by simp; omega)).trans ?_⟩ <;> (subst hW0; go_simp))
  have HW0 := Lib.hid hW0; have KW0 := Lib.hid kw0; clear hW0 kw0
  generalize legalB r s = R at *
  have HDX := Lib.hid (fun (e : Ending) (w' : World) (h : DelR r s e w') => show ∃ v, e = .returned v ∧ RowsSl w' 1 encInt v (delaysL r s) from h)
  generalize delaysL r s = ll at *
  go_enter Tryz.func120, Tryz.ntmps120
  go_wp2_with (go_at_call 164; rw [HW0.out]; refine (HD.out _ (HR.out.below KW0.out) (HS.out.below KW0.out)).mono ?_; go_must (rintro e w1 ⟨hdr, hb1⟩; obtain ⟨v, rfl, hrw⟩ := HDX.out _ _ hdr; obtain ⟨a, cap, g, off, rfl, hlc, hcm, hx⟩ := RowsSl.at un_ri sz_ri hrw; have HX := Lib.hid hx; have HB1 := Lib.hid hb1; clear hx hdr hrw hb1))
  unfold maxLen at hcm
  have hs1 := HB1.out.size
  go_loopw [13] (fun t13 wr => ∃ i : Nat, i ≤ ll.length ∧ t13 = .int .i64 (i : Nat) ∧ Hid (∀ j (h : j < ll.length), j < i → lowB ll[j] = false) ∧ Below w1.heap.size w1 wr) (fun t13 _ => ll.length - (intOf t13).toNat)
  case atStart => exact ⟨0, Nat.zero_le _, rfl, Lib.hid (fun j _ h => absurd h (by omega)), Below.refl _ _⟩
  case round =>
    obtain ⟨i, hi, rfl, HNO, hb⟩ := hrel
    have hsr := hb.size
    by_cases hlt : i < ll.length
    rotate_left
    · have HT := Lib.hid (show R = true by
        rw [HL.out]
        have : ll.any lowB = false := List.any_eq_false.2 (fun c hc => by
          obtain ⟨j, hj, rfl⟩ := List.getElem_of_mem hc
          rw [HNO.out j hj (by omega)]
          simp)
        rw [this]; rfl)
      go_wp2
      go_ret
      exact ⟨ret_bool HT.out.symm, below_at KW0.out (by omega) (below_at HB1.out hs1 hb)⟩
    obtain ⟨hix, hg, x, hc, hsx⟩ := HX.out i hlt
    have r0 := (hb.cell (p := ⟨g, off + i, none⟩) hg).trans hc
    have HSX := Lib.hid (hsx.below hb)
    clear hc hsx
    obtain ⟨xa, xc, xg, xo, rfl, hxl, hxm, hxx⟩ := SlOf.at (enc := encInt) (fun _ => rfl) un_sf1 sz_sf1 HSX.out
    have HXX := Lib.hid (show ∀ k, (hk : k < ll[i].length) → (∀ W, (Instr.indexAt 39 (.slice xa ll[i].length xc) (.int .i64 (k : Int))).run Tryz.prog W = .ok (.pointer (some ⟨xg, xo + k, none⟩)) W) ∧ xg < wr.heap.size ∧ wr.cell? ⟨xg, xo + k, none⟩ = some (.int .i64 ll[i][k]) from fun k hk => by
      obtain ⟨-, h1, h2, h3⟩ := hxx k hk
      refine ⟨fun W => by simpa using h1 W, h2, ?_⟩
      have := h3 0 (Nat.lt_succ_self 0)
      simpa [encInt] using this)
    clear hxx
    unfold maxLen at hxm
    have HLT := Lib.hid hlt
    have HN1 := Lib.hid (fun (h : lowB ll[i] = false) => show ∀ j (h : j < ll.length), j < i + 1 → lowB ll[j] = false from fun j h1 h2 => by
      by_cases e : j = i
      · subst e; exact h
      · exact HNO.out j h1 (by omega))
    have HN2 := Lib.hid (fun (h : lowB ll[i] = true) => show R = false from by
      rw [HL.out]
      have : ll.any lowB = true := List.any_eq_true.2 ⟨_, List.getElem_mem hlt, h⟩
      rw [this]; rfl)
    generalize ll[i] = l at *
    obtain ⟨wo, rfl⟩ : ∃ x : World, x = wr := ⟨_, rfl⟩
    go_wp2
    go_loopw [19] (fun t19 wr => ∃ k : Nat, k ≤ l.length ∧ t19 = .int .i64 (k : Nat) ∧ Hid (∀ j (h : j < l.length), j < k → ¬ (l[j] < 1)) ∧ Below wo.heap.size wo wr) (fun t19 _ => l.length - (intOf t19).toNat)
    case atStart => exact ⟨0, Nat.zero_le _, rfl, Lib.hid (fun j _ h => absurd h (by omega)), Below.refl _ _⟩
    case round =>
      obtain ⟨k, hk, rfl, HN3, hb2⟩ := hrel
      by_cases hltk : k < l.length
      rotate_left
      · have HF := Lib.hid (HN1.out (show lowB l = false from by
          unfold lowB
          refine List.any_eq_false.2 (fun c hc => ?_)
          obtain ⟨j, hj, rfl⟩ := List.getElem_of_mem hc
          simpa using HN3.out j hj (by omega)))
        go_wp2
        go_roundw
        case rel => exact ⟨i + 1, HLT.out, by simp, HF, below_at hb hsr hb2⟩
        case measure => simp only [intOf]; have := HLT.out; omega
      obtain ⟨hixk, hgx, hcx⟩ := HXX.out k hltk
      have c0 := (hb2.cell (p := ⟨xg, xo + k, none⟩) hgx).trans hcx
      clear hcx
      have HLK := Lib.hid hltk
      have HN4 := Lib.hid (fun (h : ¬ (l[k] < 1)) => show ∀ j (h : j < l.length), j < k + 1 → ¬ (l[j] < 1) from fun j h1 h2 => by
        by_cases e : j = k
        · subst e; exact h
        · exact HN3.out j h1 (by omega))
      have HN5 := Lib.hid (fun (h : l[k] < 1) => HN2.out (show lowB l = true from List.any_eq_true.2 ⟨_, List.getElem_mem hltk, decide_eq_true h⟩))
      generalize l[k] = x at *
      by_cases hx1 : x < 1
      · have HF := Lib.hid (HN5.out hx1)
        go_wp2
        go_ret
        exact ⟨ret_bool HF.out.symm, below_at KW0.out (by omega) (below_at HB1.out hs1 (below_at hb hsr hb2))⟩
      · have HN6 := Lib.hid (HN4.out hx1)
        go_wp2
        go_roundw
        case rel => exact ⟨k + 1, HLK.out, by simp, HN6, hb2⟩
        case measure => simp only [intOf]; have := HLK.out; omega
end Go.Proofs.YtnejicklenhpeaaGreat
namespace Go.Proofs.YtnejicklenhpeaaGreat
open Go.RowKit
set_option linter.unusedVariables false
def encS (s : SchedD) : List Value := [.int .i64 s.f.1, .int .i64 s.f.2.1, .int .i64 s.f.2.2, s.ov]
/-- The error of a recurrence and a schedule. -/
def askD (r : RecD) (s : SchedD) : Int := if validR r.n r.l r.vars = true then (if fitsB r.n r.vars.length s = true then 0 else 30) else 20
theorem askD_ok {r : RecD} {s : SchedD} (h : schedB r s = true) : askD r s = 0 := by
  simp only [schedB, Bool.and_eq_true] at h
  unfold askD; rw [if_pos h.1, if_pos h.2]
theorem askD_out {r : RecD} {s : SchedD} (h : askD r s = 0) : validR r.n r.l r.vars = true ∧ schedB r s = true := by
  unfold askD at h
  split at h
  · split at h
    · refine ⟨by assumption, ?_⟩; simp only [schedB, Bool.and_eq_true]; exact ⟨by assumption, by assumption⟩
    · omega
  · omega
set_option maxHeartbeats 4000000 in
set_option maxRecDepth 100000 in
theorem chk1_l (r : RecD) (s : SchedD) (hv : validR r.n r.l r.vars = true) (b : Nat) (w : World) (hr : RecRd w r) (hs : SchedRd w s) (c0 : w.cell? ⟨b, 0, none⟩ = some (.int .i64 r.n)) (c1 : w.cell? ⟨b, 1, none⟩ = some r.lv) (c2 : w.cell? ⟨b, 2, none⟩ = some r.vv) :
    Calls Tryz.prog 167 #[.agg #[.int .i64 s.f.1, .int .i64 s.f.2.1, .int .i64 s.f.2.2, s.ov], .pointer (some ⟨b, 0, none⟩)] w fun e w' => e = .returned (.bool (!fitsB r.n r.vars.length s)) ∧ Below w.heap.size w w' := by
  have hlo := validR_lo hv
  have HVS := Lib.hid hr.vars.shape
  have HF := Lib.hid (fun (W : World) (h : SchedRd W s) => fits_l r.n r.lv r.vv r.vars.length s hlo.1.1 (by obtain ⟨a, c, h, -⟩ := HVS.out; exact ⟨a, c, h⟩) (by omega) W h)
  have HS := Lib.hid hs
  have hbl : b < w.heap.size := (show b < w.heap.size from by have := World.block_lt_of_cell? w _ c0; exact this)
  clear hr hs hlo hv
  generalize fitsB r.n r.vars.length s = R at *
  obtain ⟨W0, hW⟩ : ∃ V : World, w.alloc (Obj.cells #[.int .i64 s.f.1, .int .i64 s.f.2.1, .int .i64 s.f.2.2, s.ov] 47) = V := ⟨_, rfl⟩
  have KW := Lib.hid (show Below w.heap.size w W0 by rw [← hW]; exact (by repeat (first | exact Below.refl _ _ | assumption | (refine Below.drew ?_) | (refine below_drewN ?_ _) | (refine Below.alloc ?_ (by first | (simp; done) | (simp; omega) | omega) _) | (refine Below.setCell ?_ (by first | (simp; done) | (simp; omega) | omega) _) | (refine Below.trans ?_ (Below.mono (by assumption) (by first | (simp; done) | (simp; omega) | omega))))))
  have hz := z1 (show b + 1 ≤ w.heap.size by omega)
  have HW := Lib.hid hW; clear hW
  go_enter Tryz.func167, Tryz.ntmps167
  go_wp2_with (go_at_call 159; rw [HW.out]; refine (HF.out _ (HS.out.below KW.out)).mono ?_; go_must (rintro e w1 ⟨rfl, hb1⟩))
  go_ret
  exact ⟨rfl, below_at KW.out (by have := KW.out.size; omega) hb1⟩
theorem sz_chk (W : World) : (sizeOf (Tryz.prog.elem 251)).run Tryz.prog W = .ok 4 W := by kernel_rfl
theorem un_chk : Tryz.prog.underlying 251 = some (.slice (Tryz.prog.elem 251)) := by kernel_rfl
set_option maxHeartbeats 4000000 in
set_option maxRecDepth 100000 in
theorem idx_chk (b1 : Value) (l : List SchedD) (p : SchedD → Bool) (w : World) (v : Value) (hv : SlOf w w.heap.size 4 encS v l)
    (hf : ∀ q ∈ l, ∀ W, Below w.heap.size w W → Calls Tryz.prog 167 #[.agg #[.int .i64 q.f.1, .int .i64 q.f.2.1, .int .i64 q.f.2.2, q.ov], b1] W fun e W' => e = .returned (.bool (p q)) ∧ Below W.heap.size W W') :
    Calls Tryz.prog 226 #[v, .func (.func 167) #[] #[b1]] w fun e w' => (∃ z : Int, e = .returned (.int .i64 z) ∧ decide (0 ≤ z) = l.any p) ∧ Below w.heap.size w w' := by
  obtain ⟨a, cap, g, off, rfl, hlc, hcm, hx⟩ := SlOf.at (enc := encS) (fun _ => rfl) un_chk sz_chk hv
  have HX := Lib.hid hx; clear hx hv
  have HF := Lib.hid hf; clear hf
  unfold maxLen at hcm
  go_enter Tryz.func226, Tryz.ntmps226
  go_wp2
  go_loopw [8] (fun i wr => ∃ k : Nat, k ≤ l.length ∧ i = .int .i64 (k : Nat) ∧ (∀ j (h : j < l.length), j < k → p l[j] = false) ∧ Below w.heap.size w wr) (fun i _ => l.length - (intOf i).toNat)
  case atStart => exact ⟨0, Nat.zero_le _, rfl, fun j _ h => absurd h (by omega), Below.refl _ _⟩
  case round =>
    obtain ⟨k, hk, rfl, hno, hb⟩ := hrel
    have HNO := Lib.hid hno; clear hno
    by_cases hlt : k < l.length
    rotate_left
    · go_wp2
      go_ret
      refine ⟨⟨-1, rfl, ?_⟩, hb⟩
      have : l.any p = false := List.any_eq_false.2 (fun c hc => by
        obtain ⟨j, hj, rfl⟩ := List.getElem_of_mem hc
        rw [HNO.out j hj (by omega)]
        simp)
      rw [this]; rfl
    obtain ⟨-, hi, hg, hc⟩ := HX.out k hlt
    have rd := fun j hj => (hb.cell (p := ⟨g, off + 4 * k + j, none⟩) hg).trans (hc j hj)
    clear hc
    have HFK := Lib.hid (HF.out l[k] (List.getElem_mem hlt) wr hb)
    cases hbd : p l[k]
    · have HBD := Lib.hid hbd; clear hbd
      have HFK2 := Lib.hid (HBD.out ▸ HFK.out); clear HFK
      generalize l[k] = q at HFK2 rd
      obtain ⟨⟨q0, q1, q2⟩, qv, ql⟩ := q
      have r0 : wr.cell? ⟨g, off + 4 * k, none⟩ = some (.int .i64 q0) := rd 0 (by omega)
      have r1 : wr.cell? ⟨g, off + 4 * k + 1, none⟩ = some (.int .i64 q1) := rd 1 (by omega)
      have r2 : wr.cell? ⟨g, off + 4 * k + 2, none⟩ = some (.int .i64 q2) := rd 2 (by omega)
      have r3 : wr.cell? ⟨g, off + 4 * k + 3, none⟩ = some qv := rd 3 (by omega)
      clear rd
      go_wp2_with (go_at_call 167; refine HFK2.out.mono ?_; go_must (rintro e w1 ⟨rfl, hb1⟩))
      go_roundw
      case rel =>
        refine ⟨k + 1, hlt, by simp, fun j h hj => ?_, hb.trans (hb1.mono hb.size)⟩
        by_cases he : j = k
        · subst he; exact HBD.out
        · exact HNO.out j h (by omega)
      case measure => simp only [intOf]; omega
    · have HBD := Lib.hid hbd; clear hbd
      have HFK2 := Lib.hid (HBD.out ▸ HFK.out); clear HFK
      generalize l[k] = q at HFK2 rd
      obtain ⟨⟨q0, q1, q2⟩, qv, ql⟩ := q
      have r0 : wr.cell? ⟨g, off + 4 * k, none⟩ = some (.int .i64 q0) := rd 0 (by omega)
      have r1 : wr.cell? ⟨g, off + 4 * k + 1, none⟩ = some (.int .i64 q1) := rd 1 (by omega)
      have r2 : wr.cell? ⟨g, off + 4 * k + 2, none⟩ = some (.int .i64 q2) := rd 2 (by omega)
      have r3 : wr.cell? ⟨g, off + 4 * k + 3, none⟩ = some qv := rd 3 (by omega)
      clear rd
      go_wp2_with (go_at_call 167; refine HFK2.out.mono ?_; go_must (rintro e w1 ⟨rfl, hb1⟩))
      go_ret
      refine ⟨⟨(k : Int), rfl, ?_⟩, hb.trans (hb1.mono hb.size)⟩
      have : l.any p = true := List.any_eq_true.2 ⟨_, List.getElem_mem hlt, HBD.out⟩
      rw [this]; simp
set_option maxHeartbeats 4000000 in
theorem con_chk (b1 : Value) (l : List SchedD) (p : SchedD → Bool) (w : World) (v : Value) (hv : SlOf w w.heap.size 4 encS v l)
    (hf : ∀ q ∈ l, ∀ W, Below w.heap.size w W → Calls Tryz.prog 167 #[.agg #[.int .i64 q.f.1, .int .i64 q.f.2.1, .int .i64 q.f.2.2, q.ov], b1] W fun e W' => e = .returned (.bool (p q)) ∧ Below W.heap.size W W') :
    Calls Tryz.prog 166 #[v, .func (.func 167) #[] #[b1]] w fun e w' => e = .returned (.bool (l.any p)) ∧ Below w.heap.size w w' := by
  have H := Lib.hid ((idx_chk (l := l) (p := p) (w := w) (v := v) (hv := hv) (hf := hf)))
  clear hv hf
  go_enter Tryz.func166, Tryz.ntmps166
  go_wp2_with (go_at_call 226; refine H.out.mono ?_; clear H; go_must (rintro e w1 ⟨⟨z, rfl, hz⟩, hb1⟩; have HZ := Lib.hid hz; clear hz))
  go_ret
  exact ⟨ret_bool HZ.out, hb1⟩
set_option maxHeartbeats 4000000 in
set_option maxRecDepth 100000 in
theorem checked_l (r : RecD) (s : SchedD) (v : Value) (w : World) (hr : RecRd w r) (hs : SchedRd w s) (hv : SlOf w w.heap.size 4 encS v [s]) :
    Calls Tryz.prog 123 #[.agg #[.int .i64 r.n, r.lv, r.vv], v] w fun e w' => e = .returned (.int .i64 (askD r s)) ∧ Below w.heap.size w w' := by
  have HR := Lib.hid hr
  have HS := Lib.hid hs
  have HV := Lib.hid hv
  obtain ⟨va, vc, hve, -⟩ := hv.shape
  subst hve
  clear hr hs hv
  have HRV := Lib.hid (fun (W : World) (h : RecRd W r) => rValid_l r W h)
  have HA := Lib.hid (show askD r s = if validR r.n r.l r.vars = true then (if fitsB r.n r.vars.length s = true then 0 else 30) else 20 from rfl)
  obtain ⟨W0, hW⟩ : ∃ V : World, w.alloc (Obj.cells #[.int .i64 r.n, r.lv, r.vv] 27) = V := ⟨_, rfl⟩
  have KW := Lib.hid (show Below w.heap.size w W0 by rw [← hW]; exact (by repeat (first | exact Below.refl _ _ | assumption | (refine Below.drew ?_) | (refine below_drewN ?_ _) | (refine Below.alloc ?_ (by first | (simp; done) | (simp; omega) | omega) _) | (refine Below.setCell ?_ (by first | (simp; done) | (simp; omega) | omega) _) | (refine Below.trans ?_ (Below.mono (by assumption) (by first | (simp; done) | (simp; omega) | omega))))))
  have ks : W0.heap.size = w.heap.size + 1 := by rw [← hW]; simp
  have RD := Lib.hid (show ∀ V, Below W0.heap.size W0 V → V.cell? ⟨w.heap.size, 0, none⟩ = some (.int .i64 r.n) ∧ V.cell? ⟨w.heap.size, 1, none⟩ = some r.lv ∧ V.cell? ⟨w.heap.size, 2, none⟩ = some r.vv from fun V h => by
    refine ⟨(h.cell (p := ⟨w.heap.size, 0, none⟩) (by simp; omega)).trans ?_, (h.cell (p := ⟨w.heap.size, 1, none⟩) (by simp; omega)).trans ?_, (h.cell (p := ⟨w.heap.size, 2, none⟩) (by simp; omega)).trans ?_⟩ <;> (subst hW; go_simp))
  have HW := Lib.hid hW; clear hW
  cases hvr : validR r.n r.l r.vars
  · have HVV := Lib.hid hvr
    have HE := Lib.hid (show askD r s = 20 by rw [HA.out, hvr]; rfl)
    clear hvr
    go_enter Tryz.func123, Tryz.ntmps123
    go_wp2_with (go_at_call 112; rw [HW.out]; refine (HRV.out _ (HR.out.below KW.out)).mono ?_; go_must (rintro e w1 ⟨rfl, hb1⟩; rw [HVV.out]))
    go_ret
    exact ⟨ret_int HE.out.symm, below_at KW.out (by omega) hb1⟩
  have HVV := Lib.hid hvr
  have HC := Lib.hid (show ∀ W, Below W0.heap.size W0 W → Calls Tryz.prog 166 #[.slice va [s].length vc, .func (.func 167) #[] #[.pointer (some ⟨w.heap.size, 0, none⟩)]] W fun e w' => e = .returned (.bool (!fitsB r.n r.vars.length s)) ∧ Below W.heap.size W w' from fun W hW => by
    have hww : Below w.heap.size w W := below_at KW.out (by omega) hW
    have := con_chk (.pointer (some ⟨w.heap.size, 0, none⟩)) [s] (fun q => !fitsB r.n r.vars.length q) W (.slice va [s].length vc) (HV.out.below hww) (fun q hq V hV => by
      obtain rfl : q = s := by simpa using hq
      have h2 : Below w.heap.size w V := below_at hww hww.size hV
      obtain ⟨c0, c1, c2⟩ := RD.out V (below_at hW hW.size hV)
      exact chk1_l r q hvr _ V (HR.out.below h2) (HS.out.below h2) c0 c1 c2)
    simpa using this)
  simp only [List.length_singleton] at HC
  simp only [List.length_singleton]
  clear hvr
  cases hfb : fitsB r.n r.vars.length s
  all_goals
    have HE := Lib.hid (show askD r s = _ from by rw [HA.out, HVV.out, hfb])
    simp only [if_true, Bool.false_eq_true, if_false] at HE
    rw [hfb] at HC
    clear hfb
    generalize askD r s = A at *
    go_enter Tryz.func123, Tryz.ntmps123
    go_wp2_with (first | (go_at_call 112; rw [HW.out]; refine (HRV.out _ (HR.out.below KW.out)).mono ?_; go_must (rintro e w1 ⟨rfl, hb1⟩; rw [HVV.out]; have HB1 := Lib.hid hb1; clear hb1)) | (go_at_call 166; refine (HC.out _ HB1.out).mono ?_; go_must (rintro e w2 ⟨rfl, hb2⟩)))
    go_ret
    exact ⟨ret_int HE.out.symm, below_at KW.out (by omega) (below_at HB1.out HB1.out.size hb2)⟩
theorem one_sched (W : World) (s : SchedD) (n : Nat) (hn : n = W.heap.size) : SlOf (W.alloc (Obj.cells #[.int .i64 s.f.1, .int .i64 s.f.2.1, .int .i64 s.f.2.2, s.ov] 47)) (W.alloc (Obj.cells #[.int .i64 s.f.1, .int .i64 s.f.2.1, .int .i64 s.f.2.2, s.ov] 47)).heap.size 4 encS (.slice (some ⟨n, 0, none⟩) 1 1) [s] := by
  subst hn
  refine ⟨some ⟨W.heap.size, 0, none⟩, 1, rfl, rfl, Nat.le_refl _, by unfold maxLen; omega, (fun e => by cases e), .inr ⟨W.heap.size, 0, rfl, by simp, fun i hi => ?_⟩⟩
  have hn := World.alloc_heap_new W (Obj.cells #[.int .i64 s.f.1, .int .i64 s.f.2.1, .int .i64 s.f.2.2, s.ov] 47)
  obtain rfl | rfl | rfl | rfl : i = 0 ∨ i = 1 ∨ i = 2 ∨ i = 3 := by simp at hi; omega
  all_goals (simp only [World.cell?, hn]; rfl)
set_option maxHeartbeats 4000000 in
set_option maxRecDepth 100000 in
theorem Legal_l (r : RecD) (s : SchedD) (w : World) (hr : RecRd w r) (hs : SchedRd w s) :
    Calls Tryz.prog 69 #[.agg #[.int .i64 r.n, r.lv, r.vv], .agg #[.int .i64 s.f.1, .int .i64 s.f.2.1, .int .i64 s.f.2.2, s.ov]] w fun e w' => e = .returned (.tuple #[.bool (decide (askD r s = 0) && legalB r s), .int .i64 (askD r s)]) ∧ Below w.heap.size w w' := by
  have HR := Lib.hid hr
  have HS := Lib.hid hs
  clear hr hs
  have HCK := Lib.hid (fun (W : World) (v : Value) (h1 : RecRd W r) (h2 : SchedRd W s) (h3 : SlOf W W.heap.size 4 encS v [s]) => checked_l r s v W h1 h2 h3)
  obtain ⟨W0, hW0⟩ : ∃ W : World, (w.alloc (Obj.cells #[.int .i64 r.n, r.lv, r.vv] 27)).alloc (Obj.cells #[.int .i64 s.f.1, .int .i64 s.f.2.1, .int .i64 s.f.2.2, s.ov] 47) = W := ⟨_, rfl⟩
  have kw0 : Below w.heap.size w W0 := by rw [← hW0]; exact (by repeat (first | exact Below.refl _ _ | assumption | (refine Below.drew ?_) | (refine below_drewN ?_ _) | (refine Below.alloc ?_ (by first | (simp; done) | (simp; omega) | omega) _) | (refine Below.setCell ?_ (by first | (simp; done) | (simp; omega) | omega) _) | (refine Below.trans ?_ (Below.mono (by assumption) (by first | (simp; done) | (simp; omega) | omega)))))
  have ks0 : W0.heap.size = w.heap.size + 2 := by rw [← hW0]; simp
  have RD0 := Lib.hid (show ∀ V, Below W0.heap.size W0 V → V.cell? ⟨w.heap.size, 0, none⟩ = some (.int .i64 r.n) ∧ V.cell? ⟨w.heap.size, 1, none⟩ = some (r.lv) ∧ V.cell? ⟨w.heap.size, 2, none⟩ = some (r.vv) ∧ V.cell? ⟨w.heap.size + 1, 0, none⟩ = some (.int .i64 s.f.1) ∧ V.cell? ⟨w.heap.size + 1, 1, none⟩ = some (.int .i64 s.f.2.1) ∧ V.cell? ⟨w.heap.size + 1, 2, none⟩ = some (.int .i64 s.f.2.2) ∧ V.cell? ⟨w.heap.size + 1, 3, none⟩ = some (s.ov) from fun V h => by
      refine ⟨(h.cell (p := ⟨w.heap.size, 0, none⟩) (by simp; omega)).trans ?_, (h.cell (p := ⟨w.heap.size, 1, none⟩) (by simp; omega)).trans ?_, (h.cell (p := ⟨w.heap.size, 2, none⟩) (by simp; omega)).trans ?_, (h.cell (p := ⟨w.heap.size + 1, 0, none⟩) (by simp; omega)).trans ?_, (h.cell (p := ⟨w.heap.size + 1, 1, none⟩) (by simp; omega)).trans ?_, (h.cell (p := ⟨w.heap.size + 1, 2, none⟩) (by simp; omega)).trans ?_, (h.cell (p := ⟨w.heap.size + 1, 3, none⟩) (by simp; omega)).trans ?_⟩ <;> (subst hW0; go_simp))
  have HW0 := Lib.hid hW0; have KW0 := Lib.hid kw0; clear hW0 kw0
  have KS := Lib.hid (show Below w.heap.size w (W0.alloc (Obj.cells #[.int .i64 s.f.1, .int .i64 s.f.2.1, .int .i64 s.f.2.2, s.ov] 47)) from KW0.out.alloc (by omega) _)
  have KS0 := Lib.hid (show Below W0.heap.size W0 (W0.alloc (Obj.cells #[.int .i64 s.f.1, .int .i64 s.f.2.1, .int .i64 s.f.2.2, s.ov] 47)) from (Below.refl _ _).alloc (Nat.le_refl _) _)
  have HO := Lib.hid (one_sched W0 s (w.heap.size + 1 + 1) (by omega))
  by_cases ha : askD r s = 0
  rotate_left
  · have hnz : (askD r s != 0) = true := by simpa using ha
    have hd : decide (askD r s = 0) = false := by simpa using ha
    rw [hd, Bool.false_and]
    clear ha hd
    generalize askD r s = A at *
    go_enter Tryz.func69, Tryz.ntmps69
    go_wp2_with (go_at_call 123; rw [HW0.out]; refine (HCK.out _ _ (HR.out.below KS.out) (HS.out.below KS.out) HO.out).mono ?_; go_must (rintro e w1 ⟨rfl, hb1⟩))
    go_ret2
    exact ⟨rfl, below_at KS.out (by simp; omega) hb1⟩
  have hao := askD_out ha
  rw [ha] at HCK ⊢
  rw [decide_eq_true rfl, Bool.true_and]
  have HL := Lib.hid (fun (W : World) (h1 : RecRd W r) (h2 : SchedRd W s) => legal_l r s hao.1 hao.2 W h1 h2)
  clear ha hao
  go_enter Tryz.func69, Tryz.ntmps69
  go_wp2_with (first | (go_at_call 123; rw [HW0.out]; refine (HCK.out _ _ (HR.out.below KS.out) (HS.out.below KS.out) HO.out).mono ?_; go_must (rintro e w1 ⟨rfl, hb1⟩; have K0 := below_at KS0.out (by simp) hb1; have HB1 := Lib.hid hb1; clear hb1; obtain ⟨k0_0, k0_1, k0_2, k0_3, k0_4, k0_5, k0_6⟩ := RD0.out _ K0)) | (go_at_call 124; refine (HL.out _ (HR.out.below (KW0.out.trans (K0.mono (by omega)))) (HS.out.below (KW0.out.trans (K0.mono (by omega))))).mono ?_; go_must (rintro e w2 ⟨rfl, hb2⟩)))
  go_ret2
  exact ⟨rfl, below_at (KW0.out.trans (K0.mono (by omega))) (by have := K0.size; omega) hb2⟩
def DelX (r : RecD) (s : SchedD) (e : Ending) (w' : World) : Prop := ∃ v, e = .returned (.tuple #[v, .int .i64 (askD r s)]) ∧ RowsSl w' 1 encInt v (if askD r s = 0 then delaysL r s else [])
theorem delX_err {r : RecD} {s : SchedD} {k : Int} (h : askD r s = k) (hk : k ≠ 0) (w' : World) : DelX r s (.returned (.tuple #[.slice none 0 0, .int .i64 k])) w' := by
  unfold DelX
  rw [h, if_neg hk]
  exact ⟨_, rfl, RowsSl.nil _ _ _⟩
theorem delX_ok {r : RecD} {s : SchedD} (h : askD r s = 0) {w' : World} {v : Value} (hs : RowsSl w' 1 encInt v (delaysL r s)) : DelX r s (.returned (.tuple #[v, .int .i64 0])) w' := by
  unfold DelX
  rw [h, if_pos rfl]
  exact ⟨_, rfl, hs⟩
end Go.Proofs.YtnejicklenhpeaaGreat
