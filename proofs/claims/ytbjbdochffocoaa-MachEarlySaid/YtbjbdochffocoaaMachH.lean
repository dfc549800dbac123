/- Package mach: slacks, Waits, ready: their walks. -/
import Derived.Test.YtbjbdochffocoaaMachG
namespace Go.Proofs.Ytbjbdochffocoaa
open Go.RowKit Go.Lib
set_option linter.unusedVariables false
def slackL (p : List OpD) : List Int := p.map (slackO (timeP p))
/-- What is small in a valid program. -/
structure SmallP (p : List OpD) : Prop where
  len : p.length ≤ 4000
  time : ∀ i, -100000 ≤ timeP p i ∧ timeP p i ≤ 100000
  src : ∀ o ∈ p, ∀ s ∈ o.src, 0 ≤ s.op → s.op.toNat < p.length ∧ 0 ≤ s.hops ∧ s.hops ≤ 12
theorem small_of {p : List OpD} (h : validP p = true) : SmallP p := by
  have hl : p.length ≤ 4000 := by simp only [validP, Bool.and_eq_true, decide_eq_true_eq] at h; exact h.1
  refine ⟨hl, fun i => ?_, fun o ho s hs h0 => ?_⟩
  · by_cases hi : i < p.length
    · rw [timeP_at hi]
      have := (valid_at h hi).1
      simp only [headB, Bool.and_eq_true, btwM_iff] at this
      omega
    · unfold timeP; rw [List.getElem?_eq_none (by omega)]; simp
  · obtain ⟨i, hi, rfl⟩ := List.getElem_of_mem ho
    have := src_op ((valid_at h hi).2 s hs) h0
    exact ⟨this.1, this.2.2.1, this.2.2.2⟩
theorem arr_bd {p : List OpD} (h : SmallP p) {o : OpD} (ho : o ∈ p) {z : Int} (hz : arrF (timeP p) o.src = some z) : -100000 ≤ z ∧ z ≤ 100012 := by
  obtain ⟨s, hs, h0, e⟩ := (arrF_le hz).2
  have h1 := h.time s.op.toNat
  have h2 := h.src o ho s hs h0
  omega
theorem map_take {α β : Type} (f : α → β) (l : List α) (k : Nat) (hk : k < l.length) : (l.take (k + 1)).map f = (l.take k).map f ++ [f l[k]] := by
  rw [List.take_succ_eq_append_getElem hk, List.map_append]; rfl
set_option maxHeartbeats 8000000 in
set_option maxRecDepth 100000 in
theorem slacks_l (p : List OpD) (hsm : SmallP p) (v : Value) (w : World) (hp : ProgRd w v p) :
    Calls Try.prog 42 #[v] w fun e w' => (∃ v', e = .returned v' ∧ SlOf w' w'.heap.size 1 encInt v' (slackL p)) ∧ Below w.heap.size w w' := by
  have HP := Lib.hid hp
  obtain ⟨a, cap, g, off, rfl, hl, hm, hat⟩ := ops_at hp
  have HX := Lib.hid hat
  have hl4 := hsm.len
  have HSM := Lib.hid hsm
  clear hp hat hsm
  obtain ⟨W0, hW0⟩ : ∃ W : World, w.alloc (Obj.cells #[.slice a p.length cap] 22) = W := ⟨_, rfl⟩
  have kw0 : Below w.heap.size w W0 := by rw [← hW0]; exact (by repeat (first | exact Below.refl _ _ | assumption | (refine Below.drew ?_) | (refine below_drewN ?_ _) | (refine Below.alloc ?_ (by first | (simp; done) | (simp; omega) | omega) _) | (refine Below.setCell ?_ (by first | (simp; done) | (simp; omega) | omega) _) | (refine Below.trans ?_ (Below.mono (by assumption) (by first | (simp; done) | (simp; omega) | omega)))))
  have ks0 : W0.heap.size = w.heap.size + 1 := by rw [← hW0]; simp
  have RD0 := Lib.hid (show ∀ V, Below W0.heap.size W0 V → V.cell? ⟨w.heap.size, 0, none⟩ = some (.slice a p.length cap) from fun V h => by
      refine (h.cell (p := ⟨w.heap.size, 0, none⟩) (by simp; omega)).trans ?_; subst hW0; go_simp)
  have HW0 := Lib.hid hW0; have KW0 := Lib.hid kw0; clear hW0 kw0
  have hsW : w.heap.size ≤ W0.heap.size := by omega
  have eg : ∀ args w, (callFunc 57 args).run Try.prog w = .ok (.enter 57 args) w := enters_of Try.func57 (by kernel_rfl) rfl
  have HAR := Lib.hid (fun (V : World) (hV : Below W0.heap.size W0 V) (o : OpD) (ho : o ∈ p) => arrival_l o 57 #[.pointer (some ⟨w.heap.size, 0, none⟩)] eg (timeP p) V ((HP.out.below (KW0.out.trans (hV.mono hsW))).each o ho)
    (fun s hs h0 => ⟨by have := HSM.out.time s.op.toNat; omega, by have := HSM.out.src o ho s hs h0; omega⟩)
    (fun s hs h0 U hU => by
      have := slacks1_l p _ w.heap.size U (HP.out.below (KW0.out.trans ((hV.trans (hU.mono hV.size)).mono hsW))) (by have := hV.size; have := hU.size; omega) (RD0.out U (hV.trans (hU.mono hV.size))) s.op.toNat (HSM.out.src o ho s hs h0).1
      rwa [Int.toNat_of_nonneg h0] at this))
  clear eg
  have hln : (p.length : Int) ≤ 4000 := by omega
  go_enter Try.func42, Try.ntmps42
  go_wp2_with fail
  rw [HW0.out]
  have K0 := Below.refl W0.heap.size W0
  have k0_0 := RD0.out _ K0
  go_wp2_with fail
  go_loopw [3, 10] (fun t3 t10 wr => ∃ k : Nat, k ≤ p.length ∧ t10 = .int .i64 (k : Nat) ∧ Hid (OwnOf wr W0.heap.size 3 1 encInt t3 ((p.take k).map (slackO (timeP p)))) ∧ Below W0.heap.size W0 wr) (fun t3 t10 _ => p.length - (intOf t10).toNat)
  case atStart => exact ⟨0, Nat.zero_le _, rfl, Lib.hid (OwnOf.nil _ _ _ _ _), Below.refl _ _⟩
  case round =>
    obtain ⟨k, hk, rfl, HO, hb⟩ := hrel
    have hs := hb.size
    by_cases hlt : k < p.length
    rotate_left
    · have hke : k = p.length := by omega
      have hlz : ¬ (k : Int) < (p.length : Int) := by omega
      have HSL := Lib.hid (show SlOf wr wr.heap.size 1 encInt u3 (slackL p) by have := HO.out.sl; rw [hke, List.take_length] at this; exact this)
      clear hke hlt HO
      go_wp2
      go_ret
      exact ⟨⟨_, rfl, HSL.out⟩, KW0.out.trans (hb.mono hsW)⟩
    have hlz : (k : Int) < (p.length : Int) := by omega
    obtain ⟨hix, hg, q0, q1, q2, q3, q4, q5⟩ := HX.out k hlt
    have hbw := KW0.out.trans (hb.mono hsW)
    have r0 := (hbw.cell (p := ⟨g, off + 6 * k, none⟩) hg).trans q0
    have r1 := (hbw.cell (p := ⟨g, off + 6 * k + 1, none⟩) hg).trans q1
    have r2 := (hbw.cell (p := ⟨g, off + 6 * k + 2, none⟩) hg).trans q2
    have r3 := (hbw.cell (p := ⟨g, off + 6 * k + 3, none⟩) hg).trans q3
    have r4 := (hbw.cell (p := ⟨g, off + 6 * k + 4, none⟩) hg).trans q4
    have r5 := (hbw.cell (p := ⟨g, off + 6 * k + 5, none⟩) hg).trans q5
    clear q0 q1 q2 q3 q4 q5
    have hmem := List.getElem_mem hlt
    obtain ⟨fa, fc, hfe, -⟩ := (HP.out.each p[k] hmem).shape
    have HARK := Lib.hid (fun V hV => HAR.out V hV p[k] hmem)
    have hbd := fun z h => arr_bd HSM.out hmem (z := z) h
    have HBD := Lib.hid hbd
    have htm : -100000 ≤ p[k].t ∧ p[k].t ≤ 100000 := by have := HSM.out.time k; rwa [timeP_at hlt] at this
    have HMT := Lib.hid (map_take (slackO (timeP p)) p k hlt)
    have HSO := Lib.hid (show slackO (timeP p) p[k] = (match arrF (timeP p) p[k].src with
      | none => -1
      | some a => if p[k].t < a then p[k].t - a - 1 else p[k].t - a) from rfl)
    have HLT := Lib.hid hlt
    have hacc : ((p.take k).map (slackO (timeP p))).length + 1 ≤ 1073741824 := by rw [List.length_map, List.length_take]; omega
    clear hbd hmem
    generalize (p.take k).map (slackO (timeP p)) = D at *
    generalize slackO (timeP p) p[k] = so at *
    generalize arrF (timeP p) p[k].src = ar at *
    generalize p[k] = o at *
    obtain ⟨t, ⟨c0, c1⟩, u, kd, fv, src⟩ := o
    simp only at r0 r1 r2 r3 r4 r5 htm HARK HSO hfe
    subst hfe
    obtain ⟨ht1, ht2⟩ := htm
    cases ar with
    | none =>
      have HS := Lib.hid (show so = -1 from HSO.out)
      clear HSO HBD
      go_wp2_with (first | (go_at_call 52; refine (HARK.out _ (hb.alloc hs _)).mono ?_; go_must (rintro e w5 ⟨rfl, hb5⟩; have hw5 : Below wr.heap.size wr w5 := ((Below.refl _ _).alloc (Nat.le_refl _) _).trans (hb5.mono (by simp)); have c5 : w5.cell? ⟨wr.heap.size, 0, none⟩ = some (.int .i64 t) := (hb5.cell (p := ⟨wr.heap.size, 0, none⟩) (by simp)).trans (by go_simp); have hs5 : W0.heap.size ≤ w5.heap.size := (by have := hw5.size; omega); have HO5 := Lib.hid (HO.out.kept hw5); have hbb5 := Lib.hid (hb.trans (hw5.mono hs)); have hlt5 : wr.heap.size < w5.heap.size := (by have := hb5.size; simp at this; omega); unfold optV; simp only [Option.getD_none, Option.isSome_none])) | (at_builtin; refine wpList_push rfl _ _ _ rfl slInts HO5.out rfl rfl (by first | rfl | simp) rfl rfl hacc (by omega) hs5 ?_; intro g7 c7 w7 hown7 hg7 hat7))
      go_roundw
      case rel => exact ⟨k + 1, HLT.out, by simp, Lib.hid (by rw [HMT.out, HS.out]; exact OwnOf.snoc (enc := encInt) (by simpa [encInt] using hown7) rfl), below_push hbb5.out HO5.out (Nat.le_refl _) hs5 hg7⟩
      case measure => simp only [intOf]; have := HLT.out; omega
    | some z =>
      obtain ⟨hz1, hz2⟩ := HBD.out z rfl
      by_cases hlate : t < z
      · have hd : decide (t < z) = true := decide_eq_true hlate
        have HS := Lib.hid (show so = t - z - 1 from by rw [HSO.out]; simp only; rw [if_pos hlate])
        clear HSO HBD
        go_wp2_with (first | (go_at_call 52; refine (HARK.out _ (hb.alloc hs _)).mono ?_; go_must (rintro e w5 ⟨rfl, hb5⟩; have hw5 : Below wr.heap.size wr w5 := ((Below.refl _ _).alloc (Nat.le_refl _) _).trans (hb5.mono (by simp)); have c5 : w5.cell? ⟨wr.heap.size, 0, none⟩ = some (.int .i64 t) := (hb5.cell (p := ⟨wr.heap.size, 0, none⟩) (by simp)).trans (by go_simp); have hs5 : W0.heap.size ≤ w5.heap.size := (by have := hw5.size; omega); have HO5 := Lib.hid (HO.out.kept hw5); have hbb5 := Lib.hid (hb.trans (hw5.mono hs)); have hlt5 : wr.heap.size < w5.heap.size := (by have := hb5.size; simp at this; omega); unfold optV; simp only [Option.getD_some, Option.isSome_some])) | (at_builtin; refine wpList_push rfl _ _ _ rfl slInts HO5.out rfl rfl (by first | rfl | simp) rfl rfl hacc (by omega) hs5 ?_; intro g7 c7 w7 hown7 hg7 hat7))
        go_roundw
        case rel => exact ⟨k + 1, HLT.out, by simp, Lib.hid (by rw [HMT.out, HS.out]; exact OwnOf.snoc (enc := encInt) (by simpa [encInt] using hown7) rfl), below_push hbb5.out HO5.out (Nat.le_refl _) hs5 hg7⟩
        case measure => simp only [intOf]; have := HLT.out; omega
      · have hd : decide (t < z) = false := decide_eq_false hlate
        have HS := Lib.hid (show so = t - z from by rw [HSO.out]; simp only; rw [if_neg hlate])
        clear HSO HBD
        go_wp2_with (first | (go_at_call 52; refine (HARK.out _ (hb.alloc hs _)).mono ?_; go_must (rintro e w5 ⟨rfl, hb5⟩; have hw5 : Below wr.heap.size wr w5 := ((Below.refl _ _).alloc (Nat.le_refl _) _).trans (hb5.mono (by simp)); have c5 : w5.cell? ⟨wr.heap.size, 0, none⟩ = some (.int .i64 t) := (hb5.cell (p := ⟨wr.heap.size, 0, none⟩) (by simp)).trans (by go_simp); have hs5 : W0.heap.size ≤ w5.heap.size := (by have := hw5.size; omega); have HO5 := Lib.hid (HO.out.kept hw5); have hbb5 := Lib.hid (hb.trans (hw5.mono hs)); have hlt5 : wr.heap.size < w5.heap.size := (by have := hb5.size; simp at this; omega); unfold optV; simp only [Option.getD_some, Option.isSome_some])) | (at_builtin; refine wpList_push rfl _ _ _ rfl slInts HO5.out rfl rfl (by first | rfl | simp) rfl rfl hacc (by omega) hs5 ?_; intro g7 c7 w7 hown7 hg7 hat7))
        go_roundw
        case rel => exact ⟨k + 1, HLT.out, by simp, Lib.hid (by rw [HMT.out, HS.out]; exact OwnOf.snoc (enc := encInt) (by simpa [encInt] using hown7) rfl), below_push hbb5.out HO5.out (Nat.le_refl _) hs5 hg7⟩
        case measure => simp only [intOf]; have := HLT.out; omega
def waitsI (p : List OpD) : List Int := (waitsP p).map fun i : Nat => (i : Int)
def waitsTo (p : List OpD) (k : Nat) : List Int := ((List.range k).filter fun i => (p[i]?.map (lateB (timeP p))).getD false).map fun i : Nat => (i : Int)
theorem waitsTo_step (p : List OpD) (k : Nat) (hk : k < p.length) : waitsTo p (k + 1) = waitsTo p k ++ (if slackO (timeP p) p[k] < -1 then [(k : Int)] else []) := by
  unfold waitsTo
  rw [List.range_succ, List.filter_append, List.map_append]
  congr 1
  have h := slack_late (timeP p) p[k]
  by_cases hs : slackO (timeP p) p[k] < -1
  · rw [decide_eq_true hs] at h
    rw [if_pos hs]
    simp [List.getElem?_eq_getElem hk, ← h]
  · rw [decide_eq_false hs] at h
    rw [if_neg hs]
    simp [List.getElem?_eq_getElem hk, ← h]
def WaitsR (p : List OpD) (e : Ending) (w' : World) : Prop := ∃ v, e = .returned (.tuple #[v, .int .i64 (if validP p = true then 0 else 80)]) ∧ SlOf w' w'.heap.size 1 encInt v (if validP p = true then waitsI p else [])
/-- Valid's test of one operation. -/
theorem valid1_l (p : List OpD) (v : Value) (pb : Nat) (hn : (p.length : Int) ≤ 1000000000000) (w : World) (hp : ProgRd w v p) (hlt : pb < w.heap.size) (c0 : w.cell? ⟨pb, 0, none⟩ = some v) (o : OpD) (ho : o ∈ p) :
    Calls Try.prog 45 #[.agg #[.int .i64 o.t, .int .i64 o.c.1, .int .i64 o.c.2, .int .i64 o.unit, .int .i64 o.kind, o.fv], .pointer (some ⟨pb, 0, none⟩)] w fun e w' => e = .returned (.bool (!opB p.length o)) ∧ Below w.heap.size w w' := by
  obtain ⟨a, cap, g, off, rfl, hl, hm, -⟩ := ops_at hp
  have HO := Lib.hid (fun W (hW : Below w.heap.size w W) => operation_l p.length ⟨by omega, hn⟩ o W ((hp.below hW).each o ho))
  obtain ⟨fa, fc, hfe, -⟩ := (hp.each o ho).shape
  generalize opB p.length o = B at *
  generalize p.length = n at *
  clear hp ho
  obtain ⟨t, ⟨c0', c1'⟩, u, k, fv, src⟩ := o
  simp only at HO hfe ⊢
  subst hfe
  have hz1 := z1 (show pb + 1 ≤ w.heap.size by omega)
  go_enter Try.func45, Try.ntmps45
  go_wp2_with (go_at_call 46; refine (HO.out _ ((Below.refl _ _).alloc (Nat.le_refl _) _)).mono ?_; go_must (rintro e w1 ⟨rfl, hb1⟩))
  go_ret
  exact ⟨rfl, ((Below.refl _ _).alloc (Nat.le_refl _) _).trans (hb1.mono (by simp))⟩
theorem sz_mv (W : World) : (sizeOf (Try.prog.elem 22)).run Try.prog W = .ok 6 W := by kernel_rfl
theorem un_mv : Try.prog.underlying 22 = some (.slice (Try.prog.elem 22)) := by kernel_rfl
set_option maxHeartbeats 4000000 in
set_option maxRecDepth 100000 in
theorem idx_mv (b1 : Value) (l : List OpD) (p : OpD → Bool) (w : World) (v : Value) (hv : SlOf w w.heap.size 6 encOp v l)
    (hf : ∀ q ∈ l, ∀ W, Below w.heap.size w W → Calls Try.prog 45 #[.agg #[.int .i64 q.t, .int .i64 q.c.1, .int .i64 q.c.2, .int .i64 q.unit, .int .i64 q.kind, q.fv], b1] W fun e W' => e = .returned (.bool (p q)) ∧ Below W.heap.size W W') :
    Calls Try.prog 58 #[v, .func (.func 45) #[] #[b1]] w fun e w' => (∃ z : Int, e = .returned (.int .i64 z) ∧ decide (0 ≤ z) = l.any p) ∧ Below w.heap.size w w' := by
  obtain ⟨a, cap, g, off, rfl, hlc, hcm, hx⟩ := SlOf.at (enc := encOp) (fun _ => rfl) un_mv sz_mv hv
  have HX := Lib.hid hx; clear hx hv
  have HF := Lib.hid hf; clear hf
  unfold maxLen at hcm
  go_enter Try.func58, Try.ntmps58
  go_wp2
  go_loopw [8] (fun i wr => ∃ k : Nat, k ≤ l.length ∧ i = .int .i64 (k : Nat) ∧ (∀ j (h : j < l.length), j < k → p l[j] = false) ∧ Below w.heap.size w wr) (fun i _ => l.length - (intOf i).toNat)
  case atStart => exact ⟨0, Nat.zero_le _, rfl, fun j _ h => absurd h (by omega), Below.refl _ _⟩
  case round =>
    obtain ⟨k, hk, rfl, hno, hb⟩ := hrel
    have HNO := Lib.hid hno; clear hno
    by_cases hlt : k < l.length
    rotate_left
    · go_wp2
      go_ret
      refine ⟨⟨-1, rfl, ?_⟩, hb⟩
      have : l.any p = false := List.any_eq_false.2 (fun c hc => by
        obtain ⟨j, hj, rfl⟩ := List.getElem_of_mem hc
        rw [HNO.out j hj (by omega)]
        simp)
      rw [this]; rfl
    obtain ⟨-, hi, hg, hc⟩ := HX.out k hlt
    have rd := fun j hj => (hb.cell (p := ⟨g, off + 6 * k + j, none⟩) hg).trans (hc j hj)
    clear hc
    have HFK := Lib.hid (HF.out l[k] (List.getElem_mem hlt) wr hb)
    cases hbd : p l[k]
    · have HBD := Lib.hid hbd; clear hbd
      have HFK2 := Lib.hid (HBD.out ▸ HFK.out); clear HFK
      generalize l[k] = q at HFK2 rd
      obtain ⟨q0, ⟨q1, q2⟩, q3, q4, q5, q6⟩ := q
      have r0 : wr.cell? ⟨g, off + 6 * k, none⟩ = some (.int .i64 q0) := rd 0 (by omega)
      have r1 : wr.cell? ⟨g, off + 6 * k + 1, none⟩ = some (.int .i64 q1) := rd 1 (by omega)
      have r2 : wr.cell? ⟨g, off + 6 * k + 2, none⟩ = some (.int .i64 q2) := rd 2 (by omega)
      have r3 : wr.cell? ⟨g, off + 6 * k + 3, none⟩ = some (.int .i64 q3) := rd 3 (by omega)
      have r4 : wr.cell? ⟨g, off + 6 * k + 4, none⟩ = some (.int .i64 q4) := rd 4 (by omega)
      have r5 : wr.cell? ⟨g, off + 6 * k + 5, none⟩ = some q5 := rd 5 (by omega)
      clear rd
      go_wp2_with (go_at_call 45; refine HFK2.out.mono ?_; go_must (rintro e w1 ⟨rfl, hb1⟩))
      go_roundw
      case rel =>
        refine ⟨k + 1, hlt, by simp, fun j h hj => ?_, hb.trans (hb1.mono hb.size)⟩
        by_cases he : j = k
        · subst he; exact HBD.out
        · exact HNO.out j h (by omega)
      case measure => simp only [intOf]; omega
    · have HBD := Lib.hid hbd; clear hbd
      have HFK2 := Lib.hid (HBD.out ▸ HFK.out); clear HFK
      generalize l[k] = q at HFK2 rd
      obtain ⟨q0, ⟨q1, q2⟩, q3, q4, q5, q6⟩ := q
      have r0 : wr.cell? ⟨g, off + 6 * k, none⟩ = some (.int .i64 q0) := rd 0 (by omega)
      have r1 : wr.cell? ⟨g, off + 6 * k + 1, none⟩ = some (.int .i64 q1) := rd 1 (by omega)
      have r2 : wr.cell? ⟨g, off + 6 * k + 2, none⟩ = some (.int .i64 q2) := rd 2 (by omega)
      have r3 : wr.cell? ⟨g, off + 6 * k + 3, none⟩ = some (.int .i64 q3) := rd 3 (by omega)
      have r4 : wr.cell? ⟨g, off + 6 * k + 4, none⟩ = some (.int .i64 q4) := rd 4 (by omega)
      have r5 : wr.cell? ⟨g, off + 6 * k + 5, none⟩ = some q5 := rd 5 (by omega)
      clear rd
      go_wp2_with (go_at_call 45; refine HFK2.out.mono ?_; go_must (rintro e w1 ⟨rfl, hb1⟩))
      go_ret
      refine ⟨⟨(k : Int), rfl, ?_⟩, hb.trans (hb1.mono hb.size)⟩
      have : l.any p = true := List.any_eq_true.2 ⟨_, List.getElem_mem hlt, HBD.out⟩
      rw [this]; simp
set_option maxHeartbeats 4000000 in
theorem con_mv (b1 : Value) (l : List OpD) (p : OpD → Bool) (w : World) (v : Value) (hv : SlOf w w.heap.size 6 encOp v l)
    (hf : ∀ q ∈ l, ∀ W, Below w.heap.size w W → Calls Try.prog 45 #[.agg #[.int .i64 q.t, .int .i64 q.c.1, .int .i64 q.c.2, .int .i64 q.unit, .int .i64 q.kind, q.fv], b1] W fun e W' => e = .returned (.bool (p q)) ∧ Below W.heap.size W W') :
    Calls Try.prog 44 #[v, .func (.func 45) #[] #[b1]] w fun e w' => e = .returned (.bool (l.any p)) ∧ Below w.heap.size w w' := by
  have H := Lib.hid ((idx_mv (l := l) (p := p) (w := w) (v := v) (hv := hv) (hf := hf)))
  clear hv hf
  go_enter Try.func44, Try.ntmps44
  go_wp2_with (go_at_call 58; refine H.out.mono ?_; clear H; go_must (rintro e w1 ⟨⟨z, rfl, hz⟩, hb1⟩; have HZ := Lib.hid hz; clear hz))
  go_ret
  exact ⟨ret_bool HZ.out, hb1⟩
set_option maxHeartbeats 4000000 in
theorem Valid_l (p : List OpD) (v : Value) (w : World) (hp : ProgRd w v p) : Calls Try.prog 22 #[v] w fun e w' => e = .returned (.bool (validP p)) ∧ Below w.heap.size w w' := by
  have HP := Lib.hid hp
  obtain ⟨a, cap, g, off, rfl, hl, hm, -⟩ := ops_at hp
  have HV := Lib.hid (show validP p = (decide (p.length ≤ 4000) && p.all (opB p.length)) from rfl)
  obtain ⟨W0, hW0⟩ : ∃ W : World, w.alloc (Obj.cells #[.slice a p.length cap] 22) = W := ⟨_, rfl⟩
  have kw0 : Below w.heap.size w W0 := by rw [← hW0]; exact (by repeat (first | exact Below.refl _ _ | assumption | (refine Below.drew ?_) | (refine below_drewN ?_ _) | (refine Below.alloc ?_ (by first | (simp; done) | (simp; omega) | omega) _) | (refine Below.setCell ?_ (by first | (simp; done) | (simp; omega) | omega) _) | (refine Below.trans ?_ (Below.mono (by assumption) (by first | (simp; done) | (simp; omega) | omega)))))
  have ks0 : W0.heap.size = w.heap.size + 1 := by rw [← hW0]; simp
  have RD0 := Lib.hid (show ∀ V, Below W0.heap.size W0 V → V.cell? ⟨w.heap.size, 0, none⟩ = some (.slice a p.length cap) from fun V h => by
      refine (h.cell (p := ⟨w.heap.size, 0, none⟩) (by simp; omega)).trans ?_; subst hW0; go_simp)
  have HW0 := Lib.hid hW0; have KW0 := Lib.hid kw0; clear hW0 kw0
  have hsW : w.heap.size ≤ W0.heap.size := by omega
  by_cases hle : p.length ≤ 4000
  rotate_left
  · have hE := Lib.hid (show validP p = false by rw [HV.out, decide_eq_false hle]; rfl)
    have hlz : ¬ (p.length : Int) ≤ 4000 := by omega
    clear hle hp HP
    go_enter Try.func22, Try.ntmps22
    go_wp2
    go_ret
    exact ⟨ret_bool hE.out.symm, by repeat (first | exact Below.refl _ _ | assumption | (refine Below.drew ?_) | (refine below_drewN ?_ _) | (refine Below.alloc ?_ (by first | (simp; done) | (simp; omega) | omega) _) | (refine Below.setCell ?_ (by first | (simp; done) | (simp; omega) | omega) _) | (refine Below.trans ?_ (Below.mono (by assumption) (by first | (simp; done) | (simp; omega) | omega))))⟩
  have hlz : (p.length : Int) ≤ 4000 := by omega
  have HC := Lib.hid (con_mv (.pointer (some ⟨w.heap.size, 0, none⟩)) p (fun o => !opB p.length o) W0 _ (HP.out.below KW0.out).ops (fun o ho U hU => valid1_l p _ w.heap.size (by omega) U ((HP.out.below KW0.out).below hU) (by have := hU.size; omega) (RD0.out U hU) o ho))
  have HE := Lib.hid (show validP p = !(p.any fun o => !opB p.length o) by rw [HV.out, decide_eq_true hle, not_any']; rfl)
  rw [HE.out]
  generalize (p.any fun o => !opB p.length o) = B at *
  clear hle hp HP HV HE
  have K0 := Below.refl W0.heap.size W0
  have k0_0 := RD0.out _ K0
  go_enter Try.func22, Try.ntmps22
  go_wp2_with (go_at_call 44; rw [HW0.out]; refine HC.out.mono ?_; go_must (rintro e w1 ⟨rfl, hb1⟩))
  go_ret
  exact ⟨rfl, below_at KW0.out hsW hb1⟩
end Go.Proofs.Ytbjbdochffocoaa
