/- Package rec: validVar: its walk. -/
import Derived.Test.YtndfdgdahinkpaaRecK
namespace Go.Proofs.Ytndfdgdahinkpaa
open Go.RowKit
theorem ix4_0 (a b c d : Value) (w : World) : (Instr.index 80 (.agg #[a, b, c, d]) (.int .i64 0)).run Try.prog w = .ok a w := by kernel_rfl
theorem ix4_1 (a b c d : Value) (w : World) : (Instr.index 80 (.agg #[a, b, c, d]) (.int .i64 1)).run Try.prog w = .ok b w := by kernel_rfl
theorem ix4_2 (a b c d : Value) (w : World) : (Instr.index 80 (.agg #[a, b, c, d]) (.int .i64 2)).run Try.prog w = .ok c w := by kernel_rfl
theorem ix4_3 (a b c d : Value) (w : World) : (Instr.index 80 (.agg #[a, b, c, d]) (.int .i64 3)).run Try.prog w = .ok d w := by kernel_rfl
theorem sz_va (W : World) : (sizeOf (Try.prog.elem 79)).run Try.prog W = .ok 4 W := by kernel_rfl
theorem un_va : Try.prog.underlying 79 = some (.slice (Try.prog.elem 79)) := by kernel_rfl
set_option maxHeartbeats 4000000 in
set_option maxRecDepth 100000 in
theorem idx_va (b1 b2 : Value) (l : List ArgD) (p : ArgD → Bool) (w : World) (v : Value) (hv : SlOf w w.heap.size 4 encA v l)
    (hf : ∀ q ∈ l, ∀ W, Below w.heap.size w W → Calls Try.prog 110 #[.agg #[.int .i64 q.var, .int .i64 q.at_.1, .int .i64 q.at_.2.1, .int .i64 q.at_.2.2], b1, b2] W fun e W' => e = .returned (.bool (p q)) ∧ Below W.heap.size W W') :
    Calls Try.prog 136 #[v, .func (.func 110) #[] #[b1, b2]] w fun e w' => (∃ z : Int, e = .returned (.int .i64 z) ∧ decide (0 ≤ z) = l.any p) ∧ Below w.heap.size w w' := by
  obtain ⟨a, cap, g, off, rfl, hlc, hcm, hx⟩ := SlOf.at (enc := encA) (fun _ => rfl) un_va sz_va hv
  have HX := Lib.hid hx; clear hx hv
  have HF := Lib.hid hf; clear hf
  unfold maxLen at hcm
  go_enter Try.func136, Try.ntmps136
  go_wp2
  go_loopw [8] (fun i wr => ∃ k : Nat, k ≤ l.length ∧ i = .int .i64 (k : Nat) ∧ (∀ j (h : j < l.length), j < k → p l[j] = false) ∧ Below w.heap.size w wr) (fun i _ => l.length - (intOf i).toNat)
  case atStart => exact ⟨0, Nat.zero_le _, rfl, fun j _ h => absurd h (by omega), Below.refl _ _⟩
  case round =>
    obtain ⟨k, hk, rfl, hno, hb⟩ := hrel
    have HNO := Lib.hid hno; clear hno
    by_cases hlt : k < l.length
    rotate_left
    · go_wp2
      go_ret
      refine ⟨⟨-1, rfl, ?_⟩, hb⟩
      have : l.any p = false := List.any_eq_false.2 (fun c hc => by
        obtain ⟨j, hj, rfl⟩ := List.getElem_of_mem hc
        rw [HNO.out j hj (by omega)]
        simp)
      rw [this]; rfl
    obtain ⟨-, hi, hg, hc⟩ := HX.out k hlt
    have rd := fun j hj => (hb.cell (p := ⟨g, off + 4 * k + j, none⟩) hg).trans (hc j hj)
    clear hc
    have HFK := Lib.hid (HF.out l[k] (List.getElem_mem hlt) wr hb)
    cases hbd : p l[k]
    · have HBD := Lib.hid hbd; clear hbd
      have HFK2 := Lib.hid (HBD.out ▸ HFK.out); clear HFK
      generalize l[k] = q at HFK2 rd
      obtain ⟨q0, q1, q2, q3⟩ := q
      have r0 : wr.cell? ⟨g, off + 4 * k, none⟩ = some (.int .i64 q0) := rd 0 (by omega)
      have r1 : wr.cell? ⟨g, off + 4 * k + 1, none⟩ = some (.int .i64 q1) := rd 1 (by omega)
      have r2 : wr.cell? ⟨g, off + 4 * k + 2, none⟩ = some (.int .i64 q2) := rd 2 (by omega)
      have r3 : wr.cell? ⟨g, off + 4 * k + 3, none⟩ = some (.int .i64 q3) := rd 3 (by omega)
      clear rd
      go_wp2_with (go_at_call 110; refine HFK2.out.mono ?_; go_must (rintro e w1 ⟨rfl, hb1⟩))
      go_roundw
      case rel =>
        refine ⟨k + 1, hlt, by simp, fun j h hj => ?_, hb.trans (hb1.mono hb.size)⟩
        by_cases he : j = k
        · subst he; exact HBD.out
        · exact HNO.out j h (by omega)
      case measure => simp only [intOf]; omega
    · have HBD := Lib.hid hbd; clear hbd
      have HFK2 := Lib.hid (HBD.out ▸ HFK.out); clear HFK
      generalize l[k] = q at HFK2 rd
      obtain ⟨q0, q1, q2, q3⟩ := q
      have r0 : wr.cell? ⟨g, off + 4 * k, none⟩ = some (.int .i64 q0) := rd 0 (by omega)
      have r1 : wr.cell? ⟨g, off + 4 * k + 1, none⟩ = some (.int .i64 q1) := rd 1 (by omega)
      have r2 : wr.cell? ⟨g, off + 4 * k + 2, none⟩ = some (.int .i64 q2) := rd 2 (by omega)
      have r3 : wr.cell? ⟨g, off + 4 * k + 3, none⟩ = some (.int .i64 q3) := rd 3 (by omega)
      clear rd
      go_wp2_with (go_at_call 110; refine HFK2.out.mono ?_; go_must (rintro e w1 ⟨rfl, hb1⟩))
      go_ret
      refine ⟨⟨(k : Int), rfl, ?_⟩, hb.trans (hb1.mono hb.size)⟩
      have : l.any p = true := List.any_eq_true.2 ⟨_, List.getElem_mem hlt, HBD.out⟩
      rw [this]; simp
set_option maxHeartbeats 4000000 in
theorem con_va (b1 b2 : Value) (l : List ArgD) (p : ArgD → Bool) (w : World) (v : Value) (hv : SlOf w w.heap.size 4 encA v l)
    (hf : ∀ q ∈ l, ∀ W, Below w.heap.size w W → Calls Try.prog 110 #[.agg #[.int .i64 q.var, .int .i64 q.at_.1, .int .i64 q.at_.2.1, .int .i64 q.at_.2.2], b1, b2] W fun e W' => e = .returned (.bool (p q)) ∧ Below W.heap.size W W') :
    Calls Try.prog 109 #[v, .func (.func 110) #[] #[b1, b2]] w fun e w' => e = .returned (.bool (l.any p)) ∧ Below w.heap.size w w' := by
  have H := Lib.hid ((idx_va (l := l) (p := p) (w := w) (v := v) (hv := hv) (hf := hf)))
  clear hv hf
  go_enter Try.func109, Try.ntmps109
  go_wp2_with (go_at_call 136; refine H.out.mono ?_; clear H; go_must (rintro e w1 ⟨⟨z, rfl, hz⟩, hb1⟩; have HZ := Lib.hid hz; clear hz))
  go_ret
  exact ⟨ret_bool HZ.out, hb1⟩
/-- A variable, as a value. -/
def varV (v : VarD) : Value := .agg #[.string v.name, .int .i64 v.op, v.argsV, .int .i64 v.i0, .int .i64 v.i1, .int .i64 v.i2, .int .i64 v.i3]
theorem size1 {s : ByteArray} (h : s.size = 1) : ∃ c : UInt8, s = ⟨#[c]⟩ := by
  obtain ⟨⟨l⟩⟩ := s
  match l, h with
  | [c], _ => exact ⟨c, rfl⟩
set_option maxHeartbeats 4000000 in
set_option maxRecDepth 100000 in
theorem validVar_l (n nv : Int) (hn : 1 ≤ n ∧ n ≤ 3) (hnv : 0 ≤ nv ∧ nv ≤ 1000000) (v : VarD) (w : World) (hv : VarRd w v) :
    Calls Try.prog 92 #[.agg #[.string v.name, .int .i64 v.op, v.argsV, .int .i64 v.i0, .int .i64 v.i1, .int .i64 v.i2, .int .i64 v.i3], .int .i64 nv, .int .i64 n] w fun e w' => e = .returned (.bool (varB n nv v)) ∧ Below w.heap.size w w' := by
  obtain ⟨hsl, hnm⟩ := hv
  unfold maxLen at hnm
  obtain ⟨s, op, av, args, i0, i1, i2, i3⟩ := v
  simp only at hsl hnm ⊢
  have HV := Lib.hid hsl
  obtain ⟨aa, cap, rfl, hlm⟩ := hsl.shape
  clear hsl
  have EV := Lib.hid (show varB n nv ⟨s, op, .slice aa args.length cap, args, i0, i1, i2, i3⟩ = (btw 1 op 7 && (nameB s && (decide ((args.length : Int) = needsI op) && (initB n ⟨s, op, .slice aa args.length cap, args, i0, i1, i2, i3⟩ && args.all (argB n nv))))) from rfl)
  cases hop : btw 1 op 7
  · have EV2 := Lib.hid (show varB n nv ⟨s, op, .slice aa args.length cap, args, i0, i1, i2, i3⟩ = false by rw [EV.out, hop]; rfl)
    have HO := Lib.hid hop; clear hop EV
    go_enter Try.func92, Try.ntmps92
    go_wp2_with (go_at_call 108; refine (kindOf_l op _).mono ?_; go_must (rintro e w1 ⟨hk, hb1⟩; unfold KindAny at hk; rw [HO.out, if_neg (by simp)] at hk; subst hk; obtain ⟨hc1, hf1⟩ := bcell hb1; have hz1 := hb1.size; (try simp at hz1); (first | have z := z10 hz1 | have z := z9 hz1 | have z := z8 hz1 | have z := z7 hz1 | have z := z6 hz1 | have z := z5 hz1 | have z := z4 hz1 | have z := z3 hz1 | have z := z2 hz1 | have z := z1 hz1 | skip)))
    go_ret
    exact ⟨ret_bool EV2.out.symm, by repeat (first | exact Below.refl _ _ | assumption | (refine Below.drew ?_) | (refine below_drewN ?_ _) | (refine Below.alloc ?_ (by first | (simp; done) | (simp; omega) | omega) _) | (refine Below.setCell ?_ (by first | (simp; done) | (simp; omega) | omega) _) | (refine Below.trans ?_ (Below.mono (by assumption) (by first | (simp; done) | (simp; omega) | omega))))⟩
  have HO := Lib.hid hop
  have KO := Lib.hid (fun W => show Calls Try.prog 108 #[.int .i64 op] W fun e w' => KindR (needsI op) e ∧ Below W.heap.size W w' from (kindOf_l op W).mono fun e w' ⟨h, hb⟩ => ⟨by unfold KindAny at h; rwa [HO.out, if_pos rfl] at h, hb⟩)
  have HND := btw_out hop
  clear hop
  by_cases h1 : s.size = 1
  rotate_left
  · have EV2 := Lib.hid (show varB n nv ⟨s, op, .slice aa args.length cap, args, i0, i1, i2, i3⟩ = false by rw [EV.out]; simp [nameB, h1])
    clear EV
    go_enter Try.func92, Try.ntmps92
    go_wp2_with (go_at_call 108; refine (KO.out _).mono ?_; go_must (rintro e w1 ⟨⟨wd, fn, rfl⟩, hb1⟩; obtain ⟨hc1, hf1⟩ := bcell hb1; have hz1 := hb1.size; (try simp at hz1); (first | have z := z10 hz1 | have z := z9 hz1 | have z := z8 hz1 | have z := z7 hz1 | have z := z6 hz1 | have z := z5 hz1 | have z := z4 hz1 | have z := z3 hz1 | have z := z2 hz1 | have z := z1 hz1 | skip)))
    go_ret
    exact ⟨ret_bool EV2.out.symm, by repeat (first | exact Below.refl _ _ | assumption | (refine Below.drew ?_) | (refine below_drewN ?_ _) | (refine Below.alloc ?_ (by first | (simp; done) | (simp; omega) | omega) _) | (refine Below.setCell ?_ (by first | (simp; done) | (simp; omega) | omega) _) | (refine Below.trans ?_ (Below.mono (by assumption) (by first | (simp; done) | (simp; omega) | omega))))⟩
  obtain ⟨c, rfl⟩ := size1 h1
  clear h1
  have EC := Lib.hid (show nameB ⟨#[c]⟩ = (decide (97 ≤ (c.toNat : Int)) && decide ((c.toNat : Int) ≤ 122)) from rfl)
  have EI := Lib.hid (show initB n ⟨⟨#[c]⟩, op, .slice aa args.length cap, args, i0, i1, i2, i3⟩ = (btw 0 i0 10006 && btw 0 i1 10006 && (btw 0 i2 10006 && (decide (1 < n) || decide (i2 = 0))) && (btw 0 i3 10006 && (decide (2 < n) || decide (i3 = 0)))) from rfl)
  obtain ⟨W, hW⟩ : ∃ W : World, ((w.alloc (Obj.cells #[.string ⟨#[c]⟩, .int .i64 op, .slice aa args.length cap, .int .i64 i0, .int .i64 i1, .int .i64 i2, .int .i64 i3] 82)).alloc (Obj.cells #[.int .i64 nv] 3)).alloc (Obj.cells #[.int .i64 n] 3) = W := ⟨_, rfl⟩
  have kw : Below w.heap.size w W := by rw [← hW]; exact (by repeat (first | exact Below.refl _ _ | assumption | (refine Below.drew ?_) | (refine below_drewN ?_ _) | (refine Below.alloc ?_ (by first | (simp; done) | (simp; omega) | omega) _) | (refine Below.setCell ?_ (by first | (simp; done) | (simp; omega) | omega) _) | (refine Below.trans ?_ (Below.mono (by assumption) (by first | (simp; done) | (simp; omega) | omega)))))
  have ks : W.heap.size = w.heap.size + 3 := by rw [← hW]; simp
  have y1 : W.cell? ⟨w.heap.size + 1, 0, none⟩ = some (.int .i64 nv) := by subst hW; go_simp
  have y2 : W.cell? ⟨w.heap.size + 1 + 1, 0, none⟩ = some (.int .i64 n) := by subst hW; go_simp
  have HCA := Lib.hid (show ∀ V, Below W.heap.size W V → Calls Try.prog 109 #[.slice aa args.length cap, .func (.func 110) #[] #[.pointer (some ⟨w.heap.size + 1 + 1, 0, none⟩), .pointer (some ⟨w.heap.size + 1, 0, none⟩)]] V fun e w' => e = .returned (.bool (args.any fun q => !argB n nv q)) ∧ Below V.heap.size V w' from
    fun V hV => con_va _ _ args (fun q => !argB n nv q) V _ ((HV.out.below kw).below hV) (fun q _ U hU => vv1_l n nv hn hnv q _ _ U (by have := hV.size; have := hU.size; omega) (by have := hV.size; have := hU.size; omega) (((hU.cell (p := ⟨w.heap.size + 1 + 1, 0, none⟩) (by have := hV.size; simp; omega)).trans (hV.cell (p := ⟨w.heap.size + 1 + 1, 0, none⟩) (by simp; omega))).trans y2) (((hU.cell (p := ⟨w.heap.size + 1, 0, none⟩) (by have := hV.size; simp; omega)).trans (hV.cell (p := ⟨w.heap.size + 1, 0, none⟩) (by simp; omega))).trans y1)))
  have HR := Lib.hid (show (!(args.any fun q => !argB n nv q)) = args.all (argB n nv) from not_any_not _ _)
  have HW := Lib.hid hW; have KW := Lib.hid kw
  clear hW kw y1 y2 HV
  generalize hA : (args.any fun q => !argB n nv q) = A at *
  clear hA
  obtain ⟨hn1, hn3⟩ := hn
  generalize hB0 : btw 0 i0 10006 = B0 at EI
  generalize hB1 : btw 0 i1 10006 = B1 at EI
  generalize hB2 : btw 0 i2 10006 = B2 at EI
  generalize hB3 : btw 0 i3 10006 = B3 at EI
  have HB0 := Lib.hid hB0; have HB1 := Lib.hid hB1; have HB2 := Lib.hid hB2; have HB3 := Lib.hid hB3
  clear hB0 hB1 hB2 hB3
  have j0 := ix4_0; have j1 := ix4_1; have j2 := ix4_2; have j3 := ix4_3
  have EV9 := Lib.hid (EV.out.trans (by rw [HO.out, EC.out, EI.out, ← HR.out]))
  clear EV EC EI
  go_enter Try.func92, Try.ntmps92
  go_wp2_with (go_at_call 108; refine (KO.out _).mono ?_; go_must (rintro e w1 ⟨⟨wd, fn, rfl⟩, hb1⟩; have K := Lib.hid (show Below W.heap.size W w1 by rw [← HW.out]; exact hb1); obtain ⟨hc1, hf1⟩ := bcell hb1; have hz1 := hb1.size; (try simp at hz1); (first | have z := z10 hz1 | have z := z9 hz1 | have z := z8 hz1 | have z := z7 hz1 | have z := z6 hz1 | have z := z5 hz1 | have z := z4 hz1 | have z := z3 hz1 | have z := z2 hz1 | have z := z1 hz1 | skip)))
  all_goals (try (refine wp_loop_rounds 5 ?_))
  iterate 5 (all_goals (try (rw [rounds_succ]; go_wp2_with (first | (go_at_call 91; refine (rbetween_l _ _ _ _).mono ?_; go_must (rintro e w3 ⟨rfl, rfl⟩; first | rw [HB0.out] | rw [HB1.out] | rw [HB2.out] | rw [HB3.out])) | (go_at_call 109; refine (HCA.out _ (below_at K.out (by have := K.out.size; omega) (by repeat (first | exact Below.refl _ _ | assumption | (refine Below.drew ?_) | (refine below_drewN ?_ _) | (refine Below.alloc ?_ (by first | (simp; done) | (simp; omega) | omega) _) | (refine Below.setCell ?_ (by first | (simp; done) | (simp; omega) | omega) _) | (refine Below.trans ?_ (Below.mono (by assumption) (by first | (simp; done) | (simp; omega) | omega))))))).mono ?_; go_must (rintro e w5 ⟨rfl, hb5⟩))))))
  all_goals
    clear HCA HR HB0 HB1 HB2 HB3 j0 j1 j2 j3
    try (have hs5 := K.out.size)
    go_ret
    refine ⟨ret_bool ?_, by repeat (first | exact Below.refl _ _ | assumption | (refine Below.drew ?_) | (refine below_drewN ?_ _) | (refine Below.alloc ?_ (by first | (simp; done) | (simp; omega) | omega) _) | (refine Below.setCell ?_ (by first | (simp; done) | (simp; omega) | omega) _) | (refine Below.trans ?_ (Below.mono (by assumption) (by first | (simp; done) | (simp; omega) | omega))))⟩
    rw [EV9.out]
    clear EV9
    have hcc : ((⟨#[c]⟩ : ByteArray)[0]'(by simp [ByteArray.size])) = c := rfl
    simp_all <;> omega
end Go.Proofs.Ytndfdgdahinkpaa
