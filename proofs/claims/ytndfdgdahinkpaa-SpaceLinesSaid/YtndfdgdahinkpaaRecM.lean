/- Package rec: Valid: its walk. -/
import Derived.Test.YtndfdgdahinkpaaRecL
import Derived.StringKeys
namespace Go.Proofs.Ytndfdgdahinkpaa
open Go.RowKit
theorem str_keyed : Maps.Keyed Try.prog 9 := Maps.string_keyed Try.underlying9
def memN (s : ByteArray) (l : List ByteArray) : Bool := l.any fun t => decide (t = s)
theorem memN_iff (s : ByteArray) (l : List ByteArray) : memN s l = true ↔ s ∈ l := by simp [memN]
/-- Block b is the map of the names l, n entries at most. -/
def NMap (w : World) (b n : Nat) (l : List ByteArray) : Prop := MapV Try.prog 9 (fun s : ByteArray => Value.string s) w b n (fun s => if memN s l = true then some (.bool true) else none)
theorem NMap.made (w : World) : NMap (w.alloc (.map #[] 0)) w.heap.size 0 [] := by
  have := MapV.made Try.prog 9 (fun s : ByteArray => Value.string s) w
  unfold NMap
  simpa [memN] using this
theorem NMap.look {w : World} {b n : Nat} {l : List ByteArray} (h : NMap w b n l) (s : ByteArray) (hs : s.size ≤ maxLen) : (Instr.lookup 161 (.map (some b)) (.string s) false).run Try.prog w = .ok (.bool (memN s l)) w := by
  have := MapV.look h str_keyed (t := 161) Try.underlying161 (z := .bool false) (by kernel_rfl) (a := s) (WideMaps.keyOf_string_mk Try.underlying9 hs)
  rw [this]
  cases hm : memN s l <;> simp
theorem NMap.put {w : World} {b n : Nat} {l : List ByteArray} (h : NMap w b n l) (hn : n < 1000000) (s : ByteArray) (hs : s.size ≤ maxLen) : ∃ w', (Instr.mapUpdate 161 (.map (some b)) (.string s) (.bool true)).run Try.prog w = .ok () w' ∧ NMap w' b (n + 1) (l ++ [s]) ∧ w.grownBy w' (some b) := by
  obtain ⟨w', hr, hm, hg⟩ := MapV.put h str_keyed (t := 161) Try.underlying161 (fun x y e => by cases e; rfl) hn (a := s) (WideMaps.keyOf_string_mk Try.underlying9 hs) (.bool true)
  refine ⟨w', hr, ?_, hg⟩
  unfold NMap
  have e : (fun x => if x = s then some (Value.bool true) else if memN x l = true then some (Value.bool true) else none) = (fun x => if memN x (l ++ [s]) = true then some (Value.bool true) else none) := by
    funext x
    by_cases h1 : x = s
    · simp [h1, memN]
    · have h3 : ¬ s = x := fun e => h1 e.symm
      have e3 : memN x (l ++ [s]) = memN x l := by simp [memN, h3]
      rw [if_neg h1, e3]
  rwa [e] at hm
theorem sz_vars (W : World) : (sizeOf (Try.prog.elem 25)).run Try.prog W = .ok 7 W := by kernel_rfl
theorem un_vars : Try.prog.underlying 25 = some (.slice (Try.prog.elem 25)) := by kernel_rfl
/-- What the first k variables pay. -/
def okTo (n nv : Int) (vs : List VarD) (k : Nat) : Prop := (vs.take k).all (varB n nv) = true ∧ (names (vs.take k)).Nodup
theorem okTo_0 (n nv : Int) (vs : List VarD) : okTo n nv vs 0 := by simp [okTo, names]
theorem okTo_succ {n nv : Int} {vs : List VarD} {k : Nat} (h : okTo n nv vs k) (hk : k < vs.length) (h1 : varB n nv vs[k] = true) (h2 : vs[k].name ∉ names (vs.take k)) : okTo n nv vs (k + 1) := by
  unfold okTo names at *
  rw [List.take_succ_eq_append_getElem hk, List.all_append, List.map_append]
  refine ⟨by simp [h.1, h1], ?_⟩
  rw [List.nodup_append]
  refine ⟨h.2, by simp, fun a ha b hb => ?_⟩
  simp only [List.map_cons, List.map_nil, List.mem_singleton] at hb
  subst hb
  rintro rfl
  exact h2 ha
theorem validR_no1 {n : Int} {l : List IneqD} {vs : List VarD} {k : Nat} (hk : k < vs.length) (h : varB n vs.length vs[k] = false) : validR n l vs = false := by
  have : vs.all (varB n vs.length) = false := List.all_eq_false.2 ⟨_, List.getElem_mem hk, by rw [h]; simp⟩
  simp [validR, this]
theorem validR_no2 {n : Int} {l : List IneqD} {vs : List VarD} {k : Nat} (hk : k < vs.length) (h : vs[k].name ∈ names (vs.take k)) : validR n l vs = false := by
  have : ¬ (names vs).Nodup := fun hn => by
    have e : names vs = names (vs.take k) ++ (vs[k].name :: names (vs.drop (k + 1))) := by
      unfold names
      conv => lhs; rw [← List.take_append_drop k vs, List.drop_eq_getElem_cons hk, List.map_append, List.map_cons]
    rw [e, List.nodup_append] at hn
    exact hn.2.2 _ h _ (by simp) rfl
  simp [validR, this]
theorem validR_yes {n : Int} {l : List IneqD} {vs : List VarD} (h : okTo n vs.length vs vs.length) (hd : validD n l = true) (hl : (ptsL n l).length ≤ 1000) (h1 : 1 ≤ vs.length ∧ vs.length ≤ 4) : validR n l vs = true := by
  obtain ⟨h2, h3⟩ := h
  rw [List.take_length] at h2 h3
  simp [validR, hd, hl, h1, h3]
  simpa using h2
/-- A recurrence, as a value. -/
abbrev recVal (r : RecD) : Value := .agg #[.int .i64 r.n, r.lv, r.vv]
set_option maxHeartbeats 4000000 in
set_option maxRecDepth 100000 in
theorem rValid_l (r : RecD) (w : World) (hr : RecRd w r) :
    Calls Try.prog 66 #[.agg #[.int .i64 r.n, r.lv, r.vv]] w fun e w' => e = .returned (.bool (validR r.n r.l r.vars)) ∧ Below w.heap.size w w' := by
  obtain ⟨hl, hvs, heach⟩ := hr
  obtain ⟨n, lv, l, vv, vs⟩ := r
  simp only at hl hvs heach ⊢
  have HL := Lib.hid hl; clear hl
  obtain ⟨va, vcap, vg, voff, rfl, hlc, hcm, hx⟩ := SlOf.at (enc := encV) (fun _ => rfl) un_vars sz_vars hvs
  have HX := Lib.hid hx; clear hx hvs
  have HE := Lib.hid heach; clear heach
  unfold maxLen at hcm
  have HC := Lib.hid (fun (W : World) (hw : SlOf W W.heap.size 4 encI lv l) => Count_l n l W lv hw)
  obtain ⟨W0, hW0⟩ : ∃ W : World, w.alloc (Obj.cells #[.int .i64 n, lv, .slice va vs.length vcap] 27) = W := ⟨_, rfl⟩
  have kw : Below w.heap.size w W0 := by rw [← hW0]; exact (by repeat (first | exact Below.refl _ _ | assumption | (refine Below.drew ?_) | (refine below_drewN ?_ _) | (refine Below.alloc ?_ (by first | (simp; done) | (simp; omega) | omega) _) | (refine Below.setCell ?_ (by first | (simp; done) | (simp; omega) | omega) _) | (refine Below.trans ?_ (Below.mono (by assumption) (by first | (simp; done) | (simp; omega) | omega)))))
  have ks : W0.heap.size = w.heap.size + 1 := by rw [← hW0]; simp
  have y0 : W0.cell? ⟨w.heap.size, 0, none⟩ = some (.int .i64 n) := by subst hW0; go_simp
  have y2 : W0.cell? ⟨w.heap.size, 2, none⟩ = some (.slice va vs.length vcap) := by subst hW0; go_simp
  have HW := Lib.hid hW0; have KW := Lib.hid kw; clear hW0 kw
  cases hd : validD n l
  · have EV := Lib.hid (show validR n l vs = false by simp [validR, hd])
    have HD := Lib.hid hd; clear hd
    go_enter Try.func66, Try.ntmps66
    go_wp2_with (go_at_call 27; rw [HW.out]; refine (HC.out _ (HL.out.below KW.out)).mono ?_; go_must (rintro e w1 ⟨rfl, hb1⟩; rw [HD.out, if_neg (by simp)]))
    go_ret
    exact ⟨ret_bool EV.out.symm, below_at KW.out (by omega) hb1⟩
  have HD := Lib.hid hd; clear hd
  have hdn := (validD_out HD.out).1
  have hln := ptsL_len n l
  have EV0 := Lib.hid (show validR n l vs = (validD n l && (decide ((ptsL n l).length ≤ 1000) && (decide (1 ≤ vs.length ∧ vs.length ≤ 4) && (vs.all (varB n vs.length) && decide (names vs).Nodup)))) from rfl)
  by_cases h1000 : (ptsL n l).length ≤ 1000
  rotate_left
  · have EV := Lib.hid (show validR n l vs = false by rw [EV0.out]; simp [h1000])
    clear EV0
    generalize hN : (ptsL n l).length = N at *
    have HN := Lib.hid hN; clear hN
    go_enter Try.func66, Try.ntmps66
    go_wp2_with (go_at_call 27; rw [HW.out]; refine (HC.out _ (HL.out.below KW.out)).mono ?_; go_must (rintro e w1 ⟨rfl, hb1⟩; rw [HD.out, if_pos rfl]))
    go_ret
    exact ⟨ret_bool EV.out.symm, below_at KW.out (by omega) hb1⟩
  by_cases h14 : 1 ≤ vs.length ∧ vs.length ≤ 4
  rotate_left
  · have EV := Lib.hid (show validR n l vs = false by rw [EV0.out]; simp [h14])
    have HB := Lib.hid (show btw 1 (vs.length : Int) 4 = false by rw [← Bool.not_eq_true]; intro h; have := btw_out h; omega)
    clear EV0
    generalize hN : (ptsL n l).length = N at *
    have HN := Lib.hid hN; clear hN
    have y2' := fun (W : World) (h : Below W0.heap.size W0 W) => (h.cell (p := ⟨w.heap.size, 2, none⟩) (by simp; omega)).trans y2
    go_enter Try.func66, Try.ntmps66
    go_wp2_with (first | (go_at_call 27; rw [HW.out]; refine (HC.out _ (HL.out.below KW.out)).mono ?_; go_must (rintro e w1 ⟨rfl, hb1⟩; rw [HD.out, if_pos rfl]; have k2 := y2' _ hb1; clear y2')) | (go_at_call 91; refine (rbetween_l _ _ _ _).mono ?_; go_must (rintro e w2 ⟨rfl, rfl⟩; rw [HB.out])))
    go_ret
    exact ⟨ret_bool EV.out.symm, below_at KW.out (by omega) hb1⟩
  have EVY := Lib.hid (fun (h : okTo n vs.length vs vs.length) => validR_yes (l := l) h HD.out h1000 h14)
  clear EV0
  have HBT := Lib.hid (show btw 1 (vs.length : Int) 4 = true by simp [btw]; omega)
  generalize hN : (ptsL n l).length = N at *
  have HN := Lib.hid hN; clear hN
  have RD := Lib.hid (show ∀ V, Below W0.heap.size W0 V → V.cell? ⟨w.heap.size, 0, none⟩ = some (.int .i64 n) ∧ V.cell? ⟨w.heap.size, 2, none⟩ = some (.slice va vs.length vcap) from fun V h => ⟨(h.cell (p := ⟨w.heap.size, 0, none⟩) (by simp; omega)).trans y0, (h.cell (p := ⟨w.heap.size, 2, none⟩) (by simp; omega)).trans y2⟩)
  clear y0 y2
  have hmm := @run_makeMap Try.prog
  go_enter Try.func66, Try.ntmps66
  go_wp2_with (first | (go_at_call 27; rw [HW.out]; refine (HC.out _ (HL.out.below KW.out)).mono ?_; go_must (rintro e w1 ⟨rfl, hb1⟩; rw [HD.out, if_pos rfl]; obtain ⟨k0, k2⟩ := RD.out _ hb1; have hs1 := hb1.size; have zz := z1 (show w.heap.size + 1 ≤ w1.heap.size by omega))) | (go_at_call 91; refine (rbetween_l _ _ _ _).mono ?_; go_must (rintro e w1 ⟨rfl, rfl⟩; rw [HBT.out])))
  clear hmm k0 k2
  have KW1 := Lib.hid (below_at KW.out (by omega) hb1)
  have HB1 := Lib.hid hb1; clear hb1
  go_loopw [31] (fun t31 wr => ∃ k nn : Nat, k ≤ vs.length ∧ t31 = .int .i64 (k : Nat) ∧ Hid (okTo n vs.length vs k) ∧ Hid (NMap wr w1.heap.size nn (names (vs.take k))) ∧ nn ≤ k ∧ Below w1.heap.size w1 wr ∧ w1.heap.size < wr.heap.size) (fun t31 _ => vs.length - (intOf t31).toNat)
  case atStart => exact ⟨0, 0, Nat.zero_le _, rfl, Lib.hid (okTo_0 _ _ _), Lib.hid (NMap.made _), Nat.le_refl _, (Below.refl _ _).alloc (Nat.le_refl _) _, by simp⟩
  case round =>
    obtain ⟨k, nn, hk, rfl, HO, HM, hnn, hb, hsz⟩ := hrel
    by_cases hlt : k < vs.length
    rotate_left
    · have HK := Lib.hid (show k = vs.length by omega)
      go_wp2
      go_ret
      refine ⟨ret_bool ?_, below_at KW1.out (by omega) hb⟩
      have := HO.out
      rw [HK.out] at this
      exact (EVY.out this).symm
    obtain ⟨-, hi, hg, hc⟩ := HX.out k hlt
    have KR := below_at KW1.out (by omega) hb
    have rd := fun j hj => (KR.cell (p := ⟨vg, voff + 7 * k + j, none⟩) hg).trans (hc j hj)
    obtain ⟨k0, k2⟩ := RD.out wr (below_at HB1.out hs1 hb)
    clear hc
    have HVR := Lib.hid (HE.out vs[k] (List.getElem_mem hlt))
    have HVV := Lib.hid (show ∀ V, Below w.heap.size w V → Calls Try.prog 92 #[.agg #[.string vs[k].name, .int .i64 vs[k].op, vs[k].argsV, .int .i64 vs[k].i0, .int .i64 vs[k].i1, .int .i64 vs[k].i2, .int .i64 vs[k].i3], .int .i64 (vs.length : Nat), .int .i64 n] V fun e w' => e = .returned (.bool (varB n vs.length vs[k])) ∧ Below V.heap.size V w' from
      fun V hV => validVar_l n vs.length hdn ⟨by omega, by omega⟩ vs[k] V ⟨HVR.out.1.below hV, HVR.out.2⟩)
    have HN1 := Lib.hid (fun (h : varB n vs.length vs[k] = false) => validR_no1 (l := l) hlt h)
    have HN2 := Lib.hid (fun (h : vs[k].name ∈ names (vs.take k)) => validR_no2 (n := n) (l := l) hlt h)
    have HS := Lib.hid (fun (h1 : varB n vs.length vs[k] = true) (h2 : vs[k].name ∉ names (vs.take k)) => okTo_succ HO.out hlt h1 h2)
    have HT := Lib.hid (show names (vs.take (k + 1)) = names (vs.take k) ++ [vs[k].name] by unfold names; rw [List.take_succ_eq_append_getElem hlt, List.map_append]; rfl)
    have HSH := HVR.out.1.shape
    have HNM := Lib.hid HVR.out.2
    clear HVR HO
    generalize vs[k] = x at *
    obtain ⟨s, op, av, args, i0, i1, i2, i3⟩ := x
    simp only at HVV HSH HNM HN2 HS HT
    obtain ⟨aa, ac, rfl, -⟩ := HSH
    have r0 : wr.cell? ⟨vg, voff + 7 * k, none⟩ = some (.string s) := rd 0 (by omega)
    have r1 : wr.cell? ⟨vg, voff + 7 * k + 1, none⟩ = some (.int .i64 op) := rd 1 (by omega)
    have r2 : wr.cell? ⟨vg, voff + 7 * k + 2, none⟩ = some (.slice aa args.length ac) := rd 2 (by omega)
    have r3 : wr.cell? ⟨vg, voff + 7 * k + 3, none⟩ = some (.int .i64 i0) := rd 3 (by omega)
    have r4 : wr.cell? ⟨vg, voff + 7 * k + 4, none⟩ = some (.int .i64 i1) := rd 4 (by omega)
    have r5 : wr.cell? ⟨vg, voff + 7 * k + 5, none⟩ = some (.int .i64 i2) := rd 5 (by omega)
    have r6 : wr.cell? ⟨vg, voff + 7 * k + 6, none⟩ = some (.int .i64 i3) := rd 6 (by omega)
    clear rd
    have zq := z1 (show w.heap.size + 1 ≤ wr.heap.size by omega)
    generalize hvb : varB n vs.length ⟨s, op, .slice aa args.length ac, args, i0, i1, i2, i3⟩ = vb at *
    have HVB := Lib.hid hvb; clear hvb
    cases vb
    · go_wp2_with (first | (go_at_call 92; refine (HVV.out _ (by repeat (first | exact Below.refl _ _ | assumption | (refine Below.drew ?_) | (refine below_drewN ?_ _) | (refine Below.alloc ?_ (by first | (simp; done) | (simp; omega) | omega) _) | (refine Below.setCell ?_ (by first | (simp; done) | (simp; omega) | omega) _) | (refine Below.trans ?_ (Below.mono (by assumption) (by first | (simp; done) | (simp; omega) | omega)))))).mono ?_; go_must (rintro e w2 ⟨rfl, hb2⟩)))
      go_ret
      exact ⟨ret_bool (HN1.out (by simp)).symm, below_at KR (by omega) (by repeat (first | exact Below.refl _ _ | assumption | (refine Below.drew ?_) | (refine below_drewN ?_ _) | (refine Below.alloc ?_ (by first | (simp; done) | (simp; omega) | omega) _) | (refine Below.setCell ?_ (by first | (simp; done) | (simp; omega) | omega) _) | (refine Below.trans ?_ (Below.mono (by assumption) (by first | (simp; done) | (simp; omega) | omega)))))⟩
    generalize hmem : memN s (names (vs.take k)) = mb
    have HMB := Lib.hid hmem; clear hmem
    cases mb
    · go_wp2_with (first | (go_at_call 92; refine (HVV.out _ (by repeat (first | exact Below.refl _ _ | assumption | (refine Below.drew ?_) | (refine below_drewN ?_ _) | (refine Below.alloc ?_ (by first | (simp; done) | (simp; omega) | omega) _) | (refine Below.setCell ?_ (by first | (simp; done) | (simp; omega) | omega) _) | (refine Below.trans ?_ (Below.mono (by assumption) (by first | (simp; done) | (simp; omega) | omega)))))).mono ?_; go_must (rintro e w2 ⟨rfl, hb2⟩; obtain ⟨hc2, hf2⟩ := bcell hb2; have hz2 := hb2.size; (try simp at hz2); (first | have z := z10 hz2 | have z := z9 hz2 | have z := z8 hz2 | have z := z7 hz2 | have z := z6 hz2 | have z := z5 hz2 | have z := z4 hz2 | have z := z3 hz2 | have z := z2 hz2 | have z := z1 hz2 | skip); have hbE := Lib.hid (show Below wr.heap.size wr w2 from ((Below.refl wr.heap.size wr).alloc (Nat.le_refl _) _).trans (hb2.mono (by simp))); have HM2 := Lib.hid (MapV.kept HM.out hbE.out); have hlook := NMap.look HM2.out s HNM.out; rw [HMB.out] at hlook; obtain ⟨w6, hr6, hN6, hg6⟩ := NMap.put HM2.out (by omega) s HNM.out; have HN6 := Lib.hid hN6; clear hN6)))
      have hs6 := hg6.size
      go_roundw
      case rel =>
        refine ⟨k + 1, nn + 1, hlt, by simp, Lib.hid (HS.out (by simp) (fun hm => by have := HMB.out; rw [(memN_iff _ _).2 hm] at this; cases this)), Lib.hid ?_, by omega, ?_, by omega⟩
        · rw [HT.out]; exact HN6.out
        · exact (below_at hb (by omega) hbE.out).grown hg6 (by omega) (fun r e => by cases e; exact Nat.le_refl _)
      case measure => simp only [intOf]; omega
    · go_wp2_with (first | (go_at_call 92; refine (HVV.out _ (by repeat (first | exact Below.refl _ _ | assumption | (refine Below.drew ?_) | (refine below_drewN ?_ _) | (refine Below.alloc ?_ (by first | (simp; done) | (simp; omega) | omega) _) | (refine Below.setCell ?_ (by first | (simp; done) | (simp; omega) | omega) _) | (refine Below.trans ?_ (Below.mono (by assumption) (by first | (simp; done) | (simp; omega) | omega)))))).mono ?_; go_must (rintro e w2 ⟨rfl, hb2⟩; obtain ⟨hc2, hf2⟩ := bcell hb2; have hz2 := hb2.size; (try simp at hz2); (first | have z := z10 hz2 | have z := z9 hz2 | have z := z8 hz2 | have z := z7 hz2 | have z := z6 hz2 | have z := z5 hz2 | have z := z4 hz2 | have z := z3 hz2 | have z := z2 hz2 | have z := z1 hz2 | skip); have hbE := Lib.hid (show Below wr.heap.size wr w2 from ((Below.refl wr.heap.size wr).alloc (Nat.le_refl _) _).trans (hb2.mono (by simp))); have hlook := NMap.look (MapV.kept HM.out hbE.out) s HNM.out; rw [HMB.out] at hlook)))
      go_ret
      exact ⟨ret_bool (HN2.out ((memN_iff _ _).1 HMB.out)).symm, below_at KR (by omega) hbE.out⟩
end Go.Proofs.Ytndfdgdahinkpaa
