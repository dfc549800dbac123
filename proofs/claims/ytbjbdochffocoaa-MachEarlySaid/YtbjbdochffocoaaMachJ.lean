/- Package mach: meet, Meet: their walks. Spots as keys of maps. -/
import Derived.Test.YtbjbdochffocoaaMachI
import Derived.Test.YtbjbdochffocoaaMachC
namespace Go.Proofs.Ytbjbdochffocoaa
open Go.RowKit Go.WideMaps Go.Lib
set_option linter.unusedVariables false
def kvM (s : SpotD) : Value := .agg #[.int .i64 s.1, .int .i64 s.2.1, .int .i64 s.2.2.1, .int .i64 s.2.2.2]
def kvR (s : SpotD) : Value := .agg #[.int .i64 s.1, .int .i64 s.2.2.2, .int .i64 s.2.1, .int .i64 s.2.2.1]
def wfS (s : SpotD) : Prop := ((Lit.int .i64 s.1).wf = true ∧ (Lit.int .i64 s.2.1).wf = true) ∧ (Lit.int .i64 s.2.2.1).wf = true ∧ (Lit.int .i64 s.2.2.2).wf = true
theorem kvM_inj (x y : SpotD) (h : kvM x = kvM y) : x = y := by
  obtain ⟨a, b, c, d⟩ := x; obtain ⟨e, f, g, i⟩ := y
  simp only [kvM, Value.agg.injEq, Array.mk.injEq, List.cons.injEq, Value.int.injEq, true_and, and_true] at h
  simp only [Prod.mk.injEq]; exact h
theorem kvR_inj (x y : SpotD) (h : kvR x = kvR y) : x = y := by
  obtain ⟨a, b, c, d⟩ := x; obtain ⟨e, f, g, i⟩ := y
  simp only [kvR, Value.agg.injEq, Array.mk.injEq, List.cons.injEq, Value.int.injEq, true_and, and_true] at h
  simp only [Prod.mk.injEq]; exact ⟨h.1, h.2.2.1, h.2.2.2, h.2.1⟩
theorem law_mspot : KeyLaw Try.prog 69 := deep_law_laid (m := 8) (by kernel_rfl) (by decide) (of_decide_eq_true (by kernel_rfl)) (by kernel_rfl) (by kernel_rfl)
theorem law_rspot8 : KeyLaw Try.prog 77 := deep_law_laid (m := 8) (by kernel_rfl) (by decide) (of_decide_eq_true (by kernel_rfl)) (by kernel_rfl) (by kernel_rfl)
set_option maxRecDepth 100000 in
theorem key_mspot (k : SpotD) (h : wfS k) : ∃ kl, keyOf Try.prog 69 (kvM k) = some kl := by
  obtain ⟨t, x, y, z⟩ := k
  obtain ⟨⟨ht, hx⟩, hy, hz⟩ := h
  simp only at ht hx hy hz
  have e1 : Try.prog.cellsOf 3 = 1 := by kernel_rfl
  have e2 : Try.prog.cellsOf 34 = 2 := by kernel_rfl
  have e4 : Try.prog.cellsOf 69 = 4 := by kernel_rfl
  have e3 : Try.prog.keyType 69 = true := by kernel_rfl
  obtain ⟨m, hm⟩ := types_some
  have h2 : Try.prog.keyLits (m + 3) 69 [.int .i64 t, .int .i64 x, .int .i64 y, .int .i64 z] = some [.int .i64 t, .int .i64 x, .int .i64 y, .int .i64 z] := by
    simp [Program.keyLits, Try.underlying69, Try.underlying34, Try.underlying3, e1, e2, e4, List.range_succ, ht, hx, hy, hz]
  unfold keyOf
  rw [hm]
  simp [kvM, Try.underlying69, e4, e3, Value.formed, Value.cells, h2]
set_option maxRecDepth 100000 in
theorem key_rspot8 (k : SpotD) (h : wfS k) : ∃ kl, keyOf Try.prog 77 (kvR k) = some kl := by
  obtain ⟨t, x, y, z⟩ := k
  obtain ⟨⟨ht, hx⟩, hy, hz⟩ := h
  simp only at ht hx hy hz
  have e1 : Try.prog.cellsOf 3 = 1 := by kernel_rfl
  have e2 : Try.prog.cellsOf 34 = 2 := by kernel_rfl
  have e4 : Try.prog.cellsOf 77 = 4 := by kernel_rfl
  have e3 : Try.prog.keyType 77 = true := by kernel_rfl
  obtain ⟨m, hm⟩ := types_some
  have h2 : Try.prog.keyLits (m + 3) 77 [.int .i64 t, .int .i64 z, .int .i64 x, .int .i64 y] = some [.int .i64 t, .int .i64 z, .int .i64 x, .int .i64 y] := by
    simp [Program.keyLits, Try.underlying77, Try.underlying34, Try.underlying3, e1, e2, e4, List.range_succ, ht, hx, hy, hz]
  unfold keyOf
  rw [hm]
  simp [kvR, Try.underlying77, e4, e3, Value.formed, Value.cells, h2]
theorem zv_intsM (u : World) : (zeroValue 25).run Try.prog u = .ok (.slice none 0 0) u := by kernel_rfl
theorem spot_wf {p : List OpD} (h : validP p = true) {i : Nat} (hi : i < p.length) : wfS (spotO p[i]) := by
  have := (valid_at h hi).1
  simp only [headB, Bool.and_eq_true, btwM_iff] at this
  exact ⟨⟨wf_sm (by simp only [spotO]; omega), wf_sm (by simp only [spotO]; omega)⟩, wf_sm (by simp only [spotO]; omega), wf_sm (by simp only [spotO]; omega)⟩
def meetV (o : Option (Nat × Nat)) : Value := match o with
  | none => .tuple #[.int .i64 0, .int .i64 0, .bool false]
  | some (i, k) => .tuple #[.int .i64 (i : Int), .int .i64 (k : Int), .bool true]
abbrev MetM (w : World) (base b n : Nat) (K : List SpotD) : Prop := MetG Try.prog 69 3 kvM w base b n K
set_option maxHeartbeats 8000000 in
set_option maxRecDepth 100000 in
theorem meet_l (p : List OpD) (hv : validP p = true) (v : Value) (w : World) (hp : ProgRd w v p) : Calls Try.prog 36 #[v] w fun e w' => e = .returned (meetV (meetP p)) ∧ Below w.heap.size w w' := by
  have HP := Lib.hid hp
  obtain ⟨a, cap, g, off, rfl, hl, hm, hat⟩ := ops_at hp
  have HX := Lib.hid hat
  have hl4 := (small_of hv).len
  have HWF := Lib.hid (fun i (hi : i < p.length) => spot_wf hv hi)
  have HMP := Lib.hid (show meetP p = clashF (p.map spotO) from rfl)
  clear hp hat hv
  have hmm := @run_makeMap Try.prog
  go_enter Try.func36, Try.ntmps36
  go_wp2
  go_loopw [15] (fun t15 wr => ∃ k : Nat, k ≤ p.length ∧ t15 = .int .i64 (k : Nat) ∧ Hid (MetM wr w.heap.size w.heap.size k ((p.take k).map spotO)) ∧ Below w.heap.size w wr) (fun t15 _ => p.length - (intOf t15).toNat)
  case atStart => exact ⟨0, Nat.zero_le _, rfl, Lib.hid (MetG.made w w.heap.size), (Below.refl _ _).alloc (Nat.le_refl _) _⟩
  case round =>
    obtain ⟨k, hk, rfl, HM, hb⟩ := hrel
    have hs := hb.size
    by_cases hlt : k < p.length
    rotate_left
    · have hke : k = p.length := by omega
      have hlz : ¬ (k : Int) < (p.length : Int) := by omega
      have HM2 := Lib.hid (show MetM wr w.heap.size w.heap.size p.length (p.map spotO) by have := HM.out; rwa [hke, List.take_length] at this)
      clear HM hmm hke hlt
      obtain ⟨w0, hw0⟩ : ∃ x : World, x = wr := ⟨_, rfl⟩
      subst hw0
      go_wp2
      go_loopw [38] (fun t38 wr => ∃ i : Nat, i ≤ p.length ∧ t38 = .int .i64 (i : Nat) ∧ Hid (lone (p.map spotO) i) ∧ Below w0.heap.size w0 wr) (fun t38 _ => p.length - (intOf t38).toNat)
      case atStart => exact ⟨0, Nat.zero_le _, rfl, Lib.hid (fun j a hj => by omega), Below.refl _ _⟩
      case round =>
        obtain ⟨i, hil, rfl, HLO, hb2⟩ := hrel
        have hs2 := hb2.size
        by_cases hlt2 : i < p.length
        rotate_left
        · have hlz2 : ¬ (i : Int) < (p.length : Int) := by omega
          have HR := Lib.hid (show meetP p = none by
            rw [HMP.out]
            refine clash_none ?_
            rw [List.length_map, show p.length = i by omega]
            exact HLO.out)
          go_wp2
          refine bodyPost_ret (v := .tuple #[.int .i64 0, .int .i64 0, .bool false]) (by simp only [results, Try.results36]; first | (go_simp; done) | (go_simp; rfl)) rfl ⟨by rw [HR.out]; rfl, below_at hb hs hb2⟩
        have hlz2 : (i : Int) < (p.length : Int) := by omega
        have K0 := below_at hb hs hb2
        obtain ⟨hix, hg, q0, q1, q2, q3, q4, q5⟩ := HX.out i hlt2
        have r0 := (K0.cell (p := ⟨g, off + 6 * i, none⟩) hg).trans q0
        have r1 := (K0.cell (p := ⟨g, off + 6 * i + 1, none⟩) hg).trans q1
        have r2 := (K0.cell (p := ⟨g, off + 6 * i + 2, none⟩) hg).trans q2
        have r3 := (K0.cell (p := ⟨g, off + 6 * i + 3, none⟩) hg).trans q3
        have r4 := (K0.cell (p := ⟨g, off + 6 * i + 4, none⟩) hg).trans q4
        have r5 := (K0.cell (p := ⟨g, off + 6 * i + 5, none⟩) hg).trans q5
        clear q0 q1 q2 q3 q4 q5
        obtain ⟨fa, fc, hfe, -⟩ := (HP.out.each p[i] (List.getElem_mem hlt2)).shape
        have HWK := Lib.hid (HWF.out i hlt2)
        have HAT := Lib.hid (show (p.map spotO)[i]? = some (spotO p[i]) by rw [List.getElem?_map, List.getElem?_eq_getElem hlt2]; rfl)
        have HLT := Lib.hid hlt2
        generalize p[i] = o at *
        obtain ⟨t, ⟨c0, c1⟩, u, kd, fv, src⟩ := o
        simp only [spotO] at r0 r1 r2 r3 r4 r5 hfe HWK HAT
        subst hfe
        obtain ⟨kl, hkl⟩ := key_mspot (t, c0, c1, u) HWK.out
        obtain ⟨v, hlk⟩ := HM2.out.look law_mspot (T := 67) Try.underlying67 zv_intsM (t, c0, c1, u) hkl
        simp only [kvM] at hlk
        have KW : Below w0.heap.size w0 (wr.alloc (Obj.cells #[.int .i64 t, .int .i64 c0, .int .i64 c1, .int .i64 u, .int .i64 kd, .slice fa src.length fc] 37)) := hb2.alloc hs2 _
        obtain ⟨hlk2, hown⟩ := hlk _ KW
        have h0 := clash_head HLO.out HAT.out
        have h1 := clash_one HAT.out
        have HS := Lib.hid (fun h => lone_step HLO.out HAT.out h)
        have HCS := Lib.hid (fun b => clash_some (b := b) HLO.out HAT.out)
        rw [← HMP.out] at HCS
        generalize idxs (p.map spotO) (t, c0, c1, u) = I at *
        obtain ⟨va, vc, vg, voff, rfl, hvl, hvm, hvx⟩ := SlOf.at (enc := encNat) (fun _ => rfl) un_int sz_int1 hown.sl
        unfold maxLen at hvm
        clear hlk hown hkl h0
        have KX := Lib.hid (below_at hb hs KW)
        have KWH := Lib.hid KW; clear KW
        by_cases h2 : I.length = 1
        · have HI := Lib.hid h2
          have hone : ¬ (1 : Int) < (I.length : Int) := by omega
          clear hvx HCS h1 h2
          go_wp2
          go_roundw
          case rel => exact ⟨i + 1, HLT.out, by simp, Lib.hid (HS.out (by rw [HI.out]; exact Nat.le_refl _)), KWH.out⟩
          case measure => simp only [intOf]; have := HLT.out; omega
        · have h3 : 1 < I.length := by omega
          have HR := Lib.hid (HCS.out I[1] (List.getElem?_eq_getElem h3))
          have j1 : ∀ W, (Instr.indexAt 25 (.slice va I.length vc) (.int .i64 1)).run Try.prog W = .ok (.pointer (some ⟨vg, voff + 1, none⟩)) W := fun W => by simpa using (hvx 1 h3).2.1 W
          have x1 : (wr.alloc (Obj.cells #[.int .i64 t, .int .i64 c0, .int .i64 c1, .int .i64 u, .int .i64 kd, .slice fa src.length fc] 37)).cell? ⟨vg, voff + 1, none⟩ = some (.int .i64 (I[1] : Int)) := by
            have := (hvx 1 h3).2.2.2 0 (Nat.lt_succ_self 0)
            simpa [encNat] using this
          clear hvx HCS h2 h1
          generalize I[1] = b at *
          generalize I.length = n at *
          have h3' : (1 : Int) < (n : Int) := by omega
          go_wp2_with fail
          obtain ⟨W3, hW3⟩ : ∃ W : World, (wr.alloc (Obj.cells #[.int .i64 t, .int .i64 c0, .int .i64 c1, .int .i64 u, .int .i64 kd, .slice fa src.length fc] 37)) = W := ⟨_, rfl⟩
          rw [hW3] at x1 KX ⊢
          clear hW3 hlk2 KWH r0 r1 r2 r3 r4 r5
          go_region
          all_goals
            go_wp2
            refine bodyPost_ret (v := .tuple #[.int .i64 (i : Int), .int .i64 (b : Int), .bool true]) (by simp only [results, Try.results36]; first | (go_simp; done) | (go_simp; rfl)) rfl ⟨by rw [HR.out]; rfl, by have KK := KX.out; exact (by repeat (first | (with_reducible exact Below.refl _ _) | (with_reducible assumption) | (with_reducible refine Below.drew ?_) | (with_reducible refine Below.setCell ?_ (by first | (simp; done) | (simp; omega) | omega) _) | (with_reducible refine Below.alloc ?_ (by first | (simp; done) | (simp; omega) | omega) _) | (with_reducible refine below_drewN ?_ _) | (refine Below.trans ?_ (Below.mono (by with_reducible assumption) (by first | (simp; done) | (simp; omega) | omega)))))⟩
    have hlz : (k : Int) < (p.length : Int) := by omega
    obtain ⟨hix, hg, q0, q1, q2, q3, q4, q5⟩ := HX.out k hlt
    have r0 := (hb.cell (p := ⟨g, off + 6 * k, none⟩) hg).trans q0
    have r1 := (hb.cell (p := ⟨g, off + 6 * k + 1, none⟩) hg).trans q1
    have r2 := (hb.cell (p := ⟨g, off + 6 * k + 2, none⟩) hg).trans q2
    have r3 := (hb.cell (p := ⟨g, off + 6 * k + 3, none⟩) hg).trans q3
    have r4 := (hb.cell (p := ⟨g, off + 6 * k + 4, none⟩) hg).trans q4
    have r5 := (hb.cell (p := ⟨g, off + 6 * k + 5, none⟩) hg).trans q5
    clear q0 q1 q2 q3 q4 q5
    obtain ⟨fa, fc, hfe, -⟩ := (HP.out.each p[k] (List.getElem_mem hlt)).shape
    have HWK := Lib.hid (HWF.out k hlt)
    have HT := Lib.hid (map_take spotO p k hlt)
    have HTL := Lib.hid (show ((p.take k).map spotO).length = k by rw [List.length_map, List.length_take]; omega)
    have HLT := Lib.hid hlt
    generalize (p.take k).map spotO = D at *
    generalize p[k] = o at *
    obtain ⟨t, ⟨c0, c1⟩, u, kd, fv, src⟩ := o
    simp only [spotO] at r0 r1 r2 r3 r4 r5 hfe HWK HT
    subst hfe
    obtain ⟨W2, hW2⟩ : ∃ W : World, ((wr.alloc (Obj.cells #[.int .i64 t, .int .i64 c0, .int .i64 c1, .int .i64 u, .int .i64 kd, .slice fa src.length fc] 37)).alloc (Obj.cells #[.int .i64 t, .int .i64 c0, .int .i64 c1, .int .i64 u] 69)).alloc (Obj.cells #[.int .i64 (k : Int)] 3) = W := ⟨_, rfl⟩
    have K2 : Below wr.heap.size wr W2 := by rw [← hW2]; exact (by repeat (first | exact Below.refl _ _ | assumption | (refine Below.drew ?_) | (refine below_drewN ?_ _) | (refine Below.alloc ?_ (by first | (simp; done) | (simp; omega) | omega) _) | (refine Below.setCell ?_ (by first | (simp; done) | (simp; omega) | omega) _) | (refine Below.trans ?_ (Below.mono (by assumption) (by first | (simp; done) | (simp; omega) | omega)))))
    have hs2 : W2.heap.size = wr.heap.size + 1 + 1 + 1 := by rw [← hW2]; simp
    have hn2 : W2.heap[wr.heap.size + 1 + 1]? = some (Obj.cells #[.int .i64 (k : Int)] 3) := by
      have e : ((wr.alloc (Obj.cells #[.int .i64 t, .int .i64 c0, .int .i64 c1, .int .i64 u, .int .i64 kd, .slice fa src.length fc] 37)).alloc (Obj.cells #[.int .i64 t, .int .i64 c0, .int .i64 c1, .int .i64 u] 69)).heap.size = wr.heap.size + 1 + 1 := by simp
      rw [← hW2, ← e]; exact heap_alloc_new _ _
    obtain ⟨kl, hkl⟩ := key_mspot (t, c0, c1, u) HWK.out
    obtain ⟨v, st, w1, hr, hg1, hown1, hst⟩ := (HM.out.kept K2).step law_mspot (T := 67) Try.underlying67 zv_intsM kvM_inj (by omega) (t, c0, c1, u) hkl
    have hlt2 := HM.out.lt
    have hn1 : w1.heap[wr.heap.size + 1 + 1]? = some (Obj.cells #[.int .i64 (k : Int)] 3) := (hg1.block _ (by omega) (by intro e; simp only [Option.some.injEq] at e; omega)).trans hn2
    have hs1 := hg1.size
    simp only [kvM] at hr
    rw [← hW2] at hr
    have HST := Lib.hid hst
    have HW2 := Lib.hid hW2
    have hil := idxs_len D (t, c0, c1, u)
    rw [HTL.out] at hil
    have hil2 : (idxs D (t, c0, c1, u)).length + 1 ≤ 1073741824 := by omega
    have hbs1 : w.heap.size ≤ w1.heap.size := by omega
    have hbs2 : w.heap.size ≤ W2.heap.size := by omega
    clear hst hW2 hn2 hs2 hkl hmm
    go_wp2_with (at_builtin; refine wpList_pushAt rfl _ _ _ rfl slInts hown1 (by rfl) (by rfl) hn1 rfl rfl hil2 (by omega) hbs1 ?_; intro g5 c5 w6 hown6 hg6 hat6; obtain ⟨w7, hr7, hM7, hg7, hB7⟩ := HST.out g5 c5 w6 (by simpa [HTL.out] using hown6) hg6 hat6; simp only [goInt] at hr7)
    go_roundw
    case rel => exact ⟨k + 1, HLT.out, by simp, Lib.hid (by rw [HT.out]; exact hM7), (below_at hb hs K2).trans (hB7 w.heap.size (Nat.le_refl _) (Nat.le_refl _) hbs2)⟩
    case measure => simp only [intOf]; have := HLT.out; omega
def meetE (p : List OpD) : Int := if validP p = true then (if (meetP p).isSome = true then 0 else 5) else 80
def meetX (p : List OpD) : Value := if validP p = true then (match meetP p with
  | none => .tuple #[.int .i64 0, .int .i64 0, .int .i64 5]
  | some (i, k) => .tuple #[.int .i64 (i : Int), .int .i64 (k : Int), .int .i64 0]) else .tuple #[.int .i64 0, .int .i64 0, .int .i64 80]
theorem Meet_l (p : List OpD) (v : Value) (w : World) (hp : ProgRd w v p) : Calls Try.prog 18 #[v] w fun e w' => e = .returned (meetX p) ∧ Below w.heap.size w w' := by
  have HP := Lib.hid hp
  have HVL := Lib.hid (fun (W : World) (h : ProgRd W v p) => Valid_l p v W h)
  obtain ⟨a, cap, hve, -⟩ := hp.ops.shape
  clear hp
  cases hv : validP p
  · have HR := Lib.hid (show meetX p = .tuple #[.int .i64 0, .int .i64 0, .int .i64 80] by unfold meetX; rw [hv]; rfl)
    rw [hv] at HVL
    clear hv hve
    go_enter Try.func18, Try.ntmps18
    go_wp2_with (go_at_call 22; refine (HVL.out _ HP.out).mono ?_; go_must (rintro e w1 ⟨rfl, hb1⟩))
    refine bodyPost_ret (v := .tuple #[.int .i64 0, .int .i64 0, .int .i64 80]) (by simp only [results, Try.results18]; first | (go_simp; done) | (go_simp; rfl)) rfl ⟨by rw [HR.out], hb1⟩
  have HML := Lib.hid (fun (W : World) (h : ProgRd W v p) => meet_l p hv v W h)
  rw [hv] at HVL
  cases hm : meetP p with
  | none =>
    have HR := Lib.hid (show meetX p = .tuple #[.int .i64 0, .int .i64 0, .int .i64 5] by unfold meetX; rw [hv, hm]; rfl)
    rw [hm] at HML
    simp only [meetV] at HML
    clear hv hve hm
    go_enter Try.func18, Try.ntmps18
    go_wp2_with (first | (go_at_call 22; refine (HVL.out _ HP.out).mono ?_; go_must (rintro e w1 ⟨rfl, hb1⟩; have HB1 := Lib.hid hb1; clear hb1)) | (go_at_call 36; refine (HML.out _ (HP.out.below HB1.out)).mono ?_; go_must (rintro e w2 ⟨rfl, hb2⟩)))
    refine bodyPost_ret (v := .tuple #[.int .i64 0, .int .i64 0, .int .i64 5]) (by simp only [results, Try.results18]; first | (go_simp; done) | (go_simp; rfl)) rfl ⟨by rw [HR.out], below_at HB1.out HB1.out.size hb2⟩
  | some x =>
    obtain ⟨i, k⟩ := x
    have HR := Lib.hid (show meetX p = .tuple #[.int .i64 (i : Int), .int .i64 (k : Int), .int .i64 0] by unfold meetX; rw [hv, hm]; rfl)
    rw [hm] at HML
    simp only [meetV] at HML
    clear hv hve hm
    go_enter Try.func18, Try.ntmps18
    go_wp2_with (first | (go_at_call 22; refine (HVL.out _ HP.out).mono ?_; go_must (rintro e w1 ⟨rfl, hb1⟩; have HB1 := Lib.hid hb1; clear hb1)) | (go_at_call 36; refine (HML.out _ (HP.out.below HB1.out)).mono ?_; go_must (rintro e w2 ⟨rfl, hb2⟩)))
    refine bodyPost_ret (v := .tuple #[.int .i64 (i : Int), .int .i64 (k : Int), .int .i64 0]) (by simp only [results, Try.results18]; first | (go_simp; done) | (go_simp; rfl)) rfl ⟨by rw [HR.out], below_at HB1.out HB1.out.size hb2⟩
end Go.Proofs.Ytbjbdochffocoaa
