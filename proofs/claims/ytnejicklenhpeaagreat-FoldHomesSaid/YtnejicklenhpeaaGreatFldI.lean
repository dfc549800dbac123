/- slices.Max of whole numbers; fold.Least, the reference's Least, the law's same: their walks. Conditions: none. -/
import Derived.Test.YtnejicklenhpeaaGreatFldH
namespace Go.Proofs.YtnejicklenhpeaaGreat
open Go.RowKit Go.Lib
set_option linter.unusedVariables false
theorem sz_in (W : World) : (sizeOf (Tryz.prog.elem 39)).run Tryz.prog W = .ok 1 W := by kernel_rfl
theorem un_in : Tryz.prog.underlying 39 = some (.slice (Tryz.prog.elem 39)) := by kernel_rfl
/-- The greatest number of a list, and 0 at least. -/
def mx0 (l : List Int) : Int := l.foldl max 0
theorem mx0_snoc (l : List Int) (x : Int) : mx0 (l ++ [x]) = max (mx0 l) x := by simp [mx0]
theorem foldl_max : ∀ (l : List Int) (a : Int), a ≤ l.foldl max a ∧ (∀ x ∈ l, x ≤ l.foldl max a) ∧ (l.foldl max a = a ∨ l.foldl max a ∈ l)
  | [], a => ⟨Int.le_refl _, fun x h => by simp at h, .inl rfl⟩
  | y :: t, a => by
    obtain ⟨h1, h2, h3⟩ := foldl_max t (max a y)
    refine ⟨by show a ≤ t.foldl max (max a y); omega, fun x hx => ?_, ?_⟩
    · show x ≤ t.foldl max (max a y)
      rcases List.mem_cons.1 hx with e | e
      · subst e; omega
      · exact h2 x e
    · show t.foldl max (max a y) = a ∨ t.foldl max (max a y) ∈ y :: t
      rcases h3 with e | e
      · rw [e]
        by_cases hay : a ≤ y
        · right; rw [Int.max_eq_right hay]; simp
        · left; omega
      · exact .inr (List.mem_cons_of_mem _ e)
theorem mx0_of {l : List Int} {m : Int} (h1 : m ∈ l ++ [0]) (h2 : ∀ x ∈ l ++ [0], x ≤ m) : m = mx0 l := by
  obtain ⟨a, b, c⟩ := foldl_max l 0
  have e1 : mx0 l ≤ m := by
    rcases c with e | e
    · show l.foldl max 0 ≤ m; rw [e]; exact h2 0 (by simp)
    · exact h2 _ (List.mem_append_left _ e)
  have e2 : m ≤ mx0 l := by
    rcases List.mem_append.1 h1 with e | e
    · exact b m e
    · have : m = 0 := by simpa using e
      subst this; exact a
  omega
set_option maxHeartbeats 4000000 in
set_option maxRecDepth 100000 in
theorem MaxI_l (L : List Int) (hL : 1 ≤ L.length) (hl : L.length ≤ 1000000) (v : Value) (w : World) (hv : SlOf w w.heap.size 1 encInt v L) :
    Calls Tryz.prog 56 #[v] w fun e w' => (∃ m, e = .returned (.int .i64 m) ∧ m ∈ L ∧ ∀ x ∈ L, x ≤ m) ∧ Below w.heap.size w w' := by
  obtain ⟨va, vc, g, off, rfl, hlc, hcm, hx⟩ := SlOf.at (enc := encInt) (fun _ => rfl) un_in sz_in hv
  have HX := Lib.hid (show ∀ k, (hk : k < L.length) → (∀ W, (Instr.indexAt 39 (.slice va L.length vc) (.int .i64 (k : Int))).run Tryz.prog W = .ok (.pointer (some ⟨g, off + k, none⟩)) W) ∧ g < w.heap.size ∧ w.cell? ⟨g, off + k, none⟩ = some (.int .i64 L[k]) from fun k hk => by
    obtain ⟨-, a, b, c⟩ := hx k hk
    refine ⟨fun W => by have := a W; rwa [Nat.one_mul] at this, b, ?_⟩
    have := c 0 (Nat.lt_succ_self 0)
    rw [Nat.one_mul, Nat.add_zero] at this
    exact this)
  clear hx hv
  obtain ⟨h0i, h0g, h0c⟩ := HX.out 0 hL
  simp only [Int.natCast_zero, Nat.add_zero] at h0i h0c
  have t1 : decide ((L.length : Int) < 1) = false := decide_eq_false (by omega)
  go_enter Tryz.func56, Tryz.ntmps56
  go_wp2_with fail
  go_loopw [3, 4] (fun t3 t4 wr => ∃ (k : Nat) (m : Int), 1 ≤ k ∧ k ≤ L.length ∧ t4 = .int .i64 (k : Int) ∧ t3 = .int .i64 m ∧ Hid (m ∈ L.take k ∧ ∀ x ∈ L.take k, x ≤ m) ∧ Below w.heap.size w wr) (fun _ t4 _ => L.length - (intOf t4).toNat)
  case atStart =>
    refine ⟨1, L[0], Nat.le_refl _, hL, rfl, rfl, Lib.hid ?_, by exact (by repeat (first | exact Below.refl _ _ | assumption | (refine Below.drew ?_) | (refine below_drewN ?_ _) | (refine Below.alloc ?_ (by first | (simp; done) | (simp; omega) | omega) _) | (refine Below.setCell ?_ (by first | (simp; done) | (simp; omega) | omega) _) | (refine Below.trans ?_ (Below.mono (by assumption) (by first | (simp; done) | (simp; omega) | omega)))))⟩
    have e : L.take 1 = [L[0]] := by
      rw [show (1 : Nat) = 0 + 1 from rfl, List.take_succ_eq_append_getElem hL]; simp
    rw [e]; simp
  case round =>
    obtain ⟨k, m, hk1, hk, rfl, rfl, HM, hb⟩ := hrel
    by_cases hlt : k < L.length
    rotate_left
    · have hke : k = L.length := by omega
      subst hke
      rw [List.take_length] at HM
      clear h0i h0c
      go_wp2_with fail
      go_ret
      exact ⟨⟨m, rfl, HM.out⟩, hb⟩
    obtain ⟨hi, hg, hc⟩ := HX.out k hlt
    have r0 := (hb.cell (p := ⟨g, off + k, none⟩) hg).trans hc
    have hkl : (k : Int) < (L.length : Int) := by omega
    have hk0 : (0 : Int) ≤ (k : Int) := by omega
    have HT := Lib.hid (show L.take (k + 1) = L.take k ++ [L[k]] from List.take_succ_eq_append_getElem hlt)
    generalize L[k] = x at *
    have HN := Lib.hid (show ∀ z, z = max m x → z ∈ L.take (k + 1) ∧ ∀ y ∈ L.take (k + 1), y ≤ z from fun z hz => by
      rw [HT.out]
      obtain ⟨h1, h2⟩ := HM.out
      refine ⟨?_, fun y hy => ?_⟩
      · by_cases e : m ≤ x
        · rw [hz, Int.max_eq_right e]; simp
        · rw [hz, Int.max_eq_left (by omega)]; exact List.mem_append_left _ h1
      · rcases List.mem_append.1 hy with e | e
        · have := h2 y e; omega
        · have : y = x := by simpa using e
          omega)
    clear h0i h0c hc
    go_wp2_with fail
    all_goals go_roundw
    all_goals first
      | (case measure => simp only [intOf]; omega)
      | (case rel => exact ⟨k + 1, _, by omega, hlt, by simp, rfl, Lib.hid (HN.out _ (by omega)), hb⟩)
      | (case rel => exact ⟨k + 1, _, by omega, hlt, by simp, rfl, Lib.hid (HN.out _ (by split <;> omega)), hb⟩)
def LeastV (r : RecD) (u : P3) (f : Int × Int) : Value := .tuple #[.int .i64 (mx0 (if cutE r u f = 0 then loadsL r u f else [])), .int .i64 (cutE r u f)]
theorem loads_len {r : RecD} {u : P3} {f : Int × Int} (h : cutE r u f = 0) : (loadsL r u f).length ≤ 1000 := by
  unfold loadsL
  rw [cntL_len]
  exact Nat.le_trans (sortC_len _) (by rw [List.length_map]; exact cellsL_len (cutE_ok h).1)
theorem oneI (l : List Int) : (l.flatMap encInt).all Value.oneCell' = true := by
  rw [flatI, List.all_map]
  exact List.all_eq_true.2 (fun z _ => rfl)
set_option maxHeartbeats 4000000 in
set_option maxRecDepth 100000 in
theorem Least_l (r : RecD) (u : P3) (f : Int × Int) (w : World) (hr : RecRd w r) :
    Calls Tryz.prog 20 #[.agg #[.int .i64 r.n, r.lv, r.vv], .agg #[.int .i64 u.1, .int .i64 u.2.1, .int .i64 u.2.2], .agg #[.int .i64 f.1, .int .i64 f.2]] w fun e w' => e = .returned (LeastV r u f) ∧ Below w.heap.size w w' := by
  have HR := Lib.hid hr
  clear hr
  have HL := Lib.hid (fun (W : World) (h : RecRd W r) => Loads_l r u f W h)
  have hll : (if cutE r u f = 0 then loadsL r u f else []).length ≤ 1000 := by
    split
    · rename_i h; exact loads_len h
    · simp
  have HV := Lib.hid (show LeastV r u f = .tuple #[.int .i64 (mx0 (if cutE r u f = 0 then loadsL r u f else [])), .int .i64 (cutE r u f)] from rfl)
  obtain ⟨W0, hW0⟩ : ∃ W : World, ((w.alloc (Obj.cells #[.int .i64 r.n, r.lv, r.vv] 27)).alloc (Obj.cells #[.int .i64 u.1, .int .i64 u.2.1, .int .i64 u.2.2] 29)).alloc (Obj.cells #[.int .i64 f.1, .int .i64 f.2] 31) = W := ⟨_, rfl⟩
  have kw0 : Below w.heap.size w W0 := by rw [← hW0]; exact (by repeat (first | exact Below.refl _ _ | assumption | (refine Below.drew ?_) | (refine below_drewN ?_ _) | (refine Below.alloc ?_ (by first | (simp; done) | (simp; omega) | omega) _) | (refine Below.setCell ?_ (by first | (simp; done) | (simp; omega) | omega) _) | (refine Below.trans ?_ (Below.mono (by assumption) (by first | (simp; done) | (simp; omega) | omega)))))
  have ks0 : W0.heap.size = w.heap.size + 3 := by rw [← hW0]; simp
  have RD0 := Lib.hid (show ∀ V, Below W0.heap.size W0 V → V.cell? ⟨w.heap.size, 0, none⟩ = some (.int .i64 r.n) ∧ V.cell? ⟨w.heap.size, 1, none⟩ = some (r.lv) ∧ V.cell? ⟨w.heap.size, 2, none⟩ = some (r.vv) ∧ V.cell? ⟨w.heap.size + 1, 0, none⟩ = some (.int .i64 u.1) ∧ V.cell? ⟨w.heap.size + 1, 1, none⟩ = some (.int .i64 u.2.1) ∧ V.cell? ⟨w.heap.size + 1, 2, none⟩ = some (.int .i64 u.2.2) ∧ V.cell? ⟨w.heap.size + 1 + 1, 0, none⟩ = some (.int .i64 f.1) ∧ V.cell? ⟨w.heap.size + 1 + 1, 1, none⟩ = some (.int .i64 f.2) from fun V h => by
      refine ⟨(h.cell (p := ⟨w.heap.size, 0, none⟩) (by simp; omega)).trans ?_, (h.cell (p := ⟨w.heap.size, 1, none⟩) (by simp; omega)).trans ?_, (h.cell (p := ⟨w.heap.size, 2, none⟩) (by simp; omega)).trans ?_, (h.cell (p := ⟨w.heap.size + 1, 0, none⟩) (by simp; omega)).trans ?_, (h.cell (p := ⟨w.heap.size + 1, 1, none⟩) (by simp; omega)).trans ?_, (h.cell (p := ⟨w.heap.size + 1, 2, none⟩) (by simp; omega)).trans ?_, (h.cell (p := ⟨w.heap.size + 1 + 1, 0, none⟩) (by simp; omega)).trans ?_, (h.cell (p := ⟨w.heap.size + 1 + 1, 1, none⟩) (by simp; omega)).trans ?_⟩ <;> (subst hW0; go_simp))
  have HW0 := Lib.hid hW0; have KW0 := Lib.hid kw0; clear hW0 kw0
  have hks : w.heap.size ≤ W0.heap.size := by omega
  go_enter Tryz.func20, Tryz.ntmps20
  go_wp2_with (first | (go_at_call 18; rw [HW0.out]; refine (HL.out _ (HR.out.below KW0.out)).mono ?_; go_must (rintro e w1 ⟨⟨v, rfl, ho⟩, hb1⟩; generalize (if cutE r u f = 0 then loadsL r u f else []) = l at *; generalize cutE r u f = E at *; obtain ⟨va, vc, hve⟩ := ho.shape; subst hve; have HO := Lib.hid (show w1.ownsRow W0.heap.size 3 1 _ l.length (l.flatMap encInt) from ho); have HB1 := Lib.hid hb1; have hs1 := hb1.size; clear ho hb1)) | (at_builtin; refine wpList_push rfl _ _ _ rfl slInt HO.out rfl rfl (by first | rfl | simp) rfl rfl (by omega) (by omega) (by omega) ?_; intro g5 c5 w6 hown6 hg6 hat6; have HO6 := Lib.hid (show OwnI w6 W0.heap.size (.slice (some ⟨g5, 0, none⟩) (l.length + 1) c5) (l ++ [0]) from OwnOf.snoc (l := l) (x := (0 : Int)) (enc := encInt) (by simpa [encInt] using hown6) rfl); have HB6 := Lib.hid (HB1.out.grown hg6 (by omega) (fun r e => (OwnOf.lt (enc := encInt) (l := l) HO.out r e).1)); clear hown6 hg6 hat6) | (go_at_call 56; refine (MaxI_l (l ++ [0]) (by simp) (by simp; omega) _ w6 HO6.out.sl).mono ?_; go_must (rintro e w7 ⟨⟨m, rfl, hm1, hm2⟩, hb7⟩; have hmm := mx0_of hm1 hm2; subst hmm; have HB7 := Lib.hid hb7; clear hm1 hm2 hb7)))
  go_ret2
  rw [HV.out]
  exact ⟨rfl, below_at KW0.out hks (HB6.out.trans (HB7.out.mono HB6.out.size))⟩
set_option maxHeartbeats 4000000 in
set_option maxRecDepth 100000 in
theorem rLeast_l (r : RecD) (u : P3) (f : Int × Int) (w : World) (hr : RecRd w r) :
    Calls Tryz.prog 21 #[.agg #[.int .i64 r.n, r.lv, r.vv], .agg #[.int .i64 u.1, .int .i64 u.2.1, .int .i64 u.2.2], .agg #[.int .i64 f.1, .int .i64 f.2]] w fun e w' => e = .returned (LeastV r u f) ∧ Below w.heap.size w w' := by
  have HR := Lib.hid hr
  clear hr
  have HL := Lib.hid (fun (W : World) (h : RecRd W r) => rLoads_l r u f W h)
  have hll : (if cutE r u f = 0 then loadsL r u f else []).length ≤ 1000 := by
    split
    · rename_i h; exact loads_len h
    · simp
  have HV := Lib.hid (show LeastV r u f = .tuple #[.int .i64 (mx0 (if cutE r u f = 0 then loadsL r u f else [])), .int .i64 (cutE r u f)] from rfl)
  obtain ⟨W0, hW0⟩ : ∃ W : World, ((w.alloc (Obj.cells #[.int .i64 r.n, r.lv, r.vv] 27)).alloc (Obj.cells #[.int .i64 u.1, .int .i64 u.2.1, .int .i64 u.2.2] 29)).alloc (Obj.cells #[.int .i64 f.1, .int .i64 f.2] 31) = W := ⟨_, rfl⟩
  have kw0 : Below w.heap.size w W0 := by rw [← hW0]; exact (by repeat (first | exact Below.refl _ _ | assumption | (refine Below.drew ?_) | (refine below_drewN ?_ _) | (refine Below.alloc ?_ (by first | (simp; done) | (simp; omega) | omega) _) | (refine Below.setCell ?_ (by first | (simp; done) | (simp; omega) | omega) _) | (refine Below.trans ?_ (Below.mono (by assumption) (by first | (simp; done) | (simp; omega) | omega)))))
  have ks0 : W0.heap.size = w.heap.size + 3 := by rw [← hW0]; simp
  have RD0 := Lib.hid (show ∀ V, Below W0.heap.size W0 V → V.cell? ⟨w.heap.size, 0, none⟩ = some (.int .i64 r.n) ∧ V.cell? ⟨w.heap.size, 1, none⟩ = some (r.lv) ∧ V.cell? ⟨w.heap.size, 2, none⟩ = some (r.vv) ∧ V.cell? ⟨w.heap.size + 1, 0, none⟩ = some (.int .i64 u.1) ∧ V.cell? ⟨w.heap.size + 1, 1, none⟩ = some (.int .i64 u.2.1) ∧ V.cell? ⟨w.heap.size + 1, 2, none⟩ = some (.int .i64 u.2.2) ∧ V.cell? ⟨w.heap.size + 1 + 1, 0, none⟩ = some (.int .i64 f.1) ∧ V.cell? ⟨w.heap.size + 1 + 1, 1, none⟩ = some (.int .i64 f.2) from fun V h => by
      refine ⟨(h.cell (p := ⟨w.heap.size, 0, none⟩) (by simp; omega)).trans ?_, (h.cell (p := ⟨w.heap.size, 1, none⟩) (by simp; omega)).trans ?_, (h.cell (p := ⟨w.heap.size, 2, none⟩) (by simp; omega)).trans ?_, (h.cell (p := ⟨w.heap.size + 1, 0, none⟩) (by simp; omega)).trans ?_, (h.cell (p := ⟨w.heap.size + 1, 1, none⟩) (by simp; omega)).trans ?_, (h.cell (p := ⟨w.heap.size + 1, 2, none⟩) (by simp; omega)).trans ?_, (h.cell (p := ⟨w.heap.size + 1 + 1, 0, none⟩) (by simp; omega)).trans ?_, (h.cell (p := ⟨w.heap.size + 1 + 1, 1, none⟩) (by simp; omega)).trans ?_⟩ <;> (subst hW0; go_simp))
  have HW0 := Lib.hid hW0; have KW0 := Lib.hid kw0; clear hW0 kw0
  have hks : w.heap.size ≤ W0.heap.size := by omega
  go_enter Tryz.func21, Tryz.ntmps21
  go_wp2_with (go_at_call 19; rw [HW0.out]; refine (HL.out _ (HR.out.below KW0.out)).mono ?_; go_must (rintro e w1 ⟨⟨v, rfl, ho⟩, hb1⟩; generalize (if cutE r u f = 0 then loadsL r u f else []) = l at *; generalize cutE r u f = E at *; have HO := Lib.hid ho.sl; obtain ⟨va, vc, hve⟩ := ho.shape; subst hve; have HB1 := Lib.hid hb1; have hs1 := hb1.size; clear ho hb1))
  obtain ⟨xa, xc, g, off, he, hlc, hcm, hx⟩ := SlOf.at (enc := encInt) (fun _ => rfl) un_in sz_in HO.out
  cases he
  have HX := Lib.hid (show ∀ k, (hk : k < l.length) → (∀ W, (Instr.indexAt 39 (.slice va l.length vc) (.int .i64 (k : Int))).run Tryz.prog W = .ok (.pointer (some ⟨g, off + k, none⟩)) W) ∧ g < w1.heap.size ∧ w1.cell? ⟨g, off + k, none⟩ = some (.int .i64 l[k]) from fun k hk => by
    obtain ⟨-, a, b, c⟩ := hx k hk
    refine ⟨fun W => by have := a W; rwa [Nat.one_mul] at this, b, ?_⟩
    have := c 0 (Nat.lt_succ_self 0)
    rw [Nat.one_mul, Nat.add_zero] at this
    exact this)
  clear hx HO
  go_loopw [10, 11] (fun t10 t11 wr => ∃ k : Nat, k ≤ l.length ∧ t11 = .int .i64 (k : Int) ∧ t10 = .int .i64 (mx0 (l.take k)) ∧ Below w1.heap.size w1 wr) (fun _ t11 _ => l.length - (intOf t11).toNat)
  case atStart => exact ⟨0, Nat.zero_le _, rfl, rfl, Below.refl _ _⟩
  case round =>
    obtain ⟨k, hk, rfl, rfl, hb⟩ := hrel
    by_cases hlt : k < l.length
    rotate_left
    · have hke : k = l.length := by omega
      subst hke
      rw [List.take_length]
      go_wp2_with fail
      go_ret2
      rw [HV.out]
      exact ⟨rfl, below_at KW0.out hks (HB1.out.trans (hb.mono hs1))⟩
    obtain ⟨hi, hg, hc⟩ := HX.out k hlt
    have r0 := (hb.cell (p := ⟨g, off + k, none⟩) hg).trans hc
    have hkl : (k : Int) < (l.length : Int) := by omega
    have hk0 : (0 : Int) ≤ (k : Int) := by omega
    have HT := Lib.hid (show mx0 (l.take (k + 1)) = max (mx0 (l.take k)) l[k] by rw [List.take_succ_eq_append_getElem hlt, mx0_snoc])
    generalize mx0 (l.take k) = m at *
    generalize l[k] = x at *
    clear hc
    go_wp2_with fail
    all_goals go_roundw
    all_goals first
      | (case measure => simp only [intOf]; omega)
      | (case rel => exact ⟨k + 1, hlt, by simp, by (rw [HT.out]); (try (congr 1; first | omega | (split <;> omega))), hb⟩)
set_option maxHeartbeats 4000000 in
set_option maxRecDepth 100000 in
theorem sameI_l (l : List Int) (hll : l.length ≤ 1000000) (w : World) (v u : Value) (hv : SlOf w w.heap.size 1 encInt v l) (hu : SlOf w w.heap.size 1 encInt u l) :
    Calls Tryz.prog 22 #[v, u] w fun e w' => e = .returned (.bool true) ∧ Below w.heap.size w w' := by
  obtain ⟨va, vc, g, off, rfl, hlc, hcm, hx⟩ := SlOf.at (enc := encInt) (fun _ => rfl) un_in sz_in hv
  obtain ⟨ua, uc, g2, off2, rfl, hlc2, hcm2, hx2⟩ := SlOf.at (enc := encInt) (fun _ => rfl) un_in sz_in hu
  have HX := Lib.hid hx
  have HX2 := Lib.hid hx2
  clear hx hx2 hv hu
  go_enter Tryz.func22, Tryz.ntmps22
  go_wp2_with fail
  go_loopw [5] (fun t5 wr => ∃ k : Nat, k ≤ l.length ∧ t5 = .int .i64 (k : Int) ∧ Below w.heap.size w wr) (fun t5 _ => l.length - (intOf t5).toNat)
  case atStart => exact ⟨0, Nat.zero_le _, rfl, Below.refl _ _⟩
  case round =>
    obtain ⟨k, hk, rfl, hb⟩ := hrel
    by_cases hlt : k < l.length
    rotate_left
    · have hke : k = l.length := by omega
      subst hke
      go_wp2_with fail
      go_ret
      exact ⟨rfl, hb⟩
    obtain ⟨-, hi, hg, hc⟩ := HX.out k hlt
    obtain ⟨-, hi2, hg2, hc2⟩ := HX2.out k hlt
    have r0 : wr.cell? ⟨g, off + 1 * k, none⟩ = some (.int .i64 l[k]) := (hb.cell (p := ⟨g, off + 1 * k + 0, none⟩) hg).trans (hc 0 (by omega))
    have r1 : wr.cell? ⟨g2, off2 + 1 * k, none⟩ = some (.int .i64 l[k]) := (hb.cell (p := ⟨g2, off2 + 1 * k + 0, none⟩) hg2).trans (hc2 0 (by omega))
    have hkl : (k : Int) < (l.length : Int) := by omega
    have hk0 : (0 : Int) ≤ (k : Int) := by omega
    generalize l[k] = x at *
    rw [Nat.one_mul] at r0 r1
    simp only [Nat.one_mul] at hi hi2
    clear hc hc2
    go_wp2_with fail
    go_quiet (fail)
    go_wp2_with fail
    go_roundw
    case rel => exact ⟨k + 1, hlt, by simp, below_drewN hb _⟩
    case measure => simp only [intOf]; omega
end Go.Proofs.YtnejicklenhpeaaGreat
