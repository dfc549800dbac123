/- Rows of rows: a slice whose elements are slices. The moves of all arguments: the program's Moves: its walk. Conditions: none. -/
import Derived.Test.YtndfdgdahinkpaaGreatKitA
import Derived.Test.YtndfdgdahinkpaaGreatCelI
namespace Go.Proofs.YtndfdgdahinkpaaGreat
open Go.RowKit
def encW (v : Value) : List Value := [v]
theorem Sl.grown {w w' : World} {B sz n : Nat} {v : Value} {xs : List Value} {row : Option Nat} (h : Sl w B sz v n xs) (hB : B ≤ w.heap.size) (hg : w.grownBy w' row) (hne : ∀ g, v.ownBlock = some g → row ≠ some g) : Sl w' B sz v n xs := by
  obtain ⟨a, cap, rfl, hl, hc, hm, h0, hr⟩ := h
  refine ⟨a, cap, rfl, hl, hc, hm, h0, hr.imp id ?_⟩
  rintro ⟨b, off, rfl, hlt, hx⟩
  refine ⟨b, off, rfl, hlt, fun i hi => ?_⟩
  rw [← hx i hi]
  exact World.cell?_of_block (a := ⟨b, off + i, none⟩) (hg.block b (by omega) (fun e => hne b rfl e.symm))
/-- The slices vs read the rows ll; none of them lies in the block out. -/
structure RowsOf {α : Type} (w : World) (sz : Nat) (enc : α → List Value) (out : Option Nat) (vs : List Value) (ll : List (List α)) : Prop where
  len : vs.length = ll.length
  row : ∀ (i : Nat) (v : Value) (l : List α), vs[i]? = some v → ll[i]? = some l → SlOf w w.heap.size sz enc v l
  apart : ∀ v ∈ vs, ∀ g, v.ownBlock = some g → g < w.heap.size ∧ out ≠ some g
section
variable {α : Type} {w w' : World} {sz : Nat} {enc : α → List Value} {out : Option Nat} {vs : List Value} {ll : List (List α)}
theorem RowsOf.nil (w : World) (sz : Nat) (enc : α → List Value) (out : Option Nat) : RowsOf w sz enc out [] ([] : List (List α)) :=
  ⟨rfl, fun i v l h => by simp at h, fun v h => by simp at h⟩
theorem RowsOf.kept (h : RowsOf w sz enc out vs ll) (hb : Below w.heap.size w w') : RowsOf w' sz enc out vs ll :=
  ⟨h.len, fun i v l h1 h2 => (h.row i v l h1 h2).below hb, fun v hv g hg => ⟨Nat.lt_of_lt_of_le (h.apart v hv g hg).1 hb.size, (h.apart v hv g hg).2⟩⟩
theorem RowsOf.push (h : RowsOf w sz enc out vs ll) {v : Value} {l : List α} (hv : SlOf w w.heap.size sz enc v l) (ha : ∀ g, v.ownBlock = some g → g < w.heap.size ∧ out ≠ some g) (hg : w.grownBy w' out) {g5 : Nat} (hat : out = some g5 ∨ w.heap.size ≤ g5) : RowsOf w' sz enc (some g5) (vs ++ [v]) (ll ++ [l]) := by
  refine ⟨by simp [h.len], fun i x m h1 h2 => ?_, fun x hx g hxg => ?_⟩
  · rcases Nat.lt_or_ge i vs.length with hi | hi
    · rw [List.getElem?_append_left hi] at h1
      rw [List.getElem?_append_left (by rw [← h.len]; exact hi)] at h2
      have hmem : x ∈ vs := List.mem_of_getElem? h1
      exact SlOf.mono (Sl.grown (h.row i x m h1 h2) (Nat.le_refl _) hg (fun g e => (h.apart x hmem g e).2)) hg.size
    · rw [List.getElem?_append_right hi] at h1
      rw [List.getElem?_append_right (by rw [← h.len]; exact hi)] at h2
      have hi0 : i - vs.length = 0 := by
        have := (List.getElem?_eq_some_iff.1 h1).1
        simp at this; omega
      rw [hi0] at h1
      rw [← h.len, hi0] at h2
      simp at h1 h2
      subst h1 h2
      exact SlOf.mono (Sl.grown hv (Nat.le_refl _) hg (fun g e => (ha g e).2)) hg.size
  · have hlt : g < w.heap.size ∧ out ≠ some g := by
      rcases List.mem_append.1 hx with hx | hx
      · exact h.apart x hx g hxg
      · simp at hx; subst hx; exact ha g hxg
    refine ⟨Nat.lt_of_lt_of_le hlt.1 hg.size, fun e => ?_⟩
    cases e
    rcases hat with e | e
    · exact hlt.2 e
    · have := hlt.1; omega
end
/-- The slice v reads the rows ll. -/
def RowsSl {α : Type} (w : World) (sz : Nat) (enc : α → List Value) (v : Value) (ll : List (List α)) : Prop :=
  ∃ vs : List Value, SlOf w w.heap.size 1 encW v vs ∧ vs.length = ll.length ∧ ∀ (i : Nat) (x : Value) (l : List α), vs[i]? = some x → ll[i]? = some l → SlOf w w.heap.size sz enc x l
theorem RowsSl.nil {α : Type} (w : World) (sz : Nat) (enc : α → List Value) : RowsSl w sz enc (.slice none 0 0) ([] : List (List α)) :=
  ⟨[], Sl.nil _ _ _, rfl, fun i v l h => by simp at h⟩
theorem RowsSl.below {α : Type} {w w' : World} {sz : Nat} {enc : α → List Value} {v : Value} {ll : List (List α)} (h : RowsSl w sz enc v ll) (hb : Below w.heap.size w w') : RowsSl w' sz enc v ll := by
  obtain ⟨vs, h1, h2, h3⟩ := h
  exact ⟨vs, h1.below hb, h2, fun i x l a b => (h3 i x l a b).below hb⟩
theorem RowsSl.shape {α : Type} {w : World} {sz : Nat} {enc : α → List Value} {v : Value} {ll : List (List α)} (h : RowsSl w sz enc v ll) : ∃ a c, v = .slice a ll.length c := by
  obtain ⟨vs, ⟨a, c, h1, -⟩, h2, -⟩ := h
  exact ⟨a, c, by rw [h1, h2]⟩
theorem RowsSl.at {α : Type} {P : Program} {t : TypeId} {sz : Nat} {enc : α → List Value} {w : World} {v : Value} {ll : List (List α)} (hu : P.underlying t = some (.slice (P.elem t))) (hsz : ∀ W, (sizeOf (P.elem t)).run P W = .ok 1 W) (h : RowsSl w sz enc v ll) :
    ∃ a cap g off, v = .slice a ll.length cap ∧ ll.length ≤ cap ∧ cap ≤ maxLen ∧ ∀ i (hi : i < ll.length), (∀ W, (Instr.indexAt t (.slice a ll.length cap) (.int .i64 (i : Int))).run P W = .ok (.pointer (some ⟨g, off + i, none⟩)) W) ∧ g < w.heap.size ∧ ∃ x, w.cell? ⟨g, off + i, none⟩ = some x ∧ SlOf w w.heap.size sz enc x ll[i] := by
  obtain ⟨vs, h1, h2, h3⟩ := h
  obtain ⟨a, cap, g, off, rfl, hlc, hcm, hx⟩ := SlOf.at (enc := encW) (fun _ => rfl) hu hsz h1
  refine ⟨a, cap, g, off, by rw [h2], by omega, hcm, fun i hi => ?_⟩
  have hv : i < vs.length := by rw [h2]; exact hi
  obtain ⟨-, hi1, hg, hc⟩ := hx i hv
  refine ⟨fun W => by rw [← h2]; simpa using hi1 W, hg, vs[i], ?_, h3 i _ _ (List.getElem?_eq_getElem _) (List.getElem?_eq_getElem hi)⟩
  have := hc 0 (Nat.lt_succ_self 0)
  simpa [encW] using this
end Go.Proofs.YtndfdgdahinkpaaGreat
namespace Go.Proofs.YtndfdgdahinkpaaGreat
open Go.RowKit Go.Lib
set_option linter.unusedVariables false
theorem cell_small {n : Int} {u p : P3} (hd : dirB n u = true) (h : Sm 20 p) : (-80 ≤ (cellC n u p).1 ∧ (cellC n u p).1 ≤ 80) ∧ (-80 ≤ (cellC n u p).2 ∧ (cellC n u p).2 ≤ 80) := by
  obtain ⟨p0, p1, p2⟩ := p
  obtain ⟨u0, u1, u2⟩ := u
  obtain ⟨hn, hf, hk⟩ := validB_out hd
  have hu := flat_out hf
  obtain ⟨h0, h1, h2⟩ := h
  simp only at h0 h1 h2 hu
  have ho := findK_one (n := n) (x0 := u0) (x1 := u1) (x2 := u2)
  have key : ∀ {pi pk uk ui : Int}, (-20 ≤ pi ∧ pi ≤ 20) → (-20 ≤ pk ∧ pk ≤ 20) → (uk = 1 ∨ uk = -1) → (-3 ≤ ui ∧ ui ≤ 3) → -80 ≤ cw pi pk uk ui ∧ cw pi pk uk ui ≤ 80 := by
    intro pi pk uk ui a b c d
    rw [cw_eq (by omega) (by omega) c d]
    rcases c with rfl | rfl
    · have := mul_bd (a := pk) (b := ui) (A := 20) (B := 3) b d
      rw [Int.mul_one]; omega
    · have := mul_bd (a := pk) (b := ui) (A := 20) (B := 3) b d
      rw [show pk * -1 * ui = -(pk * ui) by rw [Int.mul_neg, Int.mul_one, Int.neg_mul]]; omega
  have hdir := dir_cases hd
  unfold axK at hdir
  simp only at hdir
  unfold cellC axK
  simp only
  constructor
  · unfold cA
    split
    · omega
    · split
      · exact key h1 h0 (ho.1 (by assumption)) hu.2.1
      · split
        · exact key h0 h1 (ho.2.1 (by assumption)) hu.1
        · refine key h0 h2 (ho.2.2 ?_) hu.1
          have := findK_nonneg n u0 u1 u2
          omega
  · unfold cB
    split
    · omega
    · split
      · exact key h2 h0 (ho.1 (by assumption)) hu.2.2
      · split
        · exact key h2 h1 (ho.2.1 (by assumption)) hu.2.2
        · refine key h1 h2 (ho.2.2 ?_) hu.2.1
          have := findK_nonneg n u0 u1 u2
          omega
/-- The move of an argument. -/
def moveC (n : Int) (u : P3) (a : ArgD) : Int × Int := (-(cellC n u a.at_).1, -(cellC n u a.at_).2)
def movesL (r : RecD) (u : P3) : List (List (Int × Int)) := r.vars.map fun v => v.args.map (moveC r.n u)
def MovesR (r : RecD) (u : P3) (e : Ending) (w' : World) : Prop := ∃ v, e = .returned (.tuple #[v, .int .i64 (askE r u)]) ∧ RowsSl w' 2 encC v (if askE r u = 0 then movesL r u else [])
theorem movesR_err {r : RecD} {u : P3} {k : Int} (h : askE r u = k) (hk : k ≠ 0) (w' : World) : MovesR r u (.returned (.tuple #[.slice none 0 0, .int .i64 k])) w' := by
  unfold MovesR
  rw [h, if_neg hk]
  exact ⟨_, rfl, RowsSl.nil _ _ _⟩
theorem movesR_ok {r : RecD} {u : P3} (h : askE r u = 0) {w' : World} {v : Value} (hs : RowsSl w' 2 encC v (movesL r u)) : MovesR r u (.returned (.tuple #[v, .int .i64 0])) w' := by
  unfold MovesR
  rw [h, if_pos rfl]
  exact ⟨_, rfl, hs⟩
theorem arg_flat {r : RecD} (h : validR r.n r.l r.vars = true) {v : VarD} (hv : v ∈ r.vars) {a : ArgD} (ha : a ∈ v.args) : flatB r.n a.at_.1 a.at_.2.1 a.at_.2.2 3 = true ∧ 0 ≤ a.var ∧ a.var < r.vars.length := by
  have h1 := List.all_eq_true.1 (validR_out h).2.2.2 v hv
  simp only [varB, Bool.and_eq_true] at h1
  have h2 := List.all_eq_true.1 h1.2.2.2.2 a ha
  simp only [argB, Bool.and_eq_true] at h2
  have := btw_out h2.2
  exact ⟨h2.1, this.1, by omega⟩
theorem arg_cell {r : RecD} {u : P3} (h : validR r.n r.l r.vars = true) (hd : dirB r.n u = true) {v : VarD} (hv : v ∈ r.vars) {a : ArgD} (ha : a ∈ v.args) : (-80 ≤ (cellC r.n u a.at_).1 ∧ (cellC r.n u a.at_).1 ≤ 80) ∧ (-80 ≤ (cellC r.n u a.at_).2 ∧ (cellC r.n u a.at_).2 ≤ 80) := by
  obtain ⟨a0, a1, a2⟩ := flat_sm (arg_flat h hv ha).1
  simp only at a0 a1 a2
  exact cell_small hd ⟨by omega, by omega, by omega⟩
theorem arg_len {r : RecD} (h : validR r.n r.l r.vars = true) {v : VarD} (hv : v ∈ r.vars) : v.args.length ≤ 3 := by
  have h1 := List.all_eq_true.1 (validR_out h).2.2.2 v hv
  simp only [varB, Bool.and_eq_true, decide_eq_true_eq] at h1
  have h2 := h1.2.2.1
  unfold needsI at h2
  (repeat' split at h2) <;> omega
theorem slRw : SlT Tryz.prog 45 66 (.slice none 0 0) 1 24 := ⟨Tryz.underlying45, by kernel_rfl, rfl, by decide⟩
set_option maxHeartbeats 4000000 in
set_option maxRecDepth 100000 in
theorem Moves_l (r : RecD) (u : P3) (w : World) (hr : RecRd w r) :
    Calls Tryz.prog 14 #[.agg #[.int .i64 r.n, r.lv, r.vv], .agg #[.int .i64 u.1, .int .i64 u.2.1, .int .i64 u.2.2]] w fun e w' => MovesR r u e w' ∧ Below w.heap.size w w' := by
  have HR := Lib.hid hr
  clear hr
  have HLK := Lib.hid (fun (W : World) (h : RecRd W r) => look_l r u W h)
  obtain ⟨W0, hW0⟩ : ∃ W : World, (w.alloc (Obj.cells #[.int .i64 r.n, r.lv, r.vv] 27)).alloc (Obj.cells #[.int .i64 u.1, .int .i64 u.2.1, .int .i64 u.2.2] 29) = W := ⟨_, rfl⟩
  have kw0 : Below w.heap.size w W0 := by rw [← hW0]; exact (by repeat (first | exact Below.refl _ _ | assumption | (refine Below.drew ?_) | (refine below_drewN ?_ _) | (refine Below.alloc ?_ (by first | (simp; done) | (simp; omega) | omega) _) | (refine Below.setCell ?_ (by first | (simp; done) | (simp; omega) | omega) _) | (refine Below.trans ?_ (Below.mono (by assumption) (by first | (simp; done) | (simp; omega) | omega)))))
  have ks0 : W0.heap.size = w.heap.size + 2 := by rw [← hW0]; simp
  have RD0 := Lib.hid (show ∀ V, Below W0.heap.size W0 V → V.cell? ⟨w.heap.size, 0, none⟩ = some (.int .i64 r.n) ∧ V.cell? ⟨w.heap.size, 1, none⟩ = some (r.lv) ∧ V.cell? ⟨w.heap.size, 2, none⟩ = some (r.vv) ∧ V.cell? ⟨w.heap.size + 1, 0, none⟩ = some (.int .i64 u.1) ∧ V.cell? ⟨w.heap.size + 1, 1, none⟩ = some (.int .i64 u.2.1) ∧ V.cell? ⟨w.heap.size + 1, 2, none⟩ = some (.int .i64 u.2.2) from fun V h => by
      refine ⟨(h.cell (p := ⟨w.heap.size, 0, none⟩) (by simp; omega)).trans ?_, (h.cell (p := ⟨w.heap.size, 1, none⟩) (by simp; omega)).trans ?_, (h.cell (p := ⟨w.heap.size, 2, none⟩) (by simp; omega)).trans ?_, (h.cell (p := ⟨w.heap.size + 1, 0, none⟩) (by simp; omega)).trans ?_, (h.cell (p := ⟨w.heap.size + 1, 1, none⟩) (by simp; omega)).trans ?_, (h.cell (p := ⟨w.heap.size + 1, 2, none⟩) (by simp; omega)).trans ?_⟩ <;> (subst hW0; go_simp))
  have HW0 := Lib.hid hW0; have KW0 := Lib.hid kw0; clear hW0 kw0
  by_cases ha : askE r u = 0
  rotate_left
  · have HE := Lib.hid (fun w' => movesR_err (rfl : askE r u = askE r u) ha w')
    have hnz : (askE r u != 0) = true := by simpa using ha
    have HA := Lib.hid ha
    clear ha
    generalize hA : askE r u = A at *
    go_enter Tryz.func14, Tryz.ntmps14
    go_wp2_with (go_at_call 47; rw [HW0.out]; refine (HLK.out _ (HR.out.below KW0.out)).mono ?_; go_must (rintro e w1 ⟨hl, hb1⟩; unfold LookR at hl; rw [hA, if_neg HA.out] at hl; subst hl))
    go_ret2
    exact ⟨HE.out _, below_at KW0.out (by omega) hb1⟩
  have HA := Lib.hid ha
  have HAO := Lib.hid (askE_ok ha)
  have HY := Lib.hid (fun (w' : World) (v : Value) (hs : RowsSl w' 2 encC v (movesL r u)) => movesR_ok ha hs)
  have hnv : r.vars.length ≤ 4 := (validR_out HAO.out.1).2.2.1.2
  have HCL := Lib.hid (fun (p : P3) (W : World) => cell_l r.n u p HAO.out.2 W)
  have HML := Lib.hid (show movesL r u = r.vars.map (fun v => v.args.map (moveC r.n u)) from rfl)
  have HAC := Lib.hid (fun (v : VarD) (hv : v ∈ r.vars) (a : ArgD) (ha : a ∈ v.args) => arg_cell HAO.out.1 HAO.out.2 hv ha)
  have HAN := Lib.hid (fun (v : VarD) (hv : v ∈ r.vars) => arg_len HAO.out.1 hv)
  have HMC := Lib.hid (fun a => show moveC r.n u a = (-(cellC r.n u a.at_).1, -(cellC r.n u a.at_).2) from rfl)
  clear ha
  obtain ⟨va, vc, gv, ov, hve, hlv, hcv, hxv⟩ := SlOf.at (enc := encV) (fun _ => rfl) un_vars sz_vars HR.out.vars
  have HVX := Lib.hid hxv; clear hxv
  unfold maxLen at hcv
  generalize moveC r.n u = M at *
  generalize cellC r.n u = F at *
  generalize hKK : axK r.n u = kk at *
  have HKK := Lib.hid hKK; clear hKK
  have HVE := Lib.hid hve; clear hve
  go_enter Tryz.func14, Tryz.ntmps14
  go_wp2_with (go_at_call 47; rw [HW0.out]; refine (HLK.out _ (HR.out.below KW0.out)).mono ?_; go_must (rintro e w1 ⟨hl, hb1⟩; unfold LookR at hl; rw [HA.out, if_pos rfl] at hl; obtain ⟨b, pv, rfl, hv⟩ := hl; have hs1 := hb1.size; have hk2 := (RD0.out w1 hb1).2.2.1; rw [HVE.out] at hk2))
  have f0 := hv.c0
  have f1 := hv.c1
  have f2 := hv.c2
  have f3 := hv.c3
  have f4 := hv.c4
  have hvl := hv.lt
  rw [HKK.out] at f1
  clear hv hk2
  have VD := Lib.hid (show ∀ V, Below w1.heap.size w1 V → V.cell? ⟨b, 0, none⟩ = some (.int .i64 r.n) ∧ V.cell? ⟨b, 1, none⟩ = some (.int .i64 kk) ∧ V.cell? ⟨b, 2, none⟩ = some (.int .i64 u.1) ∧ V.cell? ⟨b, 3, none⟩ = some (.int .i64 u.2.1) ∧ V.cell? ⟨b, 4, none⟩ = some (.int .i64 u.2.2) from
    fun V h => ⟨(h.cell (p := ⟨b, 0, none⟩) hvl).trans f0, (h.cell (p := ⟨b, 1, none⟩) hvl).trans f1, (h.cell (p := ⟨b, 2, none⟩) hvl).trans f2, (h.cell (p := ⟨b, 3, none⟩) hvl).trans f3, (h.cell (p := ⟨b, 4, none⟩) hvl).trans f4⟩)
  clear f0 f1 f2 f3 f4
  have HB1 := Lib.hid hb1; clear hb1
  have hww : w.heap.size ≤ w1.heap.size := by omega
  have HKW := Lib.hid (below_at KW0.out (by omega) HB1.out)
  clear ks0
  go_loopw [8, 27] (fun t8 t27 wr => ∃ (i : Nat) (vs : List Value), i ≤ r.vars.length ∧ vs.length = i ∧ t27 = .int .i64 (i : Nat) ∧ Hid (OwnOf wr w1.heap.size 66 1 encW t8 vs) ∧ Hid (RowsOf wr 2 encC t8.ownBlock vs ((r.vars.take i).map (fun v => v.args.map M))) ∧ Below w1.heap.size w1 wr) (fun _ t27 _ => r.vars.length - (intOf t27).toNat)
  case atStart => exact ⟨0, [], Nat.zero_le _, rfl, rfl, Lib.hid (OwnOf.nil _ _ _ _ _), Lib.hid (RowsOf.nil _ _ _ _), Below.refl _ _⟩
  case round =>
    obtain ⟨i, vs, hi, hvs, rfl, HO, HRW, hb⟩ := hrel
    have hs := hb.size
    by_cases hlt : i < r.vars.length
    rotate_left
    · have hie : i = r.vars.length := by omega
      have HF := Lib.hid (show RowsSl wr 2 encC u8 (movesL r u) from ⟨vs, HO.out.sl, by rw [HML.out, List.length_map]; omega, fun j x l h1 h2 => HRW.out.row j x l h1 (by rw [HML.out] at h2; rw [hie, List.take_length]; exact h2)⟩)
      go_wp2
      go_ret2
      exact ⟨HY.out _ _ HF.out, HKW.out.trans (hb.mono hww)⟩
    obtain ⟨-, hii, hg, hc⟩ := HVX.out i hlt
    have hwr := HKW.out.trans (hb.mono hww)
    have rd := fun j hj => (hwr.cell (p := ⟨gv, ov + 7 * i + j, none⟩) hg).trans (hc j hj)
    clear hc
    have hmem : r.vars[i] ∈ r.vars := List.getElem_mem hlt
    have HVR := Lib.hid (HR.out.each r.vars[i] hmem)
    have HAC2 := Lib.hid (HAC.out r.vars[i] hmem)
    have hal := HAN.out r.vars[i] hmem
    have HT := Lib.hid (show (r.vars.take (i + 1)).map (fun v => v.args.map M) = (r.vars.take i).map (fun v => v.args.map M) ++ [r.vars[i].args.map M] by rw [List.take_succ_eq_append_getElem hlt, List.map_append]; rfl)
    have HLT := Lib.hid hlt
    clear hmem
    generalize (r.vars.take i).map (fun v => v.args.map M) = LL at *
    generalize r.vars[i] = x at *
    obtain ⟨s, op, av, args, i0, i1, i2, i3⟩ := x
    have hvr := HVR.out.1
    simp only at hvr hal HAC2 HT
    obtain ⟨aa, ac, ga, oa, rfl, hla, hca, hxa⟩ := SlOf.at (enc := encA) (fun _ => rfl) un_va sz_va2 hvr
    have HAX := Lib.hid hxa
    unfold maxLen at hca
    clear hxa hvr HVR
    have r0 : wr.cell? ⟨gv, ov + 7 * i, none⟩ = some (.string s) := rd 0 (by omega)
    have r1 : wr.cell? ⟨gv, ov + 7 * i + 1, none⟩ = some (.int .i64 op) := rd 1 (by omega)
    have r2 : wr.cell? ⟨gv, ov + 7 * i + 2, none⟩ = some (.slice aa args.length ac) := rd 2 (by omega)
    have r3 : wr.cell? ⟨gv, ov + 7 * i + 3, none⟩ = some (.int .i64 i0) := rd 3 (by omega)
    have r4 : wr.cell? ⟨gv, ov + 7 * i + 4, none⟩ = some (.int .i64 i1) := rd 4 (by omega)
    have r5 : wr.cell? ⟨gv, ov + 7 * i + 5, none⟩ = some (.int .i64 i2) := rd 5 (by omega)
    have r6 : wr.cell? ⟨gv, ov + 7 * i + 6, none⟩ = some (.int .i64 i3) := rd 6 (by omega)
    clear rd
    obtain ⟨W, hW⟩ : ∃ W : World, wr.alloc (Obj.cells #[.string s, .int .i64 op, .slice aa args.length ac, .int .i64 i0, .int .i64 i1, .int .i64 i2, .int .i64 i3] 63) = W := ⟨_, rfl⟩
    have KR := Lib.hid (show Below wr.heap.size wr W by rw [← hW]; exact (by repeat (first | exact Below.refl _ _ | assumption | (refine Below.drew ?_) | (refine below_drewN ?_ _) | (refine Below.alloc ?_ (by first | (simp; done) | (simp; omega) | omega) _) | (refine Below.setCell ?_ (by first | (simp; done) | (simp; omega) | omega) _) | (refine Below.trans ?_ (Below.mono (by assumption) (by first | (simp; done) | (simp; omega) | omega))))))
    have kz : W.heap.size = wr.heap.size + 1 := by rw [← hW]; simp
    have HWW := Lib.hid hW; clear hW
    go_wp2_with fail
    rw [HWW.out]
    clear r0 r1 r2 r3 r4 r5 r6 hii
    have hsW : w1.heap.size ≤ W.heap.size := by omega
    have KB := Lib.hid (below_at hb hs KR.out)
    have KWB := Lib.hid (below_at hwr (by omega) KR.out)
    have hwW : w.heap.size ≤ W.heap.size := by omega
    have hsR : wr.heap.size ≤ W.heap.size := by omega
    clear kz HWW
    have HB := Lib.hid hb
    clear hb hwr hs
    obtain ⟨wo, rfl⟩ : ∃ x : World, x = wr := ⟨_, rfl⟩
    go_loopw [11, 34] (fun t11 t34 wr => ∃ k : Nat, k ≤ args.length ∧ t34 = .int .i64 (k : Nat) ∧ Hid (OwnOf wr W.heap.size 53 2 encC t11 ((args.take k).map M)) ∧ Below W.heap.size W wr) (fun _ t34 _ => args.length - (intOf t34).toNat)
    case atStart => exact ⟨0, Nat.zero_le _, rfl, Lib.hid (OwnOf.nil _ _ _ _ _), Below.refl _ _⟩
    case round =>
      obtain ⟨k, hk, rfl, HOI, hb⟩ := hrel
      have hs := hb.size
      by_cases hltk : k < args.length
      rotate_left
      · have hke : k = args.length := by omega
        have HOL := Lib.hid (show OwnOf wr W.heap.size 53 2 encC u11 (args.map M) by have := HOI.out; rwa [hke, List.take_length] at this)
        obtain ⟨la, lc, hle⟩ := HOL.out.shape
        rw [List.length_map] at hle
        subst hle
        have hbo : Below wo.heap.size wo wr := below_at KR.out hsR hb
        have HO2 := Lib.hid (HO.out.kept hbo)
        have HR2 := Lib.hid (HRW.out.kept hbo)
        have hso := hbo.size
        have hw1r : w1.heap.size ≤ wr.heap.size := by omega
        go_wp2_with (at_builtin; refine wpList_push rfl _ _ _ rfl slRw HO2.out rfl rfl (by first | rfl | simp) rfl rfl (by omega) (by omega) (by omega) ?_; intro g5 c5 w6 hown6 hg6 hat6)
        go_roundw
        case rel =>
          refine ⟨i + 1, vs ++ [.slice la args.length lc], HLT.out, by simp; omega, by simp, Lib.hid (OwnOf.snoc (l := vs) (x := Value.slice la args.length lc) (enc := encW) (by rw [← hvs]; simpa [encW] using hown6) rfl), Lib.hid ?_, OwnOf.push (below_at KB.out hsW hb) HO2.out (Nat.le_refl _) (by omega) hg6⟩
          rw [HT.out]
          exact HR2.out.push HOL.out.sl (fun g e => ⟨(HOL.out.lt g e).2, fun e2 => by have := (HOL.out.lt g e).1; have := (HO.out.lt g e2).2; omega⟩) hg6 hat6
        case measure => simp only [intOf]; have := HLT.out; omega
      obtain ⟨-, hii, hg2, hc⟩ := HAX.out k hltk
      have hwr := below_at KWB.out hwW hb
      have rd := fun j hj => (hwr.cell (p := ⟨ga, oa + 4 * k + j, none⟩) hg2).trans (hc j hj)
      clear hc
      have hmem : args[k] ∈ args := List.getElem_mem hltk
      have hac := HAC2.out args[k] hmem
      have HTK := Lib.hid (show (args.take (k + 1)).map M = (args.take k).map M ++ [M args[k]] by rw [List.take_succ_eq_append_getElem hltk, List.map_append]; rfl)
      have HLK2 := Lib.hid hltk
      have hacc : ((args.take k).map M).length + 1 ≤ 1073741824 := by rw [List.length_map, List.length_take]; omega
      clear hmem
      have HME := Lib.hid (HMC.out args[k])
      generalize (args.take k).map M = D at *
      generalize args[k] = y at *
      obtain ⟨yv, y0, y1, y2⟩ := y
      simp only at hac HME
      have HSK := Lib.hid (HCL.out (y0, y1, y2))
      generalize F (y0, y1, y2) = a at *
      obtain ⟨a0, a1⟩ := a
      simp only at hac HME HSK
      obtain ⟨⟨ha0, ha1⟩, hb0, hb1⟩ := hac
      have r0 : wr.cell? ⟨ga, oa + 4 * k, none⟩ = some (.int .i64 yv) := rd 0 (by omega)
      have r1 : wr.cell? ⟨ga, oa + 4 * k + 1, none⟩ = some (.int .i64 y0) := rd 1 (by omega)
      have r2 : wr.cell? ⟨ga, oa + 4 * k + 2, none⟩ = some (.int .i64 y1) := rd 2 (by omega)
      have r3 : wr.cell? ⟨ga, oa + 4 * k + 3, none⟩ = some (.int .i64 y2) := rd 3 (by omega)
      clear rd
      obtain ⟨W2, hW⟩ : ∃ W : World, wr.alloc (Obj.cells #[.int .i64 yv, .int .i64 y0, .int .i64 y1, .int .i64 y2] 106) = W := ⟨_, rfl⟩
      have KR2 := Lib.hid (show Below wr.heap.size wr W2 by rw [← hW]; exact (by repeat (first | exact Below.refl _ _ | assumption | (refine Below.drew ?_) | (refine below_drewN ?_ _) | (refine Below.alloc ?_ (by first | (simp; done) | (simp; omega) | omega) _) | (refine Below.setCell ?_ (by first | (simp; done) | (simp; omega) | omega) _) | (refine Below.trans ?_ (Below.mono (by assumption) (by first | (simp; done) | (simp; omega) | omega))))))
      have kz2 : W2.heap.size = wr.heap.size + 1 := by rw [← hW]; simp
      have x0 : W2.cell? ⟨wr.heap.size, 1, none⟩ = some (.int .i64 y0) := by subst hW; go_simp
      have x1 : W2.cell? ⟨wr.heap.size, 2, none⟩ = some (.int .i64 y1) := by subst hW; go_simp
      have x2 : W2.cell? ⟨wr.heap.size, 3, none⟩ = some (.int .i64 y2) := by subst hW; go_simp
      have KB2 := Lib.hid (below_at KB.out hsW (below_at hb hs KR2.out))
      obtain ⟨v0, v1, v2, v3, v4⟩ := VD.out W2 KB2.out
      have g1 : wr.heap.size < W2.heap.size := by omega
      have g2 : b < W2.heap.size := by omega
      have HW2 := Lib.hid hW; clear hW
      obtain ⟨da, dc, hde⟩ := HOI.out.shape
      subst hde
      go_wp2_with fail
      rw [HW2.out]
      clear r0 r1 r2 r3 hii
      go_cut [11, 14, 34] from 34 to 55 (fun t11 t14 t34 wx => ∃ g8, t14 = .pointer (some ⟨g8, 0, none⟩) ∧ t34 = .int .i64 (k : Nat) ∧ t11 = .slice da D.length dc ∧ wr.heap.size ≤ g8 ∧ g8 < wx.heap.size ∧ wx.cell? ⟨g8, 0, none⟩ = some (.int .i64 a0) ∧ wx.cell? ⟨g8, 1, none⟩ = some (.int .i64 a1) ∧ Below wr.heap.size wr wx)
      case first =>
        go_region_held3 (fun w' => Below W2.heap.size W2 w' ∧ w'.cell? ⟨wr.heap.size, 1, none⟩ = some (.int .i64 y0) ∧ w'.cell? ⟨wr.heap.size, 2, none⟩ = some (.int .i64 y1) ∧ w'.cell? ⟨wr.heap.size, 3, none⟩ = some (.int .i64 y2) ∧ w'.cell? ⟨b, 0, none⟩ = some (.int .i64 r.n) ∧ w'.cell? ⟨b, 1, none⟩ = some (.int .i64 kk) ∧ w'.cell? ⟨b, 2, none⟩ = some (.int .i64 u.1) ∧ w'.cell? ⟨b, 3, none⟩ = some (.int .i64 u.2.1) ∧ w'.cell? ⟨b, 4, none⟩ = some (.int .i64 u.2.2)) (((refine (fun kb => (⟨kb, (kb.cell (p := ⟨wr.heap.size, 1, none⟩) g1).trans x0, (kb.cell (p := ⟨wr.heap.size, 2, none⟩) g1).trans x1, (kb.cell (p := ⟨wr.heap.size, 3, none⟩) g1).trans x2, (kb.cell (p := ⟨b, 0, none⟩) g2).trans v0, (kb.cell (p := ⟨b, 1, none⟩) g2).trans v1, (kb.cell (p := ⟨b, 2, none⟩) g2).trans v2, (kb.cell (p := ⟨b, 3, none⟩) g2).trans v3, (kb.cell (p := ⟨b, 4, none⟩) g2).trans v4⟩)) (?_ : Below W2.heap.size W2 _); exact (by repeat (first | exact Below.refl _ _ | assumption | (refine Below.drew ?_) | (refine below_drewN ?_ _) | (refine Below.alloc ?_ (by first | (simp; done) | (simp; omega) | omega) _) | (refine Below.setCell ?_ (by first | (simp; done) | (simp; omega) | omega) _) | (refine Below.trans ?_ (Below.mono (by assumption) (by first | (simp; done) | (simp; omega) | omega)))))))) (first | (go_at_call 48; refine (HSK.out _).mono ?_; go_must (rintro e w5 ⟨rfl, hb5⟩; have hs5 := hb5.size; (try simp at hs5); obtain ⟨hc5, hf5⟩ := bcell hb5; (first | have z := z10 hs5 | have z := z9 hs5 | have z := z8 hs5 | have z := z7 hs5 | have z := z6 hs5 | have z := z5 hs5 | have z := z4 hs5 | have z := z3 hs5 | have z := z2 hs5 | have z := z1 hs5 | skip))))
        all_goals (try go_wp2_with fail)
        all_goals go_meet
        all_goals (refine ⟨_, rfl, rfl, rfl, by omega, by first | (simp; done) | (simp; omega), by go_simp, by go_simp, below_at KR2.out (by omega) (by repeat (first | exact Below.refl _ _ | assumption | (refine Below.drew ?_) | (refine below_drewN ?_ _) | (refine Below.alloc ?_ (by first | (simp; done) | (simp; omega) | omega) _) | (refine Below.setCell ?_ (by first | (simp; done) | (simp; omega) | omega) _) | (refine Below.trans ?_ (Below.mono (by assumption) (by first | (simp; done) | (simp; omega) | omega)))))⟩)
      case rest =>
        obtain ⟨g8, rfl, rfl, rfl, hg8, hg8', z0, z1, hbx⟩ := hcut
        have hsx := hbx.size
        have HOX := Lib.hid (HOI.out.kept hbx)
        have HBX := Lib.hid hbx
        clear hbx
        go_wp2_with (at_builtin; refine wpList_push rfl _ _ _ rfl slCe HOX.out rfl rfl (by first | rfl | simp) rfl rfl hacc (by omega) (by omega) ?_; intro g5 c5 w6 hown6 hg6 hat6)
        go_roundw
        case rel =>
          refine ⟨k + 1, HLK2.out, by simp, Lib.hid ?_, OwnOf.push (below_at hb hs HBX.out) HOX.out (Nat.le_refl _) (by omega) hg6⟩
          rw [HTK.out, HME.out]
          exact OwnOf.snoc (l := D) (x := (-a0, -a1)) (enc := encC) (by simpa [encC] using hown6) rfl
        case measure => simp only [intOf]; have := HLK2.out; omega
end Go.Proofs.YtndfdgdahinkpaaGreat
