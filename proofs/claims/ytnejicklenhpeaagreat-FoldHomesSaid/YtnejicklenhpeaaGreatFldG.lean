/- fold.Loads: its walk; rows of numbers of the call's own. Conditions: none. -/
import Derived.Test.YtnejicklenhpeaaGreatFldF
import Derived.Test.YtnejicklenhpeaaGreatPtsO
import Derived.Test.YtnejicklenhpeaaGreatFolC
namespace Go.Proofs.YtnejicklenhpeaaGreat
open Go.RowKit Go.Lib
set_option linter.unusedVariables false
def OwnI (w : World) (lo : Nat) (v : Value) (l : List Int) : Prop := OwnOf w lo 3 1 encInt v l
theorem flatI (l : List Int) : l.flatMap encInt = l.map (fun z => Value.int .i64 z) := by
  induction l with
  | nil => rfl
  | cons a t ih => rw [List.flatMap_cons, ih]; rfl
theorem OwnI.set {w : World} {lo g n cap : Nat} {l : List Int} (h : OwnI w lo (.slice (some ⟨g, 0, none⟩) n cap) l) (hn : l.length = n) (k : Nat) (x : Int) :
    OwnI (w.setCell ⟨g, k, none⟩ (.int .i64 x)) lo (.slice (some ⟨g, 0, none⟩) n cap) (l.set k x) := by
  subst hn
  have h0 : w.ownsRow lo 3 1 (.slice (some ⟨g, 0, none⟩) l.length cap) l.length (l.flatMap encInt) := h
  have h1 := (h0.stored k (.int .i64 x)).1
  unfold OwnI OwnOf
  rw [List.length_set, flatI, List.map_set, ← flatI]
  exact h1
theorem OwnI.at {w : World} {lo g n cap : Nat} {l : List Int} (h : OwnI w lo (.slice (some ⟨g, 0, none⟩) n cap) l) (hn : l.length = n) (k : Nat) (hk : k < n) :
    w.cell? ⟨g, k, none⟩ = some (.int .i64 (l.getD k 0)) ∧ w.frozen? ⟨g, k, none⟩ = false := by
  subst hn
  have h0 : w.ownsRow lo 3 1 (.slice (some ⟨g, 0, none⟩) l.length cap) l.length (l.flatMap encInt) := h
  have h1 := World.ownsRow.cellAt h0 k (by omega)
  refine ⟨?_, ?_⟩
  · rw [h1, flatI, List.getElem?_map, List.getElem?_eq_getElem hk, List.getD_eq_getElem?_getD, List.getElem?_eq_getElem hk]; rfl
  · obtain ⟨-, ⟨e, h1⟩ | ⟨g', c', cur, he, -, hg, -⟩⟩ := h0
    · cases e
    · simp only [Value.slice.injEq, Option.some.injEq, Addr.mk.injEq, and_true, true_and] at he
      obtain ⟨rfl, -⟩ := he
      simp [World.frozen?, hg]
theorem made_ints (n : Nat) (hn : n ≤ 1000000) : ∃ Z : Array Value, (∀ W, (Instr.makeSlice 39 (.int .i64 (n : Int)) (.int .i64 (n : Int))).run Tryz.prog W = .ok (.slice (some ⟨W.heap.size, 0, none⟩) n n) (W.alloc (.cells Z 3))) ∧ ∀ W : World, OwnI (W.alloc (.cells Z 3)) W.heap.size (.slice (some ⟨W.heap.size, 0, none⟩) n n) (List.replicate n 0) := by
  obtain ⟨i0, hi, hz0, hz1, hz2⟩ := info_parts int_info
  refine ⟨madeCells (Value.int .i64 0).cells n, fun W => ?_, fun W => ?_⟩
  · have := run_make (P := Tryz.prog) W 39 3 i0 _ Tryz.underlying39 hi hz0 .i64 .i64 (n : Int) (n : Int) (by omega) (by omega) (by rw [hz2]; omega) (by omega)
    rw [Int.toNat_natCast, hz1, Nat.mul_one] at this
    exact this
  · refine ⟨by rw [flatI]; simp, .inr ⟨W.heap.size, n, madeCells (Value.int .i64 0).cells n, by simp, Nat.le_refl _, alloc_atF W _, by simp, by unfold maxLen; omega, by simp [madeCells], ?_⟩⟩
    rw [flatI]
    refine List.ext_getElem? (fun i => ?_)
    by_cases h : i < n
    · simp [madeCells, Value.cells, h, Nat.mod_one]
    · simp [madeCells, h]
/-- How often each cell of M comes in K. -/
def cntL (M K : List (Int × Int)) : List Int := M.map (fun h => ((idxs K h).length : Int))
theorem cntL_len (M K : List (Int × Int)) : (cntL M K).length = M.length := by simp [cntL]
theorem cntL_nil (M : List (Int × Int)) : cntL M [] = List.replicate M.length 0 := by
  unfold cntL
  refine List.ext_getElem (by simp) (fun i h1 h2 => ?_)
  simp [idxs_nil]
theorem cntL_at {M K : List (Int × Int)} {i : Nat} {t : Int × Int} (hi : M[i]? = some t) : (cntL M K).getD i 0 = ((idxs K t).length : Int) := by
  unfold cntL
  rw [List.getD_eq_getElem?_getD, List.getElem?_map, hi]; rfl
theorem cntL_snoc {M K : List (Int × Int)} (hM : StrictC M) {i : Nat} {t : Int × Int} (hi : M[i]? = some t) : cntL M (K ++ [t]) = (cntL M K).set i (((idxs K t).length : Int) + 1) := by
  refine List.ext_getElem? (fun j => ?_)
  unfold cntL
  rw [List.getElem?_map, List.getElem?_set, List.length_map, List.getElem?_map]
  obtain ⟨hil, hie⟩ := List.getElem?_eq_some_iff.1 hi
  by_cases hj : j < M.length
  · rw [List.getElem?_eq_getElem hj, Option.map_some, Option.map_some, idxs_snoc]
    by_cases e : i = j
    · subst e
      rw [if_pos rfl, if_pos hil, hie, if_pos rfl]
      simp
    · have hne : t ≠ M[j] := fun h => by
        rw [← hie] at h
        rcases Nat.lt_or_gt_of_ne e with l | l
        · exact cltC_irr _ (h ▸ strict_lt hM l hj)
        · exact cltC_irr _ (h ▸ strict_lt hM l hil)
      rw [if_neg e, if_neg hne]
      simp
  · rw [List.getElem?_eq_none (by omega)]
    rw [if_neg (by omega)]
    rfl
theorem grown_of {W V : World} (row : Option Nat) (h : Below W.heap.size W V) : W.grownBy V row := ⟨h.os, h.tape, h.output, h.size, fun k hk _ => h.block k hk⟩
theorem grown_set {W V : World} {g : Nat} (h : W.grownBy V (some g)) (o : Nat) (x : Value) : W.grownBy (V.setCell ⟨g, o, none⟩ x) (some g) :=
  ⟨h.os, h.tape, h.output, by simpa using h.size, fun k hk hne => (heap_setCell_other V ⟨g, o, none⟩ k x (fun e => hne (by rw [e]))).trans (h.block k hk hne)⟩
def hcG (r : RecD) (u : P3) (f : Int × Int) (p : P3) : Int × Int := homC f (cellC r.n u p)
def loadsL (r : RecD) (u : P3) (f : Int × Int) : List Int := cntL (homesL r u f) ((ptsL r.n r.l).map (hcG r u f))
theorem homes_mem {r : RecD} {u : P3} {f : Int × Int} {p : P3} (hp : p ∈ ptsL r.n r.l) : hcG r u f p ∈ homesL r u f := by
  unfold homesL hcG
  rw [mem_sortC]
  exact List.mem_map_of_mem (by unfold cellsL; rw [mem_sortC]; exact List.mem_map_of_mem hp)
def LoadR (r : RecD) (u : P3) (f : Int × Int) (lo : Nat) (e : Ending) (w' : World) : Prop := ∃ v, e = .returned (.tuple #[v, .int .i64 (cutE r u f)]) ∧ OwnI w' lo v (if cutE r u f = 0 then loadsL r u f else [])
theorem loadR_err {r : RecD} {u : P3} {f : Int × Int} {lo : Nat} {k : Int} (h : cutE r u f = k) (hk : k ≠ 0) (w' : World) : LoadR r u f lo (.returned (.tuple #[.slice none 0 0, .int .i64 k])) w' := by
  unfold LoadR; rw [h]; exact ⟨_, rfl, by rw [if_neg hk]; exact OwnOf.nil _ _ _ _ _⟩
theorem loadR_ok {r : RecD} {u : P3} {f : Int × Int} {lo : Nat} (h : cutE r u f = 0) (w' : World) (v : Value) (hs : OwnI w' lo v (loadsL r u f)) : LoadR r u f lo (.returned (.tuple #[v, .int .i64 0])) w' := by
  unfold LoadR; rw [h]; exact ⟨_, rfl, by rw [if_pos rfl]; exact hs⟩
set_option maxHeartbeats 8000000 in
set_option maxRecDepth 100000 in
theorem Loads_l (r : RecD) (u : P3) (f : Int × Int) (w : World) (hr : RecRd w r) :
    Calls Tryz.prog 18 #[.agg #[.int .i64 r.n, r.lv, r.vv], .agg #[.int .i64 u.1, .int .i64 u.2.1, .int .i64 u.2.2], .agg #[.int .i64 f.1, .int .i64 f.2]] w fun e w' => LoadR r u f w.heap.size e w' ∧ Below w.heap.size w w' := by
  have HERR := Lib.hid (fun (k : Int) (h : cutE r u f = k) (hk : k ≠ 0) w' => loadR_err (lo := w.heap.size) h hk w')
  have HOK := Lib.hid (fun (h : cutE r u f = 0) w' v hs => loadR_ok (lo := w.heap.size) h w' v hs)
  have HR := Lib.hid hr
  clear hr
  have HCU := Lib.hid (fun (W : World) (h : RecRd W r) => cut_l r u f W h)
  obtain ⟨W0, hW0⟩ : ∃ W : World, ((w.alloc (Obj.cells #[.int .i64 r.n, r.lv, r.vv] 27)).alloc (Obj.cells #[.int .i64 u.1, .int .i64 u.2.1, .int .i64 u.2.2] 29)).alloc (Obj.cells #[.int .i64 f.1, .int .i64 f.2] 31) = W := ⟨_, rfl⟩
  have kw0 : Below w.heap.size w W0 := by rw [← hW0]; exact (by repeat (first | exact Below.refl _ _ | assumption | (refine Below.drew ?_) | (refine below_drewN ?_ _) | (refine Below.alloc ?_ (by first | (simp; done) | (simp; omega) | omega) _) | (refine Below.setCell ?_ (by first | (simp; done) | (simp; omega) | omega) _) | (refine Below.trans ?_ (Below.mono (by assumption) (by first | (simp; done) | (simp; omega) | omega)))))
  have ks0 : W0.heap.size = w.heap.size + 3 := by rw [← hW0]; simp
  have RD0 := Lib.hid (show ∀ V, Below W0.heap.size W0 V → V.cell? ⟨w.heap.size, 0, none⟩ = some (.int .i64 r.n) ∧ V.cell? ⟨w.heap.size, 1, none⟩ = some (r.lv) ∧ V.cell? ⟨w.heap.size, 2, none⟩ = some (r.vv) ∧ V.cell? ⟨w.heap.size + 1, 0, none⟩ = some (.int .i64 u.1) ∧ V.cell? ⟨w.heap.size + 1, 1, none⟩ = some (.int .i64 u.2.1) ∧ V.cell? ⟨w.heap.size + 1, 2, none⟩ = some (.int .i64 u.2.2) ∧ V.cell? ⟨w.heap.size + 1 + 1, 0, none⟩ = some (.int .i64 f.1) ∧ V.cell? ⟨w.heap.size + 1 + 1, 1, none⟩ = some (.int .i64 f.2) from fun V h => by
      refine ⟨(h.cell (p := ⟨w.heap.size, 0, none⟩) (by simp; omega)).trans ?_, (h.cell (p := ⟨w.heap.size, 1, none⟩) (by simp; omega)).trans ?_, (h.cell (p := ⟨w.heap.size, 2, none⟩) (by simp; omega)).trans ?_, (h.cell (p := ⟨w.heap.size + 1, 0, none⟩) (by simp; omega)).trans ?_, (h.cell (p := ⟨w.heap.size + 1, 1, none⟩) (by simp; omega)).trans ?_, (h.cell (p := ⟨w.heap.size + 1, 2, none⟩) (by simp; omega)).trans ?_, (h.cell (p := ⟨w.heap.size + 1 + 1, 0, none⟩) (by simp; omega)).trans ?_, (h.cell (p := ⟨w.heap.size + 1 + 1, 1, none⟩) (by simp; omega)).trans ?_⟩ <;> (subst hW0; go_simp))
  have HW0 := Lib.hid hW0; have KW0 := Lib.hid kw0; clear hW0 kw0
  have hks : w.heap.size ≤ W0.heap.size := by omega
  by_cases hc : cutE r u f = 0
  rotate_left
  · have HE := Lib.hid (fun w' => HERR.out (cutE r u f) rfl hc w')
    have hnz : (cutE r u f != 0) = true := by simpa using hc
    have HA := Lib.hid hc
    clear hc
    generalize hA : cutE r u f = A at *
    go_enter Tryz.func18, Tryz.ntmps18
    go_wp2_with (go_at_call 46; rw [HW0.out]; refine (HCU.out _ (HR.out.below KW0.out)).mono ?_; go_must (rintro e w1 ⟨⟨p, rfl, hp⟩, hb1⟩; rw [hA]; rw [hA, if_neg HA.out] at hp; subst hp))
    go_ret2
    exact ⟨HE.out _, below_at KW0.out hks hb1⟩
  have HY := Lib.hid (fun w' v h => HOK.out hc w' v h)
  obtain ⟨hae, hz⟩ := cutE_ok hc
  obtain ⟨hvr, hdr⟩ := askE_ok hae
  have hfb : (1 ≤ f.1 ∧ f.1 ≤ 8) ∧ (1 ≤ f.2 ∧ f.2 ≤ 8) := by simp only [eachB, decide_eq_true_eq] at hz; omega
  have HFB := Lib.hid hfb
  have HLD := Lib.hid (show loadsL r u f = cntL (homesL r u f) ((ptsL r.n r.l).map (hcG r u f)) from rfl)
  have HCP := Lib.hid (fun (p : P3) (hp : p ∈ ptsL r.n r.l) (W : World) => And.intro (CellOf_pt hvr hdr hp W) (And.intro (cell_small hdr (pts_sm hvr hp)) (homes_mem (u := u) (f := f) hp)))
  have HGG := Lib.hid (show ∀ p, hcG r u f p = homC f (cellC r.n u p) from fun p => rfl)
  have HST := Lib.hid (show StrictC (homesL r u f) from sortC_strict _)
  have hlM : (homesL r u f).length ≤ 1000 := Nat.le_trans (sortC_len _) (by rw [List.length_map]; exact cellsL_len hae)
  have hlL : (ptsL r.n r.l).length ≤ 1000 := (validR_out hvr).2.1
  have HPT := Lib.hid (fun (W : World) (h : RecRd W r) => PointsO_l r.n r.l W r.lv h.l (validR_out hvr).1 hlL)
  obtain ⟨Z, hmk, hmo⟩ := made_ints (homesL r u f).length (by omega)
  have HMO := Lib.hid hmo
  clear hfb hz hvr hdr hae hmo HERR HOK
  go_enter Tryz.func18, Tryz.ntmps18
  go_wp2_with (first | (go_at_call 46; rw [HW0.out]; refine (HCU.out _ (HR.out.below KW0.out)).mono ?_; go_must (rintro e w1 ⟨⟨p, rfl, hp⟩, hb1⟩; rw [hc]; rw [if_pos hc] at hp; obtain ⟨sb, rfl, hsh⟩ := hp; obtain ⟨hlt, mb, n, vb, vh, s0, s1, s2, s3, s4, hm, hsb, hsg⟩ := hsh; obtain ⟨xa, xc, hxe, -⟩ := hsg.shape; subst hxe; have HSG := Lib.hid hsg; obtain ⟨b0, b1, b2, b3, b4, b5, b6, b7⟩ := RD0.out w1 hb1; have HB1 := Lib.hid hb1; have hs1 := hb1.size; have zz := z1 (show w.heap.size + 1 ≤ w1.heap.size by omega); clear hm hsb hsg hb1)) | (go_at_call 49; refine (HPT.out _ (HR.out.below (below_at KW0.out hks ((HB1.out.alloc (by omega) _))))).mono ?_; go_must (rintro e w3 ⟨⟨v3, rfl, ho3⟩, hb3⟩; obtain ⟨pa, pc, hpe⟩ := ho3.shape; subst hpe; have HO3 := Lib.hid ho3; have HB3 := Lib.hid hb3; clear ho3 hb3)))
  have HW3 := Lib.hid (show Below w1.heap.size w1 w3 from ((Below.refl _ w1).alloc (Nat.le_refl _) _).trans (HB3.out.mono (by simp)))
  have HI3 := Lib.hid (show OwnI w3 w1.heap.size (.slice (some ⟨w1.heap.size, 0, none⟩) (homesL r u f).length (homesL r u f).length) (cntL (homesL r u f) []) from by rw [cntL_nil]; exact (HMO.out w1).kept HB3.out)
  have hw3 : w1.heap.size < w3.heap.size := by have := HB3.out.size; simp at this; omega
  have hpg : ∀ g, (Value.slice pa (ptsL r.n r.l).length pc).ownBlock = some g → w1.heap.size < g := fun g e => by have := (HO3.out.lt g e).1; simp at this; omega
  have HPG := Lib.hid hpg
  generalize homesL r u f = M at *
  generalize ptsL r.n r.l = L at *
  generalize hcG r u f = G at *
  clear hmk HMO HPT hpg
  go_loopw [14, 15, 16, 17, 18, 19, 20, 45] (fun t14 t15 t16 t17 t18 t19 t20 t45 wr => ∃ k : Nat, k ≤ L.length ∧ t45 = .int .i64 (k : Int) ∧ Hid (OwnI wr w1.heap.size (.slice (some ⟨w1.heap.size, 0, none⟩) M.length M.length) (cntL M ((L.take k).map G))) ∧ Hid (w3.grownBy wr (some w1.heap.size))) (fun _ _ _ _ _ _ _ t45 _ => L.length - (intOf t45).toNat)
  case atStart => exact ⟨0, Nat.zero_le _, rfl, HI3, Lib.hid (grown_refl _ _)⟩
  case round =>
    clear b0 b1 b2 b3 b4 b5 b6 b7
    obtain ⟨k, hk, rfl, HI, HG⟩ := hrel
    have hsg := HG.out.size
    have HBW := Lib.hid (HW3.out.grown HG.out (by omega) (fun r e => by cases e; exact Nat.le_refl _))
    by_cases hlt2 : k < L.length
    rotate_left
    · have hke : k = L.length := by omega
      subst hke
      rw [List.take_length] at HI
      have HE := Lib.hid (show OwnI wr w.heap.size (.slice (some ⟨w1.heap.size, 0, none⟩) M.length M.length) (loadsL r u f) from by rw [HLD.out]; exact OwnOf.mono HI.out (by omega))
      have HBE := Lib.hid (below_at KW0.out hks (HB1.out.trans (HBW.out.mono hs1)))
      go_wp2_with fail
      go_ret2
      exact ⟨HY.out _ _ HE.out, HBE.out⟩
    have hkl : (k : Int) < (L.length : Int) := by omega
    have hk0 : (0 : Int) ≤ (k : Int) := by omega
    have hpo := (HO3.out.grown HG.out (.inl (fun e => by have := HPG.out _ e; omega))).sl
    obtain ⟨pa2, pc2, g, off, he, hlc, hcm, hx⟩ := SlOf.at (enc := encP) (fun _ => rfl) un_pts sz_pts hpo
    cases he
    obtain ⟨-, hi, hgw, hcl⟩ := hx k hlt2
    have r0 : wr.cell? ⟨g, off + 3 * k, none⟩ = some (.int .i64 L[k].1) := hcl 0 (by omega)
    have r1 : wr.cell? ⟨g, off + 3 * k + 1, none⟩ = some (.int .i64 L[k].2.1) := hcl 1 (by omega)
    have r2 : wr.cell? ⟨g, off + 3 * k + 2, none⟩ = some (.int .i64 L[k].2.2) := hcl 2 (by omega)
    clear hx hcl hpo
    obtain ⟨b0, b1, b2, b3, b4, b5, b6, b7⟩ := RD0.out wr (HB1.out.trans (HBW.out.mono hs1))
    have HCK := Lib.hid (fun (W : World) => (HCP.out L[k] (List.getElem_mem hlt2) W).1)
    have hcs := (HCP.out L[k] (List.getElem_mem hlt2) wr).2.1
    have hmm := (HCP.out L[k] (List.getElem_mem hlt2) wr).2.2
    have HT := Lib.hid (show (L.take (k + 1)).map G = (L.take k).map G ++ [G L[k]] by rw [List.take_succ_eq_append_getElem hlt2, List.map_append]; rfl)
    have hge := HGG.out L[k]
    rw [hge] at hmm HT
    have hlk : ((L.take k).map G).length ≤ 1000 := by rw [List.length_map, List.length_take]; omega
    generalize (L.take k).map G = K at *
    generalize cellC r.n u L[k] = c at *
    generalize L[k] = p at *
    obtain ⟨p0, p1, p2⟩ := p
    obtain ⟨x0, x1⟩ := c
    simp only at r0 r1 r2 hcs HCK
    have HSP := Lib.hid (fun (W : World) => split_any x0 x1 f.1 f.2 W HFB.out.1.1 HFB.out.1.2 HFB.out.2.1 HFB.out.2.2 (by omega) (by omega) (by omega) (by omega))
    have hhe : homC f (x0, x1) = (x0 % f.1, x1 % f.2) := rfl
    rw [hhe] at hmm HT
    have HMM := Lib.hid hmm
    clear hcs hge hhe hmm
    have zw := z1 (show w.heap.size + 1 + 1 + 1 ≤ wr.heap.size by omega)
    have zx := z1 (show w.heap.size + 1 + 1 ≤ wr.heap.size by omega)
    have zy := z1 (show w.heap.size + 1 ≤ wr.heap.size by omega)
    have s4r := (HBW.out.cell (p := ⟨sb, 4, none⟩) hlt).trans s4
    have hsbr : sb < wr.heap.size := by omega
    go_wp2_with (first | (go_at_call 50; refine (HCK.out _).mono ?_; go_must (rintro e w5 ⟨rfl, hb5⟩; have hs5 := hb5.size; (try simp at hs5); obtain ⟨hc5, hf5⟩ := bcell hb5; have HB5 := Lib.hid hb5; have zv := z1 (show w.heap.size + 1 + 1 + 1 ≤ w5.heap.size by omega); clear hb5)) | (go_at_call 51; refine (HSP.out _).mono ?_; go_must (rintro e w6 ⟨rfl, hb6⟩; have hs6 := hb6.size; (try simp at hs6); obtain ⟨hc6, hf6⟩ := bcell hb6; have HB6 := Lib.hid hb6; clear hb6)))
    refine forgetW (fun V => Below wr.heap.size wr V ∧ wr.heap.size ≤ w6.heap.size ∧ w6.heap.size + 1 < V.heap.size ∧ V.cell? ⟨w6.heap.size + 1, 0, none⟩ = some (.int .i64 (x0 % f.1)) ∧ V.cell? ⟨w6.heap.size + 1, 1, none⟩ = some (.int .i64 (x1 % f.2))) ⟨by have hb5 := HB5.out; have hb6 := HB6.out; exact (by repeat (first | exact Below.refl _ _ | assumption | (refine Below.drew ?_) | (refine below_drewN ?_ _) | (refine Below.alloc ?_ (by first | (simp; done) | (simp; omega) | omega) _) | (refine Below.setCell ?_ (by first | (simp; done) | (simp; omega) | omega) _) | (refine Below.trans ?_ (Below.mono (by assumption) (by first | (simp; done) | (simp; omega) | omega))))), by omega, by simp, by go_simp, by go_simp⟩ ?_
    rintro V ⟨hv, hq1, hq2, y0, y1⟩
    have HVB := Lib.hid hv
    have hsv := hv.size
    have HIV := Lib.hid (show OwnI V w1.heap.size (.slice (some ⟨w1.heap.size, 0, none⟩) M.length M.length) (cntL M K) from OwnOf.kept HI.out hv)
    have HBS := Lib.hid (fun (W : World) (hW : Below V.heap.size V W) => bsearch_l M HST.out (by omega) (x0 % f.1, x1 % f.2) HMM.out (.slice xa M.length xc) W ((HSG.out.below (HBW.out.trans (hv.mono (by omega)))).below hW))
    have s4v := (hv.cell (p := ⟨sb, 4, none⟩) hsbr).trans s4r
    have HCX := Lib.hid (fun (W : World) (kb : Below V.heap.size V W) => And.intro ((kb.cell (p := ⟨sb, 4, none⟩) (show sb < V.heap.size by omega)).trans s4v) (And.intro ((kb.cell (p := ⟨w6.heap.size + 1, 0, none⟩) hq2).trans y0) ((kb.cell (p := ⟨w6.heap.size + 1, 1, none⟩) hq2).trans y1)))
    generalize hd0 : x0 % f.1 = d0 at *
    generalize hd1 : x1 % f.2 = d1 at *
    clear s4r r0 r1 r2 b0 b1 b2 b3 b4 b5 b6 b7 zw zx zy zz hv hd0 hd1 HSP HCK HB5 HB6
    go_region_held3 (fun w' => Below V.heap.size V w' ∧ w'.cell? ⟨sb, 4, none⟩ = some (.slice xa M.length xc) ∧ w'.cell? ⟨w6.heap.size + 1, 0, none⟩ = some (.int .i64 d0) ∧ w'.cell? ⟨w6.heap.size + 1, 1, none⟩ = some (.int .i64 d1)) (((refine (fun kb => (⟨kb, HCX.out _ kb⟩)) (?_ : Below V.heap.size V _); exact (by repeat (first | (with_reducible exact Below.refl _ _) | (with_reducible assumption) | (with_reducible refine Below.drew ?_) | (with_reducible refine Below.setCell ?_ (by first | (simp; done) | (simp; omega) | omega) _) | (with_reducible refine Below.alloc ?_ (by first | (simp; done) | (simp; omega) | omega) _) | (with_reducible refine below_drewN ?_ _) | (refine Below.trans ?_ (Below.mono (by with_reducible assumption) (by first | (simp; done) | (simp; omega) | omega)))))))) (first | (go_at_call 52; refine (HBS.out _ (by exact (by repeat (first | (with_reducible exact Below.refl _ _) | (with_reducible assumption) | (with_reducible refine Below.drew ?_) | (with_reducible refine Below.setCell ?_ (by first | (simp; done) | (simp; omega) | omega) _) | (with_reducible refine Below.alloc ?_ (by first | (simp; done) | (simp; omega) | omega) _) | (with_reducible refine below_drewN ?_ _) | (refine Below.trans ?_ (Below.mono (by with_reducible assumption) (by first | (simp; done) | (simp; omega) | omega))))))).mono ?_; go_must (rintro e w7 ⟨⟨i, hi7, rfl⟩, hb7⟩; have hbE : Below V.heap.size V w7 := (by exact (by repeat (first | (with_reducible exact Below.refl _ _) | (with_reducible assumption) | (with_reducible refine Below.drew ?_) | (with_reducible refine Below.setCell ?_ (by first | (simp; done) | (simp; omega) | omega) _) | (with_reducible refine Below.alloc ?_ (by first | (simp; done) | (simp; omega) | omega) _) | (with_reducible refine below_drewN ?_ _) | (refine Below.trans ?_ (Below.mono (by with_reducible assumption) (by first | (simp; done) | (simp; omega) | omega)))))); have HBE := Lib.hid hbE; have HI7 := Lib.hid hi7; have hil := (List.getElem?_eq_some_iff.1 hi7).1; clear hb7 hi7)))
    have HIW := Lib.hid (show OwnI w7 w1.heap.size (.slice (some ⟨w1.heap.size, 0, none⟩) M.length M.length) (cntL M K) from OwnOf.kept HIV.out HBE.out)
    obtain ⟨q0, qf⟩ := HIW.out.at (cntL_len M K) i hil
    rw [cntL_at HI7.out] at q0
    have HSN := Lib.hid (cntL_snoc (K := K) HST.out HI7.out)
    have hix := idxs_len K (d0, d1)
    generalize (idxs K (d0, d1)).length = N at *
    have hi0 : (0 : Int) ≤ (i : Int) := by omega
    have hi1 : (i : Int) < (M.length : Int) := by omega
    go_wp2_with fail
    go_roundw
    case rel => exact ⟨k + 1, hlt2, by simp, Lib.hid (by rw [HT, HSN.out]; exact HIW.out.set (cntL_len M K) i _), Lib.hid (grown_set (HG.out.trans (grown_of _ (HVB.out.trans (HBE.out.mono hsv)))) _ _)⟩
    case measure => simp only [intOf]; omega
end Go.Proofs.YtnejicklenhpeaaGreat
