/- Folded events: their order; slices.SortFunc with it. What a fold makes of events: plain laws. (*fold.sheet).folded: its walk. Conditions: none. -/
import Derived.Test.YtnejicklenhpeaaGreatFldE
import Derived.Test.YtnejicklenhpeaaGreatFolB
import Derived.Test.YtnejicklenhpeaaGreatFoldSane
import Derived.Test.YtnejicklenhpeaaGreatTabF
import Derived.BigQuiet
import Derived.Deep.RegionHeld3
import Derived.Deep.CutRange
namespace Go.Proofs.YtnejicklenhpeaaGreat
open Go.RowKit Go.Sort Go.Lib
set_option maxHeartbeats 4000000 in
set_option maxRecDepth 100000 in
theorem ftcmp_l (x y : EvD) (W : World) : Calls Tryz.prog 116 #[evD x, evD y] W fun e w' => e = .returned (.int .i64 (cmpE x y)) ∧ ∃ q os', w' = grow (W.drewN q) os' := by
  rw [cmpE_or]
  have HI := Lib.hid (fun (a b : Int) (V : World) => cmpI_l a b V)
  have HC := Lib.hid (fun (V : World) => show Calls Tryz.prog 53 #[.agg #[.int .i64 x.c.1, .int .i64 x.c.2], .agg #[.int .i64 y.c.1, .int .i64 y.c.2]] V fun e w' => e = .returned (.int .i64 (cmpC x.c y.c)) ∧ Gw V w' from fcompare_l x.c y.c V)
  have HO := Lib.hid (fun (a b c : Int) (g cap : Nat) (V : World) h0 h1 h2 => or3_l a b c g cap V h0 h1 h2)
  obtain ⟨xt, ⟨xa, xb⟩, ⟨xv, x0, x1, x2⟩⟩ := x
  obtain ⟨yt, ⟨ya, yb⟩, ⟨yv, y0, y1, y2⟩⟩ := y
  unfold evD
  simp only at HC ⊢
  generalize cmpC (xa, xb) (ya, yb) = cc at *
  obtain ⟨W2, hW⟩ : ∃ V : World, (W.alloc (Obj.cells #[.int .i64 xt, .int .i64 xa, .int .i64 xb, .int .i64 xv, .int .i64 x0, .int .i64 x1, .int .i64 x2] 54)).alloc (Obj.cells #[.int .i64 yt, .int .i64 ya, .int .i64 yb, .int .i64 yv, .int .i64 y0, .int .i64 y1, .int .i64 y2] 54) = V := ⟨_, rfl⟩
  have hk : W2.heap.size = W.heap.size + 2 := by rw [← hW]; simp
  have KG := Lib.hid (show Gw W W2 by rw [← hW]; exact ((Gw.refl W).alloc _).alloc _)
  have CC := Lib.hid (show ∀ V, Gw W2 V → Gw W2 V ∧ (V.cell? ⟨W.heap.size, 0, none⟩ = some (.int .i64 xt) ∧ V.cell? ⟨W.heap.size, 1, none⟩ = some (.int .i64 xa) ∧ V.cell? ⟨W.heap.size, 2, none⟩ = some (.int .i64 xb) ∧ V.cell? ⟨W.heap.size, 3, none⟩ = some (.int .i64 xv)) ∧ V.cell? ⟨W.heap.size + 1, 0, none⟩ = some (.int .i64 yt) ∧ V.cell? ⟨W.heap.size + 1, 1, none⟩ = some (.int .i64 ya) ∧ V.cell? ⟨W.heap.size + 1, 2, none⟩ = some (.int .i64 yb) ∧ V.cell? ⟨W.heap.size + 1, 3, none⟩ = some (.int .i64 yv) from fun V h => by
    have hb := h.below
    refine ⟨h, ⟨(hb.cell (p := ⟨W.heap.size, 0, none⟩) (by simp; omega)).trans ?_, (hb.cell (p := ⟨W.heap.size, 1, none⟩) (by simp; omega)).trans ?_, (hb.cell (p := ⟨W.heap.size, 2, none⟩) (by simp; omega)).trans ?_, (hb.cell (p := ⟨W.heap.size, 3, none⟩) (by simp; omega)).trans ?_⟩, (hb.cell (p := ⟨W.heap.size + 1, 0, none⟩) (by simp; omega)).trans ?_, (hb.cell (p := ⟨W.heap.size + 1, 1, none⟩) (by simp; omega)).trans ?_, (hb.cell (p := ⟨W.heap.size + 1, 2, none⟩) (by simp; omega)).trans ?_, (hb.cell (p := ⟨W.heap.size + 1, 3, none⟩) (by simp; omega)).trans ?_⟩ <;> (subst hW; go_simp))
  have HW := Lib.hid hW; clear hW
  clear hk
  go_enter Tryz.func116, Tryz.ntmps116
  go_wp2
  rw [HW.out]
  go_region_held3 (fun w' => Gw W2 w' ∧ (w'.cell? ⟨W.heap.size, 0, none⟩ = some (.int .i64 xt) ∧ w'.cell? ⟨W.heap.size, 1, none⟩ = some (.int .i64 xa) ∧ w'.cell? ⟨W.heap.size, 2, none⟩ = some (.int .i64 xb) ∧ w'.cell? ⟨W.heap.size, 3, none⟩ = some (.int .i64 xv)) ∧ w'.cell? ⟨W.heap.size + 1, 0, none⟩ = some (.int .i64 yt) ∧ w'.cell? ⟨W.heap.size + 1, 1, none⟩ = some (.int .i64 ya) ∧ w'.cell? ⟨W.heap.size + 1, 2, none⟩ = some (.int .i64 yb) ∧ w'.cell? ⟨W.heap.size + 1, 3, none⟩ = some (.int .i64 yv)) ((refine CC.out _ ?_; exact (by repeat (first | (with_reducible exact Gw.refl _) | (with_reducible assumption) | (with_reducible refine Gw.drew ?_) | (with_reducible refine Gw.alloc ?_ _) | (refine Gw.trans ?_ (by with_reducible assumption)))))) (first | (go_at_call 76; refine (HI.out _ _ _).mono ?_; go_must (rintro e w1 ⟨rfl, rfl⟩)) | (go_at_call 53; refine (HC.out _).mono ?_; go_must (rintro e w2 ⟨rfl, hg2⟩)) | (go_at_call 75; refine Calls.mono (HO.out (cmpI xt yt) cc (cmpI xv yv) _ 3 _ (by go_simp) (by go_simp) (by go_simp)) ?_; go_must (rintro e w3 ⟨rfl, rfl⟩)))
  all_goals
    go_wp2
    go_ret
    refine ⟨rfl, KG.out.trans ?_⟩
    repeat (first | (with_reducible exact Gw.refl _) | (with_reducible assumption) | (with_reducible refine Gw.drew ?_) | (with_reducible refine Gw.alloc ?_ _) | (refine Gw.trans ?_ (by with_reducible assumption)))
end Go.Proofs.YtnejicklenhpeaaGreat
namespace Go.Proofs.YtnejicklenhpeaaGreat
open Go.RowKit Go.Sort Go.Shelf Go.Lib
set_option linter.unusedVariables false
theorem fcmpLaysE (blk off size : Nat) (w : World) : CmpLays Tryz.prog 116 #[] encE 7 cmpE blk off size w :=
  fun _ _ _ _ x y => ftcmp_l x y _
theorem fsortE_l (W : World) (lo : Nat) (v : Value) (l : List EvD) (hown : OwnOf W lo 54 7 encE v l) (hlo : lo ≤ W.heap.size) (hlen : l.length ≤ 100000) :
    Calls Tryz.prog 73 #[v, .func (.func 116) #[] #[]] W fun e W' => e = .returned (.tuple #[]) ∧ ∃ l' : List EvD, l'.Perm l ∧ l'.Pairwise (fun a b => ¬ ltK b a) ∧ OwnOf W' lo 54 7 encE v l' ∧ W.grownBy W' v.ownBlock :=
  sortsGE 116 (enters_of Tryz.func116 (by kernel_rfl) rfl) fcmpLaysE W lo v l hown hlo hlen
/-- The event of the folded array that an event becomes. -/
def foldEv (B : List (Int × Int)) (f : Int × Int) (x : EvD) : EvD := ⟨x.t * (B.length : Int) + (posTo B B.length (blkC f x.c) : Int), homC f x.c, x.e⟩
def fevsL (r : RecD) (s : SchedD) (u : P3) (f : Int × Int) : List EvD := (evsL r s u).map (foldEv (blocksL r u f) f)
theorem posTo_mem {B : List (Int × Int)} {x : Int × Int} : ∀ k, k ≤ B.length → x ∈ B.take k → ∃ h : posTo B k x < B.length, B[posTo B k x] = x
  | 0, _, h => by simp at h
  | k + 1, hk, h => by
    unfold posTo
    by_cases e : B[k]? = some x
    · simp only [if_pos e]
      exact ⟨by omega, (List.getElem?_eq_some_iff.1 e).2⟩
    · simp only [if_neg e]
      refine posTo_mem k (by omega) ?_
      rw [List.take_succ_eq_append_getElem (by omega), List.mem_append] at h
      rcases h with h | h
      · exact h
      · exfalso; apply e
        rw [List.getElem?_eq_getElem (by omega)]
        simp at h; rw [h]
theorem pos_lt {B : List (Int × Int)} {x : Int × Int} (h : x ∈ B) : posTo B B.length x < B.length := (posTo_mem B.length (Nat.le_refl _) (by rwa [List.take_length])).1
theorem pos_at {B : List (Int × Int)} {x : Int × Int} (h : x ∈ B) : B[posTo B B.length x]? = some x := by
  obtain ⟨h1, h2⟩ := posTo_mem B.length (Nat.le_refl _) (show x ∈ B.take B.length by rwa [List.take_length])
  rw [List.getElem?_eq_getElem h1, h2]
theorem cell_of_parts {f c d : Int × Int} (hb : blkC f c = blkC f d) (hh : homC f c = homC f d) : c = d := by
  simp only [blkC, homC, Prod.mk.injEq] at hb hh
  have e0 := Int.mul_ediv_add_emod c.1 f.1
  have e1 := Int.mul_ediv_add_emod d.1 f.1
  have e2 := Int.mul_ediv_add_emod c.2 f.2
  have e3 := Int.mul_ediv_add_emod d.2 f.2
  rw [hb.1, hh.1] at e0
  rw [hb.2, hh.2] at e2
  exact Prod.ext_iff.2 ⟨by omega, by omega⟩
theorem evs_block {r : RecD} {s : SchedD} {u : P3} {f : Int × Int} {x : EvD} (hx : x ∈ evsL r s u) : blkC f x.c ∈ blocksL r u f := by
  obtain ⟨v, -, p, hp, rfl⟩ := mem_evsL.1 hx
  unfold blocksL
  rw [mem_sortC]
  exact List.mem_map_of_mem (by unfold cellsL; rw [mem_sortC]; exact List.mem_map_of_mem hp)
/-- Folded events differ in time, home or variable. -/
theorem fev_inj {r : RecD} {s : SchedD} {u : P3} {f : Int × Int} (h : clashL r s u = none) {x y : EvD} (hx : x ∈ evsL r s u) (hy : y ∈ evsL r s u) (ht : (foldEv (blocksL r u f) f x).t = (foldEv (blocksL r u f) f y).t) (hc : (foldEv (blocksL r u f) f x).c = (foldEv (blocksL r u f) f y).c) (he : x.e.1 = y.e.1) : x = y := by
  have bx := evs_block (f := f) hx
  have ex := evs_block (f := f) hy
  have px := pos_lt bx
  have py := pos_lt ex
  have qx := pos_at bx
  have qy := pos_at ex
  simp only [foldEv] at ht hc
  generalize hB : blocksL r u f = B at *
  generalize hp : posTo B B.length (blkC f x.c) = i at *
  generalize hq : posTo B B.length (blkC f y.c) = j at *
  have hij : i = j ∧ x.t = y.t := by
    have h0 : (x.t - y.t) * (B.length : Int) = (j : Int) - (i : Int) := by rw [Int.sub_mul]; omega
    have h1 : x.t - y.t = 0 := by
      rcases Int.lt_trichotomy (x.t - y.t) 0 with g | g | g
      · have := Int.mul_le_mul_of_nonneg_right (show x.t - y.t ≤ -1 by omega) (show (0 : Int) ≤ (B.length : Int) by omega)
        omega
      · exact g
      · have := Int.mul_le_mul_of_nonneg_right (show 1 ≤ x.t - y.t by omega) (show (0 : Int) ≤ (B.length : Int) by omega)
        omega
    rw [h1] at h0
    omega
  obtain ⟨rfl, htt⟩ := hij
  rw [qx] at qy
  exact ev_inj h hx hy htt (cell_of_parts (Option.some.inj qy) hc) he
end Go.Proofs.YtnejicklenhpeaaGreat
namespace Go.Proofs.YtnejicklenhpeaaGreat
open Go.RowKit Go.Lib
set_option linter.unusedVariables false
theorem blk_wf {f c : Int × Int} (hf : (1 ≤ f.1 ∧ f.1 ≤ 8) ∧ (1 ≤ f.2 ∧ f.2 ≤ 8)) (hc : (-1000 ≤ c.1 ∧ c.1 ≤ 1000) ∧ (-1000 ≤ c.2 ∧ c.2 ≤ 1000)) : wf2 (blkC f c) := by
  have d1 := div_bd c.1 f.1 hf.1.1 hf.1.2 hc.1.1 hc.1.2
  have d2 := div_bd c.2 f.2 hf.2.1 hf.2.2 hc.2.1 hc.2.2
  exact ⟨wf_sm (show _ ≤ c.1 / f.1 ∧ c.1 / f.1 ≤ _ by omega), wf_sm (show _ ≤ c.2 / f.2 ∧ c.2 / f.2 ≤ _ by omega)⟩
theorem pos_le (B : List (Int × Int)) (x : Int × Int) : ∀ k, posTo B k x ≤ k
  | 0 => Nat.le_refl _
  | k + 1 => by
    unfold posTo
    split
    · omega
    · have := pos_le B x k; omega
theorem fold_time {t n p : Int} (ht : -100000 ≤ t ∧ t ≤ 100000) (hn : 0 ≤ n ∧ n ≤ 1000) (hp : 0 ≤ p ∧ p ≤ 1000) : (-100000000 ≤ t * n ∧ t * n ≤ 100000000) ∧ (-100001000 ≤ t * n + p ∧ t * n + p ≤ 100001000) := by
  have := mul_bd (A := 100000) (B := 1000) ht (show -1000 ≤ n ∧ n ≤ 1000 by omega)
  omega
set_option maxHeartbeats 8000000 in
set_option maxRecDepth 100000 in
theorem folded_l (r : RecD) (u : P3) (f : Int × Int) (hz : eachB f.1 f.2 1 8 = true) (hbl : (blocksL r u f).length ≤ 1000) (sb : Nat) (x : EvD) (ht : -100000 ≤ x.t ∧ x.t ≤ 100000) (hcc : (-1000 ≤ x.c.1 ∧ x.c.1 ≤ 1000) ∧ (-1000 ≤ x.c.2 ∧ x.c.2 ≤ 1000)) (w : World) (hs : SheetAt w sb r u f) :
    Calls Tryz.prog 115 #[.pointer (some ⟨sb, 0, none⟩), evD x] w fun e w' => e = .returned (evD (foldEv (blocksL r u f) f x)) ∧ Below w.heap.size w w' := by
  have hfb : (1 ≤ f.1 ∧ f.1 ≤ 8) ∧ (1 ≤ f.2 ∧ f.2 ≤ 8) := by simp only [eachB, decide_eq_true_eq] at hz; omega
  have HSP := Lib.hid (fun (W : World) => split_any x.c.1 x.c.2 f.1 f.2 W hfb.1.1 hfb.1.2 hfb.2.1 hfb.2.2 hcc.1.1 hcc.1.2 hcc.2.1 hcc.2.2)
  have HWF := Lib.hid (blk_wf hfb hcc)
  have hpl := pos_le (blocksL r u f) (blkC f x.c) (blocksL r u f).length
  have hft := fold_time ht (show (0 : Int) ≤ ((blocksL r u f).length : Int) ∧ ((blocksL r u f).length : Int) ≤ 1000 by omega) (show (0 : Int) ≤ (posTo (blocksL r u f) (blocksL r u f).length (blkC f x.c) : Int) ∧ (posTo (blocksL r u f) (blocksL r u f).length (blkC f x.c) : Int) ≤ 1000 by omega)
  have HEV := Lib.hid (show evD (foldEv (blocksL r u f) f x) = evD ⟨x.t * ((blocksL r u f).length : Int) + (posTo (blocksL r u f) (blocksL r u f).length (blkC f x.c) : Int), (x.c.1 % f.1, x.c.2 % f.2), x.e⟩ from rfl)
  obtain ⟨hlt, mb, n, vb, vh, s0, s1, s2, s3, s4, hm, hsb, hsg⟩ := hs
  obtain ⟨xa, xc, hxe, -⟩ := hsb.shape
  subst hxe
  have HM := Lib.hid (fun (V : World) (hV : Below w.heap.size w V) => RankM.look hm (blkC f x.c) HWF.out V hV)
  clear hm hsb hsg s4 hfb hcc hz
  generalize foldEv (blocksL r u f) f x = Y at *
  generalize hP : posTo (blocksL r u f) (blocksL r u f).length (blkC f x.c) = P at *
  generalize (blocksL r u f).length = N at *
  have hbe : blkC f x.c = (x.c.1 / f.1, x.c.2 / f.2) := rfl
  rw [hbe] at HM HWF
  clear hP hbe
  obtain ⟨xt, ⟨xa2, xb2⟩, ⟨xv, x0, x1, x2⟩⟩ := x
  simp only at HM HWF HSP ht hft HEV
  generalize hd0 : xa2 / f.1 = d0 at *
  generalize hd1 : xb2 / f.2 = d1 at *
  generalize hg0 : xa2 % f.1 = g0 at *
  generalize hg1 : xb2 % f.2 = g1 at *
  clear hd0 hd1 hg0 hg1
  obtain ⟨W0, hW0⟩ : ∃ W : World, w.alloc (Obj.cells #[.int .i64 xt, .int .i64 xa2, .int .i64 xb2, .int .i64 xv, .int .i64 x0, .int .i64 x1, .int .i64 x2] 54) = W := ⟨_, rfl⟩
  have kw0 : Below w.heap.size w W0 := by rw [← hW0]; exact (by repeat (first | exact Below.refl _ _ | assumption | (refine Below.drew ?_) | (refine below_drewN ?_ _) | (refine Below.alloc ?_ (by first | (simp; done) | (simp; omega) | omega) _) | (refine Below.setCell ?_ (by first | (simp; done) | (simp; omega) | omega) _) | (refine Below.trans ?_ (Below.mono (by assumption) (by first | (simp; done) | (simp; omega) | omega)))))
  have ks0 : W0.heap.size = w.heap.size + 1 := by rw [← hW0]; simp
  have RD0 := Lib.hid (show ∀ V, Below W0.heap.size W0 V → V.cell? ⟨w.heap.size, 0, none⟩ = some (.int .i64 xt) ∧ V.cell? ⟨w.heap.size, 1, none⟩ = some (.int .i64 xa2) ∧ V.cell? ⟨w.heap.size, 2, none⟩ = some (.int .i64 xb2) ∧ V.cell? ⟨w.heap.size, 3, none⟩ = some (.int .i64 xv) ∧ V.cell? ⟨w.heap.size, 4, none⟩ = some (.int .i64 x0) ∧ V.cell? ⟨w.heap.size, 5, none⟩ = some (.int .i64 x1) ∧ V.cell? ⟨w.heap.size, 6, none⟩ = some (.int .i64 x2) from fun V h => by
      refine ⟨(h.cell (p := ⟨w.heap.size, 0, none⟩) (by simp; omega)).trans ?_, (h.cell (p := ⟨w.heap.size, 1, none⟩) (by simp; omega)).trans ?_, (h.cell (p := ⟨w.heap.size, 2, none⟩) (by simp; omega)).trans ?_, (h.cell (p := ⟨w.heap.size, 3, none⟩) (by simp; omega)).trans ?_, (h.cell (p := ⟨w.heap.size, 4, none⟩) (by simp; omega)).trans ?_, (h.cell (p := ⟨w.heap.size, 5, none⟩) (by simp; omega)).trans ?_, (h.cell (p := ⟨w.heap.size, 6, none⟩) (by simp; omega)).trans ?_⟩ <;> (subst hW0; go_simp))
  have HW0 := Lib.hid hW0; have KW0 := Lib.hid kw0; clear hW0 kw0
  have hks : w.heap.size ≤ W0.heap.size := by omega
  unfold evD
  go_enter Tryz.func115, Tryz.ntmps115
  go_wp2_with fail
  rw [HW0.out]
  have hrd := RD0.out W0 (Below.refl _ _)
  refine forgetW (fun V => Below W0.heap.size W0 V ∧ V.heap[W0.heap.size]? = some (.cells #[.int .i64 0, .int .i64 0, .int .i64 0, .int .i64 0, .int .i64 0, .int .i64 0, .int .i64 0] 54 (0, 0))) ⟨by exact (by repeat (first | exact Below.refl _ _ | assumption | (refine Below.drew ?_) | (refine below_drewN ?_ _) | (refine Below.alloc ?_ (by first | (simp; done) | (simp; omega) | omega) _) | (refine Below.setCell ?_ (by first | (simp; done) | (simp; omega) | omega) _) | (refine Below.trans ?_ (Below.mono (by assumption) (by first | (simp; done) | (simp; omega) | omega))))), alloc_atF W0 _⟩ ?_
  rintro V ⟨hv, hb4⟩
  clear hrd
  have hsv := hv.size
  have h4 := lt_of_block hb4
  have hlv : sb < V.heap.size := by omega
  have HBV := Lib.hid (below_at KW0.out hks hv)
  have v0 := (HBV.out.cell (p := ⟨sb, 0, none⟩) hlt).trans s0
  have v1 := (HBV.out.cell (p := ⟨sb, 1, none⟩) hlt).trans s1
  have v2 := (HBV.out.cell (p := ⟨sb, 2, none⟩) hlt).trans s2
  have v3 := (HBV.out.cell (p := ⟨sb, 3, none⟩) hlt).trans s3
  obtain ⟨b0, b1, b2, b3, b4, b5, b6⟩ := RD0.out V hv
  have hwv : w.heap.size < V.heap.size := by omega
  have HSC := Lib.hid (fun (W : World) (kb : Below V.heap.size V W) => And.intro ((kb.cell (p := ⟨sb, 0, none⟩) hlv).trans v0) (And.intro ((kb.cell (p := ⟨sb, 1, none⟩) hlv).trans v1) (And.intro ((kb.cell (p := ⟨w.heap.size, 1, none⟩) hwv).trans b1) ((kb.cell (p := ⟨w.heap.size, 2, none⟩) hwv).trans b2))))
  go_cut [5, 6] from 7 to 16 (fun t5 t6 wx => ∃ g5 g6, t5 = .pointer (some ⟨g5, 0, none⟩) ∧ t6 = .pointer (some ⟨g6, 0, none⟩) ∧ V.heap.size ≤ g5 ∧ V.heap.size ≤ g6 ∧ g5 < wx.heap.size ∧ g6 < wx.heap.size ∧ wx.cell? ⟨g5, 0, none⟩ = some (.int .i64 d0) ∧ wx.cell? ⟨g5, 1, none⟩ = some (.int .i64 d1) ∧ wx.cell? ⟨g6, 0, none⟩ = some (.int .i64 g0) ∧ wx.cell? ⟨g6, 1, none⟩ = some (.int .i64 g1) ∧ Below V.heap.size V wx)
  case first =>
    go_region_held3 (fun w' => Below V.heap.size V w' ∧ w'.cell? ⟨sb, 0, none⟩ = some (.int .i64 f.1) ∧ w'.cell? ⟨sb, 1, none⟩ = some (.int .i64 f.2) ∧ w'.cell? ⟨w.heap.size, 1, none⟩ = some (.int .i64 xa2) ∧ w'.cell? ⟨w.heap.size, 2, none⟩ = some (.int .i64 xb2)) (((refine (fun kb => (⟨kb, HSC.out _ kb⟩)) (?_ : Below V.heap.size V _); exact (by repeat (first | exact Below.refl _ _ | assumption | (refine Below.drew ?_) | (refine below_drewN ?_ _) | (refine Below.alloc ?_ (by first | (simp; done) | (simp; omega) | omega) _) | (refine Below.setCell ?_ (by first | (simp; done) | (simp; omega) | omega) _) | (refine Below.trans ?_ (Below.mono (by assumption) (by first | (simp; done) | (simp; omega) | omega)))))))) (first | (go_at_call 51; refine (HSP.out _).mono ?_; go_must (rintro e w5 ⟨rfl, hb5⟩; have hs5 := hb5.size; (try simp at hs5); obtain ⟨hc5, hf5⟩ := bcell hb5; (first | have z := z10 hs5 | have z := z9 hs5 | have z := z8 hs5 | have z := z7 hs5 | have z := z6 hs5 | have z := z5 hs5 | have z := z4 hs5 | have z := z3 hs5 | have z := z2 hs5 | have z := z1 hs5 | skip))))
    all_goals (try go_wp2_with fail)
    all_goals go_meet
    all_goals first
      | (have q0 : w5.cell? ⟨V.heap.size, 0, none⟩ = some (.int .i64 0) := (hc5 _ _ (by first | (simp; done) | (simp; omega))).trans (by first | (go_simp; done)); have q1 : w5.cell? ⟨V.heap.size, 1, none⟩ = some (.int .i64 0) := (hc5 _ _ (by first | (simp; done) | (simp; omega))).trans (by first | (go_simp; done)); have q2 : w5.cell? ⟨V.heap.size + 1, 0, none⟩ = some (.int .i64 0) := (hc5 _ _ (by first | (simp; done) | (simp; omega))).trans (by first | (go_simp; done)); have q3 : w5.cell? ⟨V.heap.size + 1, 1, none⟩ = some (.int .i64 0) := (hc5 _ _ (by first | (simp; done) | (simp; omega))).trans (by first | (go_simp; done)); refine ⟨_, _, rfl, rfl, by first | omega | (simp; done) | (simp; omega), by first | omega | (simp; done) | (simp; omega), by first | omega | (simp; done) | (simp; omega), by first | omega | (simp; done) | (simp; omega), by (go_simp; done), by (go_simp; done), by (go_simp; done), by (go_simp; done), by repeat (first | exact Below.refl _ _ | assumption | (refine Below.drew ?_) | (refine below_drewN ?_ _) | (refine Below.alloc ?_ (by first | (simp; done) | (simp; omega) | omega) _) | (refine Below.setCell ?_ (by first | (simp; done) | (simp; omega) | omega) _) | (refine Below.trans ?_ (Below.mono (by assumption) (by first | (simp; done) | (simp; omega) | omega))))⟩)
      | (have q0 : w5.cell? ⟨V.heap.size, 0, none⟩ = some (.int .i64 0) := (hc5 _ _ (by first | (simp; done) | (simp; omega))).trans (by first | (go_simp; done)); have q1 : w5.cell? ⟨V.heap.size, 1, none⟩ = some (.int .i64 0) := (hc5 _ _ (by first | (simp; done) | (simp; omega))).trans (by first | (go_simp; done)); refine ⟨_, _, rfl, rfl, by first | omega | (simp; done) | (simp; omega), by first | omega | (simp; done) | (simp; omega), by first | omega | (simp; done) | (simp; omega), by first | omega | (simp; done) | (simp; omega), by (go_simp; done), by (go_simp; done), by (go_simp; done), by (go_simp; done), by repeat (first | exact Below.refl _ _ | assumption | (refine Below.drew ?_) | (refine below_drewN ?_ _) | (refine Below.alloc ?_ (by first | (simp; done) | (simp; omega) | omega) _) | (refine Below.setCell ?_ (by first | (simp; done) | (simp; omega) | omega) _) | (refine Below.trans ?_ (Below.mono (by assumption) (by first | (simp; done) | (simp; omega) | omega))))⟩)
      | (refine ⟨_, _, rfl, rfl, by first | omega | (simp; done) | (simp; omega), by first | omega | (simp; done) | (simp; omega), by first | omega | (simp; done) | (simp; omega), by first | omega | (simp; done) | (simp; omega), by (go_simp; done), by (go_simp; done), by (go_simp; done), by (go_simp; done), by repeat (first | exact Below.refl _ _ | assumption | (refine Below.drew ?_) | (refine below_drewN ?_ _) | (refine Below.alloc ?_ (by first | (simp; done) | (simp; omega) | omega) _) | (refine Below.setCell ?_ (by first | (simp; done) | (simp; omega) | omega) _) | (refine Below.trans ?_ (Below.mono (by assumption) (by first | (simp; done) | (simp; omega) | omega))))⟩)
  case rest =>
    obtain ⟨g5, g6, rfl, rfl, h5, h6, h5', h6', y0, y1, y2, y3, hbx⟩ := hcut
    have hb4x := (hbx.block W0.heap.size h4).trans hb4
    have v0x := (hbx.cell (p := ⟨sb, 2, none⟩) hlv).trans v2
    have v1x := (hbx.cell (p := ⟨sb, 3, none⟩) hlv).trans v3
    have b0x := (hbx.cell (p := ⟨w.heap.size, 0, none⟩) hwv).trans b0
    have b3x := (hbx.cell (p := ⟨w.heap.size, 3, none⟩) hwv).trans b3
    have b4x := (hbx.cell (p := ⟨w.heap.size, 4, none⟩) hwv).trans b4
    have b5x := (hbx.cell (p := ⟨w.heap.size, 5, none⟩) hwv).trans b5
    have b6x := (hbx.cell (p := ⟨w.heap.size, 6, none⟩) hwv).trans b6
    have hlk := HM.out wc.drew (HBV.out.trans (hbx.drew.mono (by have := HBV.out.size; omega)))
    simp only [ceV] at hlk
    rw [ks0] at hb4x
    have r0 := cell_of_row wc (w.heap.size + 1) 0 _ _ _ hb4x
    have r1 := cell_of_row wc (w.heap.size + 1) 1 _ _ _ hb4x
    have r2 := cell_of_row wc (w.heap.size + 1) 2 _ _ _ hb4x
    have r3 := cell_of_row wc (w.heap.size + 1) 3 _ _ _ hb4x
    have r4 := cell_of_row wc (w.heap.size + 1) 4 _ _ _ hb4x
    have r5 := cell_of_row wc (w.heap.size + 1) 5 _ _ _ hb4x
    have r6 := cell_of_row wc (w.heap.size + 1) 6 _ _ _ hb4x
    have fr := fun o => frozen_of_row wc (w.heap.size + 1) o _ _ hb4x
    have e1 : IntKind.i64.wrap (xt * (N : Int)) = xt * (N : Int) := IntWalk.i64_in _ (by omega)
    have e2 : IntKind.i64.wrap (xt * (N : Int) + (P : Int)) = xt * (N : Int) + (P : Int) := IntWalk.i64_in _ (by omega)
    clear v0 v1 v2 v3 b0 b1 b2 b3 b4 b5 b6 s0 s1 s2 s3 hft ht
    go_wp2_with fail
    go_region
    go_wp2_with fail
    have hk : Below w.heap.size w wc := HBV.out.trans (hbx.mono (by have := HBV.out.size; omega))
    have HK := Lib.hid hk
    clear hbx hv hb4 hb4x fr hlk y0 y1 y2 y3 v0x v1x b0x b3x b4x b5x b6x hk
    refine bodyPost_ret (v := .agg #[.int .i64 (xt * (N : Int) + (P : Int)), .int .i64 g0, .int .i64 g1, .int .i64 xv, .int .i64 x0, .int .i64 x1, .int .i64 x2]) (by simp only [results, Tryz.results115]; first | (go_simp; done) | (go_simp; rfl)) rfl ⟨congrArg Ending.returned HEV.out.symm, ?_⟩
    have hk := HK.out
    exact (by repeat (first | (with_reducible exact Below.refl _ _) | (with_reducible assumption) | (with_reducible refine Below.drew ?_) | (with_reducible refine Below.setCell ?_ (by first | (simp; done) | (simp; omega) | omega) _) | (with_reducible refine Below.alloc ?_ (by first | (simp; done) | (simp; omega) | omega) _) | (with_reducible refine below_drewN ?_ _) | (refine Below.trans ?_ (Below.mono (by with_reducible assumption) (by first | (simp; done) | (simp; omega) | omega)))))
end Go.Proofs.YtnejicklenhpeaaGreat
