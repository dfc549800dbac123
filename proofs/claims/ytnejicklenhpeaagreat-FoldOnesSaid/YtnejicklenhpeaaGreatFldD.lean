/- The reference's each, asked, Blocks and Homes; fold.Blocks, fold.Homes: their walks. Conditions: none. -/
import Derived.Test.YtnejicklenhpeaaGreatFldC
namespace Go.Proofs.YtnejicklenhpeaaGreat
open Go.RowKit Go.Lib
set_option linter.unusedVariables false
def eachF (f : Int × Int) (bl : Bool) (c : Int × Int) : Int × Int := if bl = true then blkC f c else homC f c
def EachR (r : RecD) (u : P3) (f : Int × Int) (bl : Bool) (e : Ending) (w' : World) : Prop := ∃ v, e = .returned v ∧ SlOf w' w'.heap.size 2 encC v (sortC ((cellsL r u).map (eachF f bl)))
set_option maxHeartbeats 8000000 in
set_option maxRecDepth 100000 in
theorem each_l (r : RecD) (u : P3) (f : Int × Int) (bl : Bool) (ha : askE r u = 0) (hz : eachB f.1 f.2 1 8 = true) (w : World) (hr : RecRd w r) :
    Calls Tryz.prog 48 #[.agg #[.int .i64 r.n, r.lv, r.vv], .agg #[.int .i64 u.1, .int .i64 u.2.1, .int .i64 u.2.2], .agg #[.int .i64 f.1, .int .i64 f.2], .bool bl] w fun e w' => EachR r u f bl e w' ∧ Below w.heap.size w w' := by
  have HR := Lib.hid hr
  clear hr
  have HC := Lib.hid (fun (W : World) (h : RecRd W r) => rCells_l r u W h)
  obtain ⟨W0, hW0⟩ : ∃ W : World, ((w.alloc (Obj.cells #[.int .i64 r.n, r.lv, r.vv] 27)).alloc (Obj.cells #[.int .i64 u.1, .int .i64 u.2.1, .int .i64 u.2.2] 29)).alloc (Obj.cells #[.int .i64 f.1, .int .i64 f.2] 31) = W := ⟨_, rfl⟩
  have kw0 : Below w.heap.size w W0 := by rw [← hW0]; exact (by repeat (first | exact Below.refl _ _ | assumption | (refine Below.drew ?_) | (refine below_drewN ?_ _) | (refine Below.alloc ?_ (by first | (simp; done) | (simp; omega) | omega) _) | (refine Below.setCell ?_ (by first | (simp; done) | (simp; omega) | omega) _) | (refine Below.trans ?_ (Below.mono (by assumption) (by first | (simp; done) | (simp; omega) | omega)))))
  have ks0 : W0.heap.size = w.heap.size + 3 := by rw [← hW0]; simp
  have RD0 := Lib.hid (show ∀ V, Below W0.heap.size W0 V → V.cell? ⟨w.heap.size, 0, none⟩ = some (.int .i64 r.n) ∧ V.cell? ⟨w.heap.size, 1, none⟩ = some (r.lv) ∧ V.cell? ⟨w.heap.size, 2, none⟩ = some (r.vv) ∧ V.cell? ⟨w.heap.size + 1, 0, none⟩ = some (.int .i64 u.1) ∧ V.cell? ⟨w.heap.size + 1, 1, none⟩ = some (.int .i64 u.2.1) ∧ V.cell? ⟨w.heap.size + 1, 2, none⟩ = some (.int .i64 u.2.2) ∧ V.cell? ⟨w.heap.size + 1 + 1, 0, none⟩ = some (.int .i64 f.1) ∧ V.cell? ⟨w.heap.size + 1 + 1, 1, none⟩ = some (.int .i64 f.2) from fun V h => by
      refine ⟨(h.cell (p := ⟨w.heap.size, 0, none⟩) (by simp; omega)).trans ?_, (h.cell (p := ⟨w.heap.size, 1, none⟩) (by simp; omega)).trans ?_, (h.cell (p := ⟨w.heap.size, 2, none⟩) (by simp; omega)).trans ?_, (h.cell (p := ⟨w.heap.size + 1, 0, none⟩) (by simp; omega)).trans ?_, (h.cell (p := ⟨w.heap.size + 1, 1, none⟩) (by simp; omega)).trans ?_, (h.cell (p := ⟨w.heap.size + 1, 2, none⟩) (by simp; omega)).trans ?_, (h.cell (p := ⟨w.heap.size + 1 + 1, 0, none⟩) (by simp; omega)).trans ?_, (h.cell (p := ⟨w.heap.size + 1 + 1, 1, none⟩) (by simp; omega)).trans ?_⟩ <;> (subst hW0; go_simp))
  have HW0 := Lib.hid hW0; have KW0 := Lib.hid kw0; clear hW0 kw0
  have hks : w.heap.size ≤ W0.heap.size := by omega
  have hfb : (1 ≤ f.1 ∧ f.1 ≤ 8) ∧ (1 ≤ f.2 ∧ f.2 ≤ 8) := by simp only [eachB, decide_eq_true_eq] at hz; omega
  have HFB := Lib.hid hfb
  have HCS := Lib.hid (cellsL_small ha)
  have hcl := cellsL_len ha
  clear hfb hz
  have HEX := Lib.hid (fun (w' : World) (v : Value) (hs : SlOf w' w'.heap.size 2 encC v (sortC ((cellsL r u).map (eachF f bl)))) => (show EachR r u f bl (.returned v) w' from ⟨v, rfl, hs⟩))
  have hmm := @run_makeMap Tryz.prog
  cases bl
  · go_enter Tryz.func48, Tryz.ntmps48
    go_wp2_with (go_at_call 101; rw [HW0.out]; refine (HC.out _ (HR.out.below KW0.out)).mono ?_; go_must (rintro e w1 ⟨⟨v, rfl, hs⟩, hb1⟩; rw [ha]; rw [ha, if_pos rfl] at hs; have hsh : ∃ a c, v = .slice a (cellsL r u).length c := (by obtain ⟨a, c, e, -⟩ := hs.shape; exact ⟨a, c, e⟩); obtain ⟨va, vc, rfl⟩ := hsh; have HS1 := Lib.hid hs; have HB1 := Lib.hid hb1; clear hs hb1))
    clear hmm
    have hs1 := HB1.out.size
    generalize cellsL r u = C at *
    obtain ⟨ca, cc, g, off, he, hlc, hcm, hx⟩ := SlOf.at (enc := encC) (fun _ => rfl) un_ce sz_ce HS1.out
    cases he
    have HX := Lib.hid hx
    clear hx HS1
    refine forgetW (fun V => SeenC V w1.heap.size 0 [] ∧ Below w1.heap.size w1 V ∧ w1.heap.size < V.heap.size) ⟨SeenC.made w1, by exact (by repeat (first | exact Below.refl _ _ | assumption | (refine Below.drew ?_) | (refine below_drewN ?_ _) | (refine Below.alloc ?_ (by first | (simp; done) | (simp; omega) | omega) _) | (refine Below.setCell ?_ (by first | (simp; done) | (simp; omega) | omega) _) | (refine Below.trans ?_ (Below.mono (by assumption) (by first | (simp; done) | (simp; omega) | omega))))), by simp⟩ ?_
    rintro V0 ⟨hv1, hv2, hv3⟩
    go_loopw [11, 13, 14] (fun t11 t13 t14 wr => ∃ k n2 : Nat, k ≤ C.length ∧ t13 = .int .i64 (k : Int) ∧ Hid (SeenC wr w1.heap.size n2 ((C.take k).map (eachF f false))) ∧ n2 ≤ k ∧ Hid (∃ D : List (Int × Int), OwnOf wr (w1.heap.size + 1) 31 2 encC t11 D ∧ D.length ≤ k ∧ ∀ a, a ∈ D ↔ a ∈ (C.take k).map (eachF f false)) ∧ Hid (Below w1.heap.size w1 wr) ∧ w1.heap.size < wr.heap.size) (fun _ t13 _ _ => C.length - (intOf t13).toNat)
    case atStart => exact ⟨0, 0, Nat.zero_le _, rfl, Lib.hid hv1, Nat.le_refl _, Lib.hid ⟨[], OwnOf.nil _ _ _ _ _, Nat.le_refl _, fun a => by simp⟩, Lib.hid hv2, hv3⟩
    case round =>
      clear hv1 hv2 hv3
      obtain ⟨k, n2, hk, rfl, HM, hn2, HD, HB, hwl⟩ := hrel
      have hs3 := HB.out.size
      obtain ⟨D, hD, hDl, hDm⟩ := HD.out
      have HO := Lib.hid hD
      have HDM := Lib.hid hDm
      clear HD hD hDm
      by_cases hlt : k < C.length
      rotate_left
      · have hke : k = C.length := by omega
        subst hke
        rw [List.take_length] at HDM
        have HE := Lib.hid (show sortC (C.map (eachF f false)) = sortC D from (sortC_eq (fun a => (HDM.out a))).symm)
        have HSO := Lib.hid (fun (W : World) (v : Value) (h : SlOf W W.heap.size 2 encC v D) => Sorted_l D (by omega) W v h)
        go_wp2_with (go_at_call 103; refine (HSO.out _ _ HO.out.sl).mono ?_; go_must (rintro e w2 ⟨⟨v2, rfl, hsl2⟩, hb2⟩))
        refine bodyPost_ret (v := v2) (by simp only [results, Tryz.results48]; first | (go_simp; done) | (go_simp; rfl)) rfl ⟨HEX.out _ v2 (by rw [HE.out]; exact hsl2), below_at KW0.out hks ((HB1.out.trans (HB.out.mono hs1)).trans (hb2.mono (by omega)))⟩
      have hkl : (k : Int) < (C.length : Int) := by omega
      have hk0 : (0 : Int) ≤ (k : Int) := by omega
      obtain ⟨-, hi, hgw, hc⟩ := HX.out k hlt
      have r0 : wr.cell? ⟨g, off + 2 * k, none⟩ = some (.int .i64 C[k].1) := (HB.out.cell (p := ⟨g, off + 2 * k + 0, none⟩) hgw).trans (hc 0 (by omega))
      have r1 : wr.cell? ⟨g, off + 2 * k + 1, none⟩ = some (.int .i64 C[k].2) := (HB.out.cell (p := ⟨g, off + 2 * k + 1, none⟩) hgw).trans (hc 1 (by omega))
      obtain ⟨b0, b1, b2, b3, b4, b5, b6, b7⟩ := RD0.out wr (HB1.out.trans (HB.out.mono hs1))
      have hcs := HCS.out C[k] (List.getElem_mem hlt)
      have HT := Lib.hid (show (C.take (k + 1)).map (eachF f false) = (C.take k).map (eachF f false) ++ [eachF f false C[k]] by rw [List.take_succ_eq_append_getElem hlt, List.map_append]; rfl)
      have HLT := Lib.hid hlt
      generalize (C.take k).map (eachF f false) = M at *
      generalize C[k] = c at *
      obtain ⟨x0, x1⟩ := c
      simp only at r0 r1 hcs
      have HSH := Lib.hid (fun (W : World) => rhome_any x0 x1 f.1 f.2 W HFB.out.1.1 HFB.out.1.2 HFB.out.2.1 HFB.out.2.2 (by omega) (by omega) (by omega) (by omega))
      have HSB := Lib.hid (fun (W : World) => rblock_any x0 x1 f.1 f.2 W HFB.out.1.1 HFB.out.1.2 HFB.out.2.1 HFB.out.2.2 (by omega) (by omega) (by omega) (by omega))
      have hd1 := div_bd x0 f.1 HFB.out.1.1 HFB.out.1.2 (by omega) (by omega)
      have hd2 := div_bd x1 f.2 HFB.out.2.1 HFB.out.2.2 (by omega) (by omega)
      have hd3 := Int.emod_nonneg x0 (show f.1 ≠ 0 by have := HFB.out.1.1; omega)
      have hd4 := Int.emod_nonneg x1 (show f.2 ≠ 0 by have := HFB.out.2.1; omega)
      have hd5 := Int.emod_lt_of_pos x0 (show 0 < f.1 by have := HFB.out.1.1; omega)
      have hd6 := Int.emod_lt_of_pos x1 (show 0 < f.2 by have := HFB.out.2.1; omega)
      have HWF := Lib.hid (show wf2 (eachF f false (x0, x1)) from by
        have := HFB.out
        first
          | exact ⟨wf_sm (show _ ≤ x0 % f.1 ∧ x0 % f.1 ≤ _ by omega), wf_sm (show _ ≤ x1 % f.2 ∧ x1 % f.2 ≤ _ by omega)⟩
          | exact ⟨wf_sm (show _ ≤ x0 / f.1 ∧ x0 / f.1 ≤ _ by omega), wf_sm (show _ ≤ x1 / f.2 ∧ x1 / f.2 ≤ _ by omega)⟩)
      clear hd1 hd2 hd3 hd4 hd5 hd6 hcs hc
      have hgr : g < wr.heap.size := by omega
      have h2r : w.heap.size + 1 + 1 < wr.heap.size := by omega
      obtain ⟨da, dc, hde⟩ := HO.out.shape
      subst hde
      have HCX := Lib.hid (fun (W : World) (kb : Below wr.heap.size wr W) => And.intro ((kb.cell (p := ⟨w.heap.size + 1 + 1, 0, none⟩) h2r).trans b6) (And.intro ((kb.cell (p := ⟨w.heap.size + 1 + 1, 1, none⟩) h2r).trans b7) (And.intro ((kb.cell (p := ⟨g, off + 2 * k, none⟩) hgr).trans r0) ((kb.cell (p := ⟨g, off + 2 * k + 1, none⟩) hgr).trans r1))))
      clear b0 b1 b2 b3 b4 b5
      go_wp2_with fail
      go_cut [11, 13, 14] from 22 to 50 (fun t11 t13 t14 wx => ∃ g8, t14 = .pointer (some ⟨g8, 0, none⟩) ∧ t13 = .int .i64 (k : Nat) ∧ t11 = .slice da D.length dc ∧ wr.heap.size ≤ g8 ∧ g8 < wx.heap.size ∧ wx.cell? ⟨g8, 0, none⟩ = some (.int .i64 (x0 % f.1)) ∧ wx.cell? ⟨g8, 1, none⟩ = some (.int .i64 (x1 % f.2)) ∧ wx.frozen? ⟨g8, 0, none⟩ = false ∧ wx.frozen? ⟨g8, 1, none⟩ = false ∧ Below wr.heap.size wr wx)
      case first =>
        go_region_held3 (fun w' => Below wr.heap.size wr w' ∧ w'.cell? ⟨w.heap.size + 1 + 1, 0, none⟩ = some (.int .i64 f.1) ∧ w'.cell? ⟨w.heap.size + 1 + 1, 1, none⟩ = some (.int .i64 f.2) ∧ w'.cell? ⟨g, off + 2 * k, none⟩ = some (.int .i64 x0) ∧ w'.cell? ⟨g, off + 2 * k + 1, none⟩ = some (.int .i64 x1)) (((refine (fun kb => (⟨kb, HCX.out _ kb⟩)) (?_ : Below wr.heap.size wr _); exact (by repeat (first | exact Below.refl _ _ | assumption | (refine Below.drew ?_) | (refine below_drewN ?_ _) | (refine Below.alloc ?_ (by first | (simp; done) | (simp; omega) | omega) _) | (refine Below.setCell ?_ (by first | (simp; done) | (simp; omega) | omega) _) | (refine Below.trans ?_ (Below.mono (by assumption) (by first | (simp; done) | (simp; omega) | omega)))))))) (first | (go_at_call 54; refine (HSH.out _).mono ?_; go_must (rintro e w5 ⟨rfl, hb5⟩; have hs5 := hb5.size; (try simp at hs5); obtain ⟨hc5, hf5⟩ := bcell hb5; (first | have z := z10 hs5 | have z := z9 hs5 | have z := z8 hs5 | have z := z7 hs5 | have z := z6 hs5 | have z := z5 hs5 | have z := z4 hs5 | have z := z3 hs5 | have z := z2 hs5 | have z := z1 hs5 | skip))))
        all_goals (try go_wp2_with fail)
        all_goals go_meet
        all_goals (refine ⟨_, rfl, rfl, rfl, by omega, by first | (simp; done) | (simp; omega), by go_simp, by go_simp, by go_simp, by go_simp, by repeat (first | exact Below.refl _ _ | assumption | (refine Below.drew ?_) | (refine below_drewN ?_ _) | (refine Below.alloc ?_ (by first | (simp; done) | (simp; omega) | omega) _) | (refine Below.setCell ?_ (by first | (simp; done) | (simp; omega) | omega) _) | (refine Below.trans ?_ (Below.mono (by assumption) (by first | (simp; done) | (simp; omega) | omega))))⟩)
      case rest =>
        clear r0 r1 b6 b7
        obtain ⟨g8, rfl, rfl, rfl, hg8, hg8', y0, y1, yf0, yf1, hbx⟩ := hcut
        go_upto_region 10 with fail
        refine forgetW (fun V => g8 < V.heap.size ∧ V.cell? ⟨g8, 0, none⟩ = some (.int .i64 (x0 % f.1)) ∧ V.cell? ⟨g8, 1, none⟩ = some (.int .i64 (x1 % f.2)) ∧ Below wr.heap.size wr V) ⟨hg8', y0, y1, hbx⟩ ?_
        clear hg8' y0 y1 yf0 yf1 hbx
        rintro V5 ⟨hg8', y0, y1, hbx⟩
        have HT2 := Lib.hid (show List.map (eachF f false) (C.take (k + 1)) = M ++ [(x0 % f.1, x1 % f.2)] from HT.out)
        have HWK := Lib.hid (show wf2 (x0 % f.1, x1 % f.2) from HWF.out)
        clear HT HWF HSH HSB HCX
        generalize x0 % f.1 = p0 at *
        generalize x1 % f.2 = p1 at *
        have hsx := hbx.size
        have hlk := SeenC.look HM.out (p0, p1) HWK.out V5 hbx
        simp only [ceV] at hlk
        have HDW := Lib.hid hbx
        cases hsb : seenB M (p0, p1)
        · obtain ⟨w3, hr3, hm3, hg3⟩ := SeenC.step (MapV.kept HM.out hbx) (by omega) (p0, p1) HWK.out
          simp only [ceV] at hr3
          have hs5 := hg3.size
          have hg8e : w3.heap[g8]? = V5.heap[g8]? := hg3.block g8 (by omega) (by intro e; simp only [Option.some.injEq] at e; omega)
          have q0 := (World.cell?_of_block (a := ⟨g8, 0, none⟩) hg8e).trans y0
          have q1 := (World.cell?_of_block (a := ⟨g8, 1, none⟩) hg8e).trans y1
          have HO3 := Lib.hid (OwnOf.grown (HO.out.kept hbx) hg3 (.inl (fun e => by have := (HO.out.lt _ e).1; omega)))
          have HB3 := Lib.hid ((HB.out.trans (hbx.mono hs3)).grown hg3 (by omega) (fun r e => by cases e; exact Nat.le_refl _))
          clear hg8e
          rw [hsb] at hlk
          clear hsb hbx
          go_wp2_with (at_builtin; refine wpList_push rfl _ _ _ rfl slCe2 HO3.out rfl rfl (by first | rfl | simp) rfl rfl (by omega) (by omega) (by omega) ?_; intro g5 c5 w6 hown6 hg6 hat6)
          go_roundw
          case rel =>
            refine ⟨k + 1, n2 + 1, HLT.out, by simp, Lib.hid ?_, by omega, Lib.hid ⟨D ++ [(p0, p1)], OwnOf.snoc (l := D) (x := (p0, p1)) (enc := encC) (by simpa [encC] using hown6) rfl, by simp; omega, fun a => by rw [HT2.out, List.mem_append, List.mem_append, HDM.out]⟩, Lib.hid (HB3.out.grown hg6 (by omega) (fun r e => by have := (HO3.out.lt r e).1; omega)), by have := hg6.size; omega⟩
            rw [HT2.out]
            exact MapV.grown hm3 hg6 (fun e => by have := (HO3.out.lt _ e.symm).1; omega)
          case measure => simp only [intOf]; have := HLT.out; omega
        · rw [hsb] at hlk
          have HMA := Lib.hid (show (p0, p1) ∈ M by simpa [seenB] using hsb)
          clear hsb
          go_wp2
          go_roundw
          case rel =>
            refine ⟨k + 1, n2, HLT.out, by simp, Lib.hid ?_, by omega, Lib.hid ⟨D, HO.out.kept HDW.out, by omega, fun a => ?_⟩, Lib.hid (HB.out.trans (HDW.out.mono hs3)), by omega⟩
            · rw [HT2.out]
              have e : seenF (M ++ [(p0, p1)]) = seenF M := by
                rw [seenF_snoc]; funext x
                by_cases h : x = (p0, p1)
                · subst h; simp [seenF, HMA.out]
                · simp [h]
              show MapV _ _ _ _ _ _ _
              rw [e]
              exact MapV.kept HM.out HDW.out
            · rw [HT2.out, HDM.out, List.mem_append, List.mem_singleton]
              constructor
              · exact .inl
              · rintro (h | rfl)
                · exact h
                · exact HMA.out
          case measure => simp only [intOf]; have := HLT.out; omega
  · go_enter Tryz.func48, Tryz.ntmps48
    go_wp2_with (go_at_call 101; rw [HW0.out]; refine (HC.out _ (HR.out.below KW0.out)).mono ?_; go_must (rintro e w1 ⟨⟨v, rfl, hs⟩, hb1⟩; rw [ha]; rw [ha, if_pos rfl] at hs; have hsh : ∃ a c, v = .slice a (cellsL r u).length c := (by obtain ⟨a, c, e, -⟩ := hs.shape; exact ⟨a, c, e⟩); obtain ⟨va, vc, rfl⟩ := hsh; have HS1 := Lib.hid hs; have HB1 := Lib.hid hb1; clear hs hb1))
    clear hmm
    have hs1 := HB1.out.size
    generalize cellsL r u = C at *
    obtain ⟨ca, cc, g, off, he, hlc, hcm, hx⟩ := SlOf.at (enc := encC) (fun _ => rfl) un_ce sz_ce HS1.out
    cases he
    have HX := Lib.hid hx
    clear hx HS1
    refine forgetW (fun V => SeenC V w1.heap.size 0 [] ∧ Below w1.heap.size w1 V ∧ w1.heap.size < V.heap.size) ⟨SeenC.made w1, by exact (by repeat (first | exact Below.refl _ _ | assumption | (refine Below.drew ?_) | (refine below_drewN ?_ _) | (refine Below.alloc ?_ (by first | (simp; done) | (simp; omega) | omega) _) | (refine Below.setCell ?_ (by first | (simp; done) | (simp; omega) | omega) _) | (refine Below.trans ?_ (Below.mono (by assumption) (by first | (simp; done) | (simp; omega) | omega))))), by simp⟩ ?_
    rintro V0 ⟨hv1, hv2, hv3⟩
    go_loopw [11, 13, 14] (fun t11 t13 t14 wr => ∃ k n2 : Nat, k ≤ C.length ∧ t13 = .int .i64 (k : Int) ∧ Hid (SeenC wr w1.heap.size n2 ((C.take k).map (eachF f true))) ∧ n2 ≤ k ∧ Hid (∃ D : List (Int × Int), OwnOf wr (w1.heap.size + 1) 31 2 encC t11 D ∧ D.length ≤ k ∧ ∀ a, a ∈ D ↔ a ∈ (C.take k).map (eachF f true)) ∧ Hid (Below w1.heap.size w1 wr) ∧ w1.heap.size < wr.heap.size) (fun _ t13 _ _ => C.length - (intOf t13).toNat)
    case atStart => exact ⟨0, 0, Nat.zero_le _, rfl, Lib.hid hv1, Nat.le_refl _, Lib.hid ⟨[], OwnOf.nil _ _ _ _ _, Nat.le_refl _, fun a => by simp⟩, Lib.hid hv2, hv3⟩
    case round =>
      clear hv1 hv2 hv3
      obtain ⟨k, n2, hk, rfl, HM, hn2, HD, HB, hwl⟩ := hrel
      have hs3 := HB.out.size
      obtain ⟨D, hD, hDl, hDm⟩ := HD.out
      have HO := Lib.hid hD
      have HDM := Lib.hid hDm
      clear HD hD hDm
      by_cases hlt : k < C.length
      rotate_left
      · have hke : k = C.length := by omega
        subst hke
        rw [List.take_length] at HDM
        have HE := Lib.hid (show sortC (C.map (eachF f true)) = sortC D from (sortC_eq (fun a => (HDM.out a))).symm)
        have HSO := Lib.hid (fun (W : World) (v : Value) (h : SlOf W W.heap.size 2 encC v D) => Sorted_l D (by omega) W v h)
        go_wp2_with (go_at_call 103; refine (HSO.out _ _ HO.out.sl).mono ?_; go_must (rintro e w2 ⟨⟨v2, rfl, hsl2⟩, hb2⟩))
        refine bodyPost_ret (v := v2) (by simp only [results, Tryz.results48]; first | (go_simp; done) | (go_simp; rfl)) rfl ⟨HEX.out _ v2 (by rw [HE.out]; exact hsl2), below_at KW0.out hks ((HB1.out.trans (HB.out.mono hs1)).trans (hb2.mono (by omega)))⟩
      have hkl : (k : Int) < (C.length : Int) := by omega
      have hk0 : (0 : Int) ≤ (k : Int) := by omega
      obtain ⟨-, hi, hgw, hc⟩ := HX.out k hlt
      have r0 : wr.cell? ⟨g, off + 2 * k, none⟩ = some (.int .i64 C[k].1) := (HB.out.cell (p := ⟨g, off + 2 * k + 0, none⟩) hgw).trans (hc 0 (by omega))
      have r1 : wr.cell? ⟨g, off + 2 * k + 1, none⟩ = some (.int .i64 C[k].2) := (HB.out.cell (p := ⟨g, off + 2 * k + 1, none⟩) hgw).trans (hc 1 (by omega))
      obtain ⟨b0, b1, b2, b3, b4, b5, b6, b7⟩ := RD0.out wr (HB1.out.trans (HB.out.mono hs1))
      have hcs := HCS.out C[k] (List.getElem_mem hlt)
      have HT := Lib.hid (show (C.take (k + 1)).map (eachF f true) = (C.take k).map (eachF f true) ++ [eachF f true C[k]] by rw [List.take_succ_eq_append_getElem hlt, List.map_append]; rfl)
      have HLT := Lib.hid hlt
      generalize (C.take k).map (eachF f true) = M at *
      generalize C[k] = c at *
      obtain ⟨x0, x1⟩ := c
      simp only at r0 r1 hcs
      have HSH := Lib.hid (fun (W : World) => rhome_any x0 x1 f.1 f.2 W HFB.out.1.1 HFB.out.1.2 HFB.out.2.1 HFB.out.2.2 (by omega) (by omega) (by omega) (by omega))
      have HSB := Lib.hid (fun (W : World) => rblock_any x0 x1 f.1 f.2 W HFB.out.1.1 HFB.out.1.2 HFB.out.2.1 HFB.out.2.2 (by omega) (by omega) (by omega) (by omega))
      have hd1 := div_bd x0 f.1 HFB.out.1.1 HFB.out.1.2 (by omega) (by omega)
      have hd2 := div_bd x1 f.2 HFB.out.2.1 HFB.out.2.2 (by omega) (by omega)
      have hd3 := Int.emod_nonneg x0 (show f.1 ≠ 0 by have := HFB.out.1.1; omega)
      have hd4 := Int.emod_nonneg x1 (show f.2 ≠ 0 by have := HFB.out.2.1; omega)
      have hd5 := Int.emod_lt_of_pos x0 (show 0 < f.1 by have := HFB.out.1.1; omega)
      have hd6 := Int.emod_lt_of_pos x1 (show 0 < f.2 by have := HFB.out.2.1; omega)
      have HWF := Lib.hid (show wf2 (eachF f true (x0, x1)) from by
        have := HFB.out
        first
          | exact ⟨wf_sm (show _ ≤ x0 % f.1 ∧ x0 % f.1 ≤ _ by omega), wf_sm (show _ ≤ x1 % f.2 ∧ x1 % f.2 ≤ _ by omega)⟩
          | exact ⟨wf_sm (show _ ≤ x0 / f.1 ∧ x0 / f.1 ≤ _ by omega), wf_sm (show _ ≤ x1 / f.2 ∧ x1 / f.2 ≤ _ by omega)⟩)
      clear hd1 hd2 hd3 hd4 hd5 hd6 hcs hc
      have hgr : g < wr.heap.size := by omega
      have h2r : w.heap.size + 1 + 1 < wr.heap.size := by omega
      obtain ⟨da, dc, hde⟩ := HO.out.shape
      subst hde
      have HCX := Lib.hid (fun (W : World) (kb : Below wr.heap.size wr W) => And.intro ((kb.cell (p := ⟨w.heap.size + 1 + 1, 0, none⟩) h2r).trans b6) (And.intro ((kb.cell (p := ⟨w.heap.size + 1 + 1, 1, none⟩) h2r).trans b7) (And.intro ((kb.cell (p := ⟨g, off + 2 * k, none⟩) hgr).trans r0) ((kb.cell (p := ⟨g, off + 2 * k + 1, none⟩) hgr).trans r1))))
      clear b0 b1 b2 b3 b4 b5
      go_wp2_with fail
      go_cut [11, 13, 14] from 22 to 50 (fun t11 t13 t14 wx => ∃ g8, t14 = .pointer (some ⟨g8, 0, none⟩) ∧ t13 = .int .i64 (k : Nat) ∧ t11 = .slice da D.length dc ∧ wr.heap.size ≤ g8 ∧ g8 < wx.heap.size ∧ wx.cell? ⟨g8, 0, none⟩ = some (.int .i64 (x0 % f.1)) ∧ wx.cell? ⟨g8, 1, none⟩ = some (.int .i64 (x1 % f.2)) ∧ wx.frozen? ⟨g8, 0, none⟩ = false ∧ wx.frozen? ⟨g8, 1, none⟩ = false ∧ Below wr.heap.size wr wx)
      case first =>
        go_region_held3 (fun w' => Below wr.heap.size wr w' ∧ w'.cell? ⟨w.heap.size + 1 + 1, 0, none⟩ = some (.int .i64 f.1) ∧ w'.cell? ⟨w.heap.size + 1 + 1, 1, none⟩ = some (.int .i64 f.2) ∧ w'.cell? ⟨g, off + 2 * k, none⟩ = some (.int .i64 x0) ∧ w'.cell? ⟨g, off + 2 * k + 1, none⟩ = some (.int .i64 x1)) (((refine (fun kb => (⟨kb, HCX.out _ kb⟩)) (?_ : Below wr.heap.size wr _); exact (by repeat (first | exact Below.refl _ _ | assumption | (refine Below.drew ?_) | (refine below_drewN ?_ _) | (refine Below.alloc ?_ (by first | (simp; done) | (simp; omega) | omega) _) | (refine Below.setCell ?_ (by first | (simp; done) | (simp; omega) | omega) _) | (refine Below.trans ?_ (Below.mono (by assumption) (by first | (simp; done) | (simp; omega) | omega)))))))) (first | (go_at_call 54; refine (HSH.out _).mono ?_; go_must (rintro e w5 ⟨rfl, hb5⟩; have hs5 := hb5.size; (try simp at hs5); obtain ⟨hc5, hf5⟩ := bcell hb5; (first | have z := z10 hs5 | have z := z9 hs5 | have z := z8 hs5 | have z := z7 hs5 | have z := z6 hs5 | have z := z5 hs5 | have z := z4 hs5 | have z := z3 hs5 | have z := z2 hs5 | have z := z1 hs5 | skip))))
        all_goals (try go_wp2_with fail)
        all_goals go_meet
        all_goals (refine ⟨_, rfl, rfl, rfl, by omega, by first | (simp; done) | (simp; omega), by go_simp, by go_simp, by go_simp, by go_simp, by repeat (first | exact Below.refl _ _ | assumption | (refine Below.drew ?_) | (refine below_drewN ?_ _) | (refine Below.alloc ?_ (by first | (simp; done) | (simp; omega) | omega) _) | (refine Below.setCell ?_ (by first | (simp; done) | (simp; omega) | omega) _) | (refine Below.trans ?_ (Below.mono (by assumption) (by first | (simp; done) | (simp; omega) | omega))))⟩)
      case rest =>
        clear r0 r1 b6 b7
        obtain ⟨g8, rfl, rfl, rfl, hg8, hg8', y0, y1, yf0, yf1, hbx⟩ := hcut
        obtain ⟨b6, b7, r0, r1⟩ := HCX.out wc hbx
        have HQ := Lib.hid (fun (W : World) (kb : Below wc.heap.size wc W) => And.intro ((kb.cell (p := ⟨g8, 0, none⟩) hg8').trans y0) (And.intro ((kb.cell (p := ⟨g8, 1, none⟩) hg8').trans y1) (And.intro ((kb.frozen (p := ⟨g8, 0, none⟩) hg8').trans yf0) ((kb.frozen (p := ⟨g8, 1, none⟩) hg8').trans yf1))))
        have HBX := Lib.hid hbx
        have hsbx := hbx.size
        have KC := Below.refl wc.heap.size wc
        go_wp2_with fail
        go_region_held3 (fun w' => Below wr.heap.size wr w' ∧ w'.cell? ⟨w.heap.size + 1 + 1, 0, none⟩ = some (.int .i64 f.1) ∧ w'.cell? ⟨w.heap.size + 1 + 1, 1, none⟩ = some (.int .i64 f.2) ∧ w'.cell? ⟨g, off + 2 * k, none⟩ = some (.int .i64 x0) ∧ w'.cell? ⟨g, off + 2 * k + 1, none⟩ = some (.int .i64 x1)) (((refine (fun kb => (⟨kb, HCX.out _ kb⟩)) (?_ : Below wr.heap.size wr _); exact (by repeat (first | (with_reducible exact Below.refl _ _) | (with_reducible assumption) | (with_reducible refine Below.drew ?_) | (with_reducible refine Below.setCell ?_ (by first | (simp; done) | (simp; omega) | omega) _) | (with_reducible refine Below.alloc ?_ (by first | (simp; done) | (simp; omega) | omega) _) | (with_reducible refine below_drewN ?_ _) | (refine Below.trans ?_ (Below.mono (by with_reducible assumption) (by first | (simp; done) | (simp; omega) | omega)))))))) (first | (go_at_call 102; refine (HSB.out _).mono ?_; go_must (rintro e w6 ⟨rfl, hb6⟩; have hk6 : Below wc.heap.size wc w6 := (by exact (by repeat (first | (with_reducible exact Below.refl _ _) | (with_reducible assumption) | (with_reducible refine Below.drew ?_) | (with_reducible refine Below.setCell ?_ (by first | (simp; done) | (simp; omega) | omega) _) | (with_reducible refine Below.alloc ?_ (by first | (simp; done) | (simp; omega) | omega) _) | (with_reducible refine below_drewN ?_ _) | (refine Below.trans ?_ (Below.mono (by with_reducible assumption) (by first | (simp; done) | (simp; omega) | omega)))))); have HK6 := Lib.hid hk6; have hbE : Below wr.heap.size wr w6 := HBX.out.trans (hk6.mono hsbx); obtain ⟨q0, q1, qf0, qf1⟩ := HQ.out _ hk6; clear hb6 KC hk6)))
        go_upto_region 10 with fail
        refine forgetW (fun V => g8 < V.heap.size ∧ V.cell? ⟨g8, 0, none⟩ = some (.int .i64 (x0 / f.1)) ∧ V.cell? ⟨g8, 1, none⟩ = some (.int .i64 (x1 / f.2)) ∧ Below wr.heap.size wr V) ⟨by have := HK6.out.size; simp; omega, by go_simp, by go_simp, (HBX.out.trans (HK6.out.mono hsbx)).setCell (by first | omega | (simp; done) | (simp; omega)) _ |>.setCell (by first | omega | (simp; done) | (simp; omega)) _⟩ ?_
        clear hg8' y0 y1 yf0 yf1 hbx
        rintro V5 ⟨hg8', y0, y1, hbx⟩
        have HT2 := Lib.hid (show List.map (eachF f true) (C.take (k + 1)) = M ++ [(x0 / f.1, x1 / f.2)] from HT.out)
        have HWK := Lib.hid (show wf2 (x0 / f.1, x1 / f.2) from HWF.out)
        clear HT HWF HSH HSB HCX
        generalize x0 / f.1 = p0 at *
        generalize x1 / f.2 = p1 at *
        have hsx := hbx.size
        have hlk := SeenC.look HM.out (p0, p1) HWK.out V5 hbx
        simp only [ceV] at hlk
        have HDW := Lib.hid hbx
        cases hsb : seenB M (p0, p1)
        · obtain ⟨w3, hr3, hm3, hg3⟩ := SeenC.step (MapV.kept HM.out hbx) (by omega) (p0, p1) HWK.out
          simp only [ceV] at hr3
          have hs5 := hg3.size
          have hg8e : w3.heap[g8]? = V5.heap[g8]? := hg3.block g8 (by omega) (by intro e; simp only [Option.some.injEq] at e; omega)
          have q0 := (World.cell?_of_block (a := ⟨g8, 0, none⟩) hg8e).trans y0
          have q1 := (World.cell?_of_block (a := ⟨g8, 1, none⟩) hg8e).trans y1
          have HO3 := Lib.hid (OwnOf.grown (HO.out.kept hbx) hg3 (.inl (fun e => by have := (HO.out.lt _ e).1; omega)))
          have HB3 := Lib.hid ((HB.out.trans (hbx.mono hs3)).grown hg3 (by omega) (fun r e => by cases e; exact Nat.le_refl _))
          clear hg8e
          rw [hsb] at hlk
          clear hsb hbx
          go_wp2_with (at_builtin; refine wpList_push rfl _ _ _ rfl slCe2 HO3.out rfl rfl (by first | rfl | simp) rfl rfl (by omega) (by omega) (by omega) ?_; intro g5 c5 w6 hown6 hg6 hat6)
          go_roundw
          case rel =>
            refine ⟨k + 1, n2 + 1, HLT.out, by simp, Lib.hid ?_, by omega, Lib.hid ⟨D ++ [(p0, p1)], OwnOf.snoc (l := D) (x := (p0, p1)) (enc := encC) (by simpa [encC] using hown6) rfl, by simp; omega, fun a => by rw [HT2.out, List.mem_append, List.mem_append, HDM.out]⟩, Lib.hid (HB3.out.grown hg6 (by omega) (fun r e => by have := (HO3.out.lt r e).1; omega)), by have := hg6.size; omega⟩
            rw [HT2.out]
            exact MapV.grown hm3 hg6 (fun e => by have := (HO3.out.lt _ e.symm).1; omega)
          case measure => simp only [intOf]; have := HLT.out; omega
        · rw [hsb] at hlk
          have HMA := Lib.hid (show (p0, p1) ∈ M by simpa [seenB] using hsb)
          clear hsb
          go_wp2
          go_roundw
          case rel =>
            refine ⟨k + 1, n2, HLT.out, by simp, Lib.hid ?_, by omega, Lib.hid ⟨D, HO.out.kept HDW.out, by omega, fun a => ?_⟩, Lib.hid (HB.out.trans (HDW.out.mono hs3)), by omega⟩
            · rw [HT2.out]
              have e : seenF (M ++ [(p0, p1)]) = seenF M := by
                rw [seenF_snoc]; funext x
                by_cases h : x = (p0, p1)
                · subst h; simp [seenF, HMA.out]
                · simp [h]
              show MapV _ _ _ _ _ _ _
              rw [e]
              exact MapV.kept HM.out HDW.out
            · rw [HT2.out, HDM.out, List.mem_append, List.mem_singleton]
              constructor
              · exact .inl
              · rintro (h | rfl)
                · exact h
                · exact HMA.out
          case measure => simp only [intOf]; have := HLT.out; omega
end Go.Proofs.YtnejicklenhpeaaGreat
