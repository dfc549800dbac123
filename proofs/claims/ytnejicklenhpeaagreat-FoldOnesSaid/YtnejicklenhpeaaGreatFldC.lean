/- fold.cut: its walk. Conditions: none. -/
import Derived.Test.YtnejicklenhpeaaGreatFldB
import Derived.Test.YtnejicklenhpeaaGreatCelK
import Derived.Deep.CutRange
namespace Go.Proofs.YtnejicklenhpeaaGreat
open Go.RowKit Go.Lib
set_option linter.unusedVariables false
structure SheetAt (w : World) (sb : Nat) (r : RecD) (u : P3) (f : Int × Int) : Prop where
  lt : sb < w.heap.size
  ex : ∃ mb n vb vh, w.cell? ⟨sb, 0, none⟩ = some (.int .i64 f.1) ∧ w.cell? ⟨sb, 1, none⟩ = some (.int .i64 f.2) ∧ w.cell? ⟨sb, 2, none⟩ = some (.map (some mb)) ∧ w.cell? ⟨sb, 3, none⟩ = some vb ∧ w.cell? ⟨sb, 4, none⟩ = some vh ∧ RankM w mb n (blocksL r u f) (blocksL r u f).length ∧ SlOf w w.heap.size 2 encC vb (blocksL r u f) ∧ SlOf w w.heap.size 2 encC vh (homesL r u f)
theorem SheetAt.below {w w' : World} {sb : Nat} {r : RecD} {u : P3} {f : Int × Int} (h : SheetAt w sb r u f) (hb : Below w.heap.size w w') : SheetAt w' sb r u f := by
  obtain ⟨hl, mb, n, vb, vh, h0, h1, h2, h3, h4, hm, h5, h6⟩ := h
  have c := fun o => hb.cell (p := ⟨sb, o, none⟩) hl
  exact ⟨Nat.lt_of_lt_of_le hl hb.size, mb, n, vb, vh, (c 0).trans h0, (c 1).trans h1, (c 2).trans h2, (c 3).trans h3, (c 4).trans h4, hm.kept hb, h5.below hb, h6.below hb⟩
def CutR (r : RecD) (u : P3) (f : Int × Int) (e : Ending) (w' : World) : Prop := ∃ p, e = .returned (.tuple #[p, .int .i64 (cutE r u f)]) ∧ (if cutE r u f = 0 then ∃ sb, p = .pointer (some ⟨sb, 0, none⟩) ∧ SheetAt w' sb r u f else p = .pointer none)
theorem cutR_err {r : RecD} {u : P3} {f : Int × Int} {k : Int} (h : cutE r u f = k) (hk : k ≠ 0) (w' : World) : CutR r u f (.returned (.tuple #[.pointer none, .int .i64 k])) w' := by
  unfold CutR; rw [h]; exact ⟨_, rfl, by rw [if_neg hk]⟩
theorem cutR_ok {r : RecD} {u : P3} {f : Int × Int} (h : cutE r u f = 0) {w' : World} {sb : Nat} (hs : SheetAt w' sb r u f) : CutR r u f (.returned (.tuple #[.pointer (some ⟨sb, 0, none⟩), .int .i64 0])) w' := by
  unfold CutR; rw [h]; exact ⟨_, rfl, by rw [if_pos rfl]; exact ⟨_, rfl, hs⟩⟩
theorem cellsL_small {r : RecD} {u : P3} (ha : askE r u = 0) : ∀ c ∈ cellsL r u, (-80 ≤ c.1 ∧ c.1 ≤ 80) ∧ (-80 ≤ c.2 ∧ c.2 ≤ 80) := by
  intro c hc
  unfold cellsL at hc
  rw [mem_sortC, List.mem_map] at hc
  obtain ⟨p, hp, rfl⟩ := hc
  exact cell_small (askE_ok ha).2 (pts_sm (askE_ok ha).1 hp)
theorem cellsL_len {r : RecD} {u : P3} (ha : askE r u = 0) : (cellsL r u).length ≤ 1000 := by
  have h1 := (validR_out (askE_ok ha).1).2.1
  have h2 := sortC_len ((ptsL r.n r.l).map (cellC r.n u))
  unfold cellsL
  rw [List.length_map] at h2
  omega
theorem alloc_atF (w : World) (o : Obj) : (w.alloc o).heap[w.heap.size]? = some o := by unfold World.alloc; simp
theorem alloc_twoF (w : World) (o1 o2 : Obj) : ((w.alloc o1).alloc o2).heap[w.heap.size]? = some o1 ∧ ((w.alloc o1).alloc o2).heap[w.heap.size + 1]? = some o2 := by
  have hs : (w.alloc o1).heap.size = w.heap.size + 1 := by simp
  have h2 := alloc_atF (w.alloc o1) o2
  rw [hs] at h2
  exact ⟨(((Below.refl _ (w.alloc o1)).alloc (Nat.le_refl _) o2).block w.heap.size (by omega)).trans (alloc_atF w o1), h2⟩
set_option maxHeartbeats 8000000 in
set_option maxRecDepth 100000 in
theorem cut_l (r : RecD) (u : P3) (f : Int × Int) (w : World) (hr : RecRd w r) :
    Calls Tryz.prog 46 #[.agg #[.int .i64 r.n, r.lv, r.vv], .agg #[.int .i64 u.1, .int .i64 u.2.1, .int .i64 u.2.2], .agg #[.int .i64 f.1, .int .i64 f.2]] w fun e w' => CutR r u f e w' ∧ Below w.heap.size w w' := by
  have HR := Lib.hid hr
  clear hr
  have HC := Lib.hid (fun (W : World) (h : RecRd W r) => Cells_l r u W h)
  obtain ⟨W0, hW0⟩ : ∃ W : World, ((w.alloc (Obj.cells #[.int .i64 r.n, r.lv, r.vv] 27)).alloc (Obj.cells #[.int .i64 u.1, .int .i64 u.2.1, .int .i64 u.2.2] 29)).alloc (Obj.cells #[.int .i64 f.1, .int .i64 f.2] 31) = W := ⟨_, rfl⟩
  have kw0 : Below w.heap.size w W0 := by rw [← hW0]; exact (by repeat (first | exact Below.refl _ _ | assumption | (refine Below.drew ?_) | (refine below_drewN ?_ _) | (refine Below.alloc ?_ (by first | (simp; done) | (simp; omega) | omega) _) | (refine Below.setCell ?_ (by first | (simp; done) | (simp; omega) | omega) _) | (refine Below.trans ?_ (Below.mono (by assumption) (by first | (simp; done) | (simp; omega) | omega)))))
  have ks0 : W0.heap.size = w.heap.size + 3 := by rw [← hW0]; simp
  have RD0 := Lib.hid (show ∀ V, Below W0.heap.size W0 V → V.cell? ⟨w.heap.size, 0, none⟩ = some (.int .i64 r.n) ∧ V.cell? ⟨w.heap.size, 1, none⟩ = some (r.lv) ∧ V.cell? ⟨w.heap.size, 2, none⟩ = some (r.vv) ∧ V.cell? ⟨w.heap.size + 1, 0, none⟩ = some (.int .i64 u.1) ∧ V.cell? ⟨w.heap.size + 1, 1, none⟩ = some (.int .i64 u.2.1) ∧ V.cell? ⟨w.heap.size + 1, 2, none⟩ = some (.int .i64 u.2.2) ∧ V.cell? ⟨w.heap.size + 1 + 1, 0, none⟩ = some (.int .i64 f.1) ∧ V.cell? ⟨w.heap.size + 1 + 1, 1, none⟩ = some (.int .i64 f.2) from fun V h => by
      refine ⟨(h.cell (p := ⟨w.heap.size, 0, none⟩) (by simp; omega)).trans ?_, (h.cell (p := ⟨w.heap.size, 1, none⟩) (by simp; omega)).trans ?_, (h.cell (p := ⟨w.heap.size, 2, none⟩) (by simp; omega)).trans ?_, (h.cell (p := ⟨w.heap.size + 1, 0, none⟩) (by simp; omega)).trans ?_, (h.cell (p := ⟨w.heap.size + 1, 1, none⟩) (by simp; omega)).trans ?_, (h.cell (p := ⟨w.heap.size + 1, 2, none⟩) (by simp; omega)).trans ?_, (h.cell (p := ⟨w.heap.size + 1 + 1, 0, none⟩) (by simp; omega)).trans ?_, (h.cell (p := ⟨w.heap.size + 1 + 1, 1, none⟩) (by simp; omega)).trans ?_⟩ <;> (subst hW0; go_simp))
  have HW0 := Lib.hid hW0; have KW0 := Lib.hid kw0; clear hW0 kw0
  have hks : w.heap.size ≤ W0.heap.size := by omega
  by_cases ha : askE r u = 0
  rotate_left
  · have HE := Lib.hid (fun w' => cutR_err (f := f) (show cutE r u f = askE r u by unfold cutE; rw [if_neg ha]) ha w')
    have hnz : (askE r u != 0) = true := by simpa using ha
    have HA := Lib.hid ha
    clear ha
    generalize hA : askE r u = A at *
    go_enter Tryz.func46, Tryz.ntmps46
    go_wp2_with (go_at_call 96; rw [HW0.out]; refine (HC.out _ (HR.out.below KW0.out)).mono ?_; go_must (rintro e w1 ⟨⟨v, rfl, hs⟩, hb1⟩; rw [hA]; rw [hA, if_neg HA.out] at hs; have hsh : ∃ a n c, v = .slice a n c := (by obtain ⟨a, c, e, -⟩ := hs.shape; exact ⟨a, _, c, e⟩); obtain ⟨va, vn, vc, rfl⟩ := hsh))
    go_ret2
    exact ⟨HE.out _, below_at KW0.out hks hb1⟩
  cases hz : eachB f.1 f.2 1 8
  · have HE := Lib.hid (fun w' => cutR_err (r := r) (u := u) (f := f) (k := 2) (by unfold cutE; rw [if_pos ha, hz]; rfl) (by omega) w')
    go_enter Tryz.func46, Tryz.ntmps46
    go_wp2_with (first | (go_at_call 96; rw [HW0.out]; refine (HC.out _ (HR.out.below KW0.out)).mono ?_; go_must (rintro e w1 ⟨⟨v, rfl, hs⟩, hb1⟩; rw [ha]; obtain ⟨b0, b1, b2, b3, b4, b5, b6, b7⟩ := RD0.out w1 hb1; have hsh : ∃ a n c, v = .slice a n c := (by obtain ⟨a, c, e, -⟩ := hs.shape; exact ⟨a, _, c, e⟩); obtain ⟨va, vn, vc, rfl⟩ := hsh)) | (go_at_call 97; refine (size_any f.1 f.2 _).mono ?_; go_must (rintro e w2 ⟨rfl, hb2⟩; rw [hz])))
    go_ret2
    exact ⟨HE.out _, below_at KW0.out hks (hb1.trans (hb2.mono hb1.size))⟩
  have HOK := Lib.hid (show cutE r u f = 0 by unfold cutE; rw [if_pos ha, hz]; rfl)
  have hfb : (1 ≤ f.1 ∧ f.1 ≤ 8) ∧ (1 ≤ f.2 ∧ f.2 ≤ 8) := by simp only [eachB, decide_eq_true_eq] at hz; omega
  have HFB := Lib.hid hfb
  have HCS := Lib.hid (cellsL_small ha)
  have hcl := cellsL_len ha
  clear hfb
  have hmm := @run_makeMap Tryz.prog
  go_enter Tryz.func46, Tryz.ntmps46
  go_wp2_with (first | (go_at_call 96; rw [HW0.out]; refine (HC.out _ (HR.out.below KW0.out)).mono ?_; go_must (rintro e w1 ⟨⟨v, rfl, hs⟩, hb1⟩; rw [ha]; rw [ha, if_pos rfl] at hs; obtain ⟨b0, b1, b2, b3, b4, b5, b6, b7⟩ := RD0.out w1 hb1; have hsh : ∃ a c, v = .slice a (cellsL r u).length c := (by obtain ⟨a, c, e, -⟩ := hs.shape; exact ⟨a, c, e⟩); obtain ⟨va, vc, rfl⟩ := hsh; have HS1 := Lib.hid hs; have HB1 := Lib.hid hb1; clear hs hb1)) | (go_at_call 97; refine (size_any f.1 f.2 _).mono ?_; go_must (rintro e w2 ⟨rfl, hb2⟩; rw [hz]; obtain ⟨b0, b1, b2, b3, b4, b5, b6, b7⟩ := RD0.out w2 (HB1.out.trans (hb2.mono HB1.out.size)); have HB2 := Lib.hid hb2; clear hb2)))
  clear hmm
  have hs1 := HB1.out.size
  have hs2 := HB2.out.size
  have HB12 := Lib.hid (HB1.out.trans (HB2.out.mono hs1))
  have hv2 : SlOf w2 w2.heap.size 2 encC (.slice va (cellsL r u).length vc) (cellsL r u) := HS1.out.below HB2.out
  have HBL := Lib.hid (show blocksL r u f = sortC ((cellsL r u).map (blkC f)) from rfl)
  have HHL := Lib.hid (show homesL r u f = sortC ((cellsL r u).map (homC f)) from rfl)
  generalize cellsL r u = C at *
  obtain ⟨ca, cc, g, off, he, hlc, hcm, hx⟩ := SlOf.at (enc := encC) (fun _ => rfl) un_ce sz_ce hv2
  cases he
  have HX := Lib.hid hx
  clear hx hv2
  refine forgetW (fun V => SheetM V (w2.heap.size + 1) w2.heap.size f (.slice none 0 0) (.slice none 0 0) [] [] ∧ Below w2.heap.size w2 V) ⟨⟨(alloc_twoF w2 _ _).2, by omega, ?_, OwnOf.nil _ _ _ _ _, OwnOf.nil _ _ _ _ _, fun g e => by simp [Value.ownBlock] at e, fun _ => rfl, fun _ => rfl⟩, by exact (by repeat (first | exact Below.refl _ _ | assumption | (refine Below.drew ?_) | (refine below_drewN ?_ _) | (refine Below.alloc ?_ (by first | (simp; done) | (simp; omega) | omega) _) | (refine Below.setCell ?_ (by first | (simp; done) | (simp; omega) | omega) _) | (refine Below.trans ?_ (Below.mono (by assumption) (by first | (simp; done) | (simp; omega) | omega)))))⟩ ?_
  · exact (MapV.made Tryz.prog 31 ceV w2).kept ((Below.refl _ _).alloc (Nat.le_refl _) _)
  rintro V ⟨hvm, hvb⟩
  go_loopw [12, 13, 14, 39] (fun t12 t13 t14 t39 wr => ∃ (k : Nat) (vb vh : Value), k ≤ C.length ∧ t39 = .int .i64 (k : Int) ∧ Hid (SheetM wr (w2.heap.size + 1) w2.heap.size f vb vh ((C.take k).map (blkC f)) ((C.take k).map (homC f))) ∧ Hid (Below w2.heap.size w2 wr)) (fun _ _ _ t39 _ => C.length - (intOf t39).toNat)
  case atStart => exact ⟨0, _, _, Nat.zero_le _, rfl, Lib.hid hvm, Lib.hid hvb⟩
  case round =>
    clear hvm hvb b0 b1 b2 b3 b4 b5 b6 b7
    obtain ⟨k, vb, vh, hk, rfl, HM, HB⟩ := hrel
    have hs3 := HB.out.size
    by_cases hlt : k < C.length
    rotate_left
    · have hke : k = C.length := by omega
      subst hke
      rw [List.take_length] at HM
      have hlD : (C.map (blkC f)).length ≤ 100000 := by rw [List.length_map]; omega
      have hlH : (C.map (homC f)).length ≤ 100000 := by rw [List.length_map]; omega
      have HWB := Lib.hid (show ∀ b ∈ sortC (C.map (blkC f)), wf2 b from fun b hb => by
        rw [mem_sortC, List.mem_map] at hb
        obtain ⟨c, hc, rfl⟩ := hb
        obtain ⟨⟨c1, c2⟩, c3, c4⟩ := HCS.out c hc
        have d1 := div_bd c.1 f.1 HFB.out.1.1 HFB.out.1.2 (by omega) (by omega)
        have d2 := div_bd c.2 f.2 HFB.out.2.1 HFB.out.2.2 (by omega) (by omega)
        exact ⟨wf_sm (show _ ≤ c.1 / f.1 ∧ c.1 / f.1 ≤ _ by omega), wf_sm (show _ ≤ c.2 / f.2 ∧ c.2 / f.2 ≤ _ by omega)⟩)
      have hlS : (sortC (C.map (blkC f))).length ≤ 100000 := Nat.le_trans (sortC_len _) hlD
      generalize C.map (blkC f) = DB at *
      generalize C.map (homC f) = DH at *
      clear HX HCS HFB HS1 HC
      obtain ⟨ba, bc, hbe⟩ := HM.out.ob.shape
      obtain ⟨ha2, hc2, hhe⟩ := HM.out.oh.shape
      subst hbe hhe
      have HRO := Lib.hid (show (Value.slice ba DB.length bc).ownBlock ≠ some wr.heap.size from fun e => by have := (HM.out.ob.lt _ e).2; omega)
      have HRH := Lib.hid (show (Value.slice ha2 DH.length hc2).ownBlock ≠ some wr.heap.size from fun e => by have := (HM.out.oh.lt _ e).2; omega)
      go_wp2_with fail
      go_region
      go_wp2_with fail
      refine forgetW (fun V => Below wr.heap.size wr V ∧ wr.heap.size < V.heap.size ∧ V.cell? ⟨wr.heap.size, 0, none⟩ = some (.pointer (some ⟨w2.heap.size + 1, 3, none⟩)) ∧ V.cell? ⟨wr.heap.size, 1, none⟩ = some (.pointer (some ⟨w2.heap.size + 1, 4, none⟩))) ⟨by exact (by repeat (first | exact Below.refl _ _ | assumption | (refine Below.drew ?_) | (refine below_drewN ?_ _) | (refine Below.alloc ?_ (by first | (simp; done) | (simp; omega) | omega) _) | (refine Below.setCell ?_ (by first | (simp; done) | (simp; omega) | omega) _) | (refine Below.trans ?_ (Below.mono (by assumption) (by first | (simp; done) | (simp; omega) | omega))))), by simp, by go_simp, by go_simp⟩ ?_
      rintro V1 ⟨hv1, hq1, p0, p1⟩
      have HMV := Lib.hid (HM.out.below hv1)
      have HBV := Lib.hid (HB.out.trans (hv1.mono hs3))
      have hlt0 := HM.out.lt
      obtain ⟨m0, m1, m2, m3, m4⟩ := HMV.out.cells
      refine wp_loop_rounds 3 ?_
      rw [rounds_succ]
      go_wp2_with (first
        | (go_at_call 98; refine (fsort_l V1 (w2.heap.size + 1 + 1) _ DB HMV.out.ob HMV.out.lt hlD HMV.out.nb).mono ?_; go_must (rintro e w7 ⟨rfl, l7, hp7, hs7, ho7, hg7⟩; have HM7 := Lib.hid (HMV.out.sorted hg7 ho7 hp7); have p1 := (World.cell?_of_block (a := ⟨wr.heap.size, 1, none⟩) (hg7.block wr.heap.size hq1 (fun e => HRO.out e.symm))).trans p1; have HG7 := Lib.hid hg7; obtain ⟨m0, m1, m2, m3, m4⟩ := HM7.out.cells; have fr3 := HM7.out.free 3; clear ho7 hg7))
        | (go_at_call 99; refine (fcompact_l w7 (w2.heap.size + 1 + 1) _ l7 DB HM7.out.ob hs7 hp7 (by have := hp7.length_eq; omega) HM7.out.nb).mono ?_; go_must (rintro e w8 ⟨v8, rfl, hs8, ho8, hg8⟩; have HM8 := Lib.hid (HM7.out.comp hg8 hs8 ho8); have p1 := (World.cell?_of_block (a := ⟨wr.heap.size, 1, none⟩) (hg8.block wr.heap.size (Nat.lt_of_lt_of_le hq1 HG7.out.size) (fun e => HRO.out e.symm))).trans p1; have n3 := (HM7.out.stayB hg8 3).1.trans m3; have nf := (HM7.out.stayB hg8 3).2.trans fr3; have HG8 := Lib.hid hg8; obtain ⟨va8, vc8, hv8, -⟩ := hs8.shape; subst hv8; have HO8 := Lib.hid ho8; clear hs8 hg8 ho8)))
      rw [rounds_succ]
      refine forgetW (fun V => SheetN V (w2.heap.size + 1) w2.heap.size f (.slice va8 (sortC DB).length vc8) (.slice ha2 DH.length hc2) (sortC DB) DH ∧ Below w2.heap.size w2 V ∧ wr.heap.size < V.heap.size ∧ V.cell? ⟨wr.heap.size, 1, none⟩ = some (.pointer (some ⟨w2.heap.size + 1, 4, none⟩))) ⟨HM8.out, HBV.out.trans ((((Below.refl w2.heap.size V1).grown HG7.out (by have := HMV.out.lt; omega) (fun r e => by have := (HMV.out.ob.lt r e).1; omega)).grown HG8.out (by have := HM7.out.lt; omega) (fun r e => by have := (HM7.out.ob.lt r e).1; omega)).setCell (p := ⟨w2.heap.size + 1, 3, none⟩) (by show w2.heap.size ≤ w2.heap.size + 1; omega) _), by have := HG7.out.size; have := HG8.out.size; simp; omega, (World.cell?_of_block (a := ⟨wr.heap.size, 1, none⟩) (heap_setCell_other _ _ _ _ (by show wr.heap.size ≠ w2.heap.size + 1; omega))).trans p1⟩ ?_
      rintro V2 ⟨hm2, hbv2, hq2, p1⟩
      have HM2 := Lib.hid hm2
      have HBV2 := Lib.hid hbv2
      have m4 := cell_of_row V2 (w2.heap.size + 1) 4 _ _ _ hm2.blk
      clear hm2 hbv2 m0 m1 m2 m3 fr3 n3 nf hv1 HM8 HG8 HG7 HM7 HMV HBV hs7 hp7
      go_wp2_with (first
        | (go_at_call 98; refine (fsort_l V2 (w2.heap.size + 1 + 1) _ DH HM2.out.oh HM2.out.lt hlH HM2.out.nh).mono ?_; go_must (rintro e w7 ⟨rfl, l7, hp7, hs7, ho7, hg7⟩; have HM7 := Lib.hid (HM2.out.sorted hg7 ho7 hp7); have HG7 := Lib.hid hg7; have m4 := cell_of_row w7 (w2.heap.size + 1) 4 _ _ _ HM7.out.blk; have fr4 := frozen_of_row w7 (w2.heap.size + 1) 4 _ _ HM7.out.blk; clear ho7 hg7))
        | (go_at_call 99; refine (fcompact_l w7 (w2.heap.size + 1 + 1) _ l7 DH HM7.out.oh hs7 hp7 (by have := hp7.length_eq; omega) HM7.out.nh).mono ?_; go_must (rintro e w9 ⟨v9, rfl, hs9, ho9, hg9⟩; have HM9 := Lib.hid (HM7.out.comp hg9 hs9 ho9); have hbk := (hg9.block (w2.heap.size + 1) HM7.out.lt (fun e => by have := (HM7.out.oh.lt _ e.symm).1; omega)).trans HM7.out.blk; have n4 := cell_of_row w9 (w2.heap.size + 1) 4 _ _ _ hbk; have nf := frozen_of_row w9 (w2.heap.size + 1) 4 _ _ hbk; have HG9 := Lib.hid hg9; obtain ⟨va9, vc9, hv9, -⟩ := hs9.shape; subst hv9; clear hs9 hg9 ho9 hbk)))
      rw [rounds_succ]
      refine forgetW (fun V => SheetF V (w2.heap.size + 1) w2.heap.size 0 f (.slice va8 (sortC DB).length vc8) (.slice va9 (sortC DH).length vc9) (sortC DB) (sortC DH) 0 ∧ Below w2.heap.size w2 V) ⟨HM9.out, HBV2.out.trans ((((Below.refl w2.heap.size V2).grown HG7.out (by have := HM2.out.lt; omega) (fun r e => by have := (HM2.out.oh.lt r e).1; omega)).grown HG9.out (by have := HM7.out.lt; omega) (fun r e => by have := (HM7.out.oh.lt r e).1; omega)).setCell (p := ⟨w2.heap.size + 1, 4, none⟩) (by show w2.heap.size ≤ w2.heap.size + 1; omega) _)⟩ ?_
      rintro V3 ⟨hf3, hb3⟩
      have m3 := cell_of_row V3 (w2.heap.size + 1) 3 _ _ _ hf3.blk
      clear m4 fr4 n4 nf p1 HM9 HG9 HG7 HM7 HM2 HBV2 hs7 hp7
      generalize sortC DH = LH at *
      generalize sortC DB = LB at *
      go_wp2_with fail
      go_loopw [17, 18, 98] (fun t17 t18 t98 wr => ∃ k n : Nat, k ≤ LB.length ∧ n ≤ k ∧ t98 = .int .i64 (k : Int) ∧ Hid (SheetF wr (w2.heap.size + 1) w2.heap.size n f (.slice va8 LB.length vc8) (.slice va9 LH.length vc9) LB LH k) ∧ Hid (Below w2.heap.size w2 wr)) (fun _ _ t98 _ => LB.length - (intOf t98).toNat)
      case atStart => exact ⟨0, 0, Nat.zero_le _, Nat.le_refl _, rfl, Lib.hid hf3, Lib.hid hb3⟩
      case round =>
        clear hf3 hb3 m3 p0 hq1 hq2
        obtain ⟨j, n, hj, hnj, rfl, HF, HBF⟩ := hrel
        have hsf := HBF.out.size
        by_cases hlt2 : j < LB.length
        rotate_left
        · have hje : j = LB.length := by omega
          subst hje
          have HE := Lib.hid (show SheetAt wr (w2.heap.size + 1) r u f from by
            have hf := HF.out
            refine ⟨hf.lt, w2.heap.size, n, .slice va8 LB.length vc8, .slice va9 LH.length vc9, cell_of_row _ _ 0 _ _ _ hf.blk, cell_of_row _ _ 1 _ _ _ hf.blk, cell_of_row _ _ 2 _ _ _ hf.blk, cell_of_row _ _ 3 _ _ _ hf.blk, cell_of_row _ _ 4 _ _ _ hf.blk, ?_, ?_, ?_⟩
            · rw [HBL.out]; exact hf.map
            · rw [HBL.out]; exact hf.sl
            · rw [HHL.out]; exact hf.sh)
          have HBE := Lib.hid (below_at KW0.out hks (HB12.out.trans (HBF.out.mono (by omega))))
          go_wp2_with fail
          go_ret2
          exact ⟨cutR_ok HOK.out HE.out, HBE.out⟩
        have hjl : (j : Int) < (LB.length : Int) := by omega
        have hj0 : (0 : Int) ≤ (j : Int) := by omega
        have hgf := HF.out.sl
        obtain ⟨ga, gc, g', off', he', -, -, hx'⟩ := SlOf.at (enc := encC) (fun _ => rfl) un_ce sz_ce hgf
        cases he'
        obtain ⟨-, hi2, hg2, hc2'⟩ := hx' j hlt2
        have r0 : wr.cell? ⟨g', off' + 2 * j, none⟩ = some (.int .i64 LB[j].1) := hc2' 0 (by omega)
        have r1 : wr.cell? ⟨g', off' + 2 * j + 1, none⟩ = some (.int .i64 LB[j].2) := hc2' 1 (by omega)
        have hwb := HWB.out LB[j] (List.getElem_mem hlt2)
        have HST := Lib.hid (fun (W : World) (h : RankM W w2.heap.size n LB j) => RankM.step h (by omega) hlt2 hwb)
        generalize LB[j] = c at *
        obtain ⟨x0, x1⟩ := c
        simp only at r0 r1
        clear hx' hc2' hgf
        go_wp2_with fail
        refine forgetW (fun V => Below wr.heap.size wr V ∧ wr.heap.size < V.heap.size ∧ V.cell? ⟨wr.heap.size, 0, none⟩ = some (.int .i64 x0) ∧ V.cell? ⟨wr.heap.size, 1, none⟩ = some (.int .i64 x1)) ⟨by exact (by repeat (first | exact Below.refl _ _ | assumption | (refine Below.drew ?_) | (refine below_drewN ?_ _) | (refine Below.alloc ?_ (by first | (simp; done) | (simp; omega) | omega) _) | (refine Below.setCell ?_ (by first | (simp; done) | (simp; omega) | omega) _) | (refine Below.trans ?_ (Below.mono (by assumption) (by first | (simp; done) | (simp; omega) | omega))))), by simp, by go_simp, by go_simp⟩ ?_
        rintro V4 ⟨hv4, hq4, y0, y1⟩
        have hf4 := HF.out.below hv4
        have m2 := cell_of_row V4 (w2.heap.size + 1) 2 _ _ _ hf4.blk
        have hf5 := hf4.below ((Below.refl _ V4).drew)
        obtain ⟨w9, hr9, hm9, hg9⟩ := HST.out V4.drew hf5.map
        have HF9 := Lib.hid (hf5.rank hm9 hg9)
        have HB9 := Lib.hid (HBF.out.trans (((hv4.drew).mono hsf).grown hg9 (by have := (hv4.drew).size; omega) (fun r e => by cases e; exact Nat.le_refl _)))
        simp only [ceV] at hr9
        clear hf4 hf5 hm9 hg9 hv4 HST
        go_region
        go_wp2_with fail
        go_roundw
        case rel => exact ⟨j + 1, n + 1, hlt2, by omega, by simp, HF9, HB9⟩
        case measure => simp only [intOf]; omega
    have hkl : (k : Int) < (C.length : Int) := by omega
    have hk0 : (0 : Int) ≤ (k : Int) := by omega
    obtain ⟨-, hi, hgw, hc⟩ := HX.out k hlt
    have r0 := (HB.out.cell (p := ⟨g, off + 2 * k + 0, none⟩) hgw).trans (hc 0 (by omega))
    have r1 := (HB.out.cell (p := ⟨g, off + 2 * k + 1, none⟩) hgw).trans (hc 1 (by omega))
    obtain ⟨b0, b1, b2, b3, b4, b5, b6, b7⟩ := RD0.out wr (HB12.out.trans (HB.out.mono (by omega)))
    have hcs := HCS.out C[k] (List.getElem_mem hlt)
    have HT := Lib.hid (show C.take (k + 1) = C.take k ++ [C[k]] from List.take_succ_eq_append_getElem hlt)
    generalize C[k] = c at *
    obtain ⟨x0, x1⟩ := c
    simp [encC] at r0 r1
    have HSP := Lib.hid (fun (W : World) => split_any x0 x1 f.1 f.2 W HFB.out.1.1 HFB.out.1.2 HFB.out.2.1 HFB.out.2.2 (by have := hcs.1; simp only at this; omega) (by have := hcs.1; simp only at this; omega) (by have := hcs.2; simp only at this; omega) (by have := hcs.2; simp only at this; omega))
    clear hcs hc
    have zw := z1 (show w.heap.size + 1 + 1 + 1 ≤ wr.heap.size by omega)
    go_wp2_with (go_at_call 51; refine (HSP.out _).mono ?_; go_must (rintro e w5 ⟨rfl, hb5⟩; have hs5 := hb5.size; (try simp at hs5); obtain ⟨hc5, hf5⟩ := bcell hb5; have HB5 := Lib.hid hb5; clear hb5))
    refine forgetW (fun V => Below wr.heap.size wr V ∧ wr.heap.size < w5.heap.size ∧ w5.heap.size + 1 < V.heap.size ∧ V.cell? ⟨w5.heap.size, 0, none⟩ = some (.int .i64 (x0 / f.1)) ∧ V.cell? ⟨w5.heap.size, 1, none⟩ = some (.int .i64 (x1 / f.2)) ∧ V.cell? ⟨w5.heap.size + 1, 0, none⟩ = some (.int .i64 (x0 % f.1)) ∧ V.cell? ⟨w5.heap.size + 1, 1, none⟩ = some (.int .i64 (x1 % f.2))) ⟨by have hb5 := HB5.out; exact (by repeat (first | exact Below.refl _ _ | assumption | (refine Below.drew ?_) | (refine below_drewN ?_ _) | (refine Below.alloc ?_ (by first | (simp; done) | (simp; omega) | omega) _) | (refine Below.setCell ?_ (by first | (simp; done) | (simp; omega) | omega) _) | (refine Below.trans ?_ (Below.mono (by assumption) (by first | (simp; done) | (simp; omega) | omega))))), by omega, by simp, by go_simp, by go_simp, by go_simp, by go_simp⟩ ?_
    rintro V1 ⟨hv1, hq1, hq2, y0, y1, y2, y3⟩
    have HTB := Lib.hid (show (C.take (k + 1)).map (blkC f) = (C.take k).map (blkC f) ++ [(x0 / f.1, x1 / f.2)] by rw [HT.out, List.map_append]; rfl)
    have HTH := Lib.hid (show (C.take (k + 1)).map (homC f) = (C.take k).map (homC f) ++ [(x0 % f.1, x1 % f.2)] by rw [HT.out, List.map_append]; rfl)
    have hlb : ((C.take k).map (blkC f)).length + 1 ≤ 1073741824 := by rw [List.length_map, List.length_take]; omega
    have hlh : ((C.take k).map (homC f)).length + 1 ≤ 1073741824 := by rw [List.length_map, List.length_take]; omega
    generalize (C.take k).map (blkC f) = DB at *
    generalize (C.take k).map (homC f) = DH at *
    have HMV := Lib.hid (HM.out.below hv1)
    obtain ⟨m0, m1, m2, m3, m4⟩ := HMV.out.cells
    have fr3 := HMV.out.free 3
    have hsv := hv1.size
    obtain ⟨ba, bc, hbe⟩ := HMV.out.ob.shape
    obtain ⟨ha2, hc2, hhe⟩ := HMV.out.oh.shape
    subst hbe hhe
    have HRO := Lib.hid (fun (b : Nat) (hb : wr.heap.size ≤ b) => (show (Value.slice ba DB.length bc).ownBlock ≠ some b from fun e => by have := (HM.out.ob.lt _ e).2; omega))
    have HRH := Lib.hid (fun (b : Nat) (hb : wr.heap.size ≤ b) => (show (Value.slice ha2 DH.length hc2).ownBlock ≠ some b from fun e => by have := (HM.out.oh.lt _ e).2; omega))
    have HBV := Lib.hid (HB.out.trans (hv1.mono hs3))
    have za := z1 (show w2.heap.size + 1 + 1 ≤ V1.heap.size by have := HMV.out.lt; omega)
    have zb := z1 (show w5.heap.size + 1 ≤ V1.heap.size by omega)
    have zc := z1 (show w5.heap.size + 1 + 1 ≤ V1.heap.size by omega)
    have hbs : w2.heap.size + 1 + 1 ≤ V1.heap.size := by have := HMV.out.lt; omega
    clear r0 r1 b0 b1 b2 b3 b4 b5 b6 b7 hi hgw
    go_cut [39] from 39 to 69 (fun t39 wx => ∃ vb', t39 = .int .i64 (k : Int) ∧ Hid (SheetM wx (w2.heap.size + 1) w2.heap.size f vb' (.slice ha2 DH.length hc2) (DB ++ [(x0 / f.1, x1 / f.2)]) DH) ∧ Hid (Below w2.heap.size w2 wx) ∧ V1.heap.size ≤ wx.heap.size ∧ wx.cell? ⟨w5.heap.size + 1, 0, none⟩ = some (.int .i64 (x0 % f.1)) ∧ wx.cell? ⟨w5.heap.size + 1, 1, none⟩ = some (.int .i64 (x1 % f.2)))
    case first =>
      go_region_law (refine step_push (w0 := V1) rfl _ _ _ (by rfl) slCe2 HMV.out.ob (by rfl) (by rfl) (heap_alloc_new _ _) rfl rfl hlb (by omega) hbs (grown_drew (World.grownBy_alloc _ _ _)) ?_; intro g7 c7 w7 hown7 hg7 hat7; have n3 := (HMV.out.stayB hg7 3).1.trans m3; have nf := (HMV.out.stayB hg7 3).2.trans fr3; have HG7 := Lib.hid hg7; have HO7 := Lib.hid hown7; have HA7 := Lib.hid hat7; clear hown7 hg7 hat7)
      all_goals (try go_wp2_with fail)
      all_goals go_meet
      all_goals exact ⟨_, rfl, Lib.hid (HMV.out.pushB HG7.out (OwnOf.snoc (x := (x0 / f.1, x1 / f.2)) (enc := encC) (by simpa [encC] using HO7.out) rfl) HA7.out), Lib.hid (HBV.out.trans (HMV.out.growB (by omega) HG7.out _)), by have := HG7.out.size; simpa using this, (stayO HG7.out (by omega) (HRO.out _ (by omega)) (by omega)).trans y2, (stayO HG7.out (by omega) (HRO.out _ (by omega)) (by omega)).trans y3⟩
    case rest =>
      clear HMV m0 m1 m2 m3 m4 fr3 y0 y1 y2 y3 za zb zc HBV
      obtain ⟨vb', rfl, HMV, HBV, hsx, y2, y3⟩ := hcut
      obtain ⟨m0, m1, m2, m3, m4⟩ := HMV.out.cells
      have fr4 := HMV.out.free 4
      have za := z1 (show w2.heap.size + 1 + 1 ≤ wc.heap.size by omega)
      have zc := z1 (show w5.heap.size + 1 + 1 ≤ wc.heap.size by omega)
      have hbs : w2.heap.size + 1 + 1 ≤ wc.heap.size := by omega
      obtain ⟨ba', bn', bc', hbe'⟩ : ∃ a n c, vb' = .slice a n c := by obtain ⟨a, c, e⟩ := HMV.out.ob.shape; exact ⟨a, _, c, e⟩
      subst hbe'
      go_wp2_with fail
      go_region_law (refine step_push (w0 := wc) rfl _ _ _ (by rfl) slCe2 HMV.out.oh (by rfl) (by rfl) (heap_alloc_new _ _) rfl rfl hlh (by omega) hbs (grown_drew (World.grownBy_alloc _ _ _)) ?_; intro g7 c7 w7 hown7 hg7 hat7; have n4 := (HMV.out.stayH hg7 4).1.trans m4; have nf := (HMV.out.stayH hg7 4).2.trans fr4; have HG7 := Lib.hid hg7; have HO7 := Lib.hid hown7; have HA7 := Lib.hid hat7; clear hown7 hg7 hat7)
      all_goals (try go_wp2_with fail)
      all_goals go_roundw
      all_goals first
        | (case measure => simp only [intOf]; omega)
        | (case rel => exact ⟨k + 1, _, _, hlt, by simp, Lib.hid (by rw [HTB.out, HTH.out]; exact HMV.out.pushH HG7.out (OwnOf.snoc (x := (x0 % f.1, x1 % f.2)) (enc := encC) (by simpa [encC] using HO7.out) rfl) HA7.out), Lib.hid (HBV.out.trans (HMV.out.growH (by omega) HG7.out _))⟩)
end Go.Proofs.YtnejicklenhpeaaGreat
