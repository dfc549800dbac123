/- The reference's fold: Asked, Of: their walks. The reference's folded array: Event: its walk. Conditions: none. -/
import Derived.Test.YtnejicklenhpeaaGreatFldO
namespace Go.Proofs.YtnejicklenhpeaaGreat
open Go.RowKit Go.Lib Go.WideMaps
set_option linter.unusedVariables false
set_option maxHeartbeats 4000000 in
set_option maxRecDepth 100000 in
theorem rfAsked_l (r : RecD) (s : SchedD) (u : P3) (f : Int × Int) (w : World) (hr : RecRd w r) (hs : SchedRd w s) :
    Calls Tryz.prog 26 #[.agg #[.int .i64 r.n, r.lv, r.vv], .agg #[.int .i64 s.f.1, .int .i64 s.f.2.1, .int .i64 s.f.2.2, s.ov], .agg #[.int .i64 u.1, .int .i64 u.2.1, .int .i64 u.2.2], .agg #[.int .i64 f.1, .int .i64 f.2]] w fun e w' => e = .returned (.int .i64 (foldE r s u f)) ∧ Below w.heap.size w w' := by
  have HR := Lib.hid hr
  have HS := Lib.hid hs
  clear hr hs
  have HAS := Lib.hid (fun (W : World) (h : RecRd W r) (h2 : SchedRd W s) => AskedSched_l r s u W h h2)
  obtain ⟨W0, hW0⟩ : ∃ W : World, (((w.alloc (Obj.cells #[.int .i64 r.n, r.lv, r.vv] 27)).alloc (Obj.cells #[.int .i64 s.f.1, .int .i64 s.f.2.1, .int .i64 s.f.2.2, s.ov] 47)).alloc (Obj.cells #[.int .i64 u.1, .int .i64 u.2.1, .int .i64 u.2.2] 29)).alloc (Obj.cells #[.int .i64 f.1, .int .i64 f.2] 31) = W := ⟨_, rfl⟩
  have kw0 : Below w.heap.size w W0 := by rw [← hW0]; exact (by repeat (first | exact Below.refl _ _ | assumption | (refine Below.drew ?_) | (refine below_drewN ?_ _) | (refine Below.alloc ?_ (by first | (simp; done) | (simp; omega) | omega) _) | (refine Below.setCell ?_ (by first | (simp; done) | (simp; omega) | omega) _) | (refine Below.trans ?_ (Below.mono (by assumption) (by first | (simp; done) | (simp; omega) | omega)))))
  have ks0 : W0.heap.size = w.heap.size + 4 := by rw [← hW0]; simp
  have RD0 := Lib.hid (show ∀ V, Below W0.heap.size W0 V → V.cell? ⟨w.heap.size, 0, none⟩ = some (.int .i64 r.n) ∧ V.cell? ⟨w.heap.size, 1, none⟩ = some (r.lv) ∧ V.cell? ⟨w.heap.size, 2, none⟩ = some (r.vv) ∧ V.cell? ⟨w.heap.size + 1, 0, none⟩ = some (.int .i64 s.f.1) ∧ V.cell? ⟨w.heap.size + 1, 1, none⟩ = some (.int .i64 s.f.2.1) ∧ V.cell? ⟨w.heap.size + 1, 2, none⟩ = some (.int .i64 s.f.2.2) ∧ V.cell? ⟨w.heap.size + 1, 3, none⟩ = some (s.ov) ∧ V.cell? ⟨w.heap.size + 1 + 1, 0, none⟩ = some (.int .i64 u.1) ∧ V.cell? ⟨w.heap.size + 1 + 1, 1, none⟩ = some (.int .i64 u.2.1) ∧ V.cell? ⟨w.heap.size + 1 + 1, 2, none⟩ = some (.int .i64 u.2.2) ∧ V.cell? ⟨w.heap.size + 1 + 1 + 1, 0, none⟩ = some (.int .i64 f.1) ∧ V.cell? ⟨w.heap.size + 1 + 1 + 1, 1, none⟩ = some (.int .i64 f.2) from fun V h => by
      refine ⟨(h.cell (p := ⟨w.heap.size, 0, none⟩) (by simp; omega)).trans ?_, (h.cell (p := ⟨w.heap.size, 1, none⟩) (by simp; omega)).trans ?_, (h.cell (p := ⟨w.heap.size, 2, none⟩) (by simp; omega)).trans ?_, (h.cell (p := ⟨w.heap.size + 1, 0, none⟩) (by simp; omega)).trans ?_, (h.cell (p := ⟨w.heap.size + 1, 1, none⟩) (by simp; omega)).trans ?_, (h.cell (p := ⟨w.heap.size + 1, 2, none⟩) (by simp; omega)).trans ?_, (h.cell (p := ⟨w.heap.size + 1, 3, none⟩) (by simp; omega)).trans ?_, (h.cell (p := ⟨w.heap.size + 1 + 1, 0, none⟩) (by simp; omega)).trans ?_, (h.cell (p := ⟨w.heap.size + 1 + 1, 1, none⟩) (by simp; omega)).trans ?_, (h.cell (p := ⟨w.heap.size + 1 + 1, 2, none⟩) (by simp; omega)).trans ?_, (h.cell (p := ⟨w.heap.size + 1 + 1 + 1, 0, none⟩) (by simp; omega)).trans ?_, (h.cell (p := ⟨w.heap.size + 1 + 1 + 1, 1, none⟩) (by simp; omega)).trans ?_⟩ <;> (subst hW0; go_simp))
  have HW0 := Lib.hid hW0; have KW0 := Lib.hid kw0; clear hW0 kw0
  by_cases ha : askS r s u = 0
  rotate_left
  · have HE := Lib.hid (show foldE r s u f = askS r s u by unfold foldE; rw [if_neg ha])
    have hnz : (askS r s u == 0) = false := by simpa using ha
    clear ha
    generalize askS r s u = A at *
    go_enter Tryz.func26, Tryz.ntmps26
    go_wp2_with (go_at_call 61; rw [HW0.out]; refine (HAS.out _ (HR.out.below KW0.out) (HS.out.below KW0.out)).mono ?_; go_must (rintro e w1 ⟨rfl, hb1⟩; have K0 := hb1; have HB1 := Lib.hid hb1; clear hb1; obtain ⟨k0_0, k0_1, k0_2, k0_3, k0_4, k0_5, k0_6, k0_7, k0_8, k0_9, k0_10, k0_11⟩ := RD0.out _ K0))
    go_ret
    exact ⟨by rw [HE.out]; rfl, (KW0.out.trans (K0.mono (by omega)))⟩
  have HE := Lib.hid (show foldE r s u f = if eachB f.1 f.2 1 8 = true then tabErr r s u else 2 by unfold foldE; rw [if_pos ha])
  have HAT := Lib.hid (fun (W : World) (h : RecRd W r) (h2 : SchedRd W s) => AskedTable_l r s u ha W h h2)
  have HZ := Lib.hid (fun (W : World) => rsize_any f.1 f.2 W)
  have HA := Lib.hid ha
  clear ha
  generalize tabErr r s u = T at *
  cases hz : eachB f.1 f.2 1 8
  all_goals
    rw [hz] at HE HZ
    go_enter Tryz.func26, Tryz.ntmps26
    go_wp2_with (first | (go_at_call 61; rw [HW0.out]; refine (HAS.out _ (HR.out.below KW0.out) (HS.out.below KW0.out)).mono ?_; go_must (rintro e w1 ⟨rfl, hb1⟩; have K0 := hb1; have HB1 := Lib.hid hb1; clear hb1; obtain ⟨k0_0, k0_1, k0_2, k0_3, k0_4, k0_5, k0_6, k0_7, k0_8, k0_9, k0_10, k0_11⟩ := RD0.out _ K0; rw [HA.out])) | (go_at_call 62; refine (HZ.out _).mono ?_; go_must (rintro e w2 ⟨rfl, hb2⟩; have K' := (by first | exact below_at K0 (by have := K0.size; omega) hb2 | exact below_at K0 (by have := K0.size; omega) (by repeat (first | exact Below.refl _ _ | assumption | (refine Below.drew ?_) | (refine below_drewN ?_ _) | (refine Below.alloc ?_ (by first | (simp; done) | (simp; omega) | omega) _) | (refine Below.setCell ?_ (by first | (simp; done) | (simp; omega) | omega) _) | (refine Below.trans ?_ (Below.mono (by assumption) (by first | (simp; done) | (simp; omega) | omega))))) : Below W0.heap.size W0 w2); have HB2 := Lib.hid hb2; clear K0 hb2; (try clear k0_0); (try clear k0_1); (try clear k0_2); (try clear k0_3); (try clear k0_4); (try clear k0_5); (try clear k0_6); (try clear k0_7); (try clear k0_8); (try clear k0_9); (try clear k0_10); (try clear k0_11); have K0 := K'; clear K'; obtain ⟨k0_0, k0_1, k0_2, k0_3, k0_4, k0_5, k0_6, k0_7, k0_8, k0_9, k0_10, k0_11⟩ := RD0.out _ K0)) | (go_at_call 67; refine (HAT.out _ (HR.out.below (KW0.out.trans (K0.mono (by omega)))) (HS.out.below (KW0.out.trans (K0.mono (by omega))))).mono ?_; go_must (rintro e w3 ⟨rfl, hb3⟩; have K' := (by first | exact below_at K0 (by have := K0.size; omega) hb3 | exact below_at K0 (by have := K0.size; omega) (by repeat (first | exact Below.refl _ _ | assumption | (refine Below.drew ?_) | (refine below_drewN ?_ _) | (refine Below.alloc ?_ (by first | (simp; done) | (simp; omega) | omega) _) | (refine Below.setCell ?_ (by first | (simp; done) | (simp; omega) | omega) _) | (refine Below.trans ?_ (Below.mono (by assumption) (by first | (simp; done) | (simp; omega) | omega))))) : Below W0.heap.size W0 w3); have HB3 := Lib.hid hb3; clear K0 hb3; (try clear k0_0); (try clear k0_1); (try clear k0_2); (try clear k0_3); (try clear k0_4); (try clear k0_5); (try clear k0_6); (try clear k0_7); (try clear k0_8); (try clear k0_9); (try clear k0_10); (try clear k0_11); have K0 := K'; clear K'; obtain ⟨k0_0, k0_1, k0_2, k0_3, k0_4, k0_5, k0_6, k0_7, k0_8, k0_9, k0_10, k0_11⟩ := RD0.out _ K0)))
    go_ret
    exact ⟨by rw [HE.out]; rfl, (KW0.out.trans (K0.mono (by omega)))⟩
/-- Two maps of which one is empty and one is not are not one map. -/
theorem maps_ne {α β : Type} {P : Program} {K K' : TypeId} {kv : α → Value} {kv' : β → Value} {w : World} {b n : Nat} {f0 : α → Option Value} {f : β → Option Value} (h0 : MapN P K kv w b 0 f0) (h1 : MapV P K' kv' w b n f) {a : β} {v : Value} (hf : f a = some v) {kl : Lit} (hk : keyOf P K' (kv' a) = some kl) : False := by
  obtain ⟨D0, ⟨es, cl, hb, F, hs, hD⟩, -⟩ := h0
  obtain ⟨D1, ⟨es1, cl1, hb1, F1, hs1, hD1⟩, hm1, hat⟩ := h1
  rw [hb] at hb1
  cases hb1
  have he : es = #[] := Array.eq_empty_of_size_eq_zero (by omega)
  subst he
  have := hat a kl (.map []) hk
  rw [hf, hD1] at this
  simp [WideAt.atKey_none] at this
theorem WorldAt.grown {w w' : World} {b bm n : Nat} {r : RecD} {pv : Value} {K : List P3} {mb : Nat} (h : WorldAt w b bm n r pv K) (hg : w.grownBy w' (some mb)) (hm : ∃ es cl, w.heap[mb]? = some (.map es cl)) (hne : bm ≠ mb) : WorldAt w' b bm n r pv K := by
  obtain ⟨es, cl, hm⟩ := hm
  have nc : ∀ (g o : Nat) (x : Value), w.cell? ⟨g, o, none⟩ = some x → g ≠ mb := by
    intro g o x hx e
    subst e
    simp [World.cell?, hm] at hx
  have hc : ∀ (g o : Nat) (x : Value), w.cell? ⟨g, o, none⟩ = some x → g < w.heap.size → w'.cell? ⟨g, o, none⟩ = some x := fun g o x hx hl => (World.cell?_of_block (a := ⟨g, o, none⟩) (hg.block g hl (fun e => nc g o x hx (Option.some.inj e)))).trans hx
  have hl := h.lt
  refine ⟨Nat.lt_of_lt_of_le hl hg.size, hc _ _ _ h.c0 hl, hc _ _ _ h.c1 hl, hc _ _ _ h.c2 hl, hc _ _ _ h.c3 hl, hc _ _ _ h.c4 hl, ?_, h.at_.grown hg (fun e => hne (Option.some.inj e))⟩
  obtain ⟨a', c', e', hl', hc', hm', h0', hr'⟩ := h.pts
  refine ⟨a', c', e', hl', hc', hm', h0', ?_⟩
  rcases hr' with h1 | ⟨g1, o1, ha1, hlt1, hr1⟩
  · exact .inl h1
  · refine .inr ⟨g1, o1, ha1, by have := hg.size; omega, fun i hi => ?_⟩
    have hx := hr1 i hi
    rw [← hx]
    rw [List.getElem?_eq_getElem (by rw [hl']; omega)] at hx
    rw [hx]
    exact hc _ _ _ hx hlt1
/-- The ranks of the blocks of a list that is strictly ordered: just so many keys. -/
abbrev RankN (w : World) (b : Nat) (B : List (Int × Int)) (k : Nat) : Prop := MapN Tryz.prog 31 ceV w b k (rankTo B k)
theorem rank_fresh {B : List (Int × Int)} (h : StrictC B) {k : Nat} (hk : k < B.length) : ∀ j, j ≤ k → rankTo B j B[k] = none
  | 0, _ => rfl
  | j + 1, hj => by
    show (if B[j]? = some B[k] then _ else _) = _
    rw [if_neg ?_]
    · exact rank_fresh h hk j (by omega)
    intro e
    rw [List.getElem?_eq_getElem (by omega)] at e
    have e2 := Option.some.inj e
    have := List.pairwise_iff_getElem.1 h j k (by omega) hk (by omega)
    rw [e2] at this
    unfold cltC at this
    omega
set_option maxRecDepth 100000 in
theorem RankN.step {w : World} {b k : Nat} {B : List (Int × Int)} (h : RankN w b B k) (hs : StrictC B) (hn : k < 1000000) (hk : k < B.length) (ha : wf2 B[k]) :
    ∃ w1, (Instr.mapUpdate 90 (.map (some b)) (ceV B[k]) (.int .i64 (k : Int))).run Tryz.prog w = .ok () w1 ∧ RankN w1 b B (k + 1) ∧ w.grownBy w1 (some b) := by
  obtain ⟨kl, hkl⟩ := key_cel B[k] ha
  obtain ⟨w1, hr, hm, hg⟩ := MapN.put_new h (Maps.Keyed.of_law law_cel) (t := 90) Tryz.underlying90 ceV_inj hn (rank_fresh hs hk k (Nat.le_refl _)) hkl (.int .i64 (k : Int))
  exact ⟨w1, hr, by unfold RankN; rw [rankTo_succ B k hk]; exact hm, hg⟩
def rowF (wb mb : Nat) (s : SchedD) (u : P3) (f : Int × Int) : List Value := [.pointer (some ⟨wb, 0, none⟩), .int .i64 s.f.1, .int .i64 s.f.2.1, .int .i64 s.f.2.2, s.ov, .int .i64 u.1, .int .i64 u.2.1, .int .i64 u.2.2, .int .i64 f.1, .int .i64 f.2, .map (some mb)]
def FolC (w : World) (fb wb mb : Nat) (s : SchedD) (u : P3) (f : Int × Int) : Prop := ∀ o, o < 11 → w.cell? ⟨fb, o, none⟩ = (rowF wb mb s u f)[o]?
theorem FolC.of_block {w w' : World} {fb wb mb : Nat} {s : SchedD} {u : P3} {f : Int × Int} (h : FolC w fb wb mb s u f) (hb : w'.heap[fb]? = w.heap[fb]?) : FolC w' fb wb mb s u f :=
  fun o ho => (World.cell?_of_block (a := ⟨fb, o, none⟩) hb).trans (h o ho)
/-- The reference's folded array, in block fb. -/
structure FoldedAt (w : World) (fb : Nat) (r : RecD) (s : SchedD) (u : P3) (f : Int × Int) : Prop where
  lt : fb < w.heap.size
  ex : ∃ wb bm n pv mb, FolC w fb wb mb s u f ∧ WorldAt w wb bm n r pv (ptsL r.n r.l) ∧ RankN w mb (blocksL r u f) (blocksL r u f).length
theorem FoldedAt.below {w w' : World} {fb : Nat} {r : RecD} {s : SchedD} {u : P3} {f : Int × Int} (h : FoldedAt w fb r s u f) (hb : Below w.heap.size w w') : FoldedAt w' fb r s u f := by
  obtain ⟨hl, wb, bm, n, pv, mb, hc, hw, hm⟩ := h
  exact ⟨Nat.lt_of_lt_of_le hl hb.size, wb, bm, n, pv, mb, hc.of_block (hb.block fb hl), hw.below hb, hm.kept hb⟩
set_option maxHeartbeats 8000000 in
set_option maxRecDepth 100000 in
theorem rfOf_l (r : RecD) (s : SchedD) (u : P3) (f : Int × Int) (ha : askS r s u = 0) (hz : eachB f.1 f.2 1 8 = true) (w : World) (hr : RecRd w r) :
    Calls Tryz.prog 65 #[.agg #[.int .i64 r.n, r.lv, r.vv], .agg #[.int .i64 s.f.1, .int .i64 s.f.2.1, .int .i64 s.f.2.2, s.ov], .agg #[.int .i64 u.1, .int .i64 u.2.1, .int .i64 u.2.2], .agg #[.int .i64 f.1, .int .i64 f.2]] w fun e w' => (∃ fb, e = .returned (.pointer (some ⟨fb, 0, none⟩)) ∧ FoldedAt w' fb r s u f) ∧ Below w.heap.size w w' := by
  have HR := Lib.hid hr
  clear hr
  obtain ⟨hv, hsb, hd, hae⟩ := askS_ok ha
  have hfb : (1 ≤ f.1 ∧ f.1 ≤ 8) ∧ (1 ≤ f.2 ∧ f.2 ≤ 8) := by simp only [eachB, decide_eq_true_eq] at hz; omega
  have HOF := Lib.hid (fun (W : World) (h : RecRd W r) => Of_l r hv W h)
  have HEA := Lib.hid (fun (W : World) (h : RecRd W r) => each_l r u f true hae hz W h)
  have HMD := Lib.hid (show sortC ((cellsL r u).map (eachF f true)) = blocksL r u f from rfl)
  have HCS := Lib.hid (cellsL_small hae)
  have HWB := Lib.hid (show ∀ b ∈ blocksL r u f, wf2 b from fun b hb => by
    unfold blocksL at hb
    rw [mem_sortC, List.mem_map] at hb
    obtain ⟨c, hc, rfl⟩ := hb
    obtain ⟨⟨c1, c2⟩, c3, c4⟩ := HCS.out c hc
    have d1 := div_bd c.1 f.1 hfb.1.1 hfb.1.2 (by omega) (by omega)
    have d2 := div_bd c.2 f.2 hfb.2.1 hfb.2.2 (by omega) (by omega)
    exact ⟨wf_sm (show _ ≤ c.1 / f.1 ∧ c.1 / f.1 ≤ _ by omega), wf_sm (show _ ≤ c.2 / f.2 ∧ c.2 / f.2 ≤ _ by omega)⟩)
  have HST := Lib.hid (show StrictC (blocksL r u f) from sortC_strict _)
  have hlB : (blocksL r u f).length ≤ 1000 := Nat.le_trans (sortC_len _) (by rw [List.length_map]; exact cellsL_len hae)
  have HBP := Lib.hid (show 0 < (blocksL r u f).length → ∃ p v kl, posF (ptsL r.n r.l) p = some v ∧ keyOf Tryz.prog 29 (ptV p) = some kl from fun h => by
    have h1 : (ptsL r.n r.l) ≠ [] := by
      intro e
      unfold blocksL cellsL at h
      rw [e] at h
      simp [sortC] at h
    obtain ⟨p, hp⟩ := List.exists_mem_of_ne_nil _ h1
    have hs := posF_is (ptsL r.n r.l) p
    rw [decide_eq_true hp] at hs
    obtain ⟨v, hvv⟩ := Option.isSome_iff_exists.1 hs
    have hsm := pts_sm hv hp
    obtain ⟨q0, q1, q2⟩ := hsm
    obtain ⟨kl, hk⟩ := key_pnt p ⟨wf_sm (by omega), wf_sm (by omega), wf_sm (by omega)⟩
    exact ⟨p, v, kl, hvv, hk⟩)
  clear hfb hz hv hsb hd hae ha HCS
  have hmm := @run_makeMap Tryz.prog
  obtain ⟨W0, hW0⟩ : ∃ W : World, (((w.alloc (Obj.cells #[.int .i64 r.n, r.lv, r.vv] 27)).alloc (Obj.cells #[.int .i64 s.f.1, .int .i64 s.f.2.1, .int .i64 s.f.2.2, s.ov] 47)).alloc (Obj.cells #[.int .i64 u.1, .int .i64 u.2.1, .int .i64 u.2.2] 29)).alloc (Obj.cells #[.int .i64 f.1, .int .i64 f.2] 31) = W := ⟨_, rfl⟩
  have kw0 : Below w.heap.size w W0 := by rw [← hW0]; exact (by repeat (first | exact Below.refl _ _ | assumption | (refine Below.drew ?_) | (refine below_drewN ?_ _) | (refine Below.alloc ?_ (by first | (simp; done) | (simp; omega) | omega) _) | (refine Below.setCell ?_ (by first | (simp; done) | (simp; omega) | omega) _) | (refine Below.trans ?_ (Below.mono (by assumption) (by first | (simp; done) | (simp; omega) | omega)))))
  have ks0 : W0.heap.size = w.heap.size + 4 := by rw [← hW0]; simp
  have RD0 := Lib.hid (show ∀ V, Below W0.heap.size W0 V → V.cell? ⟨w.heap.size, 0, none⟩ = some (.int .i64 r.n) ∧ V.cell? ⟨w.heap.size, 1, none⟩ = some (r.lv) ∧ V.cell? ⟨w.heap.size, 2, none⟩ = some (r.vv) ∧ V.cell? ⟨w.heap.size + 1, 0, none⟩ = some (.int .i64 s.f.1) ∧ V.cell? ⟨w.heap.size + 1, 1, none⟩ = some (.int .i64 s.f.2.1) ∧ V.cell? ⟨w.heap.size + 1, 2, none⟩ = some (.int .i64 s.f.2.2) ∧ V.cell? ⟨w.heap.size + 1, 3, none⟩ = some (s.ov) ∧ V.cell? ⟨w.heap.size + 1 + 1, 0, none⟩ = some (.int .i64 u.1) ∧ V.cell? ⟨w.heap.size + 1 + 1, 1, none⟩ = some (.int .i64 u.2.1) ∧ V.cell? ⟨w.heap.size + 1 + 1, 2, none⟩ = some (.int .i64 u.2.2) ∧ V.cell? ⟨w.heap.size + 1 + 1 + 1, 0, none⟩ = some (.int .i64 f.1) ∧ V.cell? ⟨w.heap.size + 1 + 1 + 1, 1, none⟩ = some (.int .i64 f.2) from fun V h => by
      refine ⟨(h.cell (p := ⟨w.heap.size, 0, none⟩) (by simp; omega)).trans ?_, (h.cell (p := ⟨w.heap.size, 1, none⟩) (by simp; omega)).trans ?_, (h.cell (p := ⟨w.heap.size, 2, none⟩) (by simp; omega)).trans ?_, (h.cell (p := ⟨w.heap.size + 1, 0, none⟩) (by simp; omega)).trans ?_, (h.cell (p := ⟨w.heap.size + 1, 1, none⟩) (by simp; omega)).trans ?_, (h.cell (p := ⟨w.heap.size + 1, 2, none⟩) (by simp; omega)).trans ?_, (h.cell (p := ⟨w.heap.size + 1, 3, none⟩) (by simp; omega)).trans ?_, (h.cell (p := ⟨w.heap.size + 1 + 1, 0, none⟩) (by simp; omega)).trans ?_, (h.cell (p := ⟨w.heap.size + 1 + 1, 1, none⟩) (by simp; omega)).trans ?_, (h.cell (p := ⟨w.heap.size + 1 + 1, 2, none⟩) (by simp; omega)).trans ?_, (h.cell (p := ⟨w.heap.size + 1 + 1 + 1, 0, none⟩) (by simp; omega)).trans ?_, (h.cell (p := ⟨w.heap.size + 1 + 1 + 1, 1, none⟩) (by simp; omega)).trans ?_⟩ <;> (subst hW0; go_simp))
  have HW0 := Lib.hid hW0; have KW0 := Lib.hid kw0; clear hW0 kw0
  go_enter Tryz.func65, Tryz.ntmps65
  go_wp2_with fail
  rw [HW0.out]
  have hsW : w.heap.size ≤ W0.heap.size := by omega
  have HK0 := Lib.hid ks0; clear ks0
  go_cut [9] from 12 to 19 (fun t9 wx => ∃ fb wb bm n pv mb, t9 = .pointer (some ⟨fb, 0, none⟩) ∧ fb < wx.heap.size ∧ Hid (FolC wx fb wb mb s u f) ∧ Hid (WorldAt wx wb bm n r pv (ptsL r.n r.l)) ∧ Hid (RankN wx mb (blocksL r u f) 0) ∧ W0.heap.size ≤ mb ∧ Below W0.heap.size W0 wx)
  case first =>
    go_region_held3 (fun w' => Below W0.heap.size W0 w' ∧ w'.cell? ⟨w.heap.size, 0, none⟩ = some (.int .i64 r.n) ∧ w'.cell? ⟨w.heap.size, 1, none⟩ = some (r.lv) ∧ w'.cell? ⟨w.heap.size, 2, none⟩ = some (r.vv) ∧ w'.cell? ⟨w.heap.size + 1, 0, none⟩ = some (.int .i64 s.f.1) ∧ w'.cell? ⟨w.heap.size + 1, 1, none⟩ = some (.int .i64 s.f.2.1) ∧ w'.cell? ⟨w.heap.size + 1, 2, none⟩ = some (.int .i64 s.f.2.2) ∧ w'.cell? ⟨w.heap.size + 1, 3, none⟩ = some (s.ov) ∧ w'.cell? ⟨w.heap.size + 1 + 1, 0, none⟩ = some (.int .i64 u.1) ∧ w'.cell? ⟨w.heap.size + 1 + 1, 1, none⟩ = some (.int .i64 u.2.1) ∧ w'.cell? ⟨w.heap.size + 1 + 1, 2, none⟩ = some (.int .i64 u.2.2) ∧ w'.cell? ⟨w.heap.size + 1 + 1 + 1, 0, none⟩ = some (.int .i64 f.1) ∧ w'.cell? ⟨w.heap.size + 1 + 1 + 1, 1, none⟩ = some (.int .i64 f.2)) (((refine (fun kb => (⟨kb, RD0.out _ kb⟩)) (?_ : Below W0.heap.size W0 _); exact (by repeat (first | (with_reducible exact Below.refl _ _) | (with_reducible assumption) | (with_reducible refine Below.drew ?_) | (with_reducible refine Below.setCell ?_ (by first | (simp; done) | (simp; omega) | omega) _) | (with_reducible refine Below.alloc ?_ (by first | (simp; done) | (simp; omega) | omega) _) | (with_reducible refine below_drewN ?_ _) | (refine Below.trans ?_ (Below.mono (by with_reducible assumption) (by first | (simp; done) | (simp; omega) | omega)))))))) (first | (go_at_call 63; refine (HOF.out _ (HR.out.below (KW0.out.trans (Below.mono (show Below W0.heap.size W0 _ from (by repeat (first | (with_reducible exact Below.refl _ _) | (with_reducible assumption) | (with_reducible refine Below.drew ?_) | (with_reducible refine Below.setCell ?_ (by first | (simp; done) | (simp; omega) | omega) _) | (with_reducible refine Below.alloc ?_ (by first | (simp; done) | (simp; omega) | omega) _) | (with_reducible refine below_drewN ?_ _) | (refine Below.trans ?_ (Below.mono (by with_reducible assumption) (by first | (simp; done) | (simp; omega) | omega)))))) hsW)))).mono ?_; go_must (rintro e w5 ⟨⟨wb, bm, n, pv, rfl, hwa⟩, hb5⟩; have hs5 := hb5.size; (try simp at hs5); have HWA := Lib.hid hwa; clear hwa)))
    all_goals (try go_wp2_with fail)
    all_goals go_meet
    · refine ⟨_, wb, bm, n, pv, w5.heap.size, rfl, by simp, Lib.hid ?_, Lib.hid (HWA.out.below (by repeat (first | (with_reducible exact Below.refl _ _) | (with_reducible assumption) | (with_reducible refine Below.drew ?_) | (with_reducible refine Below.setCell ?_ (by first | (simp; done) | (simp; omega) | omega) _) | (with_reducible refine Below.alloc ?_ (by first | (simp; done) | (simp; omega) | omega) _) | (with_reducible refine below_drewN ?_ _) | (refine Below.trans ?_ (Below.mono (by with_reducible assumption) (by first | (simp; done) | (simp; omega) | omega)))))), Lib.hid ((MapN.made Tryz.prog 31 ceV w5).kept ((Below.refl _ _).alloc (Nat.le_refl _) _)), hs5, by repeat (first | (with_reducible exact Below.refl _ _) | (with_reducible assumption) | (with_reducible refine Below.drew ?_) | (with_reducible refine Below.setCell ?_ (by first | (simp; done) | (simp; omega) | omega) _) | (with_reducible refine Below.alloc ?_ (by first | (simp; done) | (simp; omega) | omega) _) | (with_reducible refine below_drewN ?_ _) | (refine Below.trans ?_ (Below.mono (by with_reducible assumption) (by first | (simp; done) | (simp; omega) | omega))))⟩
      intro o ho
      obtain rfl | rfl | rfl | rfl | rfl | rfl | rfl | rfl | rfl | rfl | rfl : o = 0 ∨ o = 1 ∨ o = 2 ∨ o = 3 ∨ o = 4 ∨ o = 5 ∨ o = 6 ∨ o = 7 ∨ o = 8 ∨ o = 9 ∨ o = 10 := by omega
      all_goals (refine Eq.trans (?_ : _ = some _) rfl; go_simp)
    · refine ⟨_, wb, bm, n, pv, W0.heap.size, rfl, by simp, Lib.hid ?_, Lib.hid (HWA.out.below (by repeat (first | (with_reducible exact Below.refl _ _) | (with_reducible assumption) | (with_reducible refine Below.drew ?_) | (with_reducible refine Below.setCell ?_ (by first | (simp; done) | (simp; omega) | omega) _) | (with_reducible refine Below.alloc ?_ (by first | (simp; done) | (simp; omega) | omega) _) | (with_reducible refine below_drewN ?_ _) | (refine Below.trans ?_ (Below.mono (by with_reducible assumption) (by first | (simp; done) | (simp; omega) | omega)))))), Lib.hid (((MapN.made Tryz.prog 31 ceV W0.drew).kept hb5).kept ((Below.refl _ _).alloc (Nat.le_refl _) _)), Nat.le_refl _, by repeat (first | (with_reducible exact Below.refl _ _) | (with_reducible assumption) | (with_reducible refine Below.drew ?_) | (with_reducible refine Below.setCell ?_ (by first | (simp; done) | (simp; omega) | omega) _) | (with_reducible refine Below.alloc ?_ (by first | (simp; done) | (simp; omega) | omega) _) | (with_reducible refine below_drewN ?_ _) | (refine Below.trans ?_ (Below.mono (by with_reducible assumption) (by first | (simp; done) | (simp; omega) | omega))))⟩
      intro o ho
      obtain rfl | rfl | rfl | rfl | rfl | rfl | rfl | rfl | rfl | rfl | rfl : o = 0 ∨ o = 1 ∨ o = 2 ∨ o = 3 ∨ o = 4 ∨ o = 5 ∨ o = 6 ∨ o = 7 ∨ o = 8 ∨ o = 9 ∨ o = 10 := by omega
      all_goals (refine Eq.trans (?_ : _ = some _) rfl; go_simp)
  case rest =>
    obtain ⟨fb, wb, bm, n, pv, mb, rfl, hfl, HC, HWA, HM, hmb, hb0⟩ := hcut
    have hs0 := hb0.size
    obtain ⟨b0, b1, b2, b3, b4, b5, b6, b7, b8, b9, b10, b11⟩ := RD0.out wc hb0
    have KC := Lib.hid (KW0.out.trans (hb0.mono hsW))
    clear HOF
    go_wp2_with (go_at_call 48; refine (HEA.out _ (HR.out.below KC.out)).mono ?_; go_must (rintro e w6 ⟨⟨v6, rfl, hsl⟩, hb6⟩; rw [HMD.out] at hsl; have hsh : ∃ a c, v6 = .slice a (blocksL r u f).length c := (by obtain ⟨a, c, e, -⟩ := hsl.shape; exact ⟨a, c, e⟩); obtain ⟨va, vc, rfl⟩ := hsh; have HSL := Lib.hid hsl; have HB6 := Lib.hid hb6; clear hsl hb6))
    clear b0 b1 b2 b3 b4 b5 b6 b7 b8 b9 b10 b11
    have hs6 := HB6.out.size
    have HB06 := Lib.hid (hb0.trans (HB6.out.mono hs0))
    have HC6 := Lib.hid (FolC.of_block HC.out (HB6.out.block fb hfl))
    have HWA6 := Lib.hid (HWA.out.below HB6.out)
    have HM6 := Lib.hid (MapN.kept HM.out HB6.out)
    have hfl6 : fb < w6.heap.size := by omega
    clear HC HWA HM HEA HMD
    have hml : mb < w6.heap.size := HM6.out.mapV.lt
    have HMO := Lib.hid (show ∃ es cl, w6.heap[mb]? = some (.map es cl) by obtain ⟨D, ⟨es, cl, hb, -⟩, -⟩ := HM6.out; exact ⟨es, cl, hb⟩)
    have HNC := Lib.hid (show ∀ (g o : Nat) (x : Value), w6.cell? ⟨g, o, none⟩ = some x → some g ≠ some mb from fun g o x hx e => by
      obtain ⟨es, cl, hm⟩ := HMO.out
      cases e
      simp [World.cell?, hm] at hx)
    have hfm : some fb ≠ some mb := HNC.out fb 0 _ (HC6.out 0 (by omega))
    have HBM := Lib.hid (show 0 < (blocksL r u f).length → bm ≠ mb from fun h e => by
      obtain ⟨p, v, kl, h1, h2⟩ := HBP.out h
      subst e
      exact maps_ne HM6.out HWA6.out.at_ h1 h2)
    have HEND := Lib.hid (show ∀ wr : World, w6.grownBy wr (some mb) → RankN wr mb (blocksL r u f) (blocksL r u f).length → 0 < (blocksL r u f).length → FoldedAt wr fb r s u f from fun wr hg hm hp => ⟨by have := hg.size; omega, wb, bm, n, pv, mb, HC6.out.of_block (hg.block fb hfl6 hfm), HWA6.out.grown hg HMO.out (HBM.out hp), hm⟩)
    have HEND0 := Lib.hid (show (blocksL r u f).length = 0 → FoldedAt w6 fb r s u f from fun h => ⟨hfl6, wb, bm, n, pv, mb, HC6.out, HWA6.out, by rw [h]; exact HM6.out⟩)
    have c10 := HC6.out 10 (by omega)
    change _ = some (Value.map (some mb)) at c10
    clear HBP HBM HWA6 HC6 HMO
    obtain ⟨xa, xc, g, off, he, hlc, hcm, hx⟩ := SlOf.at (enc := encC) (fun _ => rfl) un_ce sz_ce HSL.out
    cases he
    have HX := Lib.hid hx
    clear hx HSL
    generalize hBe : blocksL r u f = B at *
    go_wp2_with fail
    go_loopw [11] (fun t11 wr => ∃ k : Nat, k ≤ B.length ∧ t11 = .int .i64 (k : Int) ∧ Hid (RankN wr mb B k) ∧ Hid (w6.grownBy wr (some mb)) ∧ Hid (B.length = 0 → FoldedAt wr fb r s u f)) (fun t11 _ => B.length - (intOf t11).toNat)
    case atStart => exact ⟨0, Nat.zero_le _, rfl, HM6, Lib.hid (grown_refl _ _), HEND0⟩
    case round =>
      clear HEND0
      obtain ⟨k, hk, rfl, HMK, HG, HE0⟩ := hrel
      have hsg := HG.out.size
      have HBE := Lib.hid (below_at KW0.out hsW (HB06.out.grown HG.out (by omega) (fun r e => by cases e; exact hmb)))
      by_cases hlt : k < B.length
      rotate_left
      · have hke : k = B.length := by omega
        subst hke
        have HF := Lib.hid (show FoldedAt wr fb r s u f from if h : B.length = 0 then HE0.out h else HEND.out wr HG.out HMK.out (by omega))
        go_wp2_with fail
        go_ret
        exact ⟨⟨_, rfl, HF.out⟩, HBE.out⟩
      have hkl : (k : Int) < (B.length : Int) := by omega
      have hk0 : (0 : Int) ≤ (k : Int) := by omega
      obtain ⟨-, hi, hg, hc⟩ := HX.out k hlt
      have r0 := (World.cell?_of_block (a := ⟨g, off + 2 * k + 0, none⟩) (HG.out.block g hg (HNC.out g _ _ (hc 0 (by omega))))).trans (hc 0 (by omega))
      have r1 := (World.cell?_of_block (a := ⟨g, off + 2 * k + 1, none⟩) (HG.out.block g hg (HNC.out g _ _ (hc 0 (by omega))))).trans (hc 1 (by omega))
      have d10 := (World.cell?_of_block (a := ⟨fb, 10, none⟩) (HG.out.block fb hfl6 hfm)).trans c10
      have hwb := HWB.out B[k] (List.getElem_mem hlt)
      obtain ⟨w9, hr9, hm9, hg9⟩ := RankN.step (MapN.kept HMK.out ((Below.refl _ wr).drew)) HST.out (by omega) hlt hwb
      generalize B[k] = c at *
      obtain ⟨x0, x1⟩ := c
      simp [encC] at r0 r1
      simp only [ceV] at hr9
      have HM9 := Lib.hid hm9
      have HG9 := Lib.hid (show w6.grownBy w9 (some mb) from HG.out.trans ((grown_drew (grown_refl _ _)).trans hg9))
      clear hc hm9 hg9
      go_wp2_with fail
      go_region
      all_goals
        go_wp2_with fail
        go_roundw
        case rel => exact ⟨k + 1, hlt, by simp, HM9, HG9, Lib.hid (fun h => by omega)⟩
        case measure => simp only [intOf]; omega
end Go.Proofs.YtnejicklenhpeaaGreat
namespace Go.Proofs.YtnejicklenhpeaaGreat
open Go.RowKit Go.Lib
set_option linter.unusedVariables false
theorem keepS_setS {S : Nat → Prop} {N0 : Nat} {W V : World} (h : KeepS S N0 W V) {p : Addr} (hp : S p.block) (x : Value) : KeepS S N0 W (V.setCell p x) := by
  refine ⟨by have := h.1; simpa [World.setCell] using this, fun b hb hs => ?_⟩
  rw [← h.2 b hb hs]
  simp only [World.setCell, Array.getElem?_modify]
  rw [if_neg (fun e : p.block = b => hs (e ▸ hp))]
theorem keepS_cell {S : Nat → Prop} {N0 : Nat} {W V : World} (h : KeepS S N0 W V) {p : Addr} (hb : p.block < N0) (hs : ¬ S p.block) : V.cell? p = W.cell? p := World.cell?_of_block (h.2 _ hb hs)
set_option maxHeartbeats 16000000 in
set_option maxRecDepth 100000 in
theorem rFoldedEvent_l (r : RecD) (s : SchedD) (u : P3) (f : Int × Int) (ha : askS r s u = 0) (hz : eachB f.1 f.2 1 8 = true) (v : Nat) (hv : v < r.vars.length) (p : P3) (hp : p ∈ ptsL r.n r.l) (fb : Nat) (w : World) (hs : SchedRd w s) (hf : FoldedAt w fb r s u f) :
    Calls Tryz.prog 66 #[.pointer (some ⟨fb, 0, none⟩), .agg #[.int .i64 (v : Int), .int .i64 p.1, .int .i64 p.2.1, .int .i64 p.2.2]] w fun e w' => e = .returned (evD (foldEv (blocksL r u f) f (evAt r s u v p))) ∧ Below w.heap.size w w' := by
  have hae := (askS_ok ha).2.2.2
  have hfb : (1 ≤ f.1 ∧ f.1 ≤ 8) ∧ (1 ≤ f.2 ∧ f.2 ≤ 8) := by simp only [eachB, decide_eq_true_eq] at hz; omega
  obtain ⟨ht, hcc, -⟩ := evs_small ha (mem_evsL.2 ⟨v, hv, p, hp, rfl⟩)
  have hlB : (blocksL r u f).length ≤ 1000 := Nat.le_trans (sortC_len _) (by rw [List.length_map]; exact cellsL_len hae)
  have HT := Lib.hid (fun (W : World) (h : SchedRd W s) => Time_l r s u ha v hv p hp W h)
  have HF := Lib.hid (fun (W : World) => show Calls Tryz.prog 55 #[.int .i64 r.n, .agg #[.int .i64 u.1, .int .i64 u.2.1, .int .i64 u.2.2], .agg #[.int .i64 p.1, .int .i64 p.2.1, .int .i64 p.2.2]] W fun e w' => e = .returned (.agg #[.int .i64 (evAt r s u v p).c.1, .int .i64 (evAt r s u v p).c.2]) ∧ Below W.heap.size W w' from rfold_key (s := s) ha hp W)
  have HEV := Lib.hid (show evD (foldEv (blocksL r u f) f (evAt r s u v p)) = evD ⟨(evAt r s u v p).t * ((blocksL r u f).length : Int) + (posTo (blocksL r u f) (blocksL r u f).length (blkC f (evAt r s u v p).c) : Int), ((evAt r s u v p).c.1 % f.1, (evAt r s u v p).c.2 % f.2), ((v : Int), p)⟩ from rfl)
  have HS := Lib.hid hs
  rw [HEV.out]
  clear HEV
  generalize (evAt r s u v p).t = t at *
  generalize (evAt r s u v p).c = c at *
  have HWF := Lib.hid (blk_wf hfb hcc)
  have HBL := Lib.hid (fun (W : World) => rblock_any c.1 c.2 f.1 f.2 W hfb.1.1 hfb.1.2 hfb.2.1 hfb.2.2 hcc.1.1 hcc.1.2 hcc.2.1 hcc.2.2)
  have HHO := Lib.hid (fun (W : World) => rhome_any c.1 c.2 f.1 f.2 W hfb.1.1 hfb.1.2 hfb.2.1 hfb.2.2 hcc.1.1 hcc.1.2 hcc.2.1 hcc.2.2)
  have hpl := pos_le (blocksL r u f) (blkC f c) (blocksL r u f).length
  have hft := fold_time ht (show (0 : Int) ≤ ((blocksL r u f).length : Int) ∧ ((blocksL r u f).length : Int) ≤ 1000 by omega) (show (0 : Int) ≤ (posTo (blocksL r u f) (blocksL r u f).length (blkC f c) : Int) ∧ (posTo (blocksL r u f) (blocksL r u f).length (blkC f c) : Int) ≤ 1000 by omega)
  obtain ⟨hlt, wb, bm, n, pv, mb, hc, hw, hm⟩ := hf
  have HLK := Lib.hid (fun (V : World) (hV : V.heap[mb]? = w.heap[mb]?) => RankM.look (hm.of_block hV).mapV (blkC f c) HWF.out V (Below.refl _ _))
  have HLN := Lib.hid (fun (V : World) (hV : V.heap[mb]? = w.heap[mb]?) (ty : TypeId) => MapN.len (t := 90) (hm.of_block hV) Tryz.underlying90 ty)
  have hlw := hw.lt
  have hlm := hm.mapV.lt
  have x0 := hw.c0
  have y0 := hc 0 (by omega)
  have y1 := hc 1 (by omega)
  have y2 := hc 2 (by omega)
  have y3 := hc 3 (by omega)
  have y4 := hc 4 (by omega)
  have y5 := hc 5 (by omega)
  have y6 := hc 6 (by omega)
  have y7 := hc 7 (by omega)
  have y8 := hc 8 (by omega)
  have y9 := hc 9 (by omega)
  have y10 := hc 10 (by omega)
  change _ = some (Value.pointer (some ⟨wb, 0, none⟩)) at y0
  change _ = some (Value.int .i64 s.f.1) at y1
  change _ = some (Value.int .i64 s.f.2.1) at y2
  change _ = some (Value.int .i64 s.f.2.2) at y3
  change _ = some s.ov at y4
  change _ = some (Value.int .i64 u.1) at y5
  change _ = some (Value.int .i64 u.2.1) at y6
  change _ = some (Value.int .i64 u.2.2) at y7
  change _ = some (Value.int .i64 f.1) at y8
  change _ = some (Value.int .i64 f.2) at y9
  change _ = some (Value.map (some mb)) at y10
  clear hc hw hm ha hae hz hp hv hs hfb hcc HWF
  have VD := Lib.hid (show ∀ V, Below w.heap.size w V → V.cell? ⟨fb, 0, none⟩ = some (.pointer (some ⟨wb, 0, none⟩)) ∧ V.cell? ⟨fb, 1, none⟩ = some (.int .i64 s.f.1) ∧ V.cell? ⟨fb, 2, none⟩ = some (.int .i64 s.f.2.1) ∧ V.cell? ⟨fb, 3, none⟩ = some (.int .i64 s.f.2.2) ∧ V.cell? ⟨fb, 4, none⟩ = some (s.ov) ∧ V.cell? ⟨fb, 5, none⟩ = some (.int .i64 u.1) ∧ V.cell? ⟨fb, 6, none⟩ = some (.int .i64 u.2.1) ∧ V.cell? ⟨fb, 7, none⟩ = some (.int .i64 u.2.2) ∧ V.cell? ⟨fb, 8, none⟩ = some (.int .i64 f.1) ∧ V.cell? ⟨fb, 9, none⟩ = some (.int .i64 f.2) ∧ V.cell? ⟨fb, 10, none⟩ = some (.map (some mb)) ∧ V.cell? ⟨wb, 0, none⟩ = some (.int .i64 r.n) from fun V h => ⟨(h.cell (p := ⟨fb, 0, none⟩) hlt).trans (by assumption), (h.cell (p := ⟨fb, 1, none⟩) hlt).trans (by assumption), (h.cell (p := ⟨fb, 2, none⟩) hlt).trans (by assumption), (h.cell (p := ⟨fb, 3, none⟩) hlt).trans (by assumption), (h.cell (p := ⟨fb, 4, none⟩) hlt).trans (by assumption), (h.cell (p := ⟨fb, 5, none⟩) hlt).trans (by assumption), (h.cell (p := ⟨fb, 6, none⟩) hlt).trans (by assumption), (h.cell (p := ⟨fb, 7, none⟩) hlt).trans (by assumption), (h.cell (p := ⟨fb, 8, none⟩) hlt).trans (by assumption), (h.cell (p := ⟨fb, 9, none⟩) hlt).trans (by assumption), (h.cell (p := ⟨fb, 10, none⟩) hlt).trans (by assumption), (h.cell (p := ⟨wb, 0, none⟩) hlw).trans (by assumption)⟩)
  clear x0 y0 y1 y2 y3 y4 y5 y6 y7 y8 y9 y10
  generalize hP : posTo (blocksL r u f) (blocksL r u f).length (blkC f c) = P at *
  generalize (blocksL r u f).length = N at *
  have hbe : blkC f c = (c.1 / f.1, c.2 / f.2) := rfl
  rw [hbe] at HLK
  clear hP hbe
  obtain ⟨ca, cb⟩ := c
  obtain ⟨p0, p1, p2⟩ := p
  simp only at HLK HF HBL HHO ht hft
  generalize hd0 : ca / f.1 = d0 at *
  generalize hd1 : cb / f.2 = d1 at *
  generalize hg0 : ca % f.1 = g0 at *
  generalize hg1 : cb % f.2 = g1 at *
  clear hd0 hd1 hg0 hg1
  simp only [ceV] at HLK
  obtain ⟨W0, hW0⟩ : ∃ W : World, w.alloc (Obj.cells #[.int .i64 (v : Int), .int .i64 p0, .int .i64 p1, .int .i64 p2] 51) = W := ⟨_, rfl⟩
  have kw0 : Below w.heap.size w W0 := by rw [← hW0]; exact (by repeat (first | exact Below.refl _ _ | assumption | (refine Below.drew ?_) | (refine below_drewN ?_ _) | (refine Below.alloc ?_ (by first | (simp; done) | (simp; omega) | omega) _) | (refine Below.setCell ?_ (by first | (simp; done) | (simp; omega) | omega) _) | (refine Below.trans ?_ (Below.mono (by assumption) (by first | (simp; done) | (simp; omega) | omega)))))
  have ks0 : W0.heap.size = w.heap.size + 1 := by rw [← hW0]; simp
  have RD0 := Lib.hid (show ∀ V, Below W0.heap.size W0 V → V.cell? ⟨w.heap.size, 0, none⟩ = some (.int .i64 (v : Int)) ∧ V.cell? ⟨w.heap.size, 1, none⟩ = some (.int .i64 p0) ∧ V.cell? ⟨w.heap.size, 2, none⟩ = some (.int .i64 p1) ∧ V.cell? ⟨w.heap.size, 3, none⟩ = some (.int .i64 p2) from fun V h => by
      refine ⟨(h.cell (p := ⟨w.heap.size, 0, none⟩) (by simp; omega)).trans ?_, (h.cell (p := ⟨w.heap.size, 1, none⟩) (by simp; omega)).trans ?_, (h.cell (p := ⟨w.heap.size, 2, none⟩) (by simp; omega)).trans ?_, (h.cell (p := ⟨w.heap.size, 3, none⟩) (by simp; omega)).trans ?_⟩ <;> (subst hW0; go_simp))
  have HW0 := Lib.hid hW0; have KW0 := Lib.hid kw0; clear hW0 kw0
  have hks : w.heap.size ≤ W0.heap.size := by omega
  unfold evD
  go_enter Tryz.func66, Tryz.ntmps66
  go_wp2_with fail
  rw [HW0.out]
  refine forgetW (fun V => Below W0.heap.size W0 V ∧ V.heap[W0.heap.size]? = some (.cells #[.int .i64 0, .int .i64 0, .int .i64 0, .int .i64 0, .int .i64 0, .int .i64 0, .int .i64 0] 54 (0, 0))) ⟨by exact (by repeat (first | exact Below.refl _ _ | assumption | (refine Below.drew ?_) | (refine below_drewN ?_ _) | (refine Below.alloc ?_ (by first | (simp; done) | (simp; omega) | omega) _) | (refine Below.setCell ?_ (by first | (simp; done) | (simp; omega) | omega) _) | (refine Below.trans ?_ (Below.mono (by assumption) (by first | (simp; done) | (simp; omega) | omega))))), alloc_atF W0 _⟩ ?_
  rintro V ⟨hv, hb4⟩
  have hsv := hv.size
  have h4 := lt_of_block hb4
  have HBV := Lib.hid (below_at KW0.out hks hv)
  have hsw := HBV.out.size
  have HSC := Lib.hid (fun (W : World) (kb : Below V.heap.size V W) => And.intro (VD.out W (HBV.out.trans (kb.mono hsw))) (RD0.out W (hv.trans (kb.mono hsv))))
  go_cut [5] from 6 to 21 (fun t5 wx => ∃ g5, t5 = .pointer (some ⟨g5, 0, none⟩) ∧ V.heap.size ≤ g5 ∧ g5 < wx.heap.size ∧ wx.cell? ⟨g5, 0, none⟩ = some (.int .i64 ca) ∧ wx.cell? ⟨g5, 1, none⟩ = some (.int .i64 cb) ∧ Below V.heap.size V wx)
  case first =>
    go_region_held3 (fun w' => Below V.heap.size V w' ∧ (w'.cell? ⟨fb, 0, none⟩ = some (.pointer (some ⟨wb, 0, none⟩)) ∧ w'.cell? ⟨fb, 1, none⟩ = some (.int .i64 s.f.1) ∧ w'.cell? ⟨fb, 2, none⟩ = some (.int .i64 s.f.2.1) ∧ w'.cell? ⟨fb, 3, none⟩ = some (.int .i64 s.f.2.2) ∧ w'.cell? ⟨fb, 4, none⟩ = some (s.ov) ∧ w'.cell? ⟨fb, 5, none⟩ = some (.int .i64 u.1) ∧ w'.cell? ⟨fb, 6, none⟩ = some (.int .i64 u.2.1) ∧ w'.cell? ⟨fb, 7, none⟩ = some (.int .i64 u.2.2) ∧ w'.cell? ⟨fb, 8, none⟩ = some (.int .i64 f.1) ∧ w'.cell? ⟨fb, 9, none⟩ = some (.int .i64 f.2) ∧ w'.cell? ⟨fb, 10, none⟩ = some (.map (some mb)) ∧ w'.cell? ⟨wb, 0, none⟩ = some (.int .i64 r.n)) ∧ (w'.cell? ⟨w.heap.size, 0, none⟩ = some (.int .i64 (v : Int)) ∧ w'.cell? ⟨w.heap.size, 1, none⟩ = some (.int .i64 p0) ∧ w'.cell? ⟨w.heap.size, 2, none⟩ = some (.int .i64 p1) ∧ w'.cell? ⟨w.heap.size, 3, none⟩ = some (.int .i64 p2))) (((refine (fun kb => (⟨kb, HSC.out _ kb⟩)) (?_ : Below V.heap.size V _); exact (by repeat (first | exact Below.refl _ _ | assumption | (refine Below.drew ?_) | (refine below_drewN ?_ _) | (refine Below.alloc ?_ (by first | (simp; done) | (simp; omega) | omega) _) | (refine Below.setCell ?_ (by first | (simp; done) | (simp; omega) | omega) _) | (refine Below.trans ?_ (Below.mono (by assumption) (by first | (simp; done) | (simp; omega) | omega)))))))) (first | (go_at_call 55; refine (HF.out _).mono ?_; go_must (rintro e w5 ⟨rfl, hb5⟩; have hs5 := hb5.size; (try simp at hs5); obtain ⟨hc5, hf5⟩ := bcell hb5; (first | have z := z10 hs5 | have z := z9 hs5 | have z := z8 hs5 | have z := z7 hs5 | have z := z6 hs5 | have z := z5 hs5 | have z := z4 hs5 | have z := z3 hs5 | have z := z2 hs5 | have z := z1 hs5 | skip))))
    all_goals (try go_wp2_with fail)
    all_goals go_meet
    all_goals first
      | (have q0 : w5.cell? ⟨V.heap.size, 0, none⟩ = some (.int .i64 0) := (hc5 _ _ (by first | (simp; done) | (simp; omega))).trans (by first | (go_simp; done)); have q1 : w5.cell? ⟨V.heap.size, 1, none⟩ = some (.int .i64 0) := (hc5 _ _ (by first | (simp; done) | (simp; omega))).trans (by first | (go_simp; done)); refine ⟨_, rfl, by first | omega | (simp; done) | (simp; omega), by first | omega | (simp; done) | (simp; omega), by (go_simp; done), by (go_simp; done), by repeat (first | exact Below.refl _ _ | assumption | (refine Below.drew ?_) | (refine below_drewN ?_ _) | (refine Below.alloc ?_ (by first | (simp; done) | (simp; omega) | omega) _) | (refine Below.setCell ?_ (by first | (simp; done) | (simp; omega) | omega) _) | (refine Below.trans ?_ (Below.mono (by assumption) (by first | (simp; done) | (simp; omega) | omega))))⟩)
      | (refine ⟨_, rfl, by first | omega | (simp; done) | (simp; omega), by first | omega | (simp; done) | (simp; omega), by (go_simp; done), by (go_simp; done), by repeat (first | exact Below.refl _ _ | assumption | (refine Below.drew ?_) | (refine below_drewN ?_ _) | (refine Below.alloc ?_ (by first | (simp; done) | (simp; omega) | omega) _) | (refine Below.setCell ?_ (by first | (simp; done) | (simp; omega) | omega) _) | (refine Below.trans ?_ (Below.mono (by assumption) (by first | (simp; done) | (simp; omega) | omega))))⟩)
  case rest =>
    obtain ⟨g5, rfl, h5, h5', z0, z1', hbx⟩ := hcut
    have hwc : w.heap.size ≤ wc.heap.size := by have := hbx.size; omega
    have HKW := Lib.hid (HBV.out.trans (hbx.mono hsw))
    have hb4x := (hbx.block W0.heap.size h4).trans hb4
    obtain ⟨v0, v1, v2, v3, v4, v5, v6, v7, v8, v9, v10, v11⟩ := VD.out wc HKW.out
    obtain ⟨b0, b1, b2, b3⟩ := RD0.out wc (hv.trans (hbx.mono hsv))
    rw [ks0] at hb4x
    have hrl : w.heap.size + 1 < wc.heap.size := lt_of_block hb4x
    have q1 : fb < wc.heap.size := by omega
    have q2 : wb < wc.heap.size := by omega
    have q3 : w.heap.size < wc.heap.size := by omega
    have qm : mb < wc.heap.size := by omega
    have nm : ¬ mb = w.heap.size + 1 := by omega
    have n1 : ¬ fb = w.heap.size + 1 := by omega
    have n2 : ¬ wb = w.heap.size + 1 := by omega
    have n3 : ¬ w.heap.size = w.heap.size + 1 := by omega
    have n4 : ¬ g5 = w.heap.size + 1 := by omega
    have e1 : IntKind.i64.wrap (t * (N : Int)) = t * (N : Int) := IntWalk.i64_in _ (by omega)
    have e2 : IntKind.i64.wrap (t * (N : Int) + (P : Int)) = t * (N : Int) + (P : Int) := IntWalk.i64_in _ (by omega)
    have S1 := Lib.hid (fun (W : World) (kb : KeepS (fun b => b = w.heap.size + 1) wc.heap.size wc W) => And.intro kb (And.intro (HLK.out W ((kb.2 mb qm nm).trans (HKW.out.block mb hlm))) (And.intro (HLN.out W ((kb.2 mb qm nm).trans (HKW.out.block mb hlm))) (And.intro ((keepS_cell kb (p := ⟨fb, 0, none⟩) q1 n1).trans v0) (And.intro ((keepS_cell kb (p := ⟨fb, 1, none⟩) q1 n1).trans v1) (And.intro ((keepS_cell kb (p := ⟨fb, 2, none⟩) q1 n1).trans v2) (And.intro ((keepS_cell kb (p := ⟨fb, 3, none⟩) q1 n1).trans v3) (And.intro ((keepS_cell kb (p := ⟨fb, 4, none⟩) q1 n1).trans v4) (And.intro ((keepS_cell kb (p := ⟨fb, 8, none⟩) q1 n1).trans v8) (And.intro ((keepS_cell kb (p := ⟨fb, 9, none⟩) q1 n1).trans v9) (And.intro ((keepS_cell kb (p := ⟨fb, 10, none⟩) q1 n1).trans v10) (And.intro ((keepS_cell kb (p := ⟨w.heap.size, 0, none⟩) q3 n3).trans b0) (And.intro ((keepS_cell kb (p := ⟨w.heap.size, 1, none⟩) q3 n3).trans b1) (And.intro ((keepS_cell kb (p := ⟨w.heap.size, 2, none⟩) q3 n3).trans b2) (And.intro ((keepS_cell kb (p := ⟨w.heap.size, 3, none⟩) q3 n3).trans b3) (And.intro ((keepS_cell kb (p := ⟨g5, 0, none⟩) h5' n4).trans z0) ((keepS_cell kb (p := ⟨g5, 1, none⟩) h5' n4).trans z1')))))))))))))))))
    clear v0 v1 v2 v3 v4 v5 v6 v7 v8 v9 v10 v11 b0 b1 b2 b3 z0 z1' hft ht HSC hv hb4 hbx VD RD0 n1 n2 n3 n4 q1 q2 q3 HF
    go_wp2_with fail
    go_region_held3 (fun w' => KeepS (fun b => b = w.heap.size + 1) wc.heap.size wc w' ∧ (Instr.lookup 90 (.map (some mb)) (.agg #[.int .i64 d0, .int .i64 d1]) false).run Tryz.prog w' = .ok (.int .i64 (P : Int)) w' ∧ (∀ ty, (Builtin.len_ #[90] ty #[.map (some mb)]).run Tryz.prog w' = .ok (.int .i64 (N : Int)) w') ∧ w'.cell? ⟨fb, 0, none⟩ = some (.pointer (some ⟨wb, 0, none⟩)) ∧ w'.cell? ⟨fb, 1, none⟩ = some (.int .i64 s.f.1) ∧ w'.cell? ⟨fb, 2, none⟩ = some (.int .i64 s.f.2.1) ∧ w'.cell? ⟨fb, 3, none⟩ = some (.int .i64 s.f.2.2) ∧ w'.cell? ⟨fb, 4, none⟩ = some s.ov ∧ w'.cell? ⟨fb, 8, none⟩ = some (.int .i64 f.1) ∧ w'.cell? ⟨fb, 9, none⟩ = some (.int .i64 f.2) ∧ w'.cell? ⟨fb, 10, none⟩ = some (.map (some mb)) ∧ w'.cell? ⟨w.heap.size, 0, none⟩ = some (.int .i64 (v : Int)) ∧ w'.cell? ⟨w.heap.size, 1, none⟩ = some (.int .i64 p0) ∧ w'.cell? ⟨w.heap.size, 2, none⟩ = some (.int .i64 p1) ∧ w'.cell? ⟨w.heap.size, 3, none⟩ = some (.int .i64 p2) ∧ w'.cell? ⟨g5, 0, none⟩ = some (.int .i64 ca) ∧ w'.cell? ⟨g5, 1, none⟩ = some (.int .i64 cb)) ((refine S1.out _ ?_; (repeat (with_reducible refine keepS_setS ?_ (by rfl) _)); exact KeepS.of_below (show Below wc.heap.size wc _ from (by repeat (first | (with_reducible exact Below.refl _ _) | (with_reducible assumption) | (with_reducible refine Below.drew ?_) | (with_reducible refine Below.setCell ?_ (by first | (simp; done) | (simp; omega) | omega) _) | (with_reducible refine Below.alloc ?_ (by first | (simp; done) | (simp; omega) | omega) _) | (with_reducible refine below_drewN ?_ _) | (refine Below.trans ?_ (Below.mono (by with_reducible assumption) (by first | (simp; done) | (simp; omega) | omega)))))))) (first | (go_at_call 119; refine (HT.out _ (HS.out.below (HKW.out.trans ((show Below wc.heap.size wc _ from (by repeat (first | (with_reducible exact Below.refl _ _) | (with_reducible assumption) | (with_reducible refine Below.drew ?_) | (with_reducible refine Below.setCell ?_ (by first | (simp; done) | (simp; omega) | omega) _) | (with_reducible refine Below.alloc ?_ (by first | (simp; done) | (simp; omega) | omega) _) | (with_reducible refine below_drewN ?_ _) | (refine Below.trans ?_ (Below.mono (by with_reducible assumption) (by first | (simp; done) | (simp; omega) | omega)))))).mono hwc)))).mono ?_; go_must (rintro e w5 ⟨rfl, hb5⟩; have hs5 := hb5.size; (try simp at hs5); have hbE5 : Below wc.heap.size wc w5 := (by repeat (first | (with_reducible exact Below.refl _ _) | (with_reducible assumption) | (with_reducible refine Below.drew ?_) | (with_reducible refine Below.setCell ?_ (by first | (simp; done) | (simp; omega) | omega) _) | (with_reducible refine Below.alloc ?_ (by first | (simp; done) | (simp; omega) | omega) _) | (with_reducible refine below_drewN ?_ _) | (refine Below.trans ?_ (Below.mono (by with_reducible assumption) (by first | (simp; done) | (simp; omega) | omega))))); have KE5 := Lib.hid hbE5; (try clear fr); (try clear r0 r1 r2 r3 r4 r5 r6); have hbb := (hbE5.block (w.heap.size + 1) hrl).trans hb4x; have fr := fun o => frozen_of_row w5 (w.heap.size + 1) o _ _ hbb; have r0 := cell_of_row w5 (w.heap.size + 1) 0 _ _ _ hbb; have r1 := cell_of_row w5 (w.heap.size + 1) 1 _ _ _ hbb; have r2 := cell_of_row w5 (w.heap.size + 1) 2 _ _ _ hbb; have r3 := cell_of_row w5 (w.heap.size + 1) 3 _ _ _ hbb; have r4 := cell_of_row w5 (w.heap.size + 1) 4 _ _ _ hbb; have r5 := cell_of_row w5 (w.heap.size + 1) 5 _ _ _ hbb; have r6 := cell_of_row w5 (w.heap.size + 1) 6 _ _ _ hbb; clear hbb)) | (go_at_call 102; refine (HBL.out _).mono ?_; go_must (rintro e w6 ⟨rfl, hb6⟩; have hs6 := hb6.size; (try simp at hs6); have hbE6 : Below wc.heap.size wc w6 := (by repeat (first | (with_reducible exact Below.refl _ _) | (with_reducible assumption) | (with_reducible refine Below.drew ?_) | (with_reducible refine Below.setCell ?_ (by first | (simp; done) | (simp; omega) | omega) _) | (with_reducible refine Below.alloc ?_ (by first | (simp; done) | (simp; omega) | omega) _) | (with_reducible refine below_drewN ?_ _) | (refine Below.trans ?_ (Below.mono (by with_reducible assumption) (by first | (simp; done) | (simp; omega) | omega))))); have KE6 := Lib.hid hbE6; (try clear fr); (try clear r0 r1 r2 r3 r4 r5 r6); have hbb := (hbE6.block (w.heap.size + 1) hrl).trans hb4x; have fr := fun o => frozen_of_row w6 (w.heap.size + 1) o _ _ hbb; have r0 := cell_of_row w6 (w.heap.size + 1) 0 _ _ _ hbb; have r1 := cell_of_row w6 (w.heap.size + 1) 1 _ _ _ hbb; have r2 := cell_of_row w6 (w.heap.size + 1) 2 _ _ _ hbb; have r3 := cell_of_row w6 (w.heap.size + 1) 3 _ _ _ hbb; have r4 := cell_of_row w6 (w.heap.size + 1) 4 _ _ _ hbb; have r5 := cell_of_row w6 (w.heap.size + 1) 5 _ _ _ hbb; have r6 := cell_of_row w6 (w.heap.size + 1) 6 _ _ _ hbb; clear hbb)) | (go_at_call 54; refine (HHO.out _).mono ?_; go_must (rintro e w7 ⟨rfl, hb7⟩; have hs7 := hb7.size; (try simp at hs7); have hbE7 : Below wc.heap.size wc w7 := (by repeat (first | (with_reducible exact Below.refl _ _) | (with_reducible assumption) | (with_reducible refine Below.drew ?_) | (with_reducible refine Below.setCell ?_ (by first | (simp; done) | (simp; omega) | omega) _) | (with_reducible refine Below.alloc ?_ (by first | (simp; done) | (simp; omega) | omega) _) | (with_reducible refine below_drewN ?_ _) | (refine Below.trans ?_ (Below.mono (by with_reducible assumption) (by first | (simp; done) | (simp; omega) | omega))))); have KE7 := Lib.hid hbE7; (try clear fr); (try clear r0 r1 r2 r3 r4 r5 r6); have hbb := (hbE7.block (w.heap.size + 1) hrl).trans hb4x; have fr := fun o => frozen_of_row w7 (w.heap.size + 1) o _ _ hbb; have r0 := cell_of_row w7 (w.heap.size + 1) 0 _ _ _ hbb; have r1 := cell_of_row w7 (w.heap.size + 1) 1 _ _ _ hbb; have r2 := cell_of_row w7 (w.heap.size + 1) 2 _ _ _ hbb; have r3 := cell_of_row w7 (w.heap.size + 1) 3 _ _ _ hbb; have r4 := cell_of_row w7 (w.heap.size + 1) 4 _ _ _ hbb; have r5 := cell_of_row w7 (w.heap.size + 1) 5 _ _ _ hbb; have r6 := cell_of_row w7 (w.heap.size + 1) 6 _ _ _ hbb; clear hbb)))
    all_goals
      have HK := Lib.hid (HKW.out.trans (KE7.out.mono hwc))
      clear S1 fr hs5 hs6 hs7 hbE5 hbE6 hbE7
      go_wp2_with fail
      refine bodyPost_ret (v := .agg #[.int .i64 (t * (N : Int) + (P : Int)), .int .i64 g0, .int .i64 g1, .int .i64 (v : Int), .int .i64 p0, .int .i64 p1, .int .i64 p2]) (by simp only [results, Tryz.results66]; first | (go_simp; done) | (go_simp; rfl)) rfl ⟨rfl, ?_⟩
      have hk := HK.out
      exact (by repeat (first | (with_reducible exact Below.refl _ _) | (with_reducible assumption) | (with_reducible refine Below.drew ?_) | (with_reducible refine Below.setCell ?_ (by first | (simp; done) | (simp; omega) | omega) _) | (with_reducible refine Below.alloc ?_ (by first | (simp; done) | (simp; omega) | omega) _) | (with_reducible refine below_drewN ?_ _) | (refine Below.trans ?_ (Below.mono (by with_reducible assumption) (by first | (simp; done) | (simp; omega) | omega)))))
end Go.Proofs.YtnejicklenhpeaaGreat
