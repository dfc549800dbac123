/- The reference's world of a recurrence: Of, Is, Size, Element: their walks. The reference's world: Is, Size, Element; its Time and event: their walks. Conditions: none. -/
import Derived.Deep.CutRange
import Derived.Test.YtnejicklenhpeaaGreatSafeR
import Derived.Test.YtnejicklenhpeaaGreatEvA
namespace Go.Proofs.YtnejicklenhpeaaGreat
open Go.RowKit Go.WideMaps
/-- Where each point of a list comes. -/
def posF (K : List P3) (a : P3) : Option Value := (idxs K a).getLast?.map fun i => .int .i64 (i : Int)
theorem posF_snoc (K : List P3) (a : P3) : posF (K ++ [a]) = fun x => if x = a then some (.int .i64 (K.length : Int)) else posF K x := by
  funext x
  unfold posF
  rw [idxs_snoc]
  by_cases h : x = a
  · subst h; simp
  · have : ¬ (a = x) := fun e => h e.symm
    simp [h, this]
theorem posF_is (K : List P3) (a : P3) : (posF K a).isSome = decide (a ∈ K) := by
  unfold posF
  by_cases h : a ∈ K
  · obtain ⟨i, hi, e⟩ := List.getElem_of_mem h
    have hm : i ∈ idxs K a := mem_idxs.2 (by rw [List.getElem?_eq_getElem hi, e])
    cases hl : (idxs K a).getLast? with
    | none => rw [List.getLast?_eq_none_iff] at hl; rw [hl] at hm; cases hm
    | some j => simp [h]
  · have : idxs K a = [] := List.eq_nil_iff_forall_not_mem.2 (fun i hi => h (List.mem_of_getElem? (mem_idxs.1 hi)))
    simp [this, h]
/-- In block b lies the world of r: its points, and where each one comes. -/
structure WorldAt (w : World) (b bm n : Nat) (r : RecD) (pv : Value) (K : List P3) : Prop where
  lt : b < w.heap.size
  c0 : w.cell? ⟨b, 0, none⟩ = some (.int .i64 r.n)
  c1 : w.cell? ⟨b, 1, none⟩ = some r.lv
  c2 : w.cell? ⟨b, 2, none⟩ = some r.vv
  c3 : w.cell? ⟨b, 3, none⟩ = some pv
  c4 : w.cell? ⟨b, 4, none⟩ = some (.map (some bm))
  pts : SlOf w w.heap.size 3 encP pv (ptsL r.n r.l)
  at_ : MapV Tryz.prog 29 ptV w bm n (posF K)
theorem WorldAt.below {w w' : World} {b bm n : Nat} {r : RecD} {pv : Value} {K : List P3} (h : WorldAt w b bm n r pv K) (hb : Below w.heap.size w w') : WorldAt w' b bm n r pv K :=
  ⟨Nat.lt_of_lt_of_le h.lt hb.size, (hb.cell (p := ⟨b, 0, none⟩) h.lt).trans h.c0, (hb.cell (p := ⟨b, 1, none⟩) h.lt).trans h.c1, (hb.cell (p := ⟨b, 2, none⟩) h.lt).trans h.c2, (hb.cell (p := ⟨b, 3, none⟩) h.lt).trans h.c3, (hb.cell (p := ⟨b, 4, none⟩) h.lt).trans h.c4, h.pts.below hb, h.at_.kept hb⟩
theorem PosM.made (w : World) : MapV Tryz.prog 29 ptV (w.alloc (.map #[] 0)) w.heap.size 0 (posF []) := by
  have := MapV.made Tryz.prog 29 ptV w
  simpa [show posF [] = fun _ => none from by funext a; simp [posF, idxs_nil]] using this
set_option maxRecDepth 100000 in
theorem PosM.step {w : World} {b n : Nat} {K : List P3} (h : MapV Tryz.prog 29 ptV w b n (posF K)) (hn : n < 1000000) (a : P3) (ha : wf3 a) :
    ∃ w1, (Instr.mapUpdate 144 (.map (some b)) (ptV a) (.int .i64 (K.length : Int))).run Tryz.prog w = .ok () w1 ∧ MapV Tryz.prog 29 ptV w1 b (n + 1) (posF (K ++ [a])) ∧ w.grownBy w1 (some b) := by
  obtain ⟨kl, hk⟩ := key_pnt a ha
  obtain ⟨w1, hr, hm, hg⟩ := MapV.put h (Maps.Keyed.of_law law_pnt) (t := 144) Tryz.underlying144 ptV_inj hn hk (.int .i64 (K.length : Int))
  exact ⟨w1, hr, by rw [posF_snoc]; exact hm, hg⟩
theorem zv_int2 (u : World) : (zeroValue 3).run Tryz.prog u = .ok (.int .i64 0) u := by kernel_rfl
set_option maxRecDepth 100000 in
theorem PosM.look {w : World} {b n : Nat} {K : List P3} (h : MapV Tryz.prog 29 ptV w b n (posF K)) (a : P3) (ha : wf3 a) (V : World) (hV : Below w.heap.size w V) :
    (Instr.lookup 144 (.map (some b)) (ptV a) true).run Tryz.prog V = .ok (.tuple #[(posF K a).getD (.int .i64 0), .bool (decide (a ∈ K))]) V := by
  obtain ⟨kl, hk⟩ := key_pnt a ha
  have := MapV.lookOk (h.kept hV) (Maps.Keyed.of_law law_pnt) (t := 144) Tryz.underlying144 (zv_int2 V) hk
  rw [this, posF_is]
set_option maxHeartbeats 4000000 in
set_option maxRecDepth 100000 in
theorem Of_l (r : RecD) (hv : validR r.n r.l r.vars = true) (w : World) (hr : RecRd w r) :
    Calls Tryz.prog 63 #[.agg #[.int .i64 r.n, r.lv, r.vv]] w fun e w' => (∃ b bm n pv, e = .returned (.pointer (some ⟨b, 0, none⟩)) ∧ WorldAt w' b bm n r pv (ptsL r.n r.l)) ∧ Below w.heap.size w w' := by
  have hdo := validD_out (validR_out hv).1
  have HAL := Lib.hid (fun (W : World) (hw : SlOf W W.heap.size 4 encI r.lv r.l) => rAll_l r.n r.l hdo.1 hdo.2.2 W r.lv hw)
  have HSM := Lib.hid (fun p (hp : p ∈ ptsL r.n r.l) => pts_sm hv hp)
  have HPL := Lib.hid (ptsL_len r.n r.l)
  have HR := Lib.hid hr
  clear hv hdo hr
  have hmm := @run_makeMap Tryz.prog
  obtain ⟨W0, hW0⟩ : ∃ W : World, w.alloc (Obj.cells #[.int .i64 r.n, r.lv, r.vv] 27) = W := ⟨_, rfl⟩
  have kw0 : Below w.heap.size w W0 := by rw [← hW0]; exact (by repeat (first | exact Below.refl _ _ | assumption | (refine Below.drew ?_) | (refine below_drewN ?_ _) | (refine Below.alloc ?_ (by first | (simp; done) | (simp; omega) | omega) _) | (refine Below.setCell ?_ (by first | (simp; done) | (simp; omega) | omega) _) | (refine Below.trans ?_ (Below.mono (by assumption) (by first | (simp; done) | (simp; omega) | omega)))))
  have ks0 : W0.heap.size = w.heap.size + 1 := by rw [← hW0]; simp
  have RD0 := Lib.hid (show ∀ V, Below W0.heap.size W0 V → V.cell? ⟨w.heap.size, 0, none⟩ = some (.int .i64 r.n) ∧ V.cell? ⟨w.heap.size, 1, none⟩ = some (r.lv) ∧ V.cell? ⟨w.heap.size, 2, none⟩ = some (r.vv) from fun V h => by
      refine ⟨(h.cell (p := ⟨w.heap.size, 0, none⟩) (by simp; omega)).trans ?_, (h.cell (p := ⟨w.heap.size, 1, none⟩) (by simp; omega)).trans ?_, (h.cell (p := ⟨w.heap.size, 2, none⟩) (by simp; omega)).trans ?_⟩ <;> (subst hW0; go_simp))
  have HW0 := Lib.hid hW0; have KW0 := Lib.hid kw0; clear hW0 kw0
  have KK0 := Lib.hid (show Below W0.heap.size W0 W0 from Below.refl _ _)
  go_enter Tryz.func63, Tryz.ntmps63
  go_wp2_with fail
  rw [HW0.out]
  have hsW : w.heap.size ≤ W0.heap.size := by omega
  have HK0 := Lib.hid ks0; clear ks0
  go_cut [3] from 5 to 11 (fun t3 wx => ∃ b bm pv, t3 = .pointer (some ⟨b, 0, none⟩) ∧ WorldAt wx b bm 0 r pv [] ∧ W0.heap.size ≤ bm ∧ W0.heap.size ≤ b ∧ Below W0.heap.size W0 wx)
  case first =>
    go_region_held3 (fun w' => Below W0.heap.size W0 w' ∧ w'.cell? ⟨w.heap.size, 0, none⟩ = some (.int .i64 r.n) ∧ w'.cell? ⟨w.heap.size, 1, none⟩ = some (r.lv) ∧ w'.cell? ⟨w.heap.size, 2, none⟩ = some (r.vv)) (((refine (fun kb => (⟨kb, RD0.out _ kb⟩)) (?_ : Below W0.heap.size W0 _); exact (by repeat (first | (with_reducible exact Below.refl _ _) | (with_reducible assumption) | (with_reducible refine Below.drew ?_) | (with_reducible refine Below.setCell ?_ (by first | (simp; done) | (simp; omega) | omega) _) | (with_reducible refine Below.alloc ?_ (by first | (simp; done) | (simp; omega) | omega) _) | (with_reducible refine below_drewN ?_ _) | (refine Below.trans ?_ (Below.mono (by with_reducible assumption) (by first | (simp; done) | (simp; omega) | omega)))))))) (first | (go_at_call 38; refine (HAL.out _ (HR.out.l.below (KW0.out.trans (Below.mono (show Below W0.heap.size W0 _ from (by repeat (first | (with_reducible exact Below.refl _ _) | (with_reducible assumption) | (with_reducible refine Below.drew ?_) | (with_reducible refine Below.setCell ?_ (by first | (simp; done) | (simp; omega) | omega) _) | (with_reducible refine Below.alloc ?_ (by first | (simp; done) | (simp; omega) | omega) _) | (with_reducible refine below_drewN ?_ _) | (refine Below.trans ?_ (Below.mono (by with_reducible assumption) (by first | (simp; done) | (simp; omega) | omega)))))) hsW)))).mono ?_; go_must (rintro e w5 ⟨⟨v5, rfl, hsl⟩, hb5⟩; have hs5 := hb5.size; (try simp at hs5); obtain ⟨pa, pc, rfl, -⟩ := hsl.shape; have HSL := Lib.hid hsl; clear hsl)))
    all_goals (try go_wp2_with fail)
    all_goals go_meet
    · refine ⟨_, w5.heap.size, _, rfl, ⟨by simp, by go_simp, by go_simp, by go_simp, by go_simp, by go_simp, HSL.out.below (by repeat (first | (with_reducible exact Below.refl _ _) | (with_reducible assumption) | (with_reducible refine Below.drew ?_) | (with_reducible refine Below.setCell ?_ (by first | (simp; done) | (simp; omega) | omega) _) | (with_reducible refine Below.alloc ?_ (by first | (simp; done) | (simp; omega) | omega) _) | (with_reducible refine below_drewN ?_ _) | (refine Below.trans ?_ (Below.mono (by with_reducible assumption) (by first | (simp; done) | (simp; omega) | omega))))), (PosM.made w5).kept ((Below.refl _ _).alloc (Nat.le_refl _) _)⟩, hs5, by omega, by repeat (first | (with_reducible exact Below.refl _ _) | (with_reducible assumption) | (with_reducible refine Below.drew ?_) | (with_reducible refine Below.setCell ?_ (by first | (simp; done) | (simp; omega) | omega) _) | (with_reducible refine Below.alloc ?_ (by first | (simp; done) | (simp; omega) | omega) _) | (with_reducible refine below_drewN ?_ _) | (refine Below.trans ?_ (Below.mono (by with_reducible assumption) (by first | (simp; done) | (simp; omega) | omega))))⟩
    · refine ⟨_, W0.heap.size, _, rfl, ⟨by simp, by go_simp, by go_simp, by go_simp, by go_simp, by go_simp, HSL.out.below (by repeat (first | (with_reducible exact Below.refl _ _) | (with_reducible assumption) | (with_reducible refine Below.drew ?_) | (with_reducible refine Below.setCell ?_ (by first | (simp; done) | (simp; omega) | omega) _) | (with_reducible refine Below.alloc ?_ (by first | (simp; done) | (simp; omega) | omega) _) | (with_reducible refine below_drewN ?_ _) | (refine Below.trans ?_ (Below.mono (by with_reducible assumption) (by first | (simp; done) | (simp; omega) | omega))))), ((PosM.made W0.drew).kept hb5).kept ((Below.refl _ _).alloc (Nat.le_refl _) _)⟩, Nat.le_refl _, by omega, by repeat (first | (with_reducible exact Below.refl _ _) | (with_reducible assumption) | (with_reducible refine Below.drew ?_) | (with_reducible refine Below.setCell ?_ (by first | (simp; done) | (simp; omega) | omega) _) | (with_reducible refine Below.alloc ?_ (by first | (simp; done) | (simp; omega) | omega) _) | (with_reducible refine below_drewN ?_ _) | (refine Below.trans ?_ (Below.mono (by with_reducible assumption) (by first | (simp; done) | (simp; omega) | omega))))⟩
  case rest =>
    obtain ⟨b, bm, pv, rfl, hwa, hbm0, hbb0, hb0⟩ := hcut
    obtain ⟨qa, qc, g, off, hqe, hlc, hcm, hx⟩ := SlOf.at (enc := encP) (fun _ => rfl) un_pts sz_pts hwa.pts
    subst hqe
    unfold maxLen at hcm
    have HX := Lib.hid hx; clear hx
    have hblt := hwa.lt
    have hs0 := hb0.size
    have hmlt := hwa.at_.lt
    have d3 := hwa.c3
    have d4 := hwa.c4
    have HWA := Lib.hid hwa
    have hne : b ≠ bm := by
      intro e
      subst e
      obtain ⟨o, ho, hc, _⟩ := hwa.at_.isWalk
      have := d3
      simp only [World.cell?, ho] at this
      cases o <;> simp_all [Obj.isCells]
    clear hwa
    generalize hLe : ptsL r.n r.l = L at *
    have HLE := Lib.hid hLe; clear hLe
    go_wp2_with fail
    go_loopw [4] (fun t4 wr => ∃ k n : Nat, k ≤ L.length ∧ t4 = .int .i64 (k : Nat) ∧ n ≤ k ∧ Hid (MapV Tryz.prog 29 ptV wr bm n (posF (L.take k))) ∧ wc.heap.size ≤ wr.heap.size ∧ Hid (∀ i, i < wc.heap.size → i ≠ bm → wr.heap[i]? = wc.heap[i]?) ∧ Below W0.heap.size W0 wr) (fun t4 _ => L.length - (intOf t4).toNat)
    case atStart => exact ⟨0, 0, Nat.zero_le _, rfl, Nat.le_refl _, Lib.hid (by simpa using HWA.out.at_), Nat.le_refl _, Lib.hid (fun i _ _ => rfl), hb0⟩
    case round =>
      obtain ⟨k, n, hk, rfl, hnk, HM, hsw, HF, hb⟩ := hrel
      have hfb := HF.out b hblt hne
      have e3 := (World.cell?_of_block (a := ⟨b, 3, none⟩) hfb).trans d3
      have e4 := (World.cell?_of_block (a := ⟨b, 4, none⟩) hfb).trans d4
      by_cases hlt : k < L.length
      rotate_left
      · have hke : k = L.length := by omega
        subst hke
        have hwf : WorldAt wr b bm n r (.slice qa L.length qc) L := by
          have h := HWA.out
          refine ⟨by omega, (World.cell?_of_block (a := ⟨b, 0, none⟩) hfb).trans h.c0, (World.cell?_of_block (a := ⟨b, 1, none⟩) hfb).trans h.c1, (World.cell?_of_block (a := ⟨b, 2, none⟩) hfb).trans h.c2, e3, e4, ?_, by have := HM.out; rwa [List.take_length] at this⟩
          rw [HLE.out]
          obtain ⟨a', c', e', hl', hc', hm', h0', hr'⟩ := (show SlOf wc wc.heap.size 3 encP (.slice qa L.length qc) L by have := h.pts; rwa [HLE.out] at this)
          refine ⟨a', c', e', hl', hc', hm', h0', ?_⟩
          rcases hr' with h1 | ⟨g1, o1, ha1, hlt1, hr1⟩
          · exact .inl h1
          · by_cases h00 : L.length = 0
            · exact .inl h00
            refine .inr ⟨g1, o1, ha1, by omega, fun i hi => ?_⟩
            rw [← hr1 i hi]
            refine World.cell?_of_block (a := ⟨g1, o1 + i, none⟩) (HF.out g1 hlt1 ?_)
            intro eg
            have hx0 := hr1 0 (by omega)
            obtain ⟨ob, hob, hcb, _⟩ := h.at_.isWalk
            rw [← eg] at hob
            have hlen : 0 < (L.flatMap encP).length := by rw [hl']; omega
            rw [List.getElem?_eq_getElem hlen] at hx0
            simp only [World.cell?, hob] at hx0
            cases ob <;> simp_all [Obj.isCells]
        go_wp2
        go_ret
        exact ⟨⟨_, _, _, _, rfl, by rw [HLE.out]; exact hwf⟩, KW0.out.trans (hb.mono hsW)⟩
      obtain ⟨-, hi, hg, hc⟩ := HX.out k hlt
      have hgm : g ≠ bm := by
        intro eg
        obtain ⟨ob, hob, hcb, _⟩ := HWA.out.at_.isWalk
        rw [← eg] at hob
        have := hc 0 (by omega)
        simp only [World.cell?, hob] at this
        cases ob <;> simp_all [Obj.isCells, encP]
      have rd := fun j hj => (World.cell?_of_block (a := ⟨g, off + 3 * k + j, none⟩) (HF.out g hg hgm)).trans (hc j hj)
      clear hc
      have HSP := Lib.hid (HSM.out L[k] (List.getElem_mem hlt))
      have HT := Lib.hid (show L.take (k + 1) = L.take k ++ [L[k]] from List.take_succ_eq_append_getElem hlt)
      have HTL := Lib.hid (show (L.take k).length = k by rw [List.length_take]; omega)
      have HKL := Lib.hid (show k ≤ 68921 by have := HPL.out; omega)
      have HLT := Lib.hid hlt
      generalize L.take k = D at *
      generalize L[k] = p at *
      obtain ⟨p0, p1, p2⟩ := p
      have r0 : wr.cell? ⟨g, off + 3 * k, none⟩ = some (.int .i64 p0) := rd 0 (by omega)
      have r1 : wr.cell? ⟨g, off + 3 * k + 1, none⟩ = some (.int .i64 p1) := rd 1 (by omega)
      have r2 : wr.cell? ⟨g, off + 3 * k + 2, none⟩ = some (.int .i64 p2) := rd 2 (by omega)
      clear rd
      obtain ⟨q0, q1, q2⟩ := HSP.out
      obtain ⟨w2, hr2, hm2, hg2⟩ := PosM.step (MapV.kept HM.out (Below.refl _ _).drew) (by have := HKL.out; omega) (p0, p1, p2) ⟨wf_sm (by omega), wf_sm (by omega), wf_sm (by omega)⟩
      simp only [ptV, HTL.out] at hr2
      have hwz : wr.drew.heap.size = wr.heap.size := by simp
      clear q0 q1 q2
      go_wp2_with fail
      go_region
      all_goals
        go_wp2
        go_roundw
        case rel =>
          refine ⟨k + 1, n + 1, HLT.out, by simp, by omega, Lib.hid (by rw [HT.out]; exact hm2), by have := hg2.size; omega, Lib.hid (fun i hi hne => ?_), hb.drew.grown hg2 (by have := hb.size; omega) (fun r e => by cases e; exact hbm0)⟩
          exact (hg2.block i (by omega) (by intro e; cases e; exact hne rfl)).trans (HF.out i hi hne)
        case measure => simp only [intOf]; have := HLT.out; omega
end Go.Proofs.YtnejicklenhpeaaGreat
namespace Go.Proofs.YtnejicklenhpeaaGreat
open Go.RowKit Go.WideMaps
def isEl (r : RecD) (e : ElD) : Bool := decide (e.2 ∈ ptsL r.n r.l) && (decide (0 ≤ e.1) && decide (e.1 < (r.vars.length : Int)))
set_option maxHeartbeats 4000000 in
set_option maxRecDepth 100000 in
theorem Is_l (r : RecD) (e : ElD) (he : wf3 e.2) (hvv : ∃ a c, r.vv = .slice a r.vars.length c) (b bm n : Nat) (pv : Value) (w : World) (h : WorldAt w b bm n r pv (ptsL r.n r.l)) :
    Calls Tryz.prog 64 #[.pointer (some ⟨b, 0, none⟩), .agg #[.int .i64 e.1, .int .i64 e.2.1, .int .i64 e.2.2.1, .int .i64 e.2.2.2]] w fun x w' => x = .returned (.bool (isEl r e)) ∧ Below w.heap.size w w' := by
  obtain ⟨va, vc, hvv⟩ := hvv
  have HLK := Lib.hid (fun (V : World) (hV : Below w.heap.size w V) => PosM.look h.at_ e.2 he V hV)
  have d2 := h.c2
  rw [hvv] at d2
  have d4 := h.c4
  have hlt := h.lt
  clear h he hvv
  have HI := Lib.hid (show isEl r e = (decide (e.2 ∈ ptsL r.n r.l) && (decide (0 ≤ e.1) && decide (e.1 < (r.vars.length : Int)))) from rfl)
  rw [HI.out]
  clear HI
  generalize (posF (ptsL r.n r.l) e.2).getD (.int .i64 0) = z at *
  generalize decide (e.2 ∈ ptsL r.n r.l) = B at *
  obtain ⟨v, p0, p1, p2⟩ := e
  simp only [ptV] at HLK
  simp only
  generalize r.vars.length = nv at *
  have VD := Lib.hid (show ∀ V, Below w.heap.size w V → V.cell? ⟨b, 2, none⟩ = some (.slice va nv vc) ∧ V.cell? ⟨b, 4, none⟩ = some (.map (some bm)) from fun V h => ⟨(h.cell (p := ⟨b, 2, none⟩) hlt).trans (by assumption), (h.cell (p := ⟨b, 4, none⟩) hlt).trans (by assumption)⟩)
  clear d2 d4
  obtain ⟨W0, hW0⟩ : ∃ W : World, w.alloc (Obj.cells #[.int .i64 v, .int .i64 p0, .int .i64 p1, .int .i64 p2] 51) = W := ⟨_, rfl⟩
  have kw0 : Below w.heap.size w W0 := by rw [← hW0]; exact (by repeat (first | exact Below.refl _ _ | assumption | (refine Below.drew ?_) | (refine below_drewN ?_ _) | (refine Below.alloc ?_ (by first | (simp; done) | (simp; omega) | omega) _) | (refine Below.setCell ?_ (by first | (simp; done) | (simp; omega) | omega) _) | (refine Below.trans ?_ (Below.mono (by assumption) (by first | (simp; done) | (simp; omega) | omega)))))
  have ks0 : W0.heap.size = w.heap.size + 1 := by rw [← hW0]; simp
  have RD0 := Lib.hid (show ∀ V, Below W0.heap.size W0 V → V.cell? ⟨w.heap.size, 0, none⟩ = some (.int .i64 v) ∧ V.cell? ⟨w.heap.size, 1, none⟩ = some (.int .i64 p0) ∧ V.cell? ⟨w.heap.size, 2, none⟩ = some (.int .i64 p1) ∧ V.cell? ⟨w.heap.size, 3, none⟩ = some (.int .i64 p2) from fun V h => by
      refine ⟨(h.cell (p := ⟨w.heap.size, 0, none⟩) (by simp; omega)).trans ?_, (h.cell (p := ⟨w.heap.size, 1, none⟩) (by simp; omega)).trans ?_, (h.cell (p := ⟨w.heap.size, 2, none⟩) (by simp; omega)).trans ?_, (h.cell (p := ⟨w.heap.size, 3, none⟩) (by simp; omega)).trans ?_⟩ <;> (subst hW0; go_simp))
  have HW0 := Lib.hid hW0; have KW0 := Lib.hid kw0; clear hW0 kw0
  obtain ⟨y0, y1⟩ := VD.out W0 KW0.out
  obtain ⟨k0, k1, k2, k3⟩ := RD0.out W0 (Below.refl _ _)
  have hl := HLK.out W0.drew KW0.out.drew
  have hl2 := HLK.out W0 KW0.out
  go_enter Tryz.func64, Tryz.ntmps64
  go_wp2
  rw [HW0.out]
  go_region
  go_wp2
  cases B
  · go_region
    all_goals (go_wp2; refine bodyPost_ret (v := .bool false) (by simp only [results, Tryz.results64]; first | (go_simp; done) | (go_simp; rfl)) rfl ⟨ret_bool (by simp <;> omega), KW0.out.trans (Below.mono (show Below W0.heap.size W0 _ from (by repeat (first | (with_reducible exact Below.refl _ _) | (with_reducible assumption) | (with_reducible refine Below.drew ?_) | (with_reducible refine Below.setCell ?_ (by first | (simp; done) | (simp; omega) | omega) _) | (with_reducible refine Below.alloc ?_ (by first | (simp; done) | (simp; omega) | omega) _) | (with_reducible refine below_drewN ?_ _) | (refine Below.trans ?_ (Below.mono (by with_reducible assumption) (by first | (simp; done) | (simp; omega) | omega)))))) (by omega))⟩)
  · by_cases h1 : 0 ≤ v
    · by_cases h2 : v < (nv : Int)
      · go_region
        all_goals (go_wp2; refine bodyPost_ret (v := .bool true) (by simp only [results, Tryz.results64]; first | (go_simp; done) | (go_simp; rfl)) rfl ⟨ret_bool (by simp <;> omega), KW0.out.trans (Below.mono (show Below W0.heap.size W0 _ from (by repeat (first | (with_reducible exact Below.refl _ _) | (with_reducible assumption) | (with_reducible refine Below.drew ?_) | (with_reducible refine Below.setCell ?_ (by first | (simp; done) | (simp; omega) | omega) _) | (with_reducible refine Below.alloc ?_ (by first | (simp; done) | (simp; omega) | omega) _) | (with_reducible refine below_drewN ?_ _) | (refine Below.trans ?_ (Below.mono (by with_reducible assumption) (by first | (simp; done) | (simp; omega) | omega)))))) (by omega))⟩)
      · go_region
        all_goals (go_wp2; refine bodyPost_ret (v := .bool false) (by simp only [results, Tryz.results64]; first | (go_simp; done) | (go_simp; rfl)) rfl ⟨ret_bool (by simp <;> omega), KW0.out.trans (Below.mono (show Below W0.heap.size W0 _ from (by repeat (first | (with_reducible exact Below.refl _ _) | (with_reducible assumption) | (with_reducible refine Below.drew ?_) | (with_reducible refine Below.setCell ?_ (by first | (simp; done) | (simp; omega) | omega) _) | (with_reducible refine Below.alloc ?_ (by first | (simp; done) | (simp; omega) | omega) _) | (with_reducible refine below_drewN ?_ _) | (refine Below.trans ?_ (Below.mono (by with_reducible assumption) (by first | (simp; done) | (simp; omega) | omega)))))) (by omega))⟩)
    · go_region
      all_goals (go_wp2; refine bodyPost_ret (v := .bool false) (by simp only [results, Tryz.results64]; first | (go_simp; done) | (go_simp; rfl)) rfl ⟨ret_bool (by simp <;> omega), KW0.out.trans (Below.mono (show Below W0.heap.size W0 _ from (by repeat (first | (with_reducible exact Below.refl _ _) | (with_reducible assumption) | (with_reducible refine Below.drew ?_) | (with_reducible refine Below.setCell ?_ (by first | (simp; done) | (simp; omega) | omega) _) | (with_reducible refine Below.alloc ?_ (by first | (simp; done) | (simp; omega) | omega) _) | (with_reducible refine below_drewN ?_ _) | (refine Below.trans ?_ (Below.mono (by with_reducible assumption) (by first | (simp; done) | (simp; omega) | omega)))))) (by omega))⟩)
set_option maxHeartbeats 4000000 in
set_option maxRecDepth 100000 in
theorem Size_l (r : RecD) (hn : r.vars.length * (ptsL r.n r.l).length ≤ 1000000) (hvv : ∃ a c, r.vv = .slice a r.vars.length c) (b bm n : Nat) (pv : Value) (K : List P3) (w : World) (h : WorldAt w b bm n r pv K) :
    Calls Tryz.prog 132 #[.pointer (some ⟨b, 0, none⟩)] w fun x w' => x = .returned (.int .i64 ((r.vars.length * (ptsL r.n r.l).length : Nat) : Int)) ∧ Below w.heap.size w w' := by
  obtain ⟨va, vc, hvv⟩ := hvv
  have d2 := h.c2
  rw [hvv] at d2
  have d3 := h.c3
  obtain ⟨pa, pc, rfl, -⟩ := h.pts.shape
  have hlt := h.lt
  clear h hvv
  generalize (ptsL r.n r.l).length = np at *
  generalize r.vars.length = nv at *
  have hb1 : (0 : Int) ≤ (nv : Int) * (np : Int) := Int.mul_nonneg (Int.natCast_nonneg _) (Int.natCast_nonneg _)
  have hb2 : (nv : Int) * (np : Int) ≤ 1000000 := by rw [← Int.natCast_mul]; omega
  have HC := Lib.hid (show ((nv * np : Nat) : Int) = (nv : Int) * (np : Int) from Int.natCast_mul nv np)
  rw [HC.out]
  clear hn
  go_enter Tryz.func132, Tryz.ntmps132
  go_wp2
  go_region
  all_goals
    go_wp2
    refine bodyPost_ret (v := .int .i64 ((nv : Int) * (np : Int))) (by simp only [results, Tryz.results132]; first | (go_simp; done) | (go_simp; rfl)) rfl ⟨rfl, by repeat (first | (with_reducible exact Below.refl _ _) | (with_reducible assumption) | (with_reducible refine Below.drew ?_) | (with_reducible refine Below.setCell ?_ (by first | (simp; done) | (simp; omega) | omega) _) | (with_reducible refine Below.alloc ?_ (by first | (simp; done) | (simp; omega) | omega) _) | (with_reducible refine below_drewN ?_ _) | (refine Below.trans ?_ (Below.mono (by with_reducible assumption) (by first | (simp; done) | (simp; omega) | omega))))⟩
set_option maxHeartbeats 4000000 in
set_option maxRecDepth 100000 in
theorem Element_l (r : RecD) (i v k : Nat) (hv : v ≤ 1000000) (hk : k < (ptsL r.n r.l).length) (hi : i = v * (ptsL r.n r.l).length + k) (b bm n : Nat) (pv : Value) (K : List P3) (w : World) (h : WorldAt w b bm n r pv K) :
    Calls Tryz.prog 133 #[.pointer (some ⟨b, 0, none⟩), .int .i64 (i : Int)] w fun x w' => x = .returned (elD ((v : Int), (ptsL r.n r.l).getD k (0, 0, 0))) ∧ Below w.heap.size w w' := by
  have d3 := h.c3
  obtain ⟨qa, qc, g, off, rfl, hlc, hcm, hx⟩ := SlOf.at (enc := encP) (fun _ => rfl) un_pts sz_pts h.pts
  unfold maxLen at hcm
  have hlt := h.lt
  clear h
  obtain ⟨-, hix, hg, hc⟩ := hx k hk
  have hgd : (ptsL r.n r.l).getD k (0, 0, 0) = (ptsL r.n r.l)[k] := by simp [List.getD, hk]
  rw [hgd]
  clear hgd hx
  generalize (ptsL r.n r.l)[k] = p at *
  obtain ⟨p0, p1, p2⟩ := p
  have r0 : w.cell? ⟨g, off + 3 * k, none⟩ = some (.int .i64 p0) := hc 0 (by omega)
  have r1 : w.cell? ⟨g, off + 3 * k + 1, none⟩ = some (.int .i64 p1) := hc 1 (by omega)
  have r2 : w.cell? ⟨g, off + 3 * k + 2, none⟩ = some (.int .i64 p2) := hc 2 (by omega)
  clear hc
  generalize (ptsL r.n r.l).length = np at *
  have hq : (i : Int).tdiv (np : Int) = (v : Int) := by
    rw [Int.tdiv_eq_ediv_of_nonneg (by omega), hi]
    have h1 : (v * np + k) / np = v := by
      rw [Nat.mul_comm, Nat.mul_add_div (by omega), Nat.div_eq_of_lt hk, Nat.add_zero]
    exact_mod_cast h1
  have hr : (i : Int).tmod (np : Int) = (k : Int) := by
    rw [Int.tmod_eq_emod_of_nonneg (by omega), hi]
    have h1 : (v * np + k) % np = k := by
      rw [Nat.mul_comm, Nat.mul_add_mod, Nat.mod_eq_of_lt hk]
    exact_mod_cast h1
  have hnz : (np : Int) ≠ 0 := by omega
  clear hi
  go_enter Tryz.func133, Tryz.ntmps133
  go_wp2
  go_region
  all_goals
    go_wp2
    refine bodyPost_ret (v := .agg #[.int .i64 (v : Int), .int .i64 p0, .int .i64 p1, .int .i64 p2]) (by simp only [results, Tryz.results133]; first | (go_simp; done) | (go_simp; rfl)) rfl ⟨rfl, by repeat (first | (with_reducible exact Below.refl _ _) | (with_reducible assumption) | (with_reducible refine Below.drew ?_) | (with_reducible refine Below.setCell ?_ (by first | (simp; done) | (simp; omega) | omega) _) | (with_reducible refine Below.alloc ?_ (by first | (simp; done) | (simp; omega) | omega) _) | (with_reducible refine below_drewN ?_ _) | (refine Below.trans ?_ (Below.mono (by with_reducible assumption) (by first | (simp; done) | (simp; omega) | omega))))⟩
end Go.Proofs.YtnejicklenhpeaaGreat
