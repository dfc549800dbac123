/- The cells of a view: the program's walk. -/
import Derived.Test.YtndfdgdahinkpaaCelP
import Derived.Test.YtndfdgdahinkpaaCelS
namespace Go.Proofs.Ytndfdgdahinkpaa
open Go.RowKit Go.Lib
set_option linter.unusedVariables false
theorem slCe : SlT Try.prog 64 31 (.agg #[.int .i64 0, .int .i64 0]) 2 16 := ⟨Try.underlying64, by kernel_rfl, rfl, by decide⟩
/-- The cells of the points, in order, each once. -/
def cellsL (r : RecD) (u : P3) : List (Int × Int) := sortC ((ptsL r.n r.l).map (cellC r.n u))
def CellsR (r : RecD) (u : P3) (e : Ending) (w' : World) : Prop := ∃ v, e = .returned v ∧ SlOf w' w'.heap.size 2 encC v (cellsL r u)
/-- A block that an append leaves alone. -/
theorem OwnOf.keepCell {α : Type} {enc : α → List Value} {wr w5 w7 : World} {lo : Nat} {e : TypeId} {sz : Nat} {v : Value} {l : List α} (h : OwnOf wr lo e sz enc v l) (hg : w5.grownBy w7 v.ownBlock) {b o : Nat} {x : Value} (hb : b < lo ∨ wr.heap.size ≤ b) (hc : w5.cell? ⟨b, o, none⟩ = some x) : w7.cell? ⟨b, o, none⟩ = some x :=
  hg.cell hc (fun e => by have := h.lt b e.symm; omega)
set_option maxHeartbeats 4000000 in
set_option maxRecDepth 100000 in
theorem cells_l (r : RecD) (u : P3) (hd : dirB r.n u = true) (hnp : (ptsL r.n r.l).length ≤ 1000) (b : Nat) (pv : Value) (w : World) (h : ViewAt w b r u pv) :
    Calls Try.prog 55 #[.pointer (some ⟨b, 0, none⟩)] w fun e w' => CellsR r u e w' ∧ Below w.heap.size w w' := by
  obtain ⟨qa, qc, g, off, rfl, hlc, hcm, hx⟩ := SlOf.at (enc := encP) (fun _ => rfl) un_pts sz_pts h.pts
  unfold maxLen at hcm
  have HX := Lib.hid hx; clear hx
  have HC := Lib.hid (fun (p : P3) (W : World) => cell_l r.n u p hd W)
  have v8 := h.c8
  have hblt := h.lt
  have f0 := h.c0
  have f1 := h.c1
  have f2 := h.c2
  have f3 := h.c3
  have f4 := h.c4
  have HCL := Lib.hid (show cellsL r u = sortC ((ptsL r.n r.l).map (cellC r.n u)) from rfl)
  have HCR := Lib.hid (fun (e : Ending) (w' : World) (v : Value) (he : e = .returned v) (hs : SlOf w' w'.heap.size 2 encC v (cellsL r u)) => show CellsR r u e w' from ⟨v, he, hs⟩)
  clear h
  generalize axK r.n u = kk at *
  have VD := Lib.hid (show ∀ V, Below w.heap.size w V → V.cell? ⟨b, 0, none⟩ = some (.int .i64 r.n) ∧ V.cell? ⟨b, 1, none⟩ = some (.int .i64 kk) ∧ V.cell? ⟨b, 2, none⟩ = some (.int .i64 u.1) ∧ V.cell? ⟨b, 3, none⟩ = some (.int .i64 u.2.1) ∧ V.cell? ⟨b, 4, none⟩ = some (.int .i64 u.2.2) from
    fun V h => ⟨(h.cell (p := ⟨b, 0, none⟩) hblt).trans f0, (h.cell (p := ⟨b, 1, none⟩) hblt).trans f1, (h.cell (p := ⟨b, 2, none⟩) hblt).trans f2, (h.cell (p := ⟨b, 3, none⟩) hblt).trans f3, (h.cell (p := ⟨b, 4, none⟩) hblt).trans f4⟩)
  clear f0 f1 f2 f3 f4
  generalize ptsL r.n r.l = L at *
  go_enter Try.func55, Try.ntmps55
  go_wp2
  go_loopw [3, 11] (fun t3 t11 wr => ∃ i : Nat, i ≤ L.length ∧ t11 = .int .i64 (i : Nat) ∧ Hid (i = 0 → t3 = .slice none 0 0) ∧ Hid (OwnOf wr w.heap.size 31 2 encC t3 ((L.take i).map (cellC r.n u))) ∧ Below w.heap.size w wr) (fun _ t11 _ => L.length - (intOf t11).toNat)
  case atStart => exact ⟨0, Nat.zero_le _, rfl, Lib.hid (fun _ => rfl), Lib.hid (OwnOf.nil _ _ _ _ _), Below.refl _ _⟩
  case round =>
    obtain ⟨i, hi, rfl, HN, HO, hk⟩ := hrel
    have hsr := hk.size
    have HKK := Lib.hid hk
    by_cases hlt : i < L.length
    rotate_left
    · have hie : i = L.length := by omega
      have HO2 := Lib.hid (show OwnOf wr w.heap.size 31 2 encC u3 (L.map (cellC r.n u)) by have := HO.out; rwa [hie, List.take_length] at this)
      have HML := Lib.hid (show (L.map (cellC r.n u)).length = L.length by simp)
      clear HO VD HC HX v8 hk
      generalize L.map (cellC r.n u) = M at *
      generalize L.length = n at *
      subst hie
      by_cases hpos : 0 < M.length
      · have HSO := Lib.hid (sorts_ok wr w.heap.size _ M HO2.out hsr (by rw [HML.out]; omega) hpos)
        have HPOS := Lib.hid hpos
        clear hpos
        go_wp2_with (first | (go_at_call 80; refine HSO.out.mono ?_; go_must (rintro e w1 ⟨rfl, l', hp', hs', ho', hg'⟩; obtain ⟨g1, c1, rfl, hlo, hlc1, hcm1, hrow⟩ := ho'.row (by rw [hp'.length_eq]; exact HPOS.out); have HP := Lib.hid hp'; have HS := Lib.hid hs'; have HG := Lib.hid hg'; have HR := Lib.hid hrow; clear hp' hs' ho' hg' hrow; generalize hl' : l'.length = m at *; have HM := Lib.hid hl'; clear hl')) | (go_at_call 82; refine ((show Calls Try.prog 82 #[.slice (some ⟨g1, 0, none⟩) m c1] w1 (CmpR g1 c1 l'.toArray w1) from by have := compact_any l'.toArray g1 c1 w1 HR.out (by simp [HM.out]; have := HP.out.length_eq; have := HM.out; have := HML.out; omega) (by simp [HM.out]; exact hlc1) (by unfold maxLen at hcm1; exact hcm1); simpa [HM.out] using this)).mono ?_; go_must (rintro e w2 ⟨rfl, hrow2, hb2⟩)))
        have HE := Lib.hid (show compactUpTo l'.toArray l'.toArray.size = cellsL r u by rw [HCL.out]; exact compact_sortC HS.out HP.out)
        have hcl : (compactUpTo l'.toArray l'.toArray.size).length ≤ c1 := by
          rw [HE.out, HCL.out]
          refine Nat.le_trans (sortC_len _) ?_
          rw [← HP.out.length_eq, HM.out]; exact hlc1
        rw [HE.out] at hcl hrow2
        have HE2 := Lib.hid (show (compactUpTo l'.toArray l'.length).length = (cellsL r u).length from congrArg List.length HE.out)
        have hwb : Below w.heap.size w w1 := HKK.out.grown HG.out hsr (fun r e => (HO2.out.lt r e).1)
        refine bodyPost_ret (v := .slice (some ⟨g1, 0, none⟩) (compactUpTo l'.toArray l'.length).length c1) (by simp only [results, Try.results55]; first | (go_simp; done) | (go_simp; rfl)) rfl ⟨HCR.out _ _ (.slice (some ⟨g1, 0, none⟩) (cellsL r u).length c1) (by rw [HE2.out]) (hrow2.sl hcl hcm1), hwb.trans (hb2.mono hlo)⟩
      · obtain rfl : M = [] := List.eq_nil_of_length_eq_zero (by omega)
        have hu3 : u3 = .slice none 0 0 := HN.out (by have := HML.out; simp at this; omega)
        subst hu3
        have HE := Lib.hid (show cellsL r u = [] from HCL.out)
        go_wp2_with (first | (go_at_call 80; refine (sort_nil _).mono ?_; go_must (rintro e w1 ⟨rfl, rfl⟩)) | (go_at_call 82; refine (compact_nil _).mono ?_; go_must (rintro e w2 ⟨rfl, rfl⟩)))
        refine bodyPost_ret (v := .slice none 0 0) (by simp only [results, Try.results55]; first | (go_simp; done) | (go_simp; rfl)) rfl ⟨HCR.out _ _ (.slice none 0 0) rfl (by rw [HE.out]; exact Sl.nil _ _ _), HKK.out⟩
    obtain ⟨-, hii, hg, hc⟩ := HX.out i hlt
    have rd := fun j hj => (hk.cell (p := ⟨g, off + 3 * i + j, none⟩) hg).trans (hc j hj)
    clear hc
    have HT := Lib.hid (show (L.take (i + 1)).map (cellC r.n u) = (L.take i).map (cellC r.n u) ++ [cellC r.n u L[i]] by rw [List.take_succ_eq_append_getElem hlt, List.map_append]; rfl)
    have HLT := Lib.hid hlt
    have hacc : ((L.take i).map (cellC r.n u)).length + 1 ≤ 1073741824 := by rw [List.length_map, List.length_take]; omega
    generalize (L.take i).map (cellC r.n u) = D at *
    have HCP := Lib.hid (fun (W : World) => HC.out L[i] W)
    generalize cellC r.n u L[i] = E at *
    generalize L[i] = p at *
    obtain ⟨p0, p1, p2⟩ := p
    obtain ⟨x, y⟩ := E
    have r0 : wr.cell? ⟨g, off + 3 * i, none⟩ = some (.int .i64 p0) := rd 0 (by omega)
    have r1 : wr.cell? ⟨g, off + 3 * i + 1, none⟩ = some (.int .i64 p1) := rd 1 (by omega)
    have r2 : wr.cell? ⟨g, off + 3 * i + 2, none⟩ = some (.int .i64 p2) := rd 2 (by omega)
    clear rd
    obtain ⟨W, hW⟩ : ∃ W : World, wr.alloc (Obj.cells #[.int .i64 p0, .int .i64 p1, .int .i64 p2] 29) = W := ⟨_, rfl⟩
    have KR := Lib.hid (show Below wr.heap.size wr W by rw [← hW]; exact (by repeat (first | exact Below.refl _ _ | assumption | (refine Below.drew ?_) | (refine below_drewN ?_ _) | (refine Below.alloc ?_ (by first | (simp; done) | (simp; omega) | omega) _) | (refine Below.setCell ?_ (by first | (simp; done) | (simp; omega) | omega) _) | (refine Below.trans ?_ (Below.mono (by assumption) (by first | (simp; done) | (simp; omega) | omega))))))
    have kz : W.heap.size = wr.heap.size + 1 := by rw [← hW]; simp
    have x0 : W.cell? ⟨wr.heap.size, 0, none⟩ = some (.int .i64 p0) := by subst hW; go_simp
    have x1 : W.cell? ⟨wr.heap.size, 1, none⟩ = some (.int .i64 p1) := by subst hW; go_simp
    have x2 : W.cell? ⟨wr.heap.size, 2, none⟩ = some (.int .i64 p2) := by subst hW; go_simp
    have KB := Lib.hid (below_at hk hsr KR.out)
    obtain ⟨v0, v1, v2, v3, v4⟩ := VD.out W KB.out
    have g1 : wr.heap.size < W.heap.size := by omega
    have g2 : b < W.heap.size := by omega
    have HWW := Lib.hid hW; clear hW
    go_wp2
    rw [HWW.out]
    clear r0 r1 r2 hii v8
    go_region_held3 (fun w' => Below w.heap.size W w' ∧ w'.cell? ⟨wr.heap.size, 0, none⟩ = some (.int .i64 p0) ∧ w'.cell? ⟨wr.heap.size, 1, none⟩ = some (.int .i64 p1) ∧ w'.cell? ⟨wr.heap.size, 2, none⟩ = some (.int .i64 p2) ∧ w'.cell? ⟨b, 0, none⟩ = some (.int .i64 r.n) ∧ w'.cell? ⟨b, 1, none⟩ = some (.int .i64 kk) ∧ w'.cell? ⟨b, 2, none⟩ = some (.int .i64 u.1) ∧ w'.cell? ⟨b, 3, none⟩ = some (.int .i64 u.2.1) ∧ w'.cell? ⟨b, 4, none⟩ = some (.int .i64 u.2.2)) ((first | exact hS7 | ((refine (fun kb => ⟨kb.mono (by omega), (kb.cell (p := ⟨wr.heap.size, 0, none⟩) g1).trans x0, (kb.cell (p := ⟨wr.heap.size, 1, none⟩) g1).trans x1, (kb.cell (p := ⟨wr.heap.size, 2, none⟩) g1).trans x2, (kb.cell (p := ⟨b, 0, none⟩) g2).trans v0, (kb.cell (p := ⟨b, 1, none⟩) g2).trans v1, (kb.cell (p := ⟨b, 2, none⟩) g2).trans v2, (kb.cell (p := ⟨b, 3, none⟩) g2).trans v3, (kb.cell (p := ⟨b, 4, none⟩) g2).trans v4⟩) (?_ : Below W.heap.size W _)); exact (by repeat (first | (with_reducible exact Below.refl _ _) | (with_reducible assumption) | (with_reducible refine Below.drew ?_) | (with_reducible refine Below.setCell ?_ (by first | (simp; done) | (simp; omega) | omega) _) | (with_reducible refine Below.alloc ?_ (by first | (simp; done) | (simp; omega) | omega) _) | (with_reducible refine below_drewN ?_ _) | (refine Below.trans ?_ (Below.mono (by with_reducible assumption) (by first | (simp; done) | (simp; omega) | omega)))))))) (first | (go_at_call 39; refine (HCP.out _).mono ?_; go_must (rintro e w5 ⟨rfl, hb5⟩; have hw5 : Below W.heap.size W w5 := (by exact (by repeat (first | (with_reducible exact Below.refl _ _) | (with_reducible assumption) | (with_reducible refine Below.drew ?_) | (with_reducible refine Below.setCell ?_ (by first | (simp; done) | (simp; omega) | omega) _) | (with_reducible refine Below.alloc ?_ (by first | (simp; done) | (simp; omega) | omega) _) | (with_reducible refine below_drewN ?_ _) | (refine Below.trans ?_ (Below.mono (by with_reducible assumption) (by first | (simp; done) | (simp; omega) | omega)))))); have hs5 := hw5.size; have HO5 := Lib.hid (HO.out.kept (below_at KR.out (by omega) hw5)); have hsz5 : w.heap.size ≤ w5.heap.size := (by omega))) | (refine step_push rfl _ _ _ (by rfl) slCe HO5.out (by rfl) (by rfl) (heap_alloc_new _ _) rfl rfl hacc (by omega) hsz5 (World.grownBy_alloc _ _ _) ?_; intro g7 c7 w7 hown7 hg7 hat7; have hS7 : Below w.heap.size W w7 ∧ w7.cell? ⟨wr.heap.size, 0, none⟩ = some (.int .i64 p0) ∧ w7.cell? ⟨wr.heap.size, 1, none⟩ = some (.int .i64 p1) ∧ w7.cell? ⟨wr.heap.size, 2, none⟩ = some (.int .i64 p2) ∧ w7.cell? ⟨b, 0, none⟩ = some (.int .i64 r.n) ∧ w7.cell? ⟨b, 1, none⟩ = some (.int .i64 kk) ∧ w7.cell? ⟨b, 2, none⟩ = some (.int .i64 u.1) ∧ w7.cell? ⟨b, 3, none⟩ = some (.int .i64 u.2.1) ∧ w7.cell? ⟨b, 4, none⟩ = some (.int .i64 u.2.2) := ⟨below_push (hw5.mono (by omega)) HO5.out (Nat.le_refl _) hsz5 hg7, HO.out.keepCell hg7 (.inr (Nat.le_refl _)) ((hw5.cell (p := ⟨wr.heap.size, 0, none⟩) g1).trans x0), HO.out.keepCell hg7 (.inr (Nat.le_refl _)) ((hw5.cell (p := ⟨wr.heap.size, 1, none⟩) g1).trans x1), HO.out.keepCell hg7 (.inr (Nat.le_refl _)) ((hw5.cell (p := ⟨wr.heap.size, 2, none⟩) g1).trans x2), HO.out.keepCell hg7 (.inl hblt) ((hw5.cell (p := ⟨b, 0, none⟩) g2).trans v0), HO.out.keepCell hg7 (.inl hblt) ((hw5.cell (p := ⟨b, 1, none⟩) g2).trans v1), HO.out.keepCell hg7 (.inl hblt) ((hw5.cell (p := ⟨b, 2, none⟩) g2).trans v2), HO.out.keepCell hg7 (.inl hblt) ((hw5.cell (p := ⟨b, 3, none⟩) g2).trans v3), HO.out.keepCell hg7 (.inl hblt) ((hw5.cell (p := ⟨b, 4, none⟩) g2).trans v4)⟩))
    go_wp2
    go_roundw
    case rel => exact ⟨i + 1, HLT.out, by simp, Lib.hid (fun h => by omega), Lib.hid (by rw [HT.out]; exact OwnOf.snoc (enc := encC) (by simpa [encC] using hown7) rfl), KB.out.trans hS7.1⟩
    case measure => simp only [intOf]; have := HLT.out; omega
end Go.Proofs.Ytndfdgdahinkpaa
