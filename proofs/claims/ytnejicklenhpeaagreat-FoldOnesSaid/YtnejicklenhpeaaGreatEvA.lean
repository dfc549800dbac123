/- The plan's event: its walk; whether a list of points has a point. -/
import Derived.Test.YtnejicklenhpeaaGreatSafeR
namespace Go.Proofs.YtnejicklenhpeaaGreat
open Go.RowKit
/-- The event of an element, its offset given. -/
def evAt (r : RecD) (s : SchedD) (u : P3) (v : Nat) (p : P3) : EvD := ⟨dot3 s.f p + s.off.getD v 0, cellC r.n u p, ((v : Int), p)⟩
theorem off_bd {r : RecD} {s : SchedD} (h : schedB r s = true) : s.off.length = r.vars.length ∧ ∀ x ∈ s.off, 0 ≤ x ∧ x ≤ 1000 := by
  simp only [schedB, fitsB, Bool.and_eq_true, decide_eq_true_eq, List.all_eq_true] at h
  refine ⟨h.2.2.1, fun x hx => ?_⟩
  have := h.2.2.2 x hx
  simpa [btw] using this
theorem off_get {r : RecD} {s : SchedD} (h : schedB r s = true) (v : Nat) : 0 ≤ s.off.getD v 0 ∧ s.off.getD v 0 ≤ 1000 := by
  by_cases hv : v < s.off.length
  · rw [List.getD_eq_getElem?_getD, List.getElem?_eq_getElem hv]
    exact (off_bd h).2 _ (List.getElem_mem hv)
  · rw [List.getD_eq_getElem?_getD, List.getElem?_eq_none (by omega)]
    simp
theorem dot_bd {r : RecD} {s : SchedD} {u : P3} (h : askS r s u = 0) {p : P3} (hp : p ∈ ptsL r.n r.l) : -540 ≤ dot3 s.f p ∧ dot3 s.f p ≤ 540 := by
  obtain ⟨h1, h2, h3, -⟩ := askS_ok h
  obtain ⟨f0, f1, f2⟩ := form_sm h2
  obtain ⟨p0, p1, p2⟩ := pts_sm h1 hp
  have := sm_mul f0 p0; have := sm_mul f1 p1; have := sm_mul f2 p2
  unfold dot3; omega
theorem sz_ints (W : World) : (sizeOf (Tryz.prog.elem 39)).run Tryz.prog W = .ok 1 W := by kernel_rfl
set_option maxHeartbeats 4000000 in
set_option maxRecDepth 100000 in
theorem event_l (r : RecD) (s : SchedD) (u : P3) (ha : askS r s u = 0) (v : Nat) (hv : v < r.vars.length) (p : P3) (hp : p ∈ ptsL r.n r.l) (bp bv : Nat) (pv : Value) (w : World) (hpl : PlanAt w bp bv r s u pv) (hs : SchedRd w s) :
    Calls Tryz.prog 127 #[.pointer (some ⟨bp, 0, none⟩), .int .i64 (v : Int), .agg #[.int .i64 p.1, .int .i64 p.2.1, .int .i64 p.2.2]] w fun e w' => e = .returned (evD (evAt r s u v p)) ∧ Below w.heap.size w w' := by
  have hso := off_bd (askS_ok ha).2.1
  have hog := off_get (askS_ok ha).2.1 v
  have hdb := dot_bd (u := u) ha hp
  have hvl : v < s.off.length := by omega
  obtain ⟨oa, oc, og, oo, hoe, hol, hom, hox⟩ := SlOf.at (enc := encInt) (fun _ => rfl) un_sf1 sz_sf1 hs
  obtain ⟨-, hoi, hog2, hoc⟩ := hox v hvl
  have o0 := hoc 0 (Nat.lt_succ_self 0)
  have hget : s.off.getD v 0 = s.off[v] := by rw [List.getD_eq_getElem?_getD, List.getElem?_eq_getElem hvl]; rfl
  rw [← hget] at o0
  have c0 := hpl.c0; have c1 := hpl.c1; have c2 := hpl.c2; have c3 := hpl.c3; have c4 := hpl.c4
  rw [hoe] at c4
  have hplt := hpl.lt; have hvlt := hpl.view.lt
  have f0 := hpl.view.c0; have f1 := hpl.view.c1; have f2 := hpl.view.c2; have f3 := hpl.view.c3; have f4 := hpl.view.c4
  clear hox hoc hpl hs hoe
  have HD := Lib.hid (fun (W : World) => dot_key (u := u) ha hp W)
  have HC := Lib.hid (fun (W : World) => cell_l r.n u p (askS_ok ha).2.2.1 W)
  have HE := Lib.hid (show evD (evAt r s u v p) = .agg #[.int .i64 ((keyS r s u p).1 + s.off.getD v 0), .int .i64 (cellC r.n u p).1, .int .i64 (cellC r.n u p).2, .int .i64 (v : Int), .int .i64 p.1, .int .i64 p.2.1, .int .i64 p.2.2] from rfl)
  have hkd : -540 ≤ (keyS r s u p).1 ∧ (keyS r s u p).1 ≤ 540 := hdb
  rw [HE.out]
  clear ha hp hdb hso hget HE
  generalize (keyS r s u p).1 = d at *
  generalize cellC r.n u p = c at *
  generalize s.off.getD v 0 = o at *
  generalize s.off.length = no at *
  generalize axK r.n u = kk at *
  obtain ⟨p0, p1, p2⟩ := p
  obtain ⟨cx, cy⟩ := c
  simp only at HC
  have HD2 := Lib.hid (show ∀ W, Calls Tryz.prog 125 #[.agg #[.int .i64 s.f.1, .int .i64 s.f.2.1, .int .i64 s.f.2.2], .agg #[.int .i64 p0, .int .i64 p1, .int .i64 p2]] W fun e w' => e = .returned (.int .i64 d) ∧ Below W.heap.size W w' from HD.out)
  have o1 : w.cell? ⟨og, oo + v, none⟩ = some (.int .i64 o) := by simpa [encInt] using o0
  have hoi2 : ∀ W, (Instr.indexAt 39 (.slice oa no oc) (.int .i64 (v : Int))).run Tryz.prog W = .ok (.pointer (some ⟨og, oo + v, none⟩)) W := fun W => by simpa using hoi W
  clear o0 hoi HD
  have VD := Lib.hid (show ∀ V, Below w.heap.size w V → V.cell? ⟨bp, 0, none⟩ = some (.pointer (some ⟨bv, 0, none⟩)) ∧ V.cell? ⟨bp, 1, none⟩ = some (.int .i64 s.f.1) ∧ V.cell? ⟨bp, 2, none⟩ = some (.int .i64 s.f.2.1) ∧ V.cell? ⟨bp, 3, none⟩ = some (.int .i64 s.f.2.2) ∧ V.cell? ⟨bp, 4, none⟩ = some (.slice oa no oc) ∧ V.cell? ⟨bv, 0, none⟩ = some (.int .i64 r.n) ∧ V.cell? ⟨bv, 1, none⟩ = some (.int .i64 kk) ∧ V.cell? ⟨bv, 2, none⟩ = some (.int .i64 u.1) ∧ V.cell? ⟨bv, 3, none⟩ = some (.int .i64 u.2.1) ∧ V.cell? ⟨bv, 4, none⟩ = some (.int .i64 u.2.2) ∧ V.cell? ⟨og, oo + v, none⟩ = some (.int .i64 o) from fun V h => ⟨(h.cell (p := ⟨bp, 0, none⟩) hplt).trans (by assumption), (h.cell (p := ⟨bp, 1, none⟩) hplt).trans (by assumption), (h.cell (p := ⟨bp, 2, none⟩) hplt).trans (by assumption), (h.cell (p := ⟨bp, 3, none⟩) hplt).trans (by assumption), (h.cell (p := ⟨bp, 4, none⟩) hplt).trans (by assumption), (h.cell (p := ⟨bv, 0, none⟩) hvlt).trans (by assumption), (h.cell (p := ⟨bv, 1, none⟩) hvlt).trans (by assumption), (h.cell (p := ⟨bv, 2, none⟩) hvlt).trans (by assumption), (h.cell (p := ⟨bv, 3, none⟩) hvlt).trans (by assumption), (h.cell (p := ⟨bv, 4, none⟩) hvlt).trans (by assumption), (h.cell (p := ⟨og, oo + v, none⟩) hog2).trans (by assumption)⟩)
  clear c0 c1 c2 c3 c4 f0 f1 f2 f3 f4 o1
  obtain ⟨W0, hW0⟩ : ∃ W : World, w.alloc (Obj.cells #[.int .i64 p0, .int .i64 p1, .int .i64 p2] 29) = W := ⟨_, rfl⟩
  have kw0 : Below w.heap.size w W0 := by rw [← hW0]; exact (by repeat (first | exact Below.refl _ _ | assumption | (refine Below.drew ?_) | (refine below_drewN ?_ _) | (refine Below.alloc ?_ (by first | (simp; done) | (simp; omega) | omega) _) | (refine Below.setCell ?_ (by first | (simp; done) | (simp; omega) | omega) _) | (refine Below.trans ?_ (Below.mono (by assumption) (by first | (simp; done) | (simp; omega) | omega)))))
  have ks0 : W0.heap.size = w.heap.size + 1 := by rw [← hW0]; simp
  have RD0 := Lib.hid (show ∀ V, Below W0.heap.size W0 V → V.cell? ⟨w.heap.size, 0, none⟩ = some (.int .i64 p0) ∧ V.cell? ⟨w.heap.size, 1, none⟩ = some (.int .i64 p1) ∧ V.cell? ⟨w.heap.size, 2, none⟩ = some (.int .i64 p2) from fun V h => by
      refine ⟨(h.cell (p := ⟨w.heap.size, 0, none⟩) (by simp; omega)).trans ?_, (h.cell (p := ⟨w.heap.size, 1, none⟩) (by simp; omega)).trans ?_, (h.cell (p := ⟨w.heap.size, 2, none⟩) (by simp; omega)).trans ?_⟩ <;> (subst hW0; go_simp))
  have HW0 := Lib.hid hW0; have KW0 := Lib.hid kw0; clear hW0 kw0
  have hsW : w.heap.size ≤ W0.heap.size := by omega
  have hsum : IntKind.i64.wrap (d + o) = d + o := by rw [IntKind.wrap_i64]; omega
  go_enter Tryz.func127, Tryz.ntmps127
  go_wp2_with fail
  rw [HW0.out]
  have HK0 := Lib.hid ks0
  go_region_held3 (fun w' => Below W0.heap.size W0 w' ∧ (w'.cell? ⟨w.heap.size, 0, none⟩ = some (.int .i64 p0) ∧ w'.cell? ⟨w.heap.size, 1, none⟩ = some (.int .i64 p1) ∧ w'.cell? ⟨w.heap.size, 2, none⟩ = some (.int .i64 p2)) ∧ (w'.cell? ⟨bp, 0, none⟩ = some (.pointer (some ⟨bv, 0, none⟩)) ∧ w'.cell? ⟨bp, 1, none⟩ = some (.int .i64 s.f.1) ∧ w'.cell? ⟨bp, 2, none⟩ = some (.int .i64 s.f.2.1) ∧ w'.cell? ⟨bp, 3, none⟩ = some (.int .i64 s.f.2.2) ∧ w'.cell? ⟨bp, 4, none⟩ = some (.slice oa no oc) ∧ w'.cell? ⟨bv, 0, none⟩ = some (.int .i64 r.n) ∧ w'.cell? ⟨bv, 1, none⟩ = some (.int .i64 kk) ∧ w'.cell? ⟨bv, 2, none⟩ = some (.int .i64 u.1) ∧ w'.cell? ⟨bv, 3, none⟩ = some (.int .i64 u.2.1) ∧ w'.cell? ⟨bv, 4, none⟩ = some (.int .i64 u.2.2) ∧ w'.cell? ⟨og, oo + v, none⟩ = some (.int .i64 o))) (((refine (fun kb => (⟨kb, RD0.out _ kb, VD.out _ (below_at KW0.out hsW kb)⟩)) (?_ : Below W0.heap.size W0 _); exact (by repeat (first | (with_reducible exact Below.refl _ _) | (with_reducible assumption) | (with_reducible refine Below.drew ?_) | (with_reducible refine Below.setCell ?_ (by first | (simp; done) | (simp; omega) | omega) _) | (with_reducible refine Below.alloc ?_ (by first | (simp; done) | (simp; omega) | omega) _) | (with_reducible refine below_drewN ?_ _) | (refine Below.trans ?_ (Below.mono (by with_reducible assumption) (by first | (simp; done) | (simp; omega) | omega)))))))) (first | (go_at_call 125; refine (HD2.out _).mono ?_; go_must (rintro e w5 ⟨rfl, hb5⟩; obtain ⟨hc5, hf5⟩ := bcell hb5; have hs5 := hb5.size; (try simp at hs5); have hq : w.heap.size + 1 + 1 ≤ w5.heap.size := (by have := HK0.out; (first | omega | (have := hs6; omega))); (first | have z := z10 hq | have z := z9 hq | have z := z8 hq | have z := z7 hq | have z := z6 hq | have z := z5 hq | have z := z4 hq | have z := z3 hq | have z := z2 hq | have z := z1 hq | skip))) | (go_at_call 108; refine (HC.out _).mono ?_; go_must (rintro e w6 ⟨rfl, hb6⟩; obtain ⟨hc6, hf6⟩ := bcell hb6; have hs6 := hb6.size; (try simp at hs6); have hq : w.heap.size + 1 + 1 ≤ w6.heap.size := (by have := HK0.out; omega); (first | have z := z10 hq | have z := z9 hq | have z := z8 hq | have z := z7 hq | have z := z6 hq | have z := z5 hq | have z := z4 hq | have z := z3 hq | have z := z2 hq | have z := z1 hq | skip))))
  all_goals
    go_wp2
    refine bodyPost_ret (v := .agg #[.int .i64 (d + o), .int .i64 cx, .int .i64 cy, .int .i64 (v : Int), .int .i64 p0, .int .i64 p1, .int .i64 p2]) (by simp only [results, Tryz.results127]; first | (go_simp; done) | (go_simp; rfl)) rfl ⟨rfl, KW0.out.trans (Below.mono (show Below W0.heap.size W0 _ from (by repeat (first | (with_reducible exact Below.refl _ _) | (with_reducible assumption) | (with_reducible refine Below.drew ?_) | (with_reducible refine Below.setCell ?_ (by first | (simp; done) | (simp; omega) | omega) _) | (with_reducible refine Below.alloc ?_ (by first | (simp; done) | (simp; omega) | omega) _) | (with_reducible refine below_drewN ?_ _) | (refine Below.trans ?_ (Below.mono (by with_reducible assumption) (by first | (simp; done) | (simp; omega) | omega)))))) hsW)⟩
end Go.Proofs.YtnejicklenhpeaaGreat
