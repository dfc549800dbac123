/- The argument of an element: the reference's World.Arg: its walk. -/
import Derived.Test.YtndfdgdahinkpaaGreatTabF
namespace Go.Proofs.YtndfdgdahinkpaaGreat
open Go.RowKit Go.WideMaps
set_option linter.unusedVariables false
theorem un_var9 : Tryz.prog.underlying 25 = some (.slice (Tryz.prog.elem 25)) := by kernel_rfl
theorem sz_var9 (W : World) : (sizeOf (Tryz.prog.elem 25)).run Tryz.prog W = .ok 7 W := by kernel_rfl
theorem un_arg9 : Tryz.prog.underlying 60 = some (.slice (Tryz.prog.elem 60)) := by kernel_rfl
theorem sz_arg9 (W : World) : (sizeOf (Tryz.prog.elem 60)).run Tryz.prog W = .ok 4 W := by kernel_rfl
/-- The element that an element's j-th argument is. -/
def argE (a : ArgD) (p : P3) : ElD := (a.var, p.1 + a.at_.1, p.2.1 + a.at_.2.1, p.2.2 + a.at_.2.2)
set_option maxHeartbeats 4000000 in
set_option maxRecDepth 100000 in
theorem Arg_l (r : RecD) (v j : Nat) (hv : v < r.vars.length) (hj : j < r.vars[v].args.length) (p : P3)
    (hs : (-1000000 ≤ p.1 + r.vars[v].args[j].at_.1 ∧ p.1 + r.vars[v].args[j].at_.1 ≤ 1000000) ∧ (-1000000 ≤ p.2.1 + r.vars[v].args[j].at_.2.1 ∧ p.2.1 + r.vars[v].args[j].at_.2.1 ≤ 1000000) ∧ (-1000000 ≤ p.2.2 + r.vars[v].args[j].at_.2.2 ∧ p.2.2 + r.vars[v].args[j].at_.2.2 ≤ 1000000))
    (b bm n : Nat) (pv : Value) (K : List P3) (w : World) (h : WorldAt w b bm n r pv K) (hr : RecRd w r) :
    Calls Tryz.prog 18 #[.pointer (some ⟨b, 0, none⟩), .agg #[.int .i64 (v : Int), .int .i64 p.1, .int .i64 p.2.1, .int .i64 p.2.2], .int .i64 (j : Int)] w fun x w' => x = .returned (elD (argE r.vars[v].args[j] p)) ∧ Below w.heap.size w w' := by
  have d2 := h.c2
  have hlt := h.lt
  obtain ⟨va, vc, vg, voff, hve, hvl, hvm, hvx⟩ := SlOf.at (enc := encV) (fun _ => rfl) un_var9 sz_var9 hr.vars
  obtain ⟨-, hvi, hvg, hvc⟩ := hvx v hv
  obtain ⟨aa, ac, ag, aoff, hae, hal, ham, hax⟩ := SlOf.at (enc := encA) (fun _ => rfl) un_arg9 sz_arg9 (hr.each _ (List.getElem_mem hv)).1
  obtain ⟨-, hai, hag, hac⟩ := hax j hj
  rw [hve] at d2
  have v2 : w.cell? ⟨vg, voff + 7 * v + 2, none⟩ = some (.slice aa r.vars[v].args.length ac) := by
    have := hvc 2 (by omega)
    rw [show (encV r.vars[v])[2]? = some r.vars[v].argsV from rfl, hae] at this
    exact this
  have a0 : w.cell? ⟨ag, aoff + 4 * j, none⟩ = some (.int .i64 r.vars[v].args[j].var) := hac 0 (by omega)
  have a1 : w.cell? ⟨ag, aoff + 4 * j + 1, none⟩ = some (.int .i64 r.vars[v].args[j].at_.1) := hac 1 (by omega)
  have a2 : w.cell? ⟨ag, aoff + 4 * j + 2, none⟩ = some (.int .i64 r.vars[v].args[j].at_.2.1) := hac 2 (by omega)
  have a3 : w.cell? ⟨ag, aoff + 4 * j + 3, none⟩ = some (.int .i64 r.vars[v].args[j].at_.2.2) := hac 3 (by omega)
  clear hvx hax hvc hac h hr hae hve
  generalize r.vars[v].args[j] = a at *
  generalize r.vars[v].args.length = al at *
  generalize r.vars.length = nv at *
  obtain ⟨p0, p1, p2⟩ := p
  obtain ⟨av, a0', a1', a2'⟩ := a
  simp only at a0 a1 a2 a3 hs
  obtain ⟨⟨h1, h2⟩, ⟨h3, h4⟩, h5, h6⟩ := hs
  have HB := Lib.hid (And.intro hlt (And.intro hvg hag))
  have VD := Lib.hid (show ∀ V, Below w.heap.size w V → V.cell? ⟨b, 2, none⟩ = some (.slice va nv vc) ∧ V.cell? ⟨vg, voff + 7 * v + 2, none⟩ = some (.slice aa al ac) ∧ V.cell? ⟨ag, aoff + 4 * j, none⟩ = some (.int .i64 av) ∧ V.cell? ⟨ag, aoff + 4 * j + 1, none⟩ = some (.int .i64 a0') ∧ V.cell? ⟨ag, aoff + 4 * j + 2, none⟩ = some (.int .i64 a1') ∧ V.cell? ⟨ag, aoff + 4 * j + 3, none⟩ = some (.int .i64 a2') from fun V h => ⟨(h.cell (p := ⟨b, 2, none⟩) hlt).trans (by assumption), (h.cell (p := ⟨vg, voff + 7 * v + 2, none⟩) hvg).trans (by assumption), (h.cell (p := ⟨ag, aoff + 4 * j, none⟩) hag).trans (by assumption), (h.cell (p := ⟨ag, aoff + 4 * j + 1, none⟩) hag).trans (by assumption), (h.cell (p := ⟨ag, aoff + 4 * j + 2, none⟩) hag).trans (by assumption), (h.cell (p := ⟨ag, aoff + 4 * j + 3, none⟩) hag).trans (by assumption)⟩)
  clear d2 v2 a0 a1 a2 a3
  obtain ⟨W0, hW0⟩ : ∃ W : World, (w.alloc (Obj.cells #[.int .i64 (v : Int), .int .i64 p0, .int .i64 p1, .int .i64 p2] 55)).alloc (Obj.cells #[.int .i64 0, .int .i64 0, .int .i64 0, .int .i64 0] 55) = W := ⟨_, rfl⟩
  have kw0 : Below w.heap.size w W0 := by rw [← hW0]; exact (by repeat (first | exact Below.refl _ _ | assumption | (refine Below.drew ?_) | (refine below_drewN ?_ _) | (refine Below.alloc ?_ (by first | (simp; done) | (simp; omega) | omega) _) | (refine Below.setCell ?_ (by first | (simp; done) | (simp; omega) | omega) _) | (refine Below.trans ?_ (Below.mono (by assumption) (by first | (simp; done) | (simp; omega) | omega)))))
  have ks0 : W0.heap.size = w.heap.size + 2 := by rw [← hW0]; simp
  have RD0 := Lib.hid (show ∀ V, Below W0.heap.size W0 V → V.cell? ⟨w.heap.size, 0, none⟩ = some (.int .i64 (v : Int)) ∧ V.cell? ⟨w.heap.size, 1, none⟩ = some (.int .i64 p0) ∧ V.cell? ⟨w.heap.size, 2, none⟩ = some (.int .i64 p1) ∧ V.cell? ⟨w.heap.size, 3, none⟩ = some (.int .i64 p2) ∧ V.cell? ⟨w.heap.size + 1, 0, none⟩ = some (.int .i64 0) ∧ V.cell? ⟨w.heap.size + 1, 1, none⟩ = some (.int .i64 0) ∧ V.cell? ⟨w.heap.size + 1, 2, none⟩ = some (.int .i64 0) ∧ V.cell? ⟨w.heap.size + 1, 3, none⟩ = some (.int .i64 0) from fun V h => by
      refine ⟨(h.cell (p := ⟨w.heap.size, 0, none⟩) (by simp; omega)).trans ?_, (h.cell (p := ⟨w.heap.size, 1, none⟩) (by simp; omega)).trans ?_, (h.cell (p := ⟨w.heap.size, 2, none⟩) (by simp; omega)).trans ?_, (h.cell (p := ⟨w.heap.size, 3, none⟩) (by simp; omega)).trans ?_, (h.cell (p := ⟨w.heap.size + 1, 0, none⟩) (by simp; omega)).trans ?_, (h.cell (p := ⟨w.heap.size + 1, 1, none⟩) (by simp; omega)).trans ?_, (h.cell (p := ⟨w.heap.size + 1, 2, none⟩) (by simp; omega)).trans ?_, (h.cell (p := ⟨w.heap.size + 1, 3, none⟩) (by simp; omega)).trans ?_⟩ <;> (subst hW0; go_simp))
  have HW0 := Lib.hid hW0; have KW0 := Lib.hid kw0; clear hW0 kw0
  go_enter Tryz.func18, Tryz.ntmps18
  go_wp2
  have hfz : ∀ o, W0.frozen? ⟨w.heap.size + 1, o, none⟩ = false := fun o => by rw [← HW0.out]; go_simp
  rw [HW0.out]
  have FZ := Lib.hid (show ∀ V, Below W0.heap.size W0 V → ∀ o, V.frozen? ⟨w.heap.size + 1, o, none⟩ = false from fun V h o => by rw [h.frozen (p := ⟨w.heap.size + 1, o, none⟩) (by simp; omega)]; exact hfz o)
  clear hfz
  have hsW : w.heap.size ≤ W0.heap.size := by omega
  go_region_held3 (fun w' => Below W0.heap.size W0 w' ∧ (w'.cell? ⟨w.heap.size, 0, none⟩ = some (.int .i64 (v : Int)) ∧ w'.cell? ⟨w.heap.size, 1, none⟩ = some (.int .i64 p0) ∧ w'.cell? ⟨w.heap.size, 2, none⟩ = some (.int .i64 p1) ∧ w'.cell? ⟨w.heap.size, 3, none⟩ = some (.int .i64 p2) ∧ w'.cell? ⟨w.heap.size + 1, 0, none⟩ = some (.int .i64 0) ∧ w'.cell? ⟨w.heap.size + 1, 1, none⟩ = some (.int .i64 0) ∧ w'.cell? ⟨w.heap.size + 1, 2, none⟩ = some (.int .i64 0) ∧ w'.cell? ⟨w.heap.size + 1, 3, none⟩ = some (.int .i64 0)) ∧ (w'.cell? ⟨b, 2, none⟩ = some (.slice va nv vc) ∧ w'.cell? ⟨vg, voff + 7 * v + 2, none⟩ = some (.slice aa al ac) ∧ w'.cell? ⟨ag, aoff + 4 * j, none⟩ = some (.int .i64 av) ∧ w'.cell? ⟨ag, aoff + 4 * j + 1, none⟩ = some (.int .i64 a0') ∧ w'.cell? ⟨ag, aoff + 4 * j + 2, none⟩ = some (.int .i64 a1') ∧ w'.cell? ⟨ag, aoff + 4 * j + 3, none⟩ = some (.int .i64 a2'))) (((refine (fun kb => (⟨kb, RD0.out _ kb, VD.out _ (below_at KW0.out hsW kb)⟩)) (?_ : Below W0.heap.size W0 _); exact (by repeat (first | (with_reducible exact Below.refl _ _) | (with_reducible assumption) | (with_reducible refine Below.drew ?_) | (with_reducible refine Below.setCell ?_ (by first | (simp; done) | (simp; omega) | omega) _) | (with_reducible refine Below.alloc ?_ (by first | (simp; done) | (simp; omega) | omega) _) | (with_reducible refine below_drewN ?_ _) | (refine Below.trans ?_ (Below.mono (by with_reducible assumption) (by first | (simp; done) | (simp; omega) | omega)))))))) (fail)
  all_goals
    have hz := z2 (show w.heap.size + 1 + 1 ≤ W0.heap.size by omega)
    have hfz := FZ.out W0 (Below.refl _ _)
    have K0 := Below.refl W0.heap.size W0
    obtain ⟨k0_0, k0_1, k0_2, k0_3, k0_4, k0_5, k0_6, k0_7⟩ := RD0.out _ K0
    go_wp2
    have KX := KW0.out
    refine bodyPost_ret (v := .agg #[.int .i64 av, .int .i64 (p0 + a0'), .int .i64 (p1 + a1'), .int .i64 (p2 + a2')]) (by simp only [results, Tryz.results18]; first | (go_simp; done) | (go_simp; rfl)) rfl ⟨rfl, ?_⟩
    exact Below.drew (by first | exact (by repeat (first | (with_reducible exact Below.refl _ _) | (with_reducible assumption) | (with_reducible refine Below.drew ?_) | (with_reducible refine Below.setCell ?_ (by first | (simp; done) | (simp; omega) | omega) _) | (with_reducible refine Below.alloc ?_ (by first | (simp; done) | (simp; omega) | omega) _) | (with_reducible refine below_drewN ?_ _) | (refine Below.trans ?_ (Below.mono (by with_reducible assumption) (by first | (simp; done) | (simp; omega) | omega))))) | exact KX)
end Go.Proofs.YtndfdgdahinkpaaGreat
