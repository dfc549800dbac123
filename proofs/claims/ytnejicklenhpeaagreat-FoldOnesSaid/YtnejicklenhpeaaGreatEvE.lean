/- The reference's Time and event: their walks. -/
import Derived.Test.YtnejicklenhpeaaGreatEvD
namespace Go.Proofs.YtnejicklenhpeaaGreat
open Go.RowKit Go.WideMaps
set_option maxHeartbeats 4000000 in
set_option maxRecDepth 100000 in
theorem Time_l (r : RecD) (s : SchedD) (u : P3) (ha : askS r s u = 0) (v : Nat) (hv : v < r.vars.length) (p : P3) (hp : p ∈ ptsL r.n r.l) (w : World) (hs : SchedRd w s) :
    Calls Tryz.prog 119 #[.agg #[.int .i64 s.f.1, .int .i64 s.f.2.1, .int .i64 s.f.2.2, s.ov], .agg #[.int .i64 (v : Int), .int .i64 p.1, .int .i64 p.2.1, .int .i64 p.2.2]] w fun e w' => e = .returned (.int .i64 (evAt r s u v p).t) ∧ Below w.heap.size w w' := by
  have hso := off_bd (askS_ok ha).2.1
  have hog := off_get (askS_ok ha).2.1 v
  have hdb := dot_bd (u := u) ha hp
  have hvl : v < s.off.length := by omega
  obtain ⟨oa, oc, og, oo, hoe, hol, hom, hox⟩ := SlOf.at (enc := encInt) (fun _ => rfl) un_sf1 sz_sf1 hs
  obtain ⟨-, hoi, hog2, hoc⟩ := hox v hvl
  have o0 := hoc 0 (Nat.lt_succ_self 0)
  have hget : s.off.getD v 0 = s.off[v] := by rw [List.getD_eq_getElem?_getD, List.getElem?_eq_getElem hvl]; rfl
  rw [← hget] at o0
  have HD := Lib.hid (fun (W : World) => show Calls Tryz.prog 137 #[.agg #[.int .i64 s.f.1, .int .i64 s.f.2.1, .int .i64 s.f.2.2], .agg #[.int .i64 p.1, .int .i64 p.2.1, .int .i64 p.2.2]] W fun e w' => e = .returned (.int .i64 (dot3 s.f p)) ∧ Below W.heap.size W w' from rdot_key (u := u) ha hp W)
  have HE := Lib.hid (show (evAt r s u v p).t = dot3 s.f p + s.off.getD v 0 from rfl)
  rw [HE.out]
  clear ha hp hget HE hox hoc hs hso
  rw [hoe]
  clear hoe
  generalize dot3 s.f p = d at *
  generalize s.off.getD v 0 = o at *
  generalize s.off.length = no at *
  have o1 : w.cell? ⟨og, oo + v, none⟩ = some (.int .i64 o) := by simpa [encInt] using o0
  have hoi2 : ∀ W, (Instr.indexAt 39 (.slice oa no oc) (.int .i64 (v : Int))).run Tryz.prog W = .ok (.pointer (some ⟨og, oo + v, none⟩)) W := fun W => by simpa using hoi W
  clear o0 hoi
  have VD := Lib.hid (show ∀ V, Below w.heap.size w V → V.cell? ⟨og, oo + v, none⟩ = some (.int .i64 o) from fun V h => (h.cell (p := ⟨og, oo + v, none⟩) hog2).trans (by assumption))
  clear o1
  obtain ⟨W0, hW0⟩ : ∃ W : World, (w.alloc (Obj.cells #[.int .i64 s.f.1, .int .i64 s.f.2.1, .int .i64 s.f.2.2, .slice oa no oc] 47)).alloc (Obj.cells #[.int .i64 (v : Int), .int .i64 p.1, .int .i64 p.2.1, .int .i64 p.2.2] 51) = W := ⟨_, rfl⟩
  have kw0 : Below w.heap.size w W0 := by rw [← hW0]; exact (by repeat (first | exact Below.refl _ _ | assumption | (refine Below.drew ?_) | (refine below_drewN ?_ _) | (refine Below.alloc ?_ (by first | (simp; done) | (simp; omega) | omega) _) | (refine Below.setCell ?_ (by first | (simp; done) | (simp; omega) | omega) _) | (refine Below.trans ?_ (Below.mono (by assumption) (by first | (simp; done) | (simp; omega) | omega)))))
  have ks0 : W0.heap.size = w.heap.size + 2 := by rw [← hW0]; simp
  have RD0 := Lib.hid (show ∀ V, Below W0.heap.size W0 V → V.cell? ⟨w.heap.size, 0, none⟩ = some (.int .i64 s.f.1) ∧ V.cell? ⟨w.heap.size, 1, none⟩ = some (.int .i64 s.f.2.1) ∧ V.cell? ⟨w.heap.size, 2, none⟩ = some (.int .i64 s.f.2.2) ∧ V.cell? ⟨w.heap.size, 3, none⟩ = some (.slice oa no oc) ∧ V.cell? ⟨w.heap.size + 1, 0, none⟩ = some (.int .i64 (v : Int)) ∧ V.cell? ⟨w.heap.size + 1, 1, none⟩ = some (.int .i64 p.1) ∧ V.cell? ⟨w.heap.size + 1, 2, none⟩ = some (.int .i64 p.2.1) ∧ V.cell? ⟨w.heap.size + 1, 3, none⟩ = some (.int .i64 p.2.2) from fun V h => by
      refine ⟨(h.cell (p := ⟨w.heap.size, 0, none⟩) (by simp; omega)).trans ?_, (h.cell (p := ⟨w.heap.size, 1, none⟩) (by simp; omega)).trans ?_, (h.cell (p := ⟨w.heap.size, 2, none⟩) (by simp; omega)).trans ?_, (h.cell (p := ⟨w.heap.size, 3, none⟩) (by simp; omega)).trans ?_, (h.cell (p := ⟨w.heap.size + 1, 0, none⟩) (by simp; omega)).trans ?_, (h.cell (p := ⟨w.heap.size + 1, 1, none⟩) (by simp; omega)).trans ?_, (h.cell (p := ⟨w.heap.size + 1, 2, none⟩) (by simp; omega)).trans ?_, (h.cell (p := ⟨w.heap.size + 1, 3, none⟩) (by simp; omega)).trans ?_⟩ <;> (subst hW0; go_simp))
  have HW0 := Lib.hid hW0; have KW0 := Lib.hid kw0; clear hW0 kw0
  have hsW : w.heap.size ≤ W0.heap.size := by omega
  have hsum : IntKind.i64.wrap (d + o) = d + o := by rw [IntKind.wrap_i64]; omega
  go_enter Tryz.func119, Tryz.ntmps119
  go_wp2_with fail
  rw [HW0.out]
  go_region_held3 (fun w' => Below W0.heap.size W0 w' ∧ (w'.cell? ⟨w.heap.size, 0, none⟩ = some (.int .i64 s.f.1) ∧ w'.cell? ⟨w.heap.size, 1, none⟩ = some (.int .i64 s.f.2.1) ∧ w'.cell? ⟨w.heap.size, 2, none⟩ = some (.int .i64 s.f.2.2) ∧ w'.cell? ⟨w.heap.size, 3, none⟩ = some (.slice oa no oc) ∧ w'.cell? ⟨w.heap.size + 1, 0, none⟩ = some (.int .i64 (v : Int)) ∧ w'.cell? ⟨w.heap.size + 1, 1, none⟩ = some (.int .i64 p.1) ∧ w'.cell? ⟨w.heap.size + 1, 2, none⟩ = some (.int .i64 p.2.1) ∧ w'.cell? ⟨w.heap.size + 1, 3, none⟩ = some (.int .i64 p.2.2)) ∧ (w'.cell? ⟨og, oo + v, none⟩ = some (.int .i64 o))) (((refine (fun kb => (⟨kb, RD0.out _ kb, VD.out _ (below_at KW0.out hsW kb)⟩)) (?_ : Below W0.heap.size W0 _); exact (by repeat (first | (with_reducible exact Below.refl _ _) | (with_reducible assumption) | (with_reducible refine Below.drew ?_) | (with_reducible refine Below.setCell ?_ (by first | (simp; done) | (simp; omega) | omega) _) | (with_reducible refine Below.alloc ?_ (by first | (simp; done) | (simp; omega) | omega) _) | (with_reducible refine below_drewN ?_ _) | (refine Below.trans ?_ (Below.mono (by with_reducible assumption) (by first | (simp; done) | (simp; omega) | omega)))))))) (first | (go_at_call 137; refine (HD.out _).mono ?_; go_must (rintro e w5 ⟨rfl, hb5⟩; have hs5 := hb5.size; (try simp at hs5))))
  all_goals
    go_wp2
    refine bodyPost_ret (v := .int .i64 (d + o)) (by simp only [results, Tryz.results119]; first | (go_simp; done) | (go_simp; rfl)) rfl ⟨rfl, KW0.out.trans (Below.mono (show Below W0.heap.size W0 _ from (by repeat (first | (with_reducible exact Below.refl _ _) | (with_reducible assumption) | (with_reducible refine Below.drew ?_) | (with_reducible refine Below.setCell ?_ (by first | (simp; done) | (simp; omega) | omega) _) | (with_reducible refine Below.alloc ?_ (by first | (simp; done) | (simp; omega) | omega) _) | (with_reducible refine below_drewN ?_ _) | (refine Below.trans ?_ (Below.mono (by with_reducible assumption) (by first | (simp; done) | (simp; omega) | omega)))))) hsW)⟩
end Go.Proofs.YtnejicklenhpeaaGreat
