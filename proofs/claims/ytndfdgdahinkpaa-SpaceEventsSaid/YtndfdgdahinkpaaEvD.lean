/- The reference's world: Is, Size, Element; its Time and event: their walks. -/
import Derived.Test.YtndfdgdahinkpaaEvC
import Derived.Test.YtndfdgdahinkpaaEvA
namespace Go.Proofs.Ytndfdgdahinkpaa
open Go.RowKit Go.WideMaps
def isEl (r : RecD) (e : ElD) : Bool := decide (e.2 ∈ ptsL r.n r.l) && (decide (0 ≤ e.1) && decide (e.1 < (r.vars.length : Int)))
set_option maxHeartbeats 4000000 in
set_option maxRecDepth 100000 in
theorem Is_l (r : RecD) (e : ElD) (he : wf3 e.2) (hvv : ∃ a c, r.vv = .slice a r.vars.length c) (b bm n : Nat) (pv : Value) (w : World) (h : WorldAt w b bm n r pv (ptsL r.n r.l)) :
    Calls Try.prog 48 #[.pointer (some ⟨b, 0, none⟩), .agg #[.int .i64 e.1, .int .i64 e.2.1, .int .i64 e.2.2.1, .int .i64 e.2.2.2]] w fun x w' => x = .returned (.bool (isEl r e)) ∧ Below w.heap.size w w' := by
  obtain ⟨va, vc, hvv⟩ := hvv
  have HLK := Lib.hid (fun (V : World) (hV : Below w.heap.size w V) => PosM.look h.at_ e.2 he V hV)
  have d2 := h.c2
  rw [hvv] at d2
  have d4 := h.c4
  have hlt := h.lt
  clear h he hvv
  have HI := Lib.hid (show isEl r e = (decide (e.2 ∈ ptsL r.n r.l) && (decide (0 ≤ e.1) && decide (e.1 < (r.vars.length : Int)))) from rfl)
  rw [HI.out]
  clear HI
  generalize (posF (ptsL r.n r.l) e.2).getD (.int .i64 0) = z at *
  generalize decide (e.2 ∈ ptsL r.n r.l) = B at *
  obtain ⟨v, p0, p1, p2⟩ := e
  simp only [ptV] at HLK
  simp only
  generalize r.vars.length = nv at *
  have VD := Lib.hid (show ∀ V, Below w.heap.size w V → V.cell? ⟨b, 2, none⟩ = some (.slice va nv vc) ∧ V.cell? ⟨b, 4, none⟩ = some (.map (some bm)) from fun V h => ⟨(h.cell (p := ⟨b, 2, none⟩) hlt).trans (by assumption), (h.cell (p := ⟨b, 4, none⟩) hlt).trans (by assumption)⟩)
  clear d2 d4
  obtain ⟨W0, hW0⟩ : ∃ W : World, w.alloc (Obj.cells #[.int .i64 v, .int .i64 p0, .int .i64 p1, .int .i64 p2] 47) = W := ⟨_, rfl⟩
  have kw0 : Below w.heap.size w W0 := by rw [← hW0]; exact (by repeat (first | exact Below.refl _ _ | assumption | (refine Below.drew ?_) | (refine below_drewN ?_ _) | (refine Below.alloc ?_ (by first | (simp; done) | (simp; omega) | omega) _) | (refine Below.setCell ?_ (by first | (simp; done) | (simp; omega) | omega) _) | (refine Below.trans ?_ (Below.mono (by assumption) (by first | (simp; done) | (simp; omega) | omega)))))
  have ks0 : W0.heap.size = w.heap.size + 1 := by rw [← hW0]; simp
  have RD0 := Lib.hid (show ∀ V, Below W0.heap.size W0 V → V.cell? ⟨w.heap.size, 0, none⟩ = some (.int .i64 v) ∧ V.cell? ⟨w.heap.size, 1, none⟩ = some (.int .i64 p0) ∧ V.cell? ⟨w.heap.size, 2, none⟩ = some (.int .i64 p1) ∧ V.cell? ⟨w.heap.size, 3, none⟩ = some (.int .i64 p2) from fun V h => by
      refine ⟨(h.cell (p := ⟨w.heap.size, 0, none⟩) (by simp; omega)).trans ?_, (h.cell (p := ⟨w.heap.size, 1, none⟩) (by simp; omega)).trans ?_, (h.cell (p := ⟨w.heap.size, 2, none⟩) (by simp; omega)).trans ?_, (h.cell (p := ⟨w.heap.size, 3, none⟩) (by simp; omega)).trans ?_⟩ <;> (subst hW0; go_simp))
  have HW0 := Lib.hid hW0; have KW0 := Lib.hid kw0; clear hW0 kw0
  obtain ⟨y0, y1⟩ := VD.out W0 KW0.out
  obtain ⟨k0, k1, k2, k3⟩ := RD0.out W0 (Below.refl _ _)
  have hl := HLK.out W0.drew KW0.out.drew
  have hl2 := HLK.out W0 KW0.out
  go_enter Try.func48, Try.ntmps48
  go_wp2
  rw [HW0.out]
  go_region
  go_wp2
  cases B
  · go_region
    all_goals (go_wp2; refine bodyPost_ret (v := .bool false) (by simp only [results, Try.results48]; first | (go_simp; done) | (go_simp; rfl)) rfl ⟨ret_bool (by simp <;> omega), KW0.out.trans (Below.mono (show Below W0.heap.size W0 _ from (by repeat (first | (with_reducible exact Below.refl _ _) | (with_reducible assumption) | (with_reducible refine Below.drew ?_) | (with_reducible refine Below.setCell ?_ (by first | (simp; done) | (simp; omega) | omega) _) | (with_reducible refine Below.alloc ?_ (by first | (simp; done) | (simp; omega) | omega) _) | (with_reducible refine below_drewN ?_ _) | (refine Below.trans ?_ (Below.mono (by with_reducible assumption) (by first | (simp; done) | (simp; omega) | omega)))))) (by omega))⟩)
  · by_cases h1 : 0 ≤ v
    · by_cases h2 : v < (nv : Int)
      · go_region
        all_goals (go_wp2; refine bodyPost_ret (v := .bool true) (by simp only [results, Try.results48]; first | (go_simp; done) | (go_simp; rfl)) rfl ⟨ret_bool (by simp <;> omega), KW0.out.trans (Below.mono (show Below W0.heap.size W0 _ from (by repeat (first | (with_reducible exact Below.refl _ _) | (with_reducible assumption) | (with_reducible refine Below.drew ?_) | (with_reducible refine Below.setCell ?_ (by first | (simp; done) | (simp; omega) | omega) _) | (with_reducible refine Below.alloc ?_ (by first | (simp; done) | (simp; omega) | omega) _) | (with_reducible refine below_drewN ?_ _) | (refine Below.trans ?_ (Below.mono (by with_reducible assumption) (by first | (simp; done) | (simp; omega) | omega)))))) (by omega))⟩)
      · go_region
        all_goals (go_wp2; refine bodyPost_ret (v := .bool false) (by simp only [results, Try.results48]; first | (go_simp; done) | (go_simp; rfl)) rfl ⟨ret_bool (by simp <;> omega), KW0.out.trans (Below.mono (show Below W0.heap.size W0 _ from (by repeat (first | (with_reducible exact Below.refl _ _) | (with_reducible assumption) | (with_reducible refine Below.drew ?_) | (with_reducible refine Below.setCell ?_ (by first | (simp; done) | (simp; omega) | omega) _) | (with_reducible refine Below.alloc ?_ (by first | (simp; done) | (simp; omega) | omega) _) | (with_reducible refine below_drewN ?_ _) | (refine Below.trans ?_ (Below.mono (by with_reducible assumption) (by first | (simp; done) | (simp; omega) | omega)))))) (by omega))⟩)
    · go_region
      all_goals (go_wp2; refine bodyPost_ret (v := .bool false) (by simp only [results, Try.results48]; first | (go_simp; done) | (go_simp; rfl)) rfl ⟨ret_bool (by simp <;> omega), KW0.out.trans (Below.mono (show Below W0.heap.size W0 _ from (by repeat (first | (with_reducible exact Below.refl _ _) | (with_reducible assumption) | (with_reducible refine Below.drew ?_) | (with_reducible refine Below.setCell ?_ (by first | (simp; done) | (simp; omega) | omega) _) | (with_reducible refine Below.alloc ?_ (by first | (simp; done) | (simp; omega) | omega) _) | (with_reducible refine below_drewN ?_ _) | (refine Below.trans ?_ (Below.mono (by with_reducible assumption) (by first | (simp; done) | (simp; omega) | omega)))))) (by omega))⟩)
set_option maxHeartbeats 4000000 in
set_option maxRecDepth 100000 in
theorem Size_l (r : RecD) (hn : r.vars.length * (ptsL r.n r.l).length ≤ 1000000) (hvv : ∃ a c, r.vv = .slice a r.vars.length c) (b bm n : Nat) (pv : Value) (K : List P3) (w : World) (h : WorldAt w b bm n r pv K) :
    Calls Try.prog 73 #[.pointer (some ⟨b, 0, none⟩)] w fun x w' => x = .returned (.int .i64 ((r.vars.length * (ptsL r.n r.l).length : Nat) : Int)) ∧ Below w.heap.size w w' := by
  obtain ⟨va, vc, hvv⟩ := hvv
  have d2 := h.c2
  rw [hvv] at d2
  have d3 := h.c3
  obtain ⟨pa, pc, rfl, -⟩ := h.pts.shape
  have hlt := h.lt
  clear h hvv
  generalize (ptsL r.n r.l).length = np at *
  generalize r.vars.length = nv at *
  have hb1 : (0 : Int) ≤ (nv : Int) * (np : Int) := Int.mul_nonneg (Int.natCast_nonneg _) (Int.natCast_nonneg _)
  have hb2 : (nv : Int) * (np : Int) ≤ 1000000 := by rw [← Int.natCast_mul]; omega
  have HC := Lib.hid (show ((nv * np : Nat) : Int) = (nv : Int) * (np : Int) from Int.natCast_mul nv np)
  rw [HC.out]
  clear hn
  go_enter Try.func73, Try.ntmps73
  go_wp2
  go_region
  all_goals
    go_wp2
    refine bodyPost_ret (v := .int .i64 ((nv : Int) * (np : Int))) (by simp only [results, Try.results73]; first | (go_simp; done) | (go_simp; rfl)) rfl ⟨rfl, by repeat (first | (with_reducible exact Below.refl _ _) | (with_reducible assumption) | (with_reducible refine Below.drew ?_) | (with_reducible refine Below.setCell ?_ (by first | (simp; done) | (simp; omega) | omega) _) | (with_reducible refine Below.alloc ?_ (by first | (simp; done) | (simp; omega) | omega) _) | (with_reducible refine below_drewN ?_ _) | (refine Below.trans ?_ (Below.mono (by with_reducible assumption) (by first | (simp; done) | (simp; omega) | omega))))⟩
set_option maxHeartbeats 4000000 in
set_option maxRecDepth 100000 in
theorem Element_l (r : RecD) (i v k : Nat) (hv : v ≤ 1000000) (hk : k < (ptsL r.n r.l).length) (hi : i = v * (ptsL r.n r.l).length + k) (b bm n : Nat) (pv : Value) (K : List P3) (w : World) (h : WorldAt w b bm n r pv K) :
    Calls Try.prog 74 #[.pointer (some ⟨b, 0, none⟩), .int .i64 (i : Int)] w fun x w' => x = .returned (elD ((v : Int), (ptsL r.n r.l).getD k (0, 0, 0))) ∧ Below w.heap.size w w' := by
  have d3 := h.c3
  obtain ⟨qa, qc, g, off, rfl, hlc, hcm, hx⟩ := SlOf.at (enc := encP) (fun _ => rfl) un_pts sz_pts h.pts
  unfold maxLen at hcm
  have hlt := h.lt
  clear h
  obtain ⟨-, hix, hg, hc⟩ := hx k hk
  have hgd : (ptsL r.n r.l).getD k (0, 0, 0) = (ptsL r.n r.l)[k] := by simp [List.getD, hk]
  rw [hgd]
  clear hgd hx
  generalize (ptsL r.n r.l)[k] = p at *
  obtain ⟨p0, p1, p2⟩ := p
  have r0 : w.cell? ⟨g, off + 3 * k, none⟩ = some (.int .i64 p0) := hc 0 (by omega)
  have r1 : w.cell? ⟨g, off + 3 * k + 1, none⟩ = some (.int .i64 p1) := hc 1 (by omega)
  have r2 : w.cell? ⟨g, off + 3 * k + 2, none⟩ = some (.int .i64 p2) := hc 2 (by omega)
  clear hc
  generalize (ptsL r.n r.l).length = np at *
  have hq : (i : Int).tdiv (np : Int) = (v : Int) := by
    rw [Int.tdiv_eq_ediv_of_nonneg (by omega), hi]
    have h1 : (v * np + k) / np = v := by
      rw [Nat.mul_comm, Nat.mul_add_div (by omega), Nat.div_eq_of_lt hk, Nat.add_zero]
    exact_mod_cast h1
  have hr : (i : Int).tmod (np : Int) = (k : Int) := by
    rw [Int.tmod_eq_emod_of_nonneg (by omega), hi]
    have h1 : (v * np + k) % np = k := by
      rw [Nat.mul_comm, Nat.mul_add_mod, Nat.mod_eq_of_lt hk]
    exact_mod_cast h1
  have hnz : (np : Int) ≠ 0 := by omega
  clear hi
  go_enter Try.func74, Try.ntmps74
  go_wp2
  go_region
  all_goals
    go_wp2
    refine bodyPost_ret (v := .agg #[.int .i64 (v : Int), .int .i64 p0, .int .i64 p1, .int .i64 p2]) (by simp only [results, Try.results74]; first | (go_simp; done) | (go_simp; rfl)) rfl ⟨rfl, by repeat (first | (with_reducible exact Below.refl _ _) | (with_reducible assumption) | (with_reducible refine Below.drew ?_) | (with_reducible refine Below.setCell ?_ (by first | (simp; done) | (simp; omega) | omega) _) | (with_reducible refine Below.alloc ?_ (by first | (simp; done) | (simp; omega) | omega) _) | (with_reducible refine below_drewN ?_ _) | (refine Below.trans ?_ (Below.mono (by with_reducible assumption) (by first | (simp; done) | (simp; omega) | omega))))⟩
end Go.Proofs.Ytndfdgdahinkpaa
