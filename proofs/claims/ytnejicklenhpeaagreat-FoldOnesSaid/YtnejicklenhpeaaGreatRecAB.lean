/- The cell of a point, for any direction: the program's and the reference's. Package space: look; and the reference's Asked: their walks. The points of a cell: the program's Line and the reference's. The reference's line and Line, and whether two lists of points are the same: their walks. The reference's Line; equality of points; whether two lists of points are the same: their walks. The walk of the law SpaceLines: it returns true. Conditions: none. -/
import Derived.Test.YtnejicklenhpeaaGreatRecAA
import Derived.Test.YtnejicklenhpeaaGreatSpaceT
namespace Go.Proofs.YtnejicklenhpeaaGreat
open Go.RowKit
def dirB (n : Int) (u : P3) : Bool := validB n u.1 u.2.1 u.2.2
def axK (n : Int) (u : P3) : Int := findK n u.1 u.2.1 u.2.2
/-- The cell of a point. -/
def cellC (n : Int) (u p : P3) : Int × Int := (cA n (axK n u) u.1 u.2.1 u.2.2 p.1 p.2.1 p.2.2, cB n (axK n u) u.1 u.2.1 u.2.2 p.1 p.2.1 p.2.2)
theorem dir_cases {n : Int} {u : P3} (h : dirB n u = true) : (n = 1 ∧ axK n u = 0 ∧ u.2.1 = 0 ∧ u.2.2 = 0) ∨ (n = 2 ∧ (axK n u = 0 ∨ axK n u = 1) ∧ u.2.2 = 0) ∨ (n = 3 ∧ (axK n u = 0 ∨ axK n u = 1 ∨ axK n u = 2)) := by
  obtain ⟨hn, hf, hk⟩ := validB_out h
  have h1 := btw_out hn
  have h2 := findK_nonneg n u.1 u.2.1 u.2.2
  have h3 := findK_le n u.1 u.2.1 u.2.2
  have h4 := findK_le1 n u.1 u.2.1 u.2.2
  have h5 := flat_pad hn hf
  unfold axK
  rcases h5 with ⟨rfl, e1, e2, _⟩ | ⟨rfl, e2, _⟩ | ⟨rfl, _⟩
  · refine .inl ⟨rfl, ?_, e1, e2⟩
    have := h3 (by omega); have := h4 (by omega); omega
  · refine .inr (.inl ⟨rfl, ?_, e2⟩)
    have := h3 (by omega); omega
  · exact .inr (.inr ⟨rfl, by omega⟩)
theorem cell_l (n : Int) (u p : P3) (h : dirB n u = true) (w : World) :
    Calls Tryz.prog 108 #[.agg #[.int .i64 n, .int .i64 (axK n u), .int .i64 u.1, .int .i64 u.2.1, .int .i64 u.2.2], .agg #[.int .i64 p.1, .int .i64 p.2.1, .int .i64 p.2.2]] w fun e w' => e = .returned (.agg #[.int .i64 (cellC n u p).1, .int .i64 (cellC n u p).2]) ∧ Below w.heap.size w w' := by
  have hc := dir_cases h
  unfold cellC
  generalize axK n u = k at *
  rcases hc with ⟨rfl, rfl, _⟩ | ⟨rfl, rfl | rfl, _⟩ | ⟨rfl, rfl | rfl | rfl⟩
  · exact cell10 _ _ _ _ _ _ w
  · exact cell20 _ _ _ _ _ _ w
  · exact cell21 _ _ _ _ _ _ w
  · exact cell30 _ _ _ _ _ _ w
  · exact cell31 _ _ _ _ _ _ w
  · exact cell32 _ _ _ _ _ _ w
theorem rFold_l (n : Int) (u p : P3) (h : dirB n u = true) (m : Int) (hp : flatB n p.1 p.2.1 p.2.2 m = true) (w : World) :
    Calls Tryz.prog 55 #[.int .i64 n, .agg #[.int .i64 u.1, .int .i64 u.2.1, .int .i64 u.2.2], .agg #[.int .i64 p.1, .int .i64 p.2.1, .int .i64 p.2.2]] w fun e w' => e = .returned (.agg #[.int .i64 (cellC n u p).1, .int .i64 (cellC n u p).2]) ∧ Below w.heap.size w w' := by
  have hc := dir_cases h
  obtain ⟨hn, hf, hk⟩ := validB_out h
  have hpad := flat_pad hn hp
  have hb : (btw 1 n 3 && flatB n u.1 u.2.1 u.2.2 3) = true := by rw [hn, hf]; rfl
  unfold cellC
  unfold axK at *
  obtain ⟨u0, u1, u2⟩ := u
  obtain ⟨p0, p1, p2⟩ := p
  simp only at hc hpad hb hf hp hn ⊢
  rcases hc with ⟨rfl, e, rfl, rfl⟩ | ⟨rfl, e | e, rfl⟩ | ⟨rfl, e | e | e⟩
  · obtain ⟨_, rfl, rfl, _⟩ | ⟨h, _⟩ | ⟨h, _⟩ := hpad
    · rw [e]; exact Fold10 _ _ w hb e
    · omega
    · omega
  · obtain ⟨h, _⟩ | ⟨_, rfl, _⟩ | ⟨h, _⟩ := hpad
    · omega
    · rw [e]; exact Fold20 _ _ _ _ w hb e
    · omega
  · obtain ⟨h, _⟩ | ⟨_, rfl, _⟩ | ⟨h, _⟩ := hpad
    · omega
    · rw [e]; exact Fold21 _ _ _ _ w hb e
    · omega
  · rw [e]; exact Fold30 _ _ _ _ _ _ w hb e
  · rw [e]; exact Fold31 _ _ _ _ _ _ w hb e
  · rw [e]; exact Fold32 _ _ _ _ _ _ w hb e
end Go.Proofs.YtnejicklenhpeaaGreat
namespace Go.Proofs.YtnejicklenhpeaaGreat
open Go.RowKit
theorem validR_out {n : Int} {l : List IneqD} {vs : List VarD} (h : validR n l vs = true) : validD n l = true ∧ (ptsL n l).length ≤ 1000 ∧ (1 ≤ vs.length ∧ vs.length ≤ 4) ∧ vs.all (varB n vs.length) = true := by
  simp only [validR, Bool.and_eq_true, decide_eq_true_eq] at h
  exact ⟨h.1, h.2.1, h.2.2.1, h.2.2.2.1⟩
/-- In block b lies the view of r along u, with its points. -/
structure ViewAt (w : World) (b : Nat) (r : RecD) (u : P3) (pv : Value) : Prop where
  lt : b < w.heap.size
  c0 : w.cell? ⟨b, 0, none⟩ = some (.int .i64 r.n)
  c1 : w.cell? ⟨b, 1, none⟩ = some (.int .i64 (axK r.n u))
  c2 : w.cell? ⟨b, 2, none⟩ = some (.int .i64 u.1)
  c3 : w.cell? ⟨b, 3, none⟩ = some (.int .i64 u.2.1)
  c4 : w.cell? ⟨b, 4, none⟩ = some (.int .i64 u.2.2)
  c5 : w.cell? ⟨b, 5, none⟩ = some (.int .i64 r.n)
  c6 : w.cell? ⟨b, 6, none⟩ = some r.lv
  c7 : w.cell? ⟨b, 7, none⟩ = some r.vv
  c8 : w.cell? ⟨b, 8, none⟩ = some pv
  pts : SlOf w w.heap.size 3 encP pv (ptsL r.n r.l)
theorem ViewAt.below {w w' : World} {b : Nat} {r : RecD} {u : P3} {pv : Value} (h : ViewAt w b r u pv) (hb : Below w.heap.size w w') : ViewAt w' b r u pv :=
  ⟨Nat.lt_of_lt_of_le h.lt hb.size, (hb.cell (p := ⟨b, 0, none⟩) h.lt).trans h.c0, (hb.cell (p := ⟨b, 1, none⟩) h.lt).trans h.c1, (hb.cell (p := ⟨b, 2, none⟩) h.lt).trans h.c2, (hb.cell (p := ⟨b, 3, none⟩) h.lt).trans h.c3, (hb.cell (p := ⟨b, 4, none⟩) h.lt).trans h.c4, (hb.cell (p := ⟨b, 5, none⟩) h.lt).trans h.c5, (hb.cell (p := ⟨b, 6, none⟩) h.lt).trans h.c6, (hb.cell (p := ⟨b, 7, none⟩) h.lt).trans h.c7, (hb.cell (p := ⟨b, 8, none⟩) h.lt).trans h.c8, h.pts.below hb⟩
/-- The error of a recurrence and a direction. -/
def askE (r : RecD) (u : P3) : Int := if validR r.n r.l r.vars = true then (if dirB r.n u = true then 0 else 40) else 20
def LookR (r : RecD) (u : P3) (e : Ending) (w' : World) : Prop := if askE r u = 0 then ∃ b pv, e = .returned (.tuple #[.pointer (some ⟨b, 0, none⟩), .int .i64 0]) ∧ ViewAt w' b r u pv else e = .returned (.tuple #[.pointer none, .int .i64 (askE r u)])
theorem lookR_err {r : RecD} {u : P3} {k : Int} (h : askE r u = k) (hk : k ≠ 0) (w' : World) : LookR r u (.returned (.tuple #[.pointer none, .int .i64 k])) w' := by
  unfold LookR
  rw [h, if_neg hk]
set_option maxHeartbeats 4000000 in
set_option maxRecDepth 100000 in
theorem look_l (r : RecD) (u : P3) (w : World) (hr : RecRd w r) :
    Calls Tryz.prog 122 #[.agg #[.int .i64 r.n, r.lv, r.vv], .agg #[.int .i64 u.1, .int .i64 u.2.1, .int .i64 u.2.2]] w fun e w' => LookR r u e w' ∧ Below w.heap.size w w' := by
  have HR := Lib.hid hr
  clear hr
  have HV := Lib.hid (fun (W : World) (h : RecRd W r) => rValid_l r W h)
  obtain ⟨W0, hW0⟩ : ∃ W : World, (w.alloc (Obj.cells #[.int .i64 r.n, r.lv, r.vv] 27)).alloc (Obj.cells #[.int .i64 u.1, .int .i64 u.2.1, .int .i64 u.2.2] 29) = W := ⟨_, rfl⟩
  have kw : Below w.heap.size w W0 := by rw [← hW0]; exact (by repeat (first | exact Below.refl _ _ | assumption | (refine Below.drew ?_) | (refine below_drewN ?_ _) | (refine Below.alloc ?_ (by first | (simp; done) | (simp; omega) | omega) _) | (refine Below.setCell ?_ (by first | (simp; done) | (simp; omega) | omega) _) | (refine Below.trans ?_ (Below.mono (by assumption) (by first | (simp; done) | (simp; omega) | omega)))))
  have ks : W0.heap.size = w.heap.size + 2 := by rw [← hW0]; simp
  have RD := Lib.hid (show ∀ V, Below W0.heap.size W0 V → V.cell? ⟨w.heap.size, 0, none⟩ = some (.int .i64 r.n) ∧ V.cell? ⟨w.heap.size, 1, none⟩ = some r.lv ∧ V.cell? ⟨w.heap.size, 2, none⟩ = some r.vv ∧ V.cell? ⟨w.heap.size + 1, 0, none⟩ = some (.int .i64 u.1) ∧ V.cell? ⟨w.heap.size + 1, 1, none⟩ = some (.int .i64 u.2.1) ∧ V.cell? ⟨w.heap.size + 1, 2, none⟩ = some (.int .i64 u.2.2) from
    fun V h => by
      refine ⟨(h.cell (p := ⟨w.heap.size, 0, none⟩) (by simp; omega)).trans ?_, (h.cell (p := ⟨w.heap.size, 1, none⟩) (by simp; omega)).trans ?_, (h.cell (p := ⟨w.heap.size, 2, none⟩) (by simp; omega)).trans ?_, (h.cell (p := ⟨w.heap.size + 1, 0, none⟩) (by simp; omega)).trans ?_, (h.cell (p := ⟨w.heap.size + 1, 1, none⟩) (by simp; omega)).trans ?_, (h.cell (p := ⟨w.heap.size + 1, 2, none⟩) (by simp; omega)).trans ?_⟩ <;> (subst hW0; go_simp))
  have HW := Lib.hid hW0; have KW := Lib.hid kw; clear hW0 kw
  cases hv : validR r.n r.l r.vars
  · have HL := Lib.hid (fun w' => lookR_err (show askE r u = 20 by simp [askE, hv]) (by omega) w')
    have HVV := Lib.hid hv; clear hv
    go_enter Tryz.func122, Tryz.ntmps122
    go_wp2_with (go_at_call 112; rw [HW.out]; refine (HV.out _ (HR.out.below KW.out)).mono ?_; go_must (rintro e w1 ⟨rfl, hb1⟩; rw [HVV.out]))
    go_ret2
    exact ⟨HL.out _, below_at KW.out (by omega) hb1⟩
  have HVV := Lib.hid hv
  have hvo := validR_out hv
  cases hd : dirB r.n u
  · have HL := Lib.hid (fun w' => lookR_err (show askE r u = 40 by simp [askE, hv, hd]) (by omega) w')
    have HD := Lib.hid hd
    clear hv hd hvo
    go_enter Tryz.func122, Tryz.ntmps122
    go_wp2_with (first | (go_at_call 112; rw [HW.out]; refine (HV.out _ (HR.out.below KW.out)).mono ?_; go_must (rintro e w1 ⟨rfl, hb1⟩; rw [HVV.out]; have K := hb1; obtain ⟨k0, k1, k2, k3, k4, k5⟩ := RD.out _ K)) | (go_at_call 106; refine (newFold_bad _ _ _ _ _ HD.out).mono ?_; go_must (rintro e w2 ⟨⟨kk, rfl⟩, hb2⟩; have K' := below_at K (by have := K.size; omega) hb2; clear K k0 k1 k2 k3 k4 k5; have K := K'; clear K')))
    go_ret2
    have hs := K.size
    exact ⟨HL.out _, below_at KW.out (by omega) (below_at K (by omega) (by repeat (first | exact Below.refl _ _ | assumption | (refine Below.drew ?_) | (refine below_drewN ?_ _) | (refine Below.alloc ?_ (by first | (simp; done) | (simp; omega) | omega) _) | (refine Below.setCell ?_ (by first | (simp; done) | (simp; omega) | omega) _) | (refine Below.trans ?_ (Below.mono (by assumption) (by first | (simp; done) | (simp; omega) | omega))))))⟩
  have HL := Lib.hid (show ∀ w' b pv, ViewAt w' b r u pv → LookR r u (.returned (.tuple #[.pointer (some ⟨b, 0, none⟩), .int .i64 0])) w' from fun w' b pv h => by
    unfold LookR; have : askE r u = 0 := by simp [askE, hv, hd]
    rw [if_pos this]; exact ⟨b, pv, rfl, h⟩)
  have HD := Lib.hid hd
  have HP := Lib.hid (fun (W : World) (hw : SlOf W W.heap.size 4 encI r.lv r.l) => Points_l r.n r.l W r.lv hw hvo.1 hvo.2.1)
  clear hv hd hvo
  generalize hK : axK r.n u = kk
  have HKK := Lib.hid hK
  have HNF := Lib.hid (fun (W : World) => newFold_gen r.n u.1 u.2.1 u.2.2 kk W HD.out hK)
  clear hK
  go_enter Tryz.func122, Tryz.ntmps122
  go_wp2_with (first | (go_at_call 112; rw [HW.out]; refine (HV.out _ (HR.out.below KW.out)).mono ?_; go_must (rintro e w1 ⟨rfl, hb1⟩; rw [HVV.out]; have K := hb1; obtain ⟨k0, k1, k2, k3, k4, k5⟩ := RD.out _ K)) | (go_at_call 106; refine (HNF.out _).mono ?_; go_must (rintro e w2 ⟨rfl, hb2⟩; have K' := below_at K (by have := K.size; omega) hb2; clear K k0 k1 k2 k3 k4 k5; have K := K'; clear K'; have hs2 := K.size; have zz := z2 (show w.heap.size + 1 + 1 ≤ w2.heap.size by omega); obtain ⟨k0, k1, k2, k3, k4, k5⟩ := RD.out _ K)))
  obtain ⟨W3, hW3⟩ : ∃ W : World, w2.alloc (Obj.cells #[.int .i64 r.n, .int .i64 kk, .int .i64 u.1, .int .i64 u.2.1, .int .i64 u.2.2] 187) = W := ⟨_, rfl⟩
  have hs3 : W3.heap.size = w2.heap.size + 1 := by rw [← hW3]; simp
  have K3 : Below W0.heap.size W0 W3 := below_at K hs2 (by rw [← hW3]; exact (by repeat (first | exact Below.refl _ _ | assumption | (refine Below.drew ?_) | (refine below_drewN ?_ _) | (refine Below.alloc ?_ (by first | (simp; done) | (simp; omega) | omega) _) | (refine Below.setCell ?_ (by first | (simp; done) | (simp; omega) | omega) _) | (refine Below.trans ?_ (Below.mono (by assumption) (by first | (simp; done) | (simp; omega) | omega))))))
  have f0 : W3.cell? ⟨w2.heap.size, 0, none⟩ = some (.int .i64 r.n) := by subst hW3; go_simp
  have f1 : W3.cell? ⟨w2.heap.size, 1, none⟩ = some (.int .i64 kk) := by subst hW3; go_simp
  have f2 : W3.cell? ⟨w2.heap.size, 2, none⟩ = some (.int .i64 u.1) := by subst hW3; go_simp
  have f3 : W3.cell? ⟨w2.heap.size, 3, none⟩ = some (.int .i64 u.2.1) := by subst hW3; go_simp
  have f4 : W3.cell? ⟨w2.heap.size, 4, none⟩ = some (.int .i64 u.2.2) := by subst hW3; go_simp
  rw [hW3]
  clear hW3 k0 k1 k2 k3 k4 k5 zz
  have KW3 := Lib.hid (below_at KW.out (by omega) K3)
  have hsz3 : W0.heap.size ≤ W3.heap.size := by omega
  go_at_call 49
  refine (HP.out _ (HR.out.l.below KW3.out)).mono ?_
  rintro e w4 ⟨⟨pv, rfl, hpv⟩, hb4⟩
  obtain ⟨k0, k1, k2, k3, k4, k5⟩ := RD.out w4 (below_at K3 hsz3 hb4)
  have hs4 := hb4.size
  have g0 := (hb4.cell (p := ⟨w2.heap.size, 0, none⟩) (by simp; omega)).trans f0
  have g1 := (hb4.cell (p := ⟨w2.heap.size, 1, none⟩) (by simp; omega)).trans f1
  have g2 := (hb4.cell (p := ⟨w2.heap.size, 2, none⟩) (by simp; omega)).trans f2
  have g3 := (hb4.cell (p := ⟨w2.heap.size, 3, none⟩) (by simp; omega)).trans f3
  have g4 := (hb4.cell (p := ⟨w2.heap.size, 4, none⟩) (by simp; omega)).trans f4
  have HB4 := Lib.hid (below_at KW3.out (by omega) hb4)
  have HPV := Lib.hid hpv
  obtain ⟨pa, pc, rfl, -⟩ := hpv.shape
  clear f0 f1 f2 f3 f4 hb4 hpv K3
  go_wp2
  refine bodyPost_ret (v := .tuple #[.pointer (some ⟨w4.heap.size, 0, none⟩), .int .i64 0]) (by simp only [results, Tryz.results122]; first | (go_simp; done) | (go_simp; rfl)) rfl ⟨HL.out _ _ (.slice pa (ptsL r.n r.l).length pc) ?_, HB4.out.alloc (by omega) _⟩
  refine ⟨by simp, by go_simp, ?_, by go_simp, by go_simp, by go_simp, by go_simp, by go_simp, by go_simp, by go_simp, HPV.out.below ((Below.refl _ _).alloc (Nat.le_refl _) _)⟩
  rw [HKK.out]
  go_simp
set_option maxHeartbeats 4000000 in
set_option maxRecDepth 100000 in
theorem Asked_l (r : RecD) (u : P3) (w : World) (hr : RecRd w r) :
    Calls Tryz.prog 100 #[.agg #[.int .i64 r.n, r.lv, r.vv], .agg #[.int .i64 u.1, .int .i64 u.2.1, .int .i64 u.2.2]] w fun e w' => e = .returned (.int .i64 (askE r u)) ∧ Below w.heap.size w w' := by
  have HR := Lib.hid hr
  clear hr
  have HV := Lib.hid (fun (W : World) (h : RecRd W r) => Valid2_l r W h)
  obtain ⟨W0, hW0⟩ : ∃ W : World, (w.alloc (Obj.cells #[.int .i64 r.n, r.lv, r.vv] 27)).alloc (Obj.cells #[.int .i64 u.1, .int .i64 u.2.1, .int .i64 u.2.2] 29) = W := ⟨_, rfl⟩
  have kw : Below w.heap.size w W0 := by rw [← hW0]; exact (by repeat (first | exact Below.refl _ _ | assumption | (refine Below.drew ?_) | (refine below_drewN ?_ _) | (refine Below.alloc ?_ (by first | (simp; done) | (simp; omega) | omega) _) | (refine Below.setCell ?_ (by first | (simp; done) | (simp; omega) | omega) _) | (refine Below.trans ?_ (Below.mono (by assumption) (by first | (simp; done) | (simp; omega) | omega)))))
  have ks : W0.heap.size = w.heap.size + 2 := by rw [← hW0]; simp
  have RD := Lib.hid (show ∀ V, Below W0.heap.size W0 V → V.cell? ⟨w.heap.size, 0, none⟩ = some (.int .i64 r.n) ∧ V.cell? ⟨w.heap.size + 1, 0, none⟩ = some (.int .i64 u.1) ∧ V.cell? ⟨w.heap.size + 1, 1, none⟩ = some (.int .i64 u.2.1) ∧ V.cell? ⟨w.heap.size + 1, 2, none⟩ = some (.int .i64 u.2.2) from
    fun V h => by
      refine ⟨(h.cell (p := ⟨w.heap.size, 0, none⟩) (by simp; omega)).trans ?_, (h.cell (p := ⟨w.heap.size + 1, 0, none⟩) (by simp; omega)).trans ?_, (h.cell (p := ⟨w.heap.size + 1, 1, none⟩) (by simp; omega)).trans ?_, (h.cell (p := ⟨w.heap.size + 1, 2, none⟩) (by simp; omega)).trans ?_⟩ <;> (subst hW0; go_simp))
  have HW := Lib.hid hW0; have KW := Lib.hid kw; clear hW0 kw
  have HA := Lib.hid (show askE r u = if validR r.n r.l r.vars = true then (if dirB r.n u = true then 0 else 40) else 20 from rfl)
  have HD := Lib.hid (fun (W : World) => show Calls Tryz.prog 145 #[.int .i64 r.n, .agg #[.int .i64 u.1, .int .i64 u.2.1, .int .i64 u.2.2]] W fun e w' => e = .returned (.bool (dirB r.n u)) ∧ Below W.heap.size W w' from rValid_any r.n u.1 u.2.1 u.2.2 W)
  generalize askE r u = R at *
  cases hv : validR r.n r.l r.vars
  · have HR9 := Lib.hid (show R = 20 by rw [HA.out, hv]; rfl)
    have HVV := Lib.hid hv; clear hv
    go_enter Tryz.func100, Tryz.ntmps100
    go_wp2_with (go_at_call 117; rw [HW.out]; refine (HV.out _ (HR.out.below KW.out)).mono ?_; go_must (rintro e w1 ⟨rfl, hb1⟩; rw [HVV.out]))
    go_ret
    exact ⟨ret_int HR9.out.symm, below_at KW.out (by omega) hb1⟩
  have HVV := Lib.hid hv
  cases hd : dirB r.n u
  all_goals
    have HR9 := Lib.hid (show R = _ from by rw [HA.out, hv, hd])
    simp only [if_true, if_false, Bool.false_eq_true] at HR9
    have HDD := Lib.hid hd
    clear hv hd
    go_enter Tryz.func100, Tryz.ntmps100
    go_wp2_with (first | (go_at_call 117; rw [HW.out]; refine (HV.out _ (HR.out.below KW.out)).mono ?_; go_must (rintro e w1 ⟨rfl, hb1⟩; rw [HVV.out]; have K := hb1; obtain ⟨k0, k3, k4, k5⟩ := RD.out _ K)) | (go_at_call 145; refine (HD.out _).mono ?_; go_must (rintro e w2 ⟨rfl, hb2⟩; rw [HDD.out]; have K' := below_at K (by have := K.size; omega) hb2; clear K; have K := K'; clear K')))
    go_ret
    exact ⟨ret_int HR9.out.symm, below_at KW.out (by omega) K⟩
end Go.Proofs.YtnejicklenhpeaaGreat
namespace Go.Proofs.YtnejicklenhpeaaGreat
open Go.RowKit
def inCell (n : Int) (u : P3) (c : Int × Int) (p : P3) : Bool := decide ((cellC n u p).1 = c.1) && decide ((cellC n u p).2 = c.2)
/-- The points of a cell. -/
def lineL (r : RecD) (u : P3) (c : Int × Int) : List P3 := (ptsL r.n r.l).filter (inCell r.n u c)
theorem filter_take {α : Type} (f : α → Bool) (l : List α) (k : Nat) (h : k < l.length) : (l.take (k + 1)).filter f = (l.take k).filter f ++ (if f l[k] = true then [l[k]] else []) := by
  rw [List.take_succ_eq_append_getElem h, List.filter_append]
  simp [List.filter_cons]
def LineR (r : RecD) (u : P3) (c : Int × Int) (e : Ending) (w' : World) : Prop := ∃ v', e = .returned (.tuple #[v', .int .i64 (askE r u)]) ∧ SlOf w' w'.heap.size 3 encP v' (if askE r u = 0 then lineL r u c else [])
theorem sz_pts (W : World) : (sizeOf (Tryz.prog.elem 75)).run Tryz.prog W = .ok 3 W := by kernel_rfl
theorem un_pts : Tryz.prog.underlying 75 = some (.slice (Tryz.prog.elem 75)) := by kernel_rfl
theorem lineR_err {r : RecD} {u : P3} {c : Int × Int} {k : Int} (h : askE r u = k) (hk : k ≠ 0) (w' : World) : LineR r u c (.returned (.tuple #[.slice none 0 0, .int .i64 k])) w' := by
  unfold LineR
  rw [h, if_neg hk]
  exact ⟨_, rfl, Sl.nil _ _ _⟩
theorem lineR_ok {r : RecD} {u : P3} {c : Int × Int} (h : askE r u = 0) {w' : World} {v' : Value} (hs : SlOf w' w'.heap.size 3 encP v' (lineL r u c)) : LineR r u c (.returned (.tuple #[v', .int .i64 0])) w' := by
  unfold LineR
  rw [h, if_pos rfl]
  exact ⟨_, rfl, hs⟩
theorem askE_cases (r : RecD) (u : P3) : askE r u = 0 ∨ askE r u = 40 ∨ askE r u = 20 := by
  unfold askE
  split
  · split <;> simp
  · simp
theorem askE_ok {r : RecD} {u : P3} (h : askE r u = 0) : validR r.n r.l r.vars = true ∧ dirB r.n u = true := by
  unfold askE at h
  split at h
  · split at h
    · exact ⟨by assumption, by assumption⟩
    · omega
  · omega
end Go.Proofs.YtnejicklenhpeaaGreat
namespace Go.Proofs.YtnejicklenhpeaaGreat
open Go.RowKit
end Go.Proofs.YtnejicklenhpeaaGreat
namespace Go.Proofs.YtnejicklenhpeaaGreat
open Go.RowKit
theorem part3_0 (x y z : Value) (w : World) : (part 3 #[x, y, z] 0).run Tryz.prog w = .ok x w := by kernel_rfl
theorem part3_1 (x y z : Value) (w : World) : (part 3 #[x, y, z] 1).run Tryz.prog w = .ok y w := by kernel_rfl
theorem part3_2 (x y z : Value) (w : World) : (part 3 #[x, y, z] 2).run Tryz.prog w = .ok z w := by kernel_rfl
theorem eq_pt (p q : P3) (w : World) : (Op.equalIn 10000 29 (.agg #[.int .i64 p.1, .int .i64 p.2.1, .int .i64 p.2.2]) (.agg #[.int .i64 q.1, .int .i64 q.2.1, .int .i64 q.2.2])).run Tryz.prog w = .ok (decide (p = q)) w := by
  obtain ⟨i, hi⟩ : ∃ i, Tryz.prog.info? 3 = some i := Option.isSome_iff_exists.mp (by kernel_rfl)
  rw [run_equalIn_array w 9999 (n := 3) (e := 3) _ _ Tryz.underlying29 hi]
  simp only [show Tryz.prog.cellsOf 3 = 1 by kernel_rfl]
  obtain ⟨a, b, c⟩ := p
  obtain ⟨d, e, f⟩ := q
  by_cases h1 : a = d <;> by_cases h2 : b = e <;> by_cases h3 : c = f <;> simp [Op.eqItems, List.range_succ, part3_0, part3_1, part3_2, eq_int 9998, h1, h2, h3]
end Go.Proofs.YtnejicklenhpeaaGreat
namespace Go.Proofs.YtnejicklenhpeaaGreat
open Go.RowKit
end Go.Proofs.YtnejicklenhpeaaGreat
