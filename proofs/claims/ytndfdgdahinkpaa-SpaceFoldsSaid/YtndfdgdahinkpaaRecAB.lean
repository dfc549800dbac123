/- The cell of a point, for any direction: the program's and the reference's. Package space: look; and the reference's Asked: their walks. The points of a cell: the program's Line and the reference's. The reference's line and Line, and whether two lists of points are the same: their walks. The reference's Line; equality of points; whether two lists of points are the same: their walks. The walk of the law SpaceLines: it returns true. Conditions: none. -/
import Derived.Test.YtndfdgdahinkpaaRecAA
import Derived.Test.YtndfdgdahinkpaaSpaceT
namespace Go.Proofs.Ytndfdgdahinkpaa
open Go.RowKit
def dirB (n : Int) (u : P3) : Bool := validB n u.1 u.2.1 u.2.2
def axK (n : Int) (u : P3) : Int := findK n u.1 u.2.1 u.2.2
/-- The cell of a point. -/
def cellC (n : Int) (u p : P3) : Int × Int := (cA n (axK n u) u.1 u.2.1 u.2.2 p.1 p.2.1 p.2.2, cB n (axK n u) u.1 u.2.1 u.2.2 p.1 p.2.1 p.2.2)
theorem dir_cases {n : Int} {u : P3} (h : dirB n u = true) : (n = 1 ∧ axK n u = 0 ∧ u.2.1 = 0 ∧ u.2.2 = 0) ∨ (n = 2 ∧ (axK n u = 0 ∨ axK n u = 1) ∧ u.2.2 = 0) ∨ (n = 3 ∧ (axK n u = 0 ∨ axK n u = 1 ∨ axK n u = 2)) := by
  obtain ⟨hn, hf, hk⟩ := validB_out h
  have h1 := btw_out hn
  have h2 := findK_nonneg n u.1 u.2.1 u.2.2
  have h3 := findK_le n u.1 u.2.1 u.2.2
  have h4 := findK_le1 n u.1 u.2.1 u.2.2
  have h5 := flat_pad hn hf
  unfold axK
  rcases h5 with ⟨rfl, e1, e2, _⟩ | ⟨rfl, e2, _⟩ | ⟨rfl, _⟩
  · refine .inl ⟨rfl, ?_, e1, e2⟩
    have := h3 (by omega); have := h4 (by omega); omega
  · refine .inr (.inl ⟨rfl, ?_, e2⟩)
    have := h3 (by omega); omega
  · exact .inr (.inr ⟨rfl, by omega⟩)
theorem cell_l (n : Int) (u p : P3) (h : dirB n u = true) (w : World) :
    Calls Try.prog 39 #[.agg #[.int .i64 n, .int .i64 (axK n u), .int .i64 u.1, .int .i64 u.2.1, .int .i64 u.2.2], .agg #[.int .i64 p.1, .int .i64 p.2.1, .int .i64 p.2.2]] w fun e w' => e = .returned (.agg #[.int .i64 (cellC n u p).1, .int .i64 (cellC n u p).2]) ∧ Below w.heap.size w w' := by
  have hc := dir_cases h
  unfold cellC
  generalize axK n u = k at *
  rcases hc with ⟨rfl, rfl, _⟩ | ⟨rfl, rfl | rfl, _⟩ | ⟨rfl, rfl | rfl | rfl⟩
  · exact cell10 _ _ _ _ _ _ w
  · exact cell20 _ _ _ _ _ _ w
  · exact cell21 _ _ _ _ _ _ w
  · exact cell30 _ _ _ _ _ _ w
  · exact cell31 _ _ _ _ _ _ w
  · exact cell32 _ _ _ _ _ _ w
theorem rFold_l (n : Int) (u p : P3) (h : dirB n u = true) (m : Int) (hp : flatB n p.1 p.2.1 p.2.2 m = true) (w : World) :
    Calls Try.prog 60 #[.int .i64 n, .agg #[.int .i64 u.1, .int .i64 u.2.1, .int .i64 u.2.2], .agg #[.int .i64 p.1, .int .i64 p.2.1, .int .i64 p.2.2]] w fun e w' => e = .returned (.agg #[.int .i64 (cellC n u p).1, .int .i64 (cellC n u p).2]) ∧ Below w.heap.size w w' := by
  have hc := dir_cases h
  obtain ⟨hn, hf, hk⟩ := validB_out h
  have hpad := flat_pad hn hp
  have hb : (btw 1 n 3 && flatB n u.1 u.2.1 u.2.2 3) = true := by rw [hn, hf]; rfl
  unfold cellC
  unfold axK at *
  obtain ⟨u0, u1, u2⟩ := u
  obtain ⟨p0, p1, p2⟩ := p
  simp only at hc hpad hb hf hp hn ⊢
  rcases hc with ⟨rfl, e, rfl, rfl⟩ | ⟨rfl, e | e, rfl⟩ | ⟨rfl, e | e | e⟩
  · obtain ⟨_, rfl, rfl, _⟩ | ⟨h, _⟩ | ⟨h, _⟩ := hpad
    · rw [e]; exact Fold10 _ _ w hb e
    · omega
    · omega
  · obtain ⟨h, _⟩ | ⟨_, rfl, _⟩ | ⟨h, _⟩ := hpad
    · omega
    · rw [e]; exact Fold20 _ _ _ _ w hb e
    · omega
  · obtain ⟨h, _⟩ | ⟨_, rfl, _⟩ | ⟨h, _⟩ := hpad
    · omega
    · rw [e]; exact Fold21 _ _ _ _ w hb e
    · omega
  · rw [e]; exact Fold30 _ _ _ _ _ _ w hb e
  · rw [e]; exact Fold31 _ _ _ _ _ _ w hb e
  · rw [e]; exact Fold32 _ _ _ _ _ _ w hb e
end Go.Proofs.Ytndfdgdahinkpaa
namespace Go.Proofs.Ytndfdgdahinkpaa
open Go.RowKit
theorem validR_out {n : Int} {l : List IneqD} {vs : List VarD} (h : validR n l vs = true) : validD n l = true ∧ (ptsL n l).length ≤ 1000 ∧ (1 ≤ vs.length ∧ vs.length ≤ 4) ∧ vs.all (varB n vs.length) = true := by
  simp only [validR, Bool.and_eq_true, decide_eq_true_eq] at h
  exact ⟨h.1, h.2.1, h.2.2.1, h.2.2.2.1⟩
/-- In block b lies the view of r along u, with its points. -/
structure ViewAt (w : World) (b : Nat) (r : RecD) (u : P3) (pv : Value) : Prop where
  lt : b < w.heap.size
  c0 : w.cell? ⟨b, 0, none⟩ = some (.int .i64 r.n)
  c1 : w.cell? ⟨b, 1, none⟩ = some (.int .i64 (axK r.n u))
  c2 : w.cell? ⟨b, 2, none⟩ = some (.int .i64 u.1)
  c3 : w.cell? ⟨b, 3, none⟩ = some (.int .i64 u.2.1)
  c4 : w.cell? ⟨b, 4, none⟩ = some (.int .i64 u.2.2)
  c5 : w.cell? ⟨b, 5, none⟩ = some (.int .i64 r.n)
  c6 : w.cell? ⟨b, 6, none⟩ = some r.lv
  c7 : w.cell? ⟨b, 7, none⟩ = some r.vv
  c8 : w.cell? ⟨b, 8, none⟩ = some pv
  pts : SlOf w w.heap.size 3 encP pv (ptsL r.n r.l)
theorem ViewAt.below {w w' : World} {b : Nat} {r : RecD} {u : P3} {pv : Value} (h : ViewAt w b r u pv) (hb : Below w.heap.size w w') : ViewAt w' b r u pv :=
  ⟨Nat.lt_of_lt_of_le h.lt hb.size, (hb.cell (p := ⟨b, 0, none⟩) h.lt).trans h.c0, (hb.cell (p := ⟨b, 1, none⟩) h.lt).trans h.c1, (hb.cell (p := ⟨b, 2, none⟩) h.lt).trans h.c2, (hb.cell (p := ⟨b, 3, none⟩) h.lt).trans h.c3, (hb.cell (p := ⟨b, 4, none⟩) h.lt).trans h.c4, (hb.cell (p := ⟨b, 5, none⟩) h.lt).trans h.c5, (hb.cell (p := ⟨b, 6, none⟩) h.lt).trans h.c6, (hb.cell (p := ⟨b, 7, none⟩) h.lt).trans h.c7, (hb.cell (p := ⟨b, 8, none⟩) h.lt).trans h.c8, h.pts.below hb⟩
/-- The error of a recurrence and a direction. -/
def askE (r : RecD) (u : P3) : Int := if validR r.n r.l r.vars = true then (if dirB r.n u = true then 0 else 40) else 20
def LookR (r : RecD) (u : P3) (e : Ending) (w' : World) : Prop := if askE r u = 0 then ∃ b pv, e = .returned (.tuple #[.pointer (some ⟨b, 0, none⟩), .int .i64 0]) ∧ ViewAt w' b r u pv else e = .returned (.tuple #[.pointer none, .int .i64 (askE r u)])
theorem lookR_err {r : RecD} {u : P3} {k : Int} (h : askE r u = k) (hk : k ≠ 0) (w' : World) : LookR r u (.returned (.tuple #[.pointer none, .int .i64 k])) w' := by
  unfold LookR
  rw [h, if_neg hk]
set_option maxHeartbeats 4000000 in
set_option maxRecDepth 100000 in
theorem look_l (r : RecD) (u : P3) (w : World) (hr : RecRd w r) :
    Calls Try.prog 38 #[.agg #[.int .i64 r.n, r.lv, r.vv], .agg #[.int .i64 u.1, .int .i64 u.2.1, .int .i64 u.2.2]] w fun e w' => LookR r u e w' ∧ Below w.heap.size w w' := by
  have HR := Lib.hid hr
  clear hr
  have HV := Lib.hid (fun (W : World) (h : RecRd W r) => rValid_l r W h)
  obtain ⟨W0, hW0⟩ : ∃ W : World, (w.alloc (Obj.cells #[.int .i64 r.n, r.lv, r.vv] 27)).alloc (Obj.cells #[.int .i64 u.1, .int .i64 u.2.1, .int .i64 u.2.2] 29) = W := ⟨_, rfl⟩
  have kw : Below w.heap.size w W0 := by rw [← hW0]; exact (by repeat (first | exact Below.refl _ _ | assumption | (refine Below.drew ?_) | (refine below_drewN ?_ _) | (refine Below.alloc ?_ (by first | (simp; done) | (simp; omega) | omega) _) | (refine Below.setCell ?_ (by first | (simp; done) | (simp; omega) | omega) _) | (refine Below.trans ?_ (Below.mono (by assumption) (by first | (simp; done) | (simp; omega) | omega)))))
  have ks : W0.heap.size = w.heap.size + 2 := by rw [← hW0]; simp
  have RD := Lib.hid (show ∀ V, Below W0.heap.size W0 V → V.cell? ⟨w.heap.size, 0, none⟩ = some (.int .i64 r.n) ∧ V.cell? ⟨w.heap.size, 1, none⟩ = some r.lv ∧ V.cell? ⟨w.heap.size, 2, none⟩ = some r.vv ∧ V.cell? ⟨w.heap.size + 1, 0, none⟩ = some (.int .i64 u.1) ∧ V.cell? ⟨w.heap.size + 1, 1, none⟩ = some (.int .i64 u.2.1) ∧ V.cell? ⟨w.heap.size + 1, 2, none⟩ = some (.int .i64 u.2.2) from
    fun V h => by
      refine ⟨(h.cell (p := ⟨w.heap.size, 0, none⟩) (by simp; omega)).trans ?_, (h.cell (p := ⟨w.heap.size, 1, none⟩) (by simp; omega)).trans ?_, (h.cell (p := ⟨w.heap.size, 2, none⟩) (by simp; omega)).trans ?_, (h.cell (p := ⟨w.heap.size + 1, 0, none⟩) (by simp; omega)).trans ?_, (h.cell (p := ⟨w.heap.size + 1, 1, none⟩) (by simp; omega)).trans ?_, (h.cell (p := ⟨w.heap.size + 1, 2, none⟩) (by simp; omega)).trans ?_⟩ <;> (subst hW0; go_simp))
  have HW := Lib.hid hW0; have KW := Lib.hid kw; clear hW0 kw
  cases hv : validR r.n r.l r.vars
  · have HL := Lib.hid (fun w' => lookR_err (show askE r u = 20 by simp [askE, hv]) (by omega) w')
    have HVV := Lib.hid hv; clear hv
    go_enter Try.func38, Try.ntmps38
    go_wp2_with (go_at_call 66; rw [HW.out]; refine (HV.out _ (HR.out.below KW.out)).mono ?_; go_must (rintro e w1 ⟨rfl, hb1⟩; rw [HVV.out]))
    go_ret2
    exact ⟨HL.out _, below_at KW.out (by omega) hb1⟩
  have HVV := Lib.hid hv
  have hvo := validR_out hv
  cases hd : dirB r.n u
  · have HL := Lib.hid (fun w' => lookR_err (show askE r u = 40 by simp [askE, hv, hd]) (by omega) w')
    have HD := Lib.hid hd
    clear hv hd hvo
    go_enter Try.func38, Try.ntmps38
    go_wp2_with (first | (go_at_call 66; rw [HW.out]; refine (HV.out _ (HR.out.below KW.out)).mono ?_; go_must (rintro e w1 ⟨rfl, hb1⟩; rw [HVV.out]; have K := hb1; obtain ⟨k0, k1, k2, k3, k4, k5⟩ := RD.out _ K)) | (go_at_call 58; refine (newFold_bad _ _ _ _ _ HD.out).mono ?_; go_must (rintro e w2 ⟨⟨kk, rfl⟩, hb2⟩; have K' := below_at K (by have := K.size; omega) hb2; clear K k0 k1 k2 k3 k4 k5; have K := K'; clear K')))
    go_ret2
    have hs := K.size
    exact ⟨HL.out _, below_at KW.out (by omega) (below_at K (by omega) (by repeat (first | exact Below.refl _ _ | assumption | (refine Below.drew ?_) | (refine below_drewN ?_ _) | (refine Below.alloc ?_ (by first | (simp; done) | (simp; omega) | omega) _) | (refine Below.setCell ?_ (by first | (simp; done) | (simp; omega) | omega) _) | (refine Below.trans ?_ (Below.mono (by assumption) (by first | (simp; done) | (simp; omega) | omega))))))⟩
  have HL := Lib.hid (show ∀ w' b pv, ViewAt w' b r u pv → LookR r u (.returned (.tuple #[.pointer (some ⟨b, 0, none⟩), .int .i64 0])) w' from fun w' b pv h => by
    unfold LookR; have : askE r u = 0 := by simp [askE, hv, hd]
    rw [if_pos this]; exact ⟨b, pv, rfl, h⟩)
  have HD := Lib.hid hd
  have HP := Lib.hid (fun (W : World) (hw : SlOf W W.heap.size 4 encI r.lv r.l) => Points_l r.n r.l W r.lv hw hvo.1 hvo.2.1)
  clear hv hd hvo
  generalize hK : axK r.n u = kk
  have HKK := Lib.hid hK
  have HNF := Lib.hid (fun (W : World) => newFold_gen r.n u.1 u.2.1 u.2.2 kk W HD.out hK)
  clear hK
  go_enter Try.func38, Try.ntmps38
  go_wp2_with (first | (go_at_call 66; rw [HW.out]; refine (HV.out _ (HR.out.below KW.out)).mono ?_; go_must (rintro e w1 ⟨rfl, hb1⟩; rw [HVV.out]; have K := hb1; obtain ⟨k0, k1, k2, k3, k4, k5⟩ := RD.out _ K)) | (go_at_call 58; refine (HNF.out _).mono ?_; go_must (rintro e w2 ⟨rfl, hb2⟩; have K' := below_at K (by have := K.size; omega) hb2; clear K k0 k1 k2 k3 k4 k5; have K := K'; clear K'; have hs2 := K.size; have zz := z2 (show w.heap.size + 1 + 1 ≤ w2.heap.size by omega); obtain ⟨k0, k1, k2, k3, k4, k5⟩ := RD.out _ K)))
  obtain ⟨W3, hW3⟩ : ∃ W : World, w2.alloc (Obj.cells #[.int .i64 r.n, .int .i64 kk, .int .i64 u.1, .int .i64 u.2.1, .int .i64 u.2.2] 89) = W := ⟨_, rfl⟩
  have hs3 : W3.heap.size = w2.heap.size + 1 := by rw [← hW3]; simp
  have K3 : Below W0.heap.size W0 W3 := below_at K hs2 (by rw [← hW3]; exact (by repeat (first | exact Below.refl _ _ | assumption | (refine Below.drew ?_) | (refine below_drewN ?_ _) | (refine Below.alloc ?_ (by first | (simp; done) | (simp; omega) | omega) _) | (refine Below.setCell ?_ (by first | (simp; done) | (simp; omega) | omega) _) | (refine Below.trans ?_ (Below.mono (by assumption) (by first | (simp; done) | (simp; omega) | omega))))))
  have f0 : W3.cell? ⟨w2.heap.size, 0, none⟩ = some (.int .i64 r.n) := by subst hW3; go_simp
  have f1 : W3.cell? ⟨w2.heap.size, 1, none⟩ = some (.int .i64 kk) := by subst hW3; go_simp
  have f2 : W3.cell? ⟨w2.heap.size, 2, none⟩ = some (.int .i64 u.1) := by subst hW3; go_simp
  have f3 : W3.cell? ⟨w2.heap.size, 3, none⟩ = some (.int .i64 u.2.1) := by subst hW3; go_simp
  have f4 : W3.cell? ⟨w2.heap.size, 4, none⟩ = some (.int .i64 u.2.2) := by subst hW3; go_simp
  rw [hW3]
  clear hW3 k0 k1 k2 k3 k4 k5 zz
  have KW3 := Lib.hid (below_at KW.out (by omega) K3)
  have hsz3 : W0.heap.size ≤ W3.heap.size := by omega
  go_at_call 67
  refine (HP.out _ (HR.out.l.below KW3.out)).mono ?_
  rintro e w4 ⟨⟨pv, rfl, hpv⟩, hb4⟩
  obtain ⟨k0, k1, k2, k3, k4, k5⟩ := RD.out w4 (below_at K3 hsz3 hb4)
  have hs4 := hb4.size
  have g0 := (hb4.cell (p := ⟨w2.heap.size, 0, none⟩) (by simp; omega)).trans f0
  have g1 := (hb4.cell (p := ⟨w2.heap.size, 1, none⟩) (by simp; omega)).trans f1
  have g2 := (hb4.cell (p := ⟨w2.heap.size, 2, none⟩) (by simp; omega)).trans f2
  have g3 := (hb4.cell (p := ⟨w2.heap.size, 3, none⟩) (by simp; omega)).trans f3
  have g4 := (hb4.cell (p := ⟨w2.heap.size, 4, none⟩) (by simp; omega)).trans f4
  have HB4 := Lib.hid (below_at KW3.out (by omega) hb4)
  have HPV := Lib.hid hpv
  obtain ⟨pa, pc, rfl, -⟩ := hpv.shape
  clear f0 f1 f2 f3 f4 hb4 hpv K3
  go_wp2
  refine bodyPost_ret (v := .tuple #[.pointer (some ⟨w4.heap.size, 0, none⟩), .int .i64 0]) (by simp only [results, Try.results38]; first | (go_simp; done) | (go_simp; rfl)) rfl ⟨HL.out _ _ (.slice pa (ptsL r.n r.l).length pc) ?_, HB4.out.alloc (by omega) _⟩
  refine ⟨by simp, by go_simp, ?_, by go_simp, by go_simp, by go_simp, by go_simp, by go_simp, by go_simp, by go_simp, HPV.out.below ((Below.refl _ _).alloc (Nat.le_refl _) _)⟩
  rw [HKK.out]
  go_simp
set_option maxHeartbeats 4000000 in
set_option maxRecDepth 100000 in
theorem Asked_l (r : RecD) (u : P3) (w : World) (hr : RecRd w r) :
    Calls Try.prog 25 #[.agg #[.int .i64 r.n, r.lv, r.vv], .agg #[.int .i64 u.1, .int .i64 u.2.1, .int .i64 u.2.2]] w fun e w' => e = .returned (.int .i64 (askE r u)) ∧ Below w.heap.size w w' := by
  have HR := Lib.hid hr
  clear hr
  have HV := Lib.hid (fun (W : World) (h : RecRd W r) => Valid2_l r W h)
  obtain ⟨W0, hW0⟩ : ∃ W : World, (w.alloc (Obj.cells #[.int .i64 r.n, r.lv, r.vv] 27)).alloc (Obj.cells #[.int .i64 u.1, .int .i64 u.2.1, .int .i64 u.2.2] 29) = W := ⟨_, rfl⟩
  have kw : Below w.heap.size w W0 := by rw [← hW0]; exact (by repeat (first | exact Below.refl _ _ | assumption | (refine Below.drew ?_) | (refine below_drewN ?_ _) | (refine Below.alloc ?_ (by first | (simp; done) | (simp; omega) | omega) _) | (refine Below.setCell ?_ (by first | (simp; done) | (simp; omega) | omega) _) | (refine Below.trans ?_ (Below.mono (by assumption) (by first | (simp; done) | (simp; omega) | omega)))))
  have ks : W0.heap.size = w.heap.size + 2 := by rw [← hW0]; simp
  have RD := Lib.hid (show ∀ V, Below W0.heap.size W0 V → V.cell? ⟨w.heap.size, 0, none⟩ = some (.int .i64 r.n) ∧ V.cell? ⟨w.heap.size + 1, 0, none⟩ = some (.int .i64 u.1) ∧ V.cell? ⟨w.heap.size + 1, 1, none⟩ = some (.int .i64 u.2.1) ∧ V.cell? ⟨w.heap.size + 1, 2, none⟩ = some (.int .i64 u.2.2) from
    fun V h => by
      refine ⟨(h.cell (p := ⟨w.heap.size, 0, none⟩) (by simp; omega)).trans ?_, (h.cell (p := ⟨w.heap.size + 1, 0, none⟩) (by simp; omega)).trans ?_, (h.cell (p := ⟨w.heap.size + 1, 1, none⟩) (by simp; omega)).trans ?_, (h.cell (p := ⟨w.heap.size + 1, 2, none⟩) (by simp; omega)).trans ?_⟩ <;> (subst hW0; go_simp))
  have HW := Lib.hid hW0; have KW := Lib.hid kw; clear hW0 kw
  have HA := Lib.hid (show askE r u = if validR r.n r.l r.vars = true then (if dirB r.n u = true then 0 else 40) else 20 from rfl)
  have HD := Lib.hid (fun (W : World) => show Calls Try.prog 54 #[.int .i64 r.n, .agg #[.int .i64 u.1, .int .i64 u.2.1, .int .i64 u.2.2]] W fun e w' => e = .returned (.bool (dirB r.n u)) ∧ Below W.heap.size W w' from rValid_any r.n u.1 u.2.1 u.2.2 W)
  generalize askE r u = R at *
  cases hv : validR r.n r.l r.vars
  · have HR9 := Lib.hid (show R = 20 by rw [HA.out, hv]; rfl)
    have HVV := Lib.hid hv; clear hv
    go_enter Try.func25, Try.ntmps25
    go_wp2_with (go_at_call 52; rw [HW.out]; refine (HV.out _ (HR.out.below KW.out)).mono ?_; go_must (rintro e w1 ⟨rfl, hb1⟩; rw [HVV.out]))
    go_ret
    exact ⟨ret_int HR9.out.symm, below_at KW.out (by omega) hb1⟩
  have HVV := Lib.hid hv
  cases hd : dirB r.n u
  all_goals
    have HR9 := Lib.hid (show R = _ from by rw [HA.out, hv, hd])
    simp only [if_true, if_false, Bool.false_eq_true] at HR9
    have HDD := Lib.hid hd
    clear hv hd
    go_enter Try.func25, Try.ntmps25
    go_wp2_with (first | (go_at_call 52; rw [HW.out]; refine (HV.out _ (HR.out.below KW.out)).mono ?_; go_must (rintro e w1 ⟨rfl, hb1⟩; rw [HVV.out]; have K := hb1; obtain ⟨k0, k3, k4, k5⟩ := RD.out _ K)) | (go_at_call 54; refine (HD.out _).mono ?_; go_must (rintro e w2 ⟨rfl, hb2⟩; rw [HDD.out]; have K' := below_at K (by have := K.size; omega) hb2; clear K; have K := K'; clear K')))
    go_ret
    exact ⟨ret_int HR9.out.symm, below_at KW.out (by omega) K⟩
end Go.Proofs.Ytndfdgdahinkpaa
namespace Go.Proofs.Ytndfdgdahinkpaa
open Go.RowKit
def inCell (n : Int) (u : P3) (c : Int × Int) (p : P3) : Bool := decide ((cellC n u p).1 = c.1) && decide ((cellC n u p).2 = c.2)
/-- The points of a cell. -/
def lineL (r : RecD) (u : P3) (c : Int × Int) : List P3 := (ptsL r.n r.l).filter (inCell r.n u c)
theorem filter_take {α : Type} (f : α → Bool) (l : List α) (k : Nat) (h : k < l.length) : (l.take (k + 1)).filter f = (l.take k).filter f ++ (if f l[k] = true then [l[k]] else []) := by
  rw [List.take_succ_eq_append_getElem h, List.filter_append]
  simp [List.filter_cons]
def LineR (r : RecD) (u : P3) (c : Int × Int) (e : Ending) (w' : World) : Prop := ∃ v', e = .returned (.tuple #[v', .int .i64 (askE r u)]) ∧ SlOf w' w'.heap.size 3 encP v' (if askE r u = 0 then lineL r u c else [])
theorem sz_pts (W : World) : (sizeOf (Try.prog.elem 34)).run Try.prog W = .ok 3 W := by kernel_rfl
theorem un_pts : Try.prog.underlying 34 = some (.slice (Try.prog.elem 34)) := by kernel_rfl
theorem lineR_err {r : RecD} {u : P3} {c : Int × Int} {k : Int} (h : askE r u = k) (hk : k ≠ 0) (w' : World) : LineR r u c (.returned (.tuple #[.slice none 0 0, .int .i64 k])) w' := by
  unfold LineR
  rw [h, if_neg hk]
  exact ⟨_, rfl, Sl.nil _ _ _⟩
theorem lineR_ok {r : RecD} {u : P3} {c : Int × Int} (h : askE r u = 0) {w' : World} {v' : Value} (hs : SlOf w' w'.heap.size 3 encP v' (lineL r u c)) : LineR r u c (.returned (.tuple #[v', .int .i64 0])) w' := by
  unfold LineR
  rw [h, if_pos rfl]
  exact ⟨_, rfl, hs⟩
theorem askE_cases (r : RecD) (u : P3) : askE r u = 0 ∨ askE r u = 40 ∨ askE r u = 20 := by
  unfold askE
  split
  · split <;> simp
  · simp
theorem askE_ok {r : RecD} {u : P3} (h : askE r u = 0) : validR r.n r.l r.vars = true ∧ dirB r.n u = true := by
  unfold askE at h
  split at h
  · split at h
    · exact ⟨by assumption, by assumption⟩
    · omega
  · omega
set_option maxHeartbeats 4000000 in
set_option maxRecDepth 100000 in
theorem Line_l (r : RecD) (u : P3) (c : Int × Int) (w : World) (hr : RecRd w r) :
    Calls Try.prog 11 #[.agg #[.int .i64 r.n, r.lv, r.vv], .agg #[.int .i64 u.1, .int .i64 u.2.1, .int .i64 u.2.2], .agg #[.int .i64 c.1, .int .i64 c.2]] w fun e w' => LineR r u c e w' ∧ Below w.heap.size w w' := by
  have HR := Lib.hid hr
  clear hr
  have HLK := Lib.hid (fun (W : World) (h : RecRd W r) => look_l r u W h)
  obtain ⟨W0, hW0⟩ : ∃ W : World, ((w.alloc (Obj.cells #[.int .i64 r.n, r.lv, r.vv] 27)).alloc (Obj.cells #[.int .i64 u.1, .int .i64 u.2.1, .int .i64 u.2.2] 29)).alloc (Obj.cells #[.int .i64 c.1, .int .i64 c.2] 31) = W := ⟨_, rfl⟩
  have kw : Below w.heap.size w W0 := by rw [← hW0]; exact (by repeat (first | exact Below.refl _ _ | assumption | (refine Below.drew ?_) | (refine below_drewN ?_ _) | (refine Below.alloc ?_ (by first | (simp; done) | (simp; omega) | omega) _) | (refine Below.setCell ?_ (by first | (simp; done) | (simp; omega) | omega) _) | (refine Below.trans ?_ (Below.mono (by assumption) (by first | (simp; done) | (simp; omega) | omega)))))
  have ks : W0.heap.size = w.heap.size + 3 := by rw [← hW0]; simp
  have RD := Lib.hid (show ∀ V, Below W0.heap.size W0 V → V.cell? ⟨w.heap.size + 1 + 1, 0, none⟩ = some (.int .i64 c.1) ∧ V.cell? ⟨w.heap.size + 1 + 1, 1, none⟩ = some (.int .i64 c.2) from
    fun V h => by
      refine ⟨(h.cell (p := ⟨w.heap.size + 1 + 1, 0, none⟩) (by simp; omega)).trans ?_, (h.cell (p := ⟨w.heap.size + 1 + 1, 1, none⟩) (by simp; omega)).trans ?_⟩ <;> (subst hW0; go_simp))
  have HW := Lib.hid hW0; have KW := Lib.hid kw; clear hW0 kw
  by_cases ha : askE r u = 0
  rotate_left
  · have HE := Lib.hid (fun w' => lineR_err (c := c) (rfl : askE r u = askE r u) ha w')
    have hnz : (askE r u != 0) = true := by simpa using ha
    have HA := Lib.hid ha
    clear ha
    generalize hA : askE r u = A at *
    go_enter Try.func11, Try.ntmps11
    go_wp2_with (go_at_call 38; rw [HW.out]; refine (HLK.out _ (HR.out.below KW.out)).mono ?_; go_must (rintro e w1 ⟨hl, hb1⟩; unfold LookR at hl; rw [hA, if_neg HA.out] at hl; subst hl))
    go_ret2
    exact ⟨HE.out _, below_at KW.out (by omega) hb1⟩
  have HA := Lib.hid ha
  have HAO := Lib.hid (askE_ok ha)
  have HY := Lib.hid (fun (w' : World) (v' : Value) (h : SlOf w' w'.heap.size 3 encP v' (lineL r u c)) => lineR_ok ha h)
  have HLL := Lib.hid (show lineL r u c = (ptsL r.n r.l).filter (inCell r.n u c) from rfl)
  have HCL := Lib.hid (fun (p : P3) (W : World) => cell_l r.n u p HAO.out.2 W)
  have HPL := Lib.hid (ptsL_len r.n r.l)
  have HIC := Lib.hid (fun p => show inCell r.n u c p = (decide ((cellC r.n u p).1 = c.1) && decide ((cellC r.n u p).2 = c.2)) from rfl)
  clear ha
  generalize inCell r.n u c = F at *
  generalize hKK : axK r.n u = kk at *
  have HKK := Lib.hid hKK; clear hKK
  go_enter Try.func11, Try.ntmps11
  go_wp2_with (go_at_call 38; rw [HW.out]; refine (HLK.out _ (HR.out.below KW.out)).mono ?_; go_must (rintro e w1 ⟨hl, hb1⟩; unfold LookR at hl; rw [HA.out, if_pos rfl] at hl; obtain ⟨b, pv, rfl, hv⟩ := hl; have hs1 := hb1.size; have v8 := hv.c8; obtain ⟨pa, pc, hpv, -⟩ := hv.pts.shape; subst hpv))
  obtain ⟨qa, qc, g, off, hqe, hlc, hcm, hx⟩ := SlOf.at (enc := encP) (fun _ => rfl) un_pts sz_pts hv.pts
  have hqa : qa = pa := by cases hqe; rfl
  have hqc : qc = pc := by cases hqe; rfl
  subst hqa hqc
  clear hqe
  unfold maxLen at hcm
  have HX := Lib.hid hx; clear hx
  have f0 := hv.c0
  have f1 := hv.c1
  have f2 := hv.c2
  have f3 := hv.c3
  have f4 := hv.c4
  rw [HKK.out] at f1
  have hblt := hv.lt
  clear hv v8
  have VD := Lib.hid (show ∀ V, Below w1.heap.size w1 V → V.cell? ⟨b, 0, none⟩ = some (.int .i64 r.n) ∧ V.cell? ⟨b, 1, none⟩ = some (.int .i64 kk) ∧ V.cell? ⟨b, 2, none⟩ = some (.int .i64 u.1) ∧ V.cell? ⟨b, 3, none⟩ = some (.int .i64 u.2.1) ∧ V.cell? ⟨b, 4, none⟩ = some (.int .i64 u.2.2) from
    fun V h => ⟨(h.cell (p := ⟨b, 0, none⟩) hblt).trans f0, (h.cell (p := ⟨b, 1, none⟩) hblt).trans f1, (h.cell (p := ⟨b, 2, none⟩) hblt).trans f2, (h.cell (p := ⟨b, 3, none⟩) hblt).trans f3, (h.cell (p := ⟨b, 4, none⟩) hblt).trans f4⟩)
  clear f0 f1 f2 f3 f4
  have HB1 := Lib.hid hb1; clear hb1
  generalize ptsL r.n r.l = L at *
  go_loopw [10, 27] (fun t10 t27 wr => ∃ (k : Nat) (vo : Value), k ≤ L.length ∧ t27 = .int .i64 (k : Nat) ∧ vo = t10 ∧ Hid (OwnP wr w1.heap.size vo ((L.take k).filter F)) ∧ Below w1.heap.size w1 wr) (fun _ t27 _ => L.length - (intOf t27).toNat)
  case atStart => exact ⟨0, _, Nat.zero_le _, rfl, rfl, Lib.hid (OwnOf.nil _ _ _ _ _), Below.refl _ _⟩
  case round =>
    obtain ⟨k, vo, hk, rfl, rfl, HO, hb⟩ := hrel
    have hs := hb.size
    by_cases hlt : k < L.length
    rotate_left
    · have HK := Lib.hid (show k = L.length by omega)
      go_wp2
      go_ret2
      have := HO.out
      rw [HK.out, List.take_length] at this
      exact ⟨HY.out _ _ (by rw [HLL.out]; exact this.sl), below_at KW.out (by omega) (below_at HB1.out hs1 hb)⟩
    obtain ⟨-, hi, hg, hc⟩ := HX.out k hlt
    have rd := fun j hj => (hb.cell (p := ⟨g, off + 3 * k + j, none⟩) hg).trans (hc j hj)
    clear hc
    have HFT := Lib.hid (filter_take F L k hlt)
    have HLN := Lib.hid (show ((L.take k).filter F).length ≤ 68921 from Nat.le_trans (List.length_filter_le _ _) (by rw [List.length_take]; have := HPL.out; omega))
    have HLT := Lib.hid hlt
    generalize (L.take k).filter F = D at *
    generalize L[k] = p at *
    have HCP := Lib.hid (HCL.out p)
    have HFP := Lib.hid (HIC.out p)
    generalize cellC r.n u p = cc at *
    obtain ⟨p0, p1, p2⟩ := p
    obtain ⟨ca, cb⟩ := cc
    obtain ⟨c0, c1⟩ := c
    simp only at HCP HFP
    have r0 : wr.cell? ⟨g, off + 3 * k, none⟩ = some (.int .i64 p0) := rd 0 (by omega)
    have r1 : wr.cell? ⟨g, off + 3 * k + 1, none⟩ = some (.int .i64 p1) := rd 1 (by omega)
    have r2 : wr.cell? ⟨g, off + 3 * k + 2, none⟩ = some (.int .i64 p2) := rd 2 (by omega)
    clear rd
    have heq := fun W => eq_cell ca cb c0 c1 W
    rw [← HFP.out] at heq
    obtain ⟨W, hW⟩ : ∃ W : World, wr.alloc (Obj.cells #[.int .i64 p0, .int .i64 p1, .int .i64 p2] 29) = W := ⟨_, rfl⟩
    have KR := Lib.hid (show Below wr.heap.size wr W by rw [← hW]; exact (by repeat (first | exact Below.refl _ _ | assumption | (refine Below.drew ?_) | (refine below_drewN ?_ _) | (refine Below.alloc ?_ (by first | (simp; done) | (simp; omega) | omega) _) | (refine Below.setCell ?_ (by first | (simp; done) | (simp; omega) | omega) _) | (refine Below.trans ?_ (Below.mono (by assumption) (by first | (simp; done) | (simp; omega) | omega))))))
    have kz : W.heap.size = wr.heap.size + 1 := by rw [← hW]; simp
    have x0 : W.cell? ⟨wr.heap.size, 0, none⟩ = some (.int .i64 p0) := by subst hW; go_simp
    have x1 : W.cell? ⟨wr.heap.size, 1, none⟩ = some (.int .i64 p1) := by subst hW; go_simp
    have x2 : W.cell? ⟨wr.heap.size, 2, none⟩ = some (.int .i64 p2) := by subst hW; go_simp
    have KB := Lib.hid (below_at hb hs KR.out)
    obtain ⟨v0, v1, v2, v3, v4⟩ := VD.out W KB.out
    obtain ⟨y0, y1⟩ := RD.out W (below_at HB1.out hs1 KB.out)
    have g1 : wr.heap.size < W.heap.size := by omega
    have g2 : b < W.heap.size := by omega
    have g3 : w.heap.size + 1 + 1 < W.heap.size := by omega
    have HWW := Lib.hid hW; clear hW
    cases hfp : F (p0, p1, p2)
    all_goals
      have HFF := Lib.hid hfp
      rw [hfp] at heq HFT
      clear hfp
      go_wp2
      rw [HWW.out]
      clear r0 r1 r2 hi
      go_region_held3 (fun w' => Below W.heap.size W w' ∧ w'.cell? ⟨wr.heap.size, 0, none⟩ = some (.int .i64 p0) ∧ w'.cell? ⟨wr.heap.size, 1, none⟩ = some (.int .i64 p1) ∧ w'.cell? ⟨wr.heap.size, 2, none⟩ = some (.int .i64 p2) ∧ w'.cell? ⟨b, 0, none⟩ = some (.int .i64 r.n) ∧ w'.cell? ⟨b, 1, none⟩ = some (.int .i64 kk) ∧ w'.cell? ⟨b, 2, none⟩ = some (.int .i64 u.1) ∧ w'.cell? ⟨b, 3, none⟩ = some (.int .i64 u.2.1) ∧ w'.cell? ⟨b, 4, none⟩ = some (.int .i64 u.2.2) ∧ w'.cell? ⟨w.heap.size + 1 + 1, 0, none⟩ = some (.int .i64 c0) ∧ w'.cell? ⟨w.heap.size + 1 + 1, 1, none⟩ = some (.int .i64 c1)) (((refine (fun kb => ⟨kb, (kb.cell (p := ⟨wr.heap.size, 0, none⟩) g1).trans x0, (kb.cell (p := ⟨wr.heap.size, 1, none⟩) g1).trans x1, (kb.cell (p := ⟨wr.heap.size, 2, none⟩) g1).trans x2, (kb.cell (p := ⟨b, 0, none⟩) g2).trans v0, (kb.cell (p := ⟨b, 1, none⟩) g2).trans v1, (kb.cell (p := ⟨b, 2, none⟩) g2).trans v2, (kb.cell (p := ⟨b, 3, none⟩) g2).trans v3, (kb.cell (p := ⟨b, 4, none⟩) g2).trans v4, (kb.cell (p := ⟨w.heap.size + 1 + 1, 0, none⟩) g3).trans y0, (kb.cell (p := ⟨w.heap.size + 1 + 1, 1, none⟩) g3).trans y1⟩) (?_ : Below W.heap.size W _)); exact (by repeat (first | exact Below.refl _ _ | assumption | (refine Below.drew ?_) | (refine below_drewN ?_ _) | (refine Below.alloc ?_ (by first | (simp; done) | (simp; omega) | omega) _) | (refine Below.setCell ?_ (by first | (simp; done) | (simp; omega) | omega) _) | (refine Below.trans ?_ (Below.mono (by assumption) (by first | (simp; done) | (simp; omega) | omega))))))) (first | (go_at_call 39; refine (HCP.out _).mono ?_; go_must (rintro e w5 ⟨rfl, hb5⟩)))
    · have hbE : Below wr.heap.size wr w5 := below_at KR.out (by omega) (show Below W.heap.size W w5 from (by repeat (first | exact Below.refl _ _ | assumption | (refine Below.drew ?_) | (refine below_drewN ?_ _) | (refine Below.alloc ?_ (by first | (simp; done) | (simp; omega) | omega) _) | (refine Below.setCell ?_ (by first | (simp; done) | (simp; omega) | omega) _) | (refine Below.trans ?_ (Below.mono (by assumption) (by first | (simp; done) | (simp; omega) | omega))))))
      go_wp2
      go_roundw
      case rel => exact ⟨k + 1, vo, HLT.out, by simp, rfl, Lib.hid (by rw [HFT.out]; simpa using HO.out.kept hbE), below_at hb hs hbE⟩
      case measure => simp only [intOf]; have := HLT.out; omega
    · have hw5 : Below W.heap.size W w5 := (by repeat (first | exact Below.refl _ _ | assumption | (refine Below.drew ?_) | (refine below_drewN ?_ _) | (refine Below.alloc ?_ (by first | (simp; done) | (simp; omega) | omega) _) | (refine Below.setCell ?_ (by first | (simp; done) | (simp; omega) | omega) _) | (refine Below.trans ?_ (Below.mono (by assumption) (by first | (simp; done) | (simp; omega) | omega)))))
      have hbE : Below wr.heap.size wr w5 := below_at KR.out (by omega) hw5
      have e0 := (hw5.cell (p := ⟨wr.heap.size, 0, none⟩) g1).trans x0
      have e1 := (hw5.cell (p := ⟨wr.heap.size, 1, none⟩) g1).trans x1
      have e2 := (hw5.cell (p := ⟨wr.heap.size, 2, none⟩) g1).trans x2
      have HO5 := Lib.hid (HO.out.kept hbE)
      have hs5 := hbE.size
      go_wp2_with (at_builtin; refine wpList_push rfl _ _ _ rfl slPt HO5.out rfl rfl (by first | rfl | simp) rfl rfl (by have := HLN.out; omega) (by omega) (by omega) ?_; intro g5 c5 w6 hown6 hg6 hat6)
      go_roundw
      case rel =>
        refine ⟨k + 1, _, HLT.out, by simp, rfl, Lib.hid ?_, OwnOf.push (below_at hb hs hbE) HO5.out (Nat.le_refl _) (by omega) hg6⟩
        rw [HFT.out]
        have := OwnOf.snoc (l := D) (x := (p0, p1, p2)) (enc := encP) (by simpa [encP] using hown6) rfl
        simpa using this
      case measure => simp only [intOf]; have := HLT.out; omega
end Go.Proofs.Ytndfdgdahinkpaa
namespace Go.Proofs.Ytndfdgdahinkpaa
open Go.RowKit
set_option maxHeartbeats 4000000 in
set_option maxRecDepth 100000 in
theorem rline_l (r : RecD) (u : P3) (c : Int × Int) (ha : askE r u = 0) (w : World) (hr : RecRd w r) :
    Calls Try.prog 40 #[.agg #[.int .i64 r.n, r.lv, r.vv], .agg #[.int .i64 u.1, .int .i64 u.2.1, .int .i64 u.2.2], .agg #[.int .i64 c.1, .int .i64 c.2]] w fun e w' => (∃ v', e = .returned v' ∧ SlOf w' w'.heap.size 3 encP v' (lineL r u c)) ∧ Below w.heap.size w w' := by
  have HAO := Lib.hid (askE_ok ha)
  have hvo := validR_out HAO.out.1
  have hdo := validD_out hvo.1
  have HAL := Lib.hid (fun (W : World) (hw : SlOf W W.heap.size 4 encI r.lv r.l) => rAll_l r.n r.l hdo.1 hdo.2.2 W r.lv hw)
  have HMM := Lib.hid (fun p (hp : p ∈ ptsL r.n r.l) => ((mem_ptsL hdo.1 p).1 hp).1)
  clear hvo hdo ha
  have HR := Lib.hid hr
  clear hr
  obtain ⟨W0, hW0⟩ : ∃ W : World, ((w.alloc (Obj.cells #[.int .i64 r.n, r.lv, r.vv] 27)).alloc (Obj.cells #[.int .i64 u.1, .int .i64 u.2.1, .int .i64 u.2.2] 29)).alloc (Obj.cells #[.int .i64 c.1, .int .i64 c.2] 31) = W := ⟨_, rfl⟩
  have kw : Below w.heap.size w W0 := by rw [← hW0]; exact (by repeat (first | exact Below.refl _ _ | assumption | (refine Below.drew ?_) | (refine below_drewN ?_ _) | (refine Below.alloc ?_ (by first | (simp; done) | (simp; omega) | omega) _) | (refine Below.setCell ?_ (by first | (simp; done) | (simp; omega) | omega) _) | (refine Below.trans ?_ (Below.mono (by assumption) (by first | (simp; done) | (simp; omega) | omega)))))
  have ks : W0.heap.size = w.heap.size + 3 := by rw [← hW0]; simp
  have RD := Lib.hid (show ∀ V, Below W0.heap.size W0 V → V.cell? ⟨w.heap.size, 0, none⟩ = some (.int .i64 r.n) ∧ V.cell? ⟨w.heap.size + 1, 0, none⟩ = some (.int .i64 u.1) ∧ V.cell? ⟨w.heap.size + 1, 1, none⟩ = some (.int .i64 u.2.1) ∧ V.cell? ⟨w.heap.size + 1, 2, none⟩ = some (.int .i64 u.2.2) ∧ V.cell? ⟨w.heap.size + 1 + 1, 0, none⟩ = some (.int .i64 c.1) ∧ V.cell? ⟨w.heap.size + 1 + 1, 1, none⟩ = some (.int .i64 c.2) from
    fun V h => by
      refine ⟨(h.cell (p := ⟨w.heap.size, 0, none⟩) (by simp; omega)).trans ?_, (h.cell (p := ⟨w.heap.size + 1, 0, none⟩) (by simp; omega)).trans ?_, (h.cell (p := ⟨w.heap.size + 1, 1, none⟩) (by simp; omega)).trans ?_, (h.cell (p := ⟨w.heap.size + 1, 2, none⟩) (by simp; omega)).trans ?_, (h.cell (p := ⟨w.heap.size + 1 + 1, 0, none⟩) (by simp; omega)).trans ?_, (h.cell (p := ⟨w.heap.size + 1 + 1, 1, none⟩) (by simp; omega)).trans ?_⟩ <;> (subst hW0; go_simp))
  have HW := Lib.hid hW0; have KW := Lib.hid kw; clear hW0 kw
  have HLL := Lib.hid (show lineL r u c = (ptsL r.n r.l).filter (inCell r.n u c) from rfl)
  have HCL := Lib.hid (fun (p : P3) (h : p ∈ ptsL r.n r.l) (W : World) => rFold_l r.n u p HAO.out.2 20 (HMM.out p h) W)
  have HPL := Lib.hid (ptsL_len r.n r.l)
  have HIC := Lib.hid (fun p => show inCell r.n u c p = (decide ((cellC r.n u p).1 = c.1) && decide ((cellC r.n u p).2 = c.2)) from rfl)
  generalize inCell r.n u c = F at *
  go_enter Try.func40, Try.ntmps40
  go_wp2_with (go_at_call 37; rw [HW.out]; refine (HAL.out _ (HR.out.l.below KW.out)).mono ?_; go_must (rintro e w1 ⟨⟨v', rfl, hsl⟩, hb1⟩; have hs1 := hb1.size; obtain ⟨pa, pc, hpv, -⟩ := hsl.shape; subst hpv))
  obtain ⟨qa, qc, g, off, hqe, hlc, hcm, hx⟩ := SlOf.at (enc := encP) (fun _ => rfl) un_pts sz_pts hsl
  have hqa : qa = pa := by cases hqe; rfl
  have hqc : qc = pc := by cases hqe; rfl
  subst hqa hqc
  clear hqe hsl
  unfold maxLen at hcm
  have HX := Lib.hid hx; clear hx
  have HB1 := Lib.hid hb1; clear hb1
  generalize ptsL r.n r.l = L at *
  go_loopw [7, 9] (fun t7 t9 wr => ∃ (k : Nat) (vo : Value), k ≤ L.length ∧ t9 = .int .i64 (k : Nat) ∧ vo = t7 ∧ Hid (OwnP wr w1.heap.size vo ((L.take k).filter F)) ∧ Below w1.heap.size w1 wr) (fun _ t9 _ => L.length - (intOf t9).toNat)
  case atStart => exact ⟨0, _, Nat.zero_le _, rfl, rfl, Lib.hid (OwnOf.nil _ _ _ _ _), Below.refl _ _⟩
  case round =>
    obtain ⟨k, vo, hk, rfl, rfl, HO, hb⟩ := hrel
    have hs := hb.size
    by_cases hlt : k < L.length
    rotate_left
    · have HK := Lib.hid (show k = L.length by omega)
      go_wp2
      refine bodyPost_ret (v := vo) (by simp only [results, Try.results40]; first | (go_simp; done) | (go_simp; rfl)) rfl ?_
      have := HO.out
      rw [HK.out, List.take_length] at this
      exact ⟨⟨_, rfl, by rw [HLL.out]; exact this.sl⟩, below_at KW.out (by omega) (below_at HB1.out hs1 hb)⟩
    obtain ⟨-, hi, hg, hc⟩ := HX.out k hlt
    have rd := fun j hj => (hb.cell (p := ⟨g, off + 3 * k + j, none⟩) hg).trans (hc j hj)
    clear hc
    have HFT := Lib.hid (filter_take F L k hlt)
    have HLN := Lib.hid (show ((L.take k).filter F).length ≤ 68921 from Nat.le_trans (List.length_filter_le _ _) (by rw [List.length_take]; have := HPL.out; omega))
    have HLT := Lib.hid hlt
    have HCP := Lib.hid (HCL.out L[k] (List.getElem_mem hlt))
    generalize (L.take k).filter F = D at *
    generalize L[k] = p at *
    have HFP := Lib.hid (HIC.out p)
    generalize cellC r.n u p = cc at *
    obtain ⟨p0, p1, p2⟩ := p
    obtain ⟨ca, cb⟩ := cc
    obtain ⟨c0, c1⟩ := c
    simp only at HCP HFP
    have r0 : wr.cell? ⟨g, off + 3 * k, none⟩ = some (.int .i64 p0) := rd 0 (by omega)
    have r1 : wr.cell? ⟨g, off + 3 * k + 1, none⟩ = some (.int .i64 p1) := rd 1 (by omega)
    have r2 : wr.cell? ⟨g, off + 3 * k + 2, none⟩ = some (.int .i64 p2) := rd 2 (by omega)
    clear rd
    have heq := fun W => eq_cell ca cb c0 c1 W
    rw [← HFP.out] at heq
    obtain ⟨v0, v1, v2, v3, y0, y1⟩ := RD.out wr (below_at HB1.out hs1 hb)
    have g1 : g < wr.heap.size := by omega
    have g2 : w.heap.size < wr.heap.size := by omega
    have g3 : w.heap.size + 1 + 1 < wr.heap.size := by omega
    have g4 : w.heap.size + 1 < wr.heap.size := by omega
    have hk0 : (0 : Int) ≤ (k : Int) := by omega
    have hk1 : (k : Int) < (L.length : Int) := by omega
    cases hfp : F (p0, p1, p2)
    all_goals
      have HFF := Lib.hid hfp
      rw [hfp] at heq HFT
      clear hfp
      go_wp2
      go_region_held3 (fun w' => Below wr.heap.size wr w' ∧ w'.cell? ⟨g, off + 3 * k, none⟩ = some (.int .i64 p0) ∧ w'.cell? ⟨g, off + 3 * k + 1, none⟩ = some (.int .i64 p1) ∧ w'.cell? ⟨g, off + 3 * k + 2, none⟩ = some (.int .i64 p2) ∧ w'.cell? ⟨w.heap.size, 0, none⟩ = some (.int .i64 r.n) ∧ w'.cell? ⟨w.heap.size + 1, 0, none⟩ = some (.int .i64 u.1) ∧ w'.cell? ⟨w.heap.size + 1, 1, none⟩ = some (.int .i64 u.2.1) ∧ w'.cell? ⟨w.heap.size + 1, 2, none⟩ = some (.int .i64 u.2.2) ∧ w'.cell? ⟨w.heap.size + 1 + 1, 0, none⟩ = some (.int .i64 c0) ∧ w'.cell? ⟨w.heap.size + 1 + 1, 1, none⟩ = some (.int .i64 c1)) (((refine (fun kb => ⟨kb, (kb.cell (p := ⟨g, off + 3 * k, none⟩) g1).trans r0, (kb.cell (p := ⟨g, off + 3 * k + 1, none⟩) g1).trans r1, (kb.cell (p := ⟨g, off + 3 * k + 2, none⟩) g1).trans r2, (kb.cell (p := ⟨w.heap.size, 0, none⟩) g2).trans v0, (kb.cell (p := ⟨w.heap.size + 1, 0, none⟩) g4).trans v1, (kb.cell (p := ⟨w.heap.size + 1, 1, none⟩) g4).trans v2, (kb.cell (p := ⟨w.heap.size + 1, 2, none⟩) g4).trans v3, (kb.cell (p := ⟨w.heap.size + 1 + 1, 0, none⟩) g3).trans y0, (kb.cell (p := ⟨w.heap.size + 1 + 1, 1, none⟩) g3).trans y1⟩) (?_ : Below wr.heap.size wr _)); exact (by repeat (first | exact Below.refl _ _ | assumption | (refine Below.drew ?_) | (refine below_drewN ?_ _) | (refine Below.alloc ?_ (by first | (simp; done) | (simp; omega) | omega) _) | (refine Below.setCell ?_ (by first | (simp; done) | (simp; omega) | omega) _) | (refine Below.trans ?_ (Below.mono (by assumption) (by first | (simp; done) | (simp; omega) | omega))))))) (first | (go_at_call 60; refine (HCP.out _).mono ?_; go_must (rintro e w5 ⟨rfl, hb5⟩)))
    · have hbE : Below wr.heap.size wr w5 := (by repeat (first | exact Below.refl _ _ | assumption | (refine Below.drew ?_) | (refine below_drewN ?_ _) | (refine Below.alloc ?_ (by first | (simp; done) | (simp; omega) | omega) _) | (refine Below.setCell ?_ (by first | (simp; done) | (simp; omega) | omega) _) | (refine Below.trans ?_ (Below.mono (by assumption) (by first | (simp; done) | (simp; omega) | omega)))))
      go_wp2
      go_roundw
      case rel => exact ⟨k + 1, vo, HLT.out, by simp, rfl, Lib.hid (by rw [HFT.out]; simpa using HO.out.kept hbE), below_at hb hs hbE⟩
      case measure => simp only [intOf]; have := HLT.out; omega
    · have hbE : Below wr.heap.size wr w5 := (by repeat (first | exact Below.refl _ _ | assumption | (refine Below.drew ?_) | (refine below_drewN ?_ _) | (refine Below.alloc ?_ (by first | (simp; done) | (simp; omega) | omega) _) | (refine Below.setCell ?_ (by first | (simp; done) | (simp; omega) | omega) _) | (refine Below.trans ?_ (Below.mono (by assumption) (by first | (simp; done) | (simp; omega) | omega)))))
      have e0 := (hbE.cell (p := ⟨g, off + 3 * k, none⟩) g1).trans r0
      have e1 := (hbE.cell (p := ⟨g, off + 3 * k + 1, none⟩) g1).trans r1
      have e2 := (hbE.cell (p := ⟨g, off + 3 * k + 2, none⟩) g1).trans r2
      have HO5 := Lib.hid (HO.out.kept hbE)
      have hs5 := hbE.size
      have HO6 := Lib.hid (HO5.out.kept ((Below.refl w5.heap.size w5).alloc (Nat.le_refl _) (.cells #[.int .i64 p0, .int .i64 p1, .int .i64 p2] 29)))
      go_wp2_with (at_builtin; refine wpList_push rfl _ _ _ rfl slPt HO5.out rfl rfl (by first | rfl | simp) rfl rfl (by have := HLN.out; omega) (by omega) (by omega) ?_; intro g5 c5 w6 hown6 hg6 hat6)
      go_roundw
      case rel =>
        refine ⟨k + 1, _, HLT.out, by simp, rfl, Lib.hid ?_, OwnOf.push (below_at hb hs hbE) HO5.out (Nat.le_refl _) (by omega) hg6⟩
        rw [HFT.out]
        have := OwnOf.snoc (l := D) (x := (p0, p1, p2)) (enc := encP) (by simpa [encP] using hown6) rfl
        simpa using this
      case measure => simp only [intOf]; have := HLT.out; omega
end Go.Proofs.Ytndfdgdahinkpaa
namespace Go.Proofs.Ytndfdgdahinkpaa
open Go.RowKit
set_option maxHeartbeats 4000000 in
set_option maxRecDepth 100000 in
theorem rLine_l (r : RecD) (u : P3) (c : Int × Int) (w : World) (hr : RecRd w r) :
    Calls Try.prog 12 #[.agg #[.int .i64 r.n, r.lv, r.vv], .agg #[.int .i64 u.1, .int .i64 u.2.1, .int .i64 u.2.2], .agg #[.int .i64 c.1, .int .i64 c.2]] w fun e w' => LineR r u c e w' ∧ Below w.heap.size w w' := by
  have HR := Lib.hid hr
  clear hr
  have HAS := Lib.hid (fun (W : World) (h : RecRd W r) => Asked_l r u W h)
  obtain ⟨W0, hW0⟩ : ∃ W : World, ((w.alloc (Obj.cells #[.int .i64 r.n, r.lv, r.vv] 27)).alloc (Obj.cells #[.int .i64 u.1, .int .i64 u.2.1, .int .i64 u.2.2] 29)).alloc (Obj.cells #[.int .i64 c.1, .int .i64 c.2] 31) = W := ⟨_, rfl⟩
  have kw : Below w.heap.size w W0 := by rw [← hW0]; exact (by repeat (first | exact Below.refl _ _ | assumption | (refine Below.drew ?_) | (refine below_drewN ?_ _) | (refine Below.alloc ?_ (by first | (simp; done) | (simp; omega) | omega) _) | (refine Below.setCell ?_ (by first | (simp; done) | (simp; omega) | omega) _) | (refine Below.trans ?_ (Below.mono (by assumption) (by first | (simp; done) | (simp; omega) | omega)))))
  have ks : W0.heap.size = w.heap.size + 3 := by rw [← hW0]; simp
  have RD := Lib.hid (show ∀ V, Below W0.heap.size W0 V → V.cell? ⟨w.heap.size, 0, none⟩ = some (.int .i64 r.n) ∧ V.cell? ⟨w.heap.size, 1, none⟩ = some r.lv ∧ V.cell? ⟨w.heap.size, 2, none⟩ = some r.vv ∧ V.cell? ⟨w.heap.size + 1, 0, none⟩ = some (.int .i64 u.1) ∧ V.cell? ⟨w.heap.size + 1, 1, none⟩ = some (.int .i64 u.2.1) ∧ V.cell? ⟨w.heap.size + 1, 2, none⟩ = some (.int .i64 u.2.2) ∧ V.cell? ⟨w.heap.size + 1 + 1, 0, none⟩ = some (.int .i64 c.1) ∧ V.cell? ⟨w.heap.size + 1 + 1, 1, none⟩ = some (.int .i64 c.2) from
    fun V h => by
      refine ⟨(h.cell (p := ⟨w.heap.size, 0, none⟩) (by simp; omega)).trans ?_, (h.cell (p := ⟨w.heap.size, 1, none⟩) (by simp; omega)).trans ?_, (h.cell (p := ⟨w.heap.size, 2, none⟩) (by simp; omega)).trans ?_, (h.cell (p := ⟨w.heap.size + 1, 0, none⟩) (by simp; omega)).trans ?_, (h.cell (p := ⟨w.heap.size + 1, 1, none⟩) (by simp; omega)).trans ?_, (h.cell (p := ⟨w.heap.size + 1, 2, none⟩) (by simp; omega)).trans ?_, (h.cell (p := ⟨w.heap.size + 1 + 1, 0, none⟩) (by simp; omega)).trans ?_, (h.cell (p := ⟨w.heap.size + 1 + 1, 1, none⟩) (by simp; omega)).trans ?_⟩ <;> (subst hW0; go_simp))
  have HW := Lib.hid hW0; have KW := Lib.hid kw; clear hW0 kw
  by_cases ha : askE r u = 0
  rotate_left
  · have HE := Lib.hid (fun w' => lineR_err (c := c) (rfl : askE r u = askE r u) ha w')
    have hnz : (askE r u != 0) = true := by simpa using ha
    clear ha
    generalize hA : askE r u = A at *
    have HA := Lib.hid hA; clear hA
    go_enter Try.func12, Try.ntmps12
    go_wp2_with (go_at_call 25; rw [HW.out]; refine (HAS.out _ (HR.out.below KW.out)).mono ?_; go_must (rintro e w1 ⟨rfl, hb1⟩))
    go_ret2
    exact ⟨HE.out _, below_at KW.out (by omega) hb1⟩
  have HA := Lib.hid ha
  have HY := Lib.hid (fun (w' : World) (v' : Value) (h : SlOf w' w'.heap.size 3 encP v' (lineL r u c)) => lineR_ok ha h)
  have HL := Lib.hid (fun (W : World) (h : RecRd W r) => rline_l r u c ha W h)
  clear ha
  go_enter Try.func12, Try.ntmps12
  go_wp2_with (first | (go_at_call 25; rw [HW.out]; refine (HAS.out _ (HR.out.below KW.out)).mono ?_; go_must (rintro e w1 ⟨rfl, hb1⟩; rw [HA.out]; obtain ⟨k0, k1, k2, k3, k4, k5, k6, k7⟩ := RD.out _ hb1; have KA := Lib.hid (below_at KW.out (by omega) hb1))) | (go_at_call 40; refine (HL.out _ (HR.out.below KA.out)).mono ?_; go_must (rintro e w2 ⟨⟨v', rfl, hsl⟩, hb2⟩)))
  go_ret2
  exact ⟨HY.out _ _ hsl, below_at KA.out (by have := hb1.size; omega) hb2⟩
theorem part3_0 (x y z : Value) (w : World) : (part 3 #[x, y, z] 0).run Try.prog w = .ok x w := by kernel_rfl
theorem part3_1 (x y z : Value) (w : World) : (part 3 #[x, y, z] 1).run Try.prog w = .ok y w := by kernel_rfl
theorem part3_2 (x y z : Value) (w : World) : (part 3 #[x, y, z] 2).run Try.prog w = .ok z w := by kernel_rfl
theorem eq_pt (p q : P3) (w : World) : (Op.equalIn 10000 29 (.agg #[.int .i64 p.1, .int .i64 p.2.1, .int .i64 p.2.2]) (.agg #[.int .i64 q.1, .int .i64 q.2.1, .int .i64 q.2.2])).run Try.prog w = .ok (decide (p = q)) w := by
  obtain ⟨i, hi⟩ : ∃ i, Try.prog.info? 3 = some i := Option.isSome_iff_exists.mp (by kernel_rfl)
  rw [run_equalIn_array w 9999 (n := 3) (e := 3) _ _ Try.underlying29 hi]
  simp only [show Try.prog.cellsOf 3 = 1 by kernel_rfl]
  obtain ⟨a, b, c⟩ := p
  obtain ⟨d, e, f⟩ := q
  by_cases h1 : a = d <;> by_cases h2 : b = e <;> by_cases h3 : c = f <;> simp [Op.eqItems, List.range_succ, part3_0, part3_1, part3_2, eq_int 9998, h1, h2, h3]
set_option maxHeartbeats 4000000 in
set_option maxRecDepth 100000 in
theorem samePoints_l (l m : List P3) (w : World) (v u : Value) (hv : SlOf w w.heap.size 3 encP v l) (hu : SlOf w w.heap.size 3 encP u m) :
    Calls Try.prog 13 #[v, u] w fun e w' => e = .returned (.bool (decide (l = m))) ∧ Below w.heap.size w w' := by
  obtain ⟨a, cap, g, off, rfl, hlc, hcm, hx⟩ := SlOf.at (enc := encP) (fun _ => rfl) un_pts sz_pts hv
  obtain ⟨a2, cap2, g2, off2, rfl, hlc2, hcm2, hx2⟩ := SlOf.at (enc := encP) (fun _ => rfl) un_pts sz_pts hu
  have HX := Lib.hid hx; have HX2 := Lib.hid hx2; clear hx hx2 hv hu
  unfold maxLen at hcm hcm2
  by_cases hlen : l.length = m.length
  rotate_left
  · have hne : ¬ ((l.length : Int) = (m.length : Int)) := by omega
    have HF := Lib.hid (show decide (l = m) = false by rw [decide_eq_false_iff_not]; intro e; exact hlen (by rw [e]))
    clear hlen
    go_enter Try.func13, Try.ntmps13
    go_wp2
    go_ret
    exact ⟨ret_bool HF.out.symm, by repeat (first | exact Below.refl _ _ | assumption | (refine Below.drew ?_) | (refine below_drewN ?_ _) | (refine Below.alloc ?_ (by first | (simp; done) | (simp; omega) | omega) _) | (refine Below.setCell ?_ (by first | (simp; done) | (simp; omega) | omega) _) | (refine Below.trans ?_ (Below.mono (by assumption) (by first | (simp; done) | (simp; omega) | omega))))⟩
  have HLEN := Lib.hid hlen
  rw [← hlen]
  clear hlen
  have hk4 : (l.length : Int) ≤ 9223372036854775807 := by omega
  go_enter Try.func13, Try.ntmps13
  go_wp2
  go_loopw [5] (fun i wr => ∃ k : Nat, k ≤ l.length ∧ i = .int .i64 (k : Nat) ∧ Hid (∀ j, j < k → l[j]? = m[j]?) ∧ Below w.heap.size w wr) (fun i _ => l.length - (intOf i).toNat)
  case atStart => exact ⟨0, by omega, rfl, Lib.hid (fun j h => absurd h (by omega)), Below.refl _ _⟩
  case round =>
    obtain ⟨k, hk, rfl, HS, hb⟩ := hrel
    by_cases hlt : k < l.length
    rotate_left
    · have HK := Lib.hid (show k = l.length by omega)
      have HT := Lib.hid (show decide (l = m) = true by
        rw [decide_eq_true_eq]
        refine List.ext_getElem? (fun j => ?_)
        rcases Nat.lt_or_ge j l.length with h | h
        · exact HS.out j (by rw [HK.out]; exact h)
        · rw [List.getElem?_eq_none h, List.getElem?_eq_none (by rw [← HLEN.out]; exact h)])
      go_wp2
      go_ret
      exact ⟨ret_bool HT.out.symm, hb⟩
    have hlt2 : k < m.length := by rw [← HLEN.out]; exact hlt
    obtain ⟨-, hi, hg, hc⟩ := HX.out k hlt
    obtain ⟨-, hi2, hg2, hc2⟩ := HX2.out k hlt2
    rw [← HLEN.out] at hi2
    have rd := fun j hj => (hb.cell (p := ⟨g, off + 3 * k + j, none⟩) hg).trans (hc j hj)
    have rd2 := fun j hj => (hb.cell (p := ⟨g2, off2 + 3 * k + j, none⟩) hg2).trans (hc2 j hj)
    have HE := Lib.hid (show l[k]? = some l[k] ∧ m[k]? = some m[k] by simp [hlt, hlt2])
    clear hc hc2
    generalize l[k] = p at *
    generalize m[k] = q at *
    have heq := fun W => eq_pt p q W
    obtain ⟨p0, p1, p2⟩ := p
    obtain ⟨q0, q1, q2⟩ := q
    have r0 : wr.cell? ⟨g, off + 3 * k, none⟩ = some (.int .i64 p0) := rd 0 (by omega)
    have r1 : wr.cell? ⟨g, off + 3 * k + 1, none⟩ = some (.int .i64 p1) := rd 1 (by omega)
    have r2 : wr.cell? ⟨g, off + 3 * k + 2, none⟩ = some (.int .i64 p2) := rd 2 (by omega)
    have s0 : wr.cell? ⟨g2, off2 + 3 * k, none⟩ = some (.int .i64 q0) := rd2 0 (by omega)
    have s1 : wr.cell? ⟨g2, off2 + 3 * k + 1, none⟩ = some (.int .i64 q1) := rd2 1 (by omega)
    have s2 : wr.cell? ⟨g2, off2 + 3 * k + 2, none⟩ = some (.int .i64 q2) := rd2 2 (by omega)
    clear rd rd2
    simp only at heq
    by_cases hpq : ((p0, p1, p2) : P3) = (q0, q1, q2)
    · have HPQ := Lib.hid hpq
      rw [decide_eq_true hpq] at heq
      clear hpq
      go_wp2
      go_quiet (fail)
      go_wp2
      go_roundw
      case rel =>
        refine ⟨k + 1, hlt, by simp, Lib.hid (fun j hj => ?_), below_drewN hb _⟩
        by_cases he : j = k
        · subst he; rw [HE.out.1, HE.out.2, HPQ.out]
        · exact HS.out j (by omega)
      case measure => simp only [intOf]; omega
    · have HF := Lib.hid (show decide (l = m) = false by
        rw [decide_eq_false_iff_not]; intro e
        have h1 := HE.out.1
        rw [e, HE.out.2] at h1
        exact hpq (Option.some.inj h1).symm)
      rw [decide_eq_false hpq] at heq
      clear hpq
      go_wp2
      go_quiet (fail)
      go_wp2
      go_ret
      exact ⟨ret_bool HF.out.symm, below_drewN hb _⟩
end Go.Proofs.Ytndfdgdahinkpaa
namespace Go.Proofs.Ytndfdgdahinkpaa
open Go.RowKit
set_option maxHeartbeats 4000000 in
set_option maxRecDepth 100000 in
theorem SpaceLines_any (r : RecD) (u : P3) (c : Int × Int) (w : World) (hr : RecRd w r) :
    Calls Try.prog 3 #[.agg #[.int .i64 r.n, r.lv, r.vv], .agg #[.int .i64 u.1, .int .i64 u.2.1, .int .i64 u.2.2], .agg #[.int .i64 c.1, .int .i64 c.2]] w fun e w' => e = .returned (.bool true) ∧ Below w.heap.size w w' := by
  have HR := Lib.hid hr
  clear hr
  obtain ⟨W0, hW0⟩ : ∃ W : World, ((w.alloc (Obj.cells #[.int .i64 r.n, r.lv, r.vv] 27)).alloc (Obj.cells #[.int .i64 u.1, .int .i64 u.2.1, .int .i64 u.2.2] 29)).alloc (Obj.cells #[.int .i64 c.1, .int .i64 c.2] 31) = W := ⟨_, rfl⟩
  have kw : Below w.heap.size w W0 := by rw [← hW0]; exact (by repeat (first | exact Below.refl _ _ | assumption | (refine Below.drew ?_) | (refine below_drewN ?_ _) | (refine Below.alloc ?_ (by first | (simp; done) | (simp; omega) | omega) _) | (refine Below.setCell ?_ (by first | (simp; done) | (simp; omega) | omega) _) | (refine Below.trans ?_ (Below.mono (by assumption) (by first | (simp; done) | (simp; omega) | omega)))))
  have ks : W0.heap.size = w.heap.size + 3 := by rw [← hW0]; simp
  have RD := Lib.hid (show ∀ V, Below W0.heap.size W0 V → V.cell? ⟨w.heap.size, 0, none⟩ = some (.int .i64 r.n) ∧ V.cell? ⟨w.heap.size, 1, none⟩ = some r.lv ∧ V.cell? ⟨w.heap.size, 2, none⟩ = some r.vv ∧ V.cell? ⟨w.heap.size + 1, 0, none⟩ = some (.int .i64 u.1) ∧ V.cell? ⟨w.heap.size + 1, 1, none⟩ = some (.int .i64 u.2.1) ∧ V.cell? ⟨w.heap.size + 1, 2, none⟩ = some (.int .i64 u.2.2) ∧ V.cell? ⟨w.heap.size + 1 + 1, 0, none⟩ = some (.int .i64 c.1) ∧ V.cell? ⟨w.heap.size + 1 + 1, 1, none⟩ = some (.int .i64 c.2) from
    fun V h => by
      refine ⟨(h.cell (p := ⟨w.heap.size, 0, none⟩) (by simp; omega)).trans ?_, (h.cell (p := ⟨w.heap.size, 1, none⟩) (by simp; omega)).trans ?_, (h.cell (p := ⟨w.heap.size, 2, none⟩) (by simp; omega)).trans ?_, (h.cell (p := ⟨w.heap.size + 1, 0, none⟩) (by simp; omega)).trans ?_, (h.cell (p := ⟨w.heap.size + 1, 1, none⟩) (by simp; omega)).trans ?_, (h.cell (p := ⟨w.heap.size + 1, 2, none⟩) (by simp; omega)).trans ?_, (h.cell (p := ⟨w.heap.size + 1 + 1, 0, none⟩) (by simp; omega)).trans ?_, (h.cell (p := ⟨w.heap.size + 1 + 1, 1, none⟩) (by simp; omega)).trans ?_⟩ <;> (subst hW0; go_simp))
  have HW := Lib.hid hW0; have KW := Lib.hid kw; clear hW0 kw
  have HWD := Lib.hid (fun (W : World) (h : RecRd W r) => Wide_l r 120 (by omega) W h)
  cases hwd : wideB r.n r.l r.vars 120
  rotate_left
  · have HV := Lib.hid hwd; clear hwd
    go_enter Try.func3, Try.ntmps3
    go_wp2_with (first | (go_at_call 9; rw [HW.out]; refine (HWD.out _ (HR.out.below KW.out)).mono ?_; go_must (rintro e w1 ⟨rfl, hb1⟩; rw [HV.out])) | (go_at_call 10; refine (sane04 _).mono ?_; go_must (rintro e w9 ⟨rfl, hb9⟩)))
    go_ret
    exact ⟨rfl, below_at KW.out (by omega) (below_at hb1 (by have := hb1.size; omega) hb9)⟩
  have HV := Lib.hid hwd; clear hwd
  have HL1 := Lib.hid (fun (W : World) (h : RecRd W r) => Line_l r u c W h)
  have HL2 := Lib.hid (fun (W : World) (h : RecRd W r) => rLine_l r u c W h)
  have HLR := Lib.hid (fun e w' => show LineR r u c e w' ↔ ∃ v', e = .returned (.tuple #[v', .int .i64 (askE r u)]) ∧ SlOf w' w'.heap.size 3 encP v' (if askE r u = 0 then lineL r u c else []) from Iff.rfl)
  have heb : (askE r u == askE r u) = true := by simp
  generalize (if askE r u = 0 then lineL r u c else []) = X at *
  generalize askE r u = A at *
  clear heb
  have HSM := Lib.hid (fun (W : World) (v1 v2 : Value) (h1 : SlOf W W.heap.size 3 encP v1 X) (h2 : SlOf W W.heap.size 3 encP v2 X) => by have := samePoints_l X X W v1 v2 h1 h2; rwa [decide_eq_true rfl] at this)
  go_enter Try.func3, Try.ntmps3
  go_wp2_with (first | (go_at_call 9; rw [HW.out]; refine (HWD.out _ (HR.out.below KW.out)).mono ?_; go_must (rintro e w1 ⟨rfl, hb1⟩; rw [HV.out]; have K := hb1; clear hb1; obtain ⟨k0, k1, k2, k3, k4, k5, k6, k7⟩ := RD.out _ K)) | (go_at_call 11; refine (HL1.out _ (HR.out.below (KW.out.trans (K.mono (by omega))))).mono ?_; go_must (rintro e w2 ⟨hl, hb2⟩; obtain ⟨v1, rfl, hs1⟩ := (HLR.out _ _).1 hl; clear hl; have HS1 := Lib.hid hs1; clear hs1; have K' := below_at K (by have := K.size; omega) hb2; clear K k0 k1 k2 k3 k4 k5 k6 k7 hb2; have K := K'; clear K'; obtain ⟨k0, k1, k2, k3, k4, k5, k6, k7⟩ := RD.out _ K)) | (go_at_call 12; refine (HL2.out _ (HR.out.below (KW.out.trans (K.mono (by omega))))).mono ?_; go_must (rintro e w3 ⟨hl, hb3⟩; obtain ⟨v2, rfl, hs2⟩ := (HLR.out _ _).1 hl; clear hl; have HS2 := Lib.hid hs2; clear hs2; have HS3 := Lib.hid (HS1.out.below hb3); have K' := below_at K (by have := K.size; omega) hb3; clear K k0 k1 k2 k3 k4 k5 k6 k7 hb3; have K := K'; clear K')) | (go_at_call 13; refine (HSM.out _ _ _ HS3.out HS2.out).mono ?_; go_must (rintro e w4 ⟨rfl, hb4⟩)) | (go_at_call 10; refine (sane04 _).mono ?_; go_must (rintro e w9 ⟨rfl, hb9⟩)))
  go_ret
  exact ⟨rfl, below_at KW.out (by omega) (below_at K (by have := K.size; omega) (below_at hb4 (by have := hb4.size; omega) hb9))⟩
end Go.Proofs.Ytndfdgdahinkpaa
