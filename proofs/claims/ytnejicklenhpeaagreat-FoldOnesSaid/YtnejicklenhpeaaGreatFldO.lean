/- fold.Table and fold.Latency: their walks. Conditions: none. -/
import Derived.Test.YtnejicklenhpeaaGreatFldM
namespace Go.Proofs.YtnejicklenhpeaaGreat
open Go.RowKit Go.Lib
set_option linter.unusedVariables false
def FTabR (r : RecD) (s : SchedD) (u : P3) (f : Int × Int) (e : Ending) (w' : World) : Prop := ∃ v l, e = .returned (.tuple #[v, .int .i64 (foldE r s u f)]) ∧ SlOf w' w'.heap.size 7 encE v l ∧ (if foldE r s u f = 0 then l.Perm (fevsL r s u f) ∧ SortedE l else l = [])
theorem ftabR_err {r : RecD} {s : SchedD} {u : P3} {f : Int × Int} {k : Int} (h : foldE r s u f = k) (hk : k ≠ 0) (w' : World) : FTabR r s u f (.returned (.tuple #[.slice none 0 0, .int .i64 k])) w' := by
  unfold FTabR; rw [h]; exact ⟨_, [], rfl, Sl.nil _ _ _, by rw [if_neg hk]⟩
theorem ftabR_ok {r : RecD} {s : SchedD} {u : P3} {f : Int × Int} (h : foldE r s u f = 0) {w' : World} {v : Value} {l : List EvD} (hs : SlOf w' w'.heap.size 7 encE v l) (hp : l.Perm (fevsL r s u f)) (ho : SortedE l) : FTabR r s u f (.returned (.tuple #[v, .int .i64 0])) w' := by
  unfold FTabR; rw [h]; exact ⟨_, l, rfl, hs, by rw [if_pos rfl]; exact ⟨hp, ho⟩⟩
/-- How long a table takes. -/
def latT (l : List EvD) : Int := match l with
  | [] => 0
  | x :: t => ((x :: t).getLastD x).t - x.t + 1
def FLatR (r : RecD) (s : SchedD) (u : P3) (f : Int × Int) (e : Ending) : Prop := (foldE r s u f ≠ 0 ∧ e = .returned (.tuple #[.int .i64 0, .int .i64 (foldE r s u f)])) ∨ (foldE r s u f = 0 ∧ ∃ l, (l.Perm (fevsL r s u f) ∧ SortedE l) ∧ e = .returned (.tuple #[.int .i64 (latT l), .int .i64 (if l.length = 0 then 5 else 0)]))
theorem fLatR_same {r : RecD} {s : SchedD} {u : P3} {f : Int × Int} {e1 e2 : Ending} (h1 : FLatR r s u f e1) (h2 : FLatR r s u f e2) : e1 = e2 := by
  rcases h1 with ⟨a, rfl⟩ | ⟨a, l, ⟨p1, s1⟩, rfl⟩
  · rcases h2 with ⟨b, rfl⟩ | ⟨b, _⟩
    · rfl
    · exact absurd b a
  · rcases h2 with ⟨b, _⟩ | ⟨b, m, ⟨p2, s2⟩, rfl⟩
    · exact absurd a b
    · rw [sorted_same (p1.trans p2.symm) s1 s2]
set_option maxHeartbeats 4000000 in
set_option maxRecDepth 100000 in
theorem fTable_l (r : RecD) (s : SchedD) (u : P3) (f : Int × Int) (w : World) (hr : RecRd w r) (hs : SchedRd w s) :
    Calls Tryz.prog 27 #[.agg #[.int .i64 r.n, r.lv, r.vv], .agg #[.int .i64 s.f.1, .int .i64 s.f.2.1, .int .i64 s.f.2.2, s.ov], .agg #[.int .i64 u.1, .int .i64 u.2.1, .int .i64 u.2.2], .agg #[.int .i64 f.1, .int .i64 f.2]] w fun e w' => FTabR r s u f e w' ∧ Below w.heap.size w w' := by
  have HR := Lib.hid hr
  have HS := Lib.hid hs
  clear hr hs
  have HFO := Lib.hid (fun (W : World) (h : RecRd W r) (h2 : SchedRd W s) => folding_l r s u f W h h2)
  obtain ⟨W0, hW0⟩ : ∃ W : World, (((w.alloc (Obj.cells #[.int .i64 r.n, r.lv, r.vv] 27)).alloc (Obj.cells #[.int .i64 s.f.1, .int .i64 s.f.2.1, .int .i64 s.f.2.2, s.ov] 47)).alloc (Obj.cells #[.int .i64 u.1, .int .i64 u.2.1, .int .i64 u.2.2] 29)).alloc (Obj.cells #[.int .i64 f.1, .int .i64 f.2] 31) = W := ⟨_, rfl⟩
  have kw0 : Below w.heap.size w W0 := by rw [← hW0]; exact (by repeat (first | exact Below.refl _ _ | assumption | (refine Below.drew ?_) | (refine below_drewN ?_ _) | (refine Below.alloc ?_ (by first | (simp; done) | (simp; omega) | omega) _) | (refine Below.setCell ?_ (by first | (simp; done) | (simp; omega) | omega) _) | (refine Below.trans ?_ (Below.mono (by assumption) (by first | (simp; done) | (simp; omega) | omega)))))
  have ks0 : W0.heap.size = w.heap.size + 4 := by rw [← hW0]; simp
  have RD0 := Lib.hid (show ∀ V, Below W0.heap.size W0 V → V.cell? ⟨w.heap.size, 0, none⟩ = some (.int .i64 r.n) ∧ V.cell? ⟨w.heap.size, 1, none⟩ = some (r.lv) ∧ V.cell? ⟨w.heap.size, 2, none⟩ = some (r.vv) ∧ V.cell? ⟨w.heap.size + 1, 0, none⟩ = some (.int .i64 s.f.1) ∧ V.cell? ⟨w.heap.size + 1, 1, none⟩ = some (.int .i64 s.f.2.1) ∧ V.cell? ⟨w.heap.size + 1, 2, none⟩ = some (.int .i64 s.f.2.2) ∧ V.cell? ⟨w.heap.size + 1, 3, none⟩ = some (s.ov) ∧ V.cell? ⟨w.heap.size + 1 + 1, 0, none⟩ = some (.int .i64 u.1) ∧ V.cell? ⟨w.heap.size + 1 + 1, 1, none⟩ = some (.int .i64 u.2.1) ∧ V.cell? ⟨w.heap.size + 1 + 1, 2, none⟩ = some (.int .i64 u.2.2) ∧ V.cell? ⟨w.heap.size + 1 + 1 + 1, 0, none⟩ = some (.int .i64 f.1) ∧ V.cell? ⟨w.heap.size + 1 + 1 + 1, 1, none⟩ = some (.int .i64 f.2) from fun V h => by
      refine ⟨(h.cell (p := ⟨w.heap.size, 0, none⟩) (by simp; omega)).trans ?_, (h.cell (p := ⟨w.heap.size, 1, none⟩) (by simp; omega)).trans ?_, (h.cell (p := ⟨w.heap.size, 2, none⟩) (by simp; omega)).trans ?_, (h.cell (p := ⟨w.heap.size + 1, 0, none⟩) (by simp; omega)).trans ?_, (h.cell (p := ⟨w.heap.size + 1, 1, none⟩) (by simp; omega)).trans ?_, (h.cell (p := ⟨w.heap.size + 1, 2, none⟩) (by simp; omega)).trans ?_, (h.cell (p := ⟨w.heap.size + 1, 3, none⟩) (by simp; omega)).trans ?_, (h.cell (p := ⟨w.heap.size + 1 + 1, 0, none⟩) (by simp; omega)).trans ?_, (h.cell (p := ⟨w.heap.size + 1 + 1, 1, none⟩) (by simp; omega)).trans ?_, (h.cell (p := ⟨w.heap.size + 1 + 1, 2, none⟩) (by simp; omega)).trans ?_, (h.cell (p := ⟨w.heap.size + 1 + 1 + 1, 0, none⟩) (by simp; omega)).trans ?_, (h.cell (p := ⟨w.heap.size + 1 + 1 + 1, 1, none⟩) (by simp; omega)).trans ?_⟩ <;> (subst hW0; go_simp))
  have HW0 := Lib.hid hW0; have KW0 := Lib.hid kw0; clear hW0 kw0
  by_cases hc : foldE r s u f = 0
  rotate_left
  · have HE := Lib.hid (fun w' => ftabR_err (rfl : foldE r s u f = foldE r s u f) hc w')
    have hnz : (foldE r s u f != 0) = true := by simpa using hc
    have HA := Lib.hid hc
    clear hc
    generalize hA : foldE r s u f = A at *
    go_enter Tryz.func27, Tryz.ntmps27
    go_wp2_with (go_at_call 58; rw [HW0.out]; refine (HFO.out _ (HR.out.below KW0.out) (HS.out.below KW0.out)).mono ?_; go_must (rintro e w1 ⟨⟨p, rfl, hp⟩, hb1⟩; have K0 := hb1; have HB1 := Lib.hid hb1; clear hb1; obtain ⟨k0_0, k0_1, k0_2, k0_3, k0_4, k0_5, k0_6, k0_7, k0_8, k0_9, k0_10, k0_11⟩ := RD0.out _ K0; rw [hA]; rw [hA, if_neg HA.out] at hp; subst hp))
    go_ret2
    exact ⟨HE.out _, (KW0.out.trans (K0.mono (by omega)))⟩
  have HC := Lib.hid hc
  have HY := Lib.hid (fun (w' : World) (v : Value) (l : List EvD) h1 h2 h3 => ftabR_ok (w' := w') (v := v) (l := l) hc h1 h2 h3)
  clear hc
  go_enter Tryz.func27, Tryz.ntmps27
  go_wp2_with (go_at_call 58; rw [HW0.out]; refine (HFO.out _ (HR.out.below KW0.out) (HS.out.below KW0.out)).mono ?_; go_must (rintro e w1 ⟨⟨p, rfl, hp⟩, hb1⟩; have K0 := hb1; have HB1 := Lib.hid hb1; clear hb1; obtain ⟨k0_0, k0_1, k0_2, k0_3, k0_4, k0_5, k0_6, k0_7, k0_8, k0_9, k0_10, k0_11⟩ := RD0.out _ K0; rw [HC.out]; rw [HC.out, if_pos rfl] at hp; obtain ⟨ab, rfl, hab⟩ := hp; obtain ⟨hlt, sb, mb, n, ve, l, a0, a1, a2, hsh, hsl, hpl, -⟩ := hab; obtain ⟨va, vc, hve, -⟩ := hsl.shape; subst hve; have HSL := Lib.hid hsl; have HPL := Lib.hid hpl; clear hsh hsl hpl))
  go_ret2
  exact ⟨HY.out _ _ l HSL.out HPL.out.1 HPL.out.2, (KW0.out.trans (K0.mono (by omega)))⟩
theorem latT_at {l : List EvD} {m : Nat} (h : l.length = m + 1) : latT l = (l[m]'(by omega)).t - (l[0]'(by omega)).t + 1 := by
  match l, h with
  | x :: t, h =>
    simp only [latT]
    have e : (x :: t).getLastD x = (x :: t)[m]'(by omega) := by
      rw [List.getLastD_eq_getLast?, List.getLast?_eq_getElem?, show (x :: t).length - 1 = m by omega, List.getElem?_eq_getElem (by omega)]
      rfl
    rw [e]
    rfl
theorem fev_time {r : RecD} {s : SchedD} {u : P3} {f : Int × Int} (h : foldE r s u f = 0) {x : EvD} (hx : x ∈ fevsL r s u f) : -100001000 ≤ x.t ∧ x.t ≤ 100001000 := by
  have ha : askS r s u = 0 ∧ (blocksL r u f).length ≤ 1000 := by
    unfold foldE at h
    by_cases ha : askS r s u = 0
    · refine ⟨ha, Nat.le_trans (sortC_len _) (by rw [List.length_map]; exact cellsL_len (askS_ok ha).2.2.2)⟩
    · rw [if_neg ha] at h; exact absurd h ha
  obtain ⟨y, hy, rfl⟩ := mem_fevsL.1 hx
  have hp := pos_lt (evs_block (f := f) hy)
  have := fold_time (evs_small ha.1 hy).1 (show (0 : Int) ≤ ((blocksL r u f).length : Int) ∧ ((blocksL r u f).length : Int) ≤ 1000 by omega) (show (0 : Int) ≤ (posTo (blocksL r u f) (blocksL r u f).length (blkC f y.c) : Int) ∧ (posTo (blocksL r u f) (blocksL r u f).length (blkC f y.c) : Int) ≤ 1000 by omega)
  exact this.2
set_option maxHeartbeats 4000000 in
set_option maxRecDepth 100000 in
theorem fLatency_l (r : RecD) (s : SchedD) (u : P3) (f : Int × Int) (w : World) (hr : RecRd w r) (hs : SchedRd w s) :
    Calls Tryz.prog 31 #[.agg #[.int .i64 r.n, r.lv, r.vv], .agg #[.int .i64 s.f.1, .int .i64 s.f.2.1, .int .i64 s.f.2.2, s.ov], .agg #[.int .i64 u.1, .int .i64 u.2.1, .int .i64 u.2.2], .agg #[.int .i64 f.1, .int .i64 f.2]] w fun e w' => FLatR r s u f e ∧ Below w.heap.size w w' := by
  have HR := Lib.hid hr
  have HS := Lib.hid hs
  clear hr hs
  have HFO := Lib.hid (fun (W : World) (h : RecRd W r) (h2 : SchedRd W s) => fTable_l r s u f W h h2)
  obtain ⟨W0, hW0⟩ : ∃ W : World, (((w.alloc (Obj.cells #[.int .i64 r.n, r.lv, r.vv] 27)).alloc (Obj.cells #[.int .i64 s.f.1, .int .i64 s.f.2.1, .int .i64 s.f.2.2, s.ov] 47)).alloc (Obj.cells #[.int .i64 u.1, .int .i64 u.2.1, .int .i64 u.2.2] 29)).alloc (Obj.cells #[.int .i64 f.1, .int .i64 f.2] 31) = W := ⟨_, rfl⟩
  have kw0 : Below w.heap.size w W0 := by rw [← hW0]; exact (by repeat (first | exact Below.refl _ _ | assumption | (refine Below.drew ?_) | (refine below_drewN ?_ _) | (refine Below.alloc ?_ (by first | (simp; done) | (simp; omega) | omega) _) | (refine Below.setCell ?_ (by first | (simp; done) | (simp; omega) | omega) _) | (refine Below.trans ?_ (Below.mono (by assumption) (by first | (simp; done) | (simp; omega) | omega)))))
  have ks0 : W0.heap.size = w.heap.size + 4 := by rw [← hW0]; simp
  have RD0 := Lib.hid (show ∀ V, Below W0.heap.size W0 V → V.cell? ⟨w.heap.size, 0, none⟩ = some (.int .i64 r.n) ∧ V.cell? ⟨w.heap.size, 1, none⟩ = some (r.lv) ∧ V.cell? ⟨w.heap.size, 2, none⟩ = some (r.vv) ∧ V.cell? ⟨w.heap.size + 1, 0, none⟩ = some (.int .i64 s.f.1) ∧ V.cell? ⟨w.heap.size + 1, 1, none⟩ = some (.int .i64 s.f.2.1) ∧ V.cell? ⟨w.heap.size + 1, 2, none⟩ = some (.int .i64 s.f.2.2) ∧ V.cell? ⟨w.heap.size + 1, 3, none⟩ = some (s.ov) ∧ V.cell? ⟨w.heap.size + 1 + 1, 0, none⟩ = some (.int .i64 u.1) ∧ V.cell? ⟨w.heap.size + 1 + 1, 1, none⟩ = some (.int .i64 u.2.1) ∧ V.cell? ⟨w.heap.size + 1 + 1, 2, none⟩ = some (.int .i64 u.2.2) ∧ V.cell? ⟨w.heap.size + 1 + 1 + 1, 0, none⟩ = some (.int .i64 f.1) ∧ V.cell? ⟨w.heap.size + 1 + 1 + 1, 1, none⟩ = some (.int .i64 f.2) from fun V h => by
      refine ⟨(h.cell (p := ⟨w.heap.size, 0, none⟩) (by simp; omega)).trans ?_, (h.cell (p := ⟨w.heap.size, 1, none⟩) (by simp; omega)).trans ?_, (h.cell (p := ⟨w.heap.size, 2, none⟩) (by simp; omega)).trans ?_, (h.cell (p := ⟨w.heap.size + 1, 0, none⟩) (by simp; omega)).trans ?_, (h.cell (p := ⟨w.heap.size + 1, 1, none⟩) (by simp; omega)).trans ?_, (h.cell (p := ⟨w.heap.size + 1, 2, none⟩) (by simp; omega)).trans ?_, (h.cell (p := ⟨w.heap.size + 1, 3, none⟩) (by simp; omega)).trans ?_, (h.cell (p := ⟨w.heap.size + 1 + 1, 0, none⟩) (by simp; omega)).trans ?_, (h.cell (p := ⟨w.heap.size + 1 + 1, 1, none⟩) (by simp; omega)).trans ?_, (h.cell (p := ⟨w.heap.size + 1 + 1, 2, none⟩) (by simp; omega)).trans ?_, (h.cell (p := ⟨w.heap.size + 1 + 1 + 1, 0, none⟩) (by simp; omega)).trans ?_, (h.cell (p := ⟨w.heap.size + 1 + 1 + 1, 1, none⟩) (by simp; omega)).trans ?_⟩ <;> (subst hW0; go_simp))
  have HW0 := Lib.hid hW0; have KW0 := Lib.hid kw0; clear hW0 kw0
  by_cases hc : foldE r s u f = 0
  rotate_left
  · have HE := Lib.hid (show FLatR r s u f (.returned (.tuple #[.int .i64 0, .int .i64 (foldE r s u f)])) from .inl ⟨hc, rfl⟩)
    have hnz : (foldE r s u f != 0) = true := by simpa using hc
    have HA := Lib.hid hc
    clear hc
    generalize hA : foldE r s u f = A at *
    go_enter Tryz.func31, Tryz.ntmps31
    go_wp2_with (go_at_call 27; rw [HW0.out]; refine (HFO.out _ (HR.out.below KW0.out) (HS.out.below KW0.out)).mono ?_; go_must (rintro e w1 ⟨⟨v, l, rfl, hsl, hif⟩, hb1⟩; have K0 := hb1; have HB1 := Lib.hid hb1; clear hb1; obtain ⟨k0_0, k0_1, k0_2, k0_3, k0_4, k0_5, k0_6, k0_7, k0_8, k0_9, k0_10, k0_11⟩ := RD0.out _ K0; rw [hA]; rw [hA, if_neg HA.out] at hif; subst hif; obtain ⟨va, vc, hve, -⟩ := hsl.shape; subst hve; clear hsl))
    go_ret2
    exact ⟨HE.out, (KW0.out.trans (K0.mono (by omega)))⟩
  have HC := Lib.hid hc
  have HY := Lib.hid (fun (l : List EvD) (h1 : l.Perm (fevsL r s u f) ∧ SortedE l) => (show FLatR r s u f (.returned (.tuple #[.int .i64 (latT l), .int .i64 (if l.length = 0 then 5 else 0)])) from .inr ⟨hc, l, h1, rfl⟩))
  have HTM := Lib.hid (fun (l : List EvD) (h1 : l.Perm (fevsL r s u f) ∧ SortedE l) (x : EvD) (hx : x ∈ l) => fev_time hc (h1.1.mem_iff.1 hx))
  clear hc
  go_enter Tryz.func31, Tryz.ntmps31
  go_upto_if 20 with (go_at_call 27; rw [HW0.out]; refine (HFO.out _ (HR.out.below KW0.out) (HS.out.below KW0.out)).mono ?_; go_must (rintro e w1 ⟨⟨v, l, rfl, hsl, hif⟩, hb1⟩; have K0 := hb1; have HB1 := Lib.hid hb1; clear hb1; obtain ⟨k0_0, k0_1, k0_2, k0_3, k0_4, k0_5, k0_6, k0_7, k0_8, k0_9, k0_10, k0_11⟩ := RD0.out _ K0; rw [HC.out]; rw [HC.out, if_pos rfl] at hif; obtain ⟨va, vc, hve, -⟩ := hsl.shape; subst hve; have HSL := Lib.hid hsl; have HPL := Lib.hid hif; clear hsl hif))
  have HV := Lib.hid (HY.out l HPL.out)
  cases hl : l.length with
  | zero =>
    rw [hl] at HV
    obtain rfl : l = [] := List.eq_nil_of_length_eq_zero hl
    go_wp2_with fail
    go_ret2
    exact ⟨HV.out, (KW0.out.trans (K0.mono (by omega)))⟩
  | succ m =>
    have hlm := latT_at hl
    rw [if_neg (show ¬ l.length = 0 by omega), hlm] at HV
    have t0 := HTM.out l HPL.out l[0] (List.getElem_mem (by omega))
    have t1 := HTM.out l HPL.out l[m] (List.getElem_mem (by omega))
    obtain ⟨xa, xc, g, off, he, hlc, hcm, hx⟩ := SlOf.at (enc := encE) (fun _ => rfl) un_evF sz_evF HSL.out
    cases he
    unfold maxLen at hcm
    obtain ⟨-, i0, -, c0⟩ := hx 0 (by omega)
    obtain ⟨-, i1, -, c1⟩ := hx m (by omega)
    have r0 : w1.cell? ⟨g, off + 7 * 0, none⟩ = some (.int .i64 (l[0]'(by omega)).t) := c0 0 (by omega)
    have r1 : w1.cell? ⟨g, off + 7 * m, none⟩ = some (.int .i64 (l[m]'(by omega)).t) := c1 0 (by omega)
    simp only [Int.natCast_zero, Nat.mul_zero, Nat.add_zero] at i0 r0
    clear hx c0 c1 HSL HPL hlm HTM HY
    generalize (l[0]'(by omega)).t = z0 at *
    generalize (l[m]'(by omega)).t = z1' at *
    (try rw [hl])
    (try simp only [hl] at i0 i1)
    have e0 : IntKind.i64.wrap (((m + 1 : Nat) : Int) - 1) = (m : Int) := by rw [IntWalk.i64_in _ (by omega)]; omega
    have e0' : IntKind.i64.wrap ((m : Int) + 1 - 1) = (m : Int) := by rw [IntWalk.i64_in _ (by omega)]; omega
    have e1 : IntKind.i64.wrap (z1' - z0) = z1' - z0 := IntWalk.i64_in _ (by omega)
    have e2 : IntKind.i64.wrap (z1' - z0 + 1) = z1' - z0 + 1 := IntWalk.i64_in _ (by omega)
    clear t0 t1
    go_wp2_with fail
    go_quiet (fail)
    go_wp2_with fail
    go_ret2
    exact ⟨HV.out, ((KW0.out.trans (K0.mono (by omega)))).trans (below_drewN (Below.refl _ _) _)⟩
end Go.Proofs.YtnejicklenhpeaaGreat
