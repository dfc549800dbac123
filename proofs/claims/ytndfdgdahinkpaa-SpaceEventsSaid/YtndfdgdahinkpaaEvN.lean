/- The elements at a time and a cell: plain; the reference's At: its walk. -/
import Derived.Test.YtndfdgdahinkpaaEvM
namespace Go.Proofs.Ytndfdgdahinkpaa
open Go.RowKit
set_option linter.unusedVariables false
def isAt (t : Int) (c : Int × Int) (x : EvD) : Bool := decide (x.t = t) && (decide (x.c.1 = c.1) && decide (x.c.2 = c.2))
/-- The elements at a time and a cell. -/
def atL (r : RecD) (s : SchedD) (u : P3) (t : Int) (c : Int × Int) : List ElD := ((evsL r s u).filter (isAt t c)).map EvD.e
def elB (a b : ElD) : Prop := a.1 < b.1 ∨ (a.1 = b.1 ∧ ltP a.2 b.2)
theorem evsL_sorted (r : RecD) (s : SchedD) (u : P3) : (evsL r s u).Pairwise (fun a b => elB a.e b.e) := by
  unfold evsL
  rw [List.pairwise_flatMap]
  refine ⟨fun v _ => ?_, ?_⟩
  · rw [List.pairwise_map]
    exact (ptsL_sorted r.n r.l).imp (fun h => .inr ⟨rfl, h⟩)
  · refine List.pairwise_lt_range.imp (fun {a b} hab => ?_)
    intro x hx y hy
    obtain ⟨p, _, rfl⟩ := List.mem_map.1 hx
    obtain ⟨q, _, rfl⟩ := List.mem_map.1 hy
    exact .inl (by show (a : Int) < (b : Int); omega)
theorem isAt_out {t : Int} {c : Int × Int} {x : EvD} (h : isAt t c x = true) : x.t = t ∧ x.c.1 = c.1 ∧ x.c.2 = c.2 := by
  simpa [isAt] using h
theorem at_le {t : Int} {c : Int × Int} {a b : EvD} (ha : isAt t c a = true) (hb : isAt t c b = true) (h : elB a.e b.e) : leB a b = true := by
  obtain ⟨a1, a2, a3⟩ := isAt_out ha
  obtain ⟨b1, b2, b3⟩ := isAt_out hb
  unfold leB
  have : ¬ (beforeB b a = true) := by
    rw [beforeB_iff]
    unfold elB ltP at h
    omega
  simpa using this
theorem at_same {r : RecD} {s : SchedD} {u : P3} {t : Int} {c : Int × Int} {l : List EvD} (hp : l.Perm (evsL r s u)) (ho : SortedE l) : (l.filter (isAt t c)).map EvD.e = atL r s u t c := by
  unfold atL
  congr 1
  refine List.Perm.eq_of_pairwise (le := fun a b => leB a b = true) (fun a b _ _ h1 h2 => leB_anti a b h1 h2) (List.Pairwise.filter _ ho) ?_ (hp.filter _)
  have h1 := List.Pairwise.filter (isAt t c) (evsL_sorted r s u)
  refine List.Pairwise.imp_of_mem (fun {a b} ha hb h => ?_) h1
  exact at_le (List.mem_filter.1 ha).2 (List.mem_filter.1 hb).2 h
def encEl (e : ElD) : List Value := [.int .i64 e.1, .int .i64 e.2.1, .int .i64 e.2.2.1, .int .i64 e.2.2.2]
abbrev OwnL (w : World) (base : Nat) (v : Value) (l : List ElD) : Prop := OwnOf w base 47 4 encEl v l
theorem slEl : SlT Try.prog 57 47 (.agg #[.int .i64 0, .int .i64 0, .int .i64 0, .int .i64 0]) 4 32 := ⟨Try.underlying57, by kernel_rfl, rfl, by decide⟩
def AtR (r : RecD) (s : SchedD) (u : P3) (t : Int) (c : Int × Int) (e : Ending) (w' : World) : Prop := ∃ v', e = .returned (.tuple #[v', .int .i64 (askS r s u)]) ∧ SlOf w' w'.heap.size 4 encEl v' (if askS r s u = 0 then atL r s u t c else [])
theorem atR_err {r : RecD} {s : SchedD} {u : P3} {t : Int} {c : Int × Int} {k : Int} (h : askS r s u = k) (hk : k ≠ 0) (w' : World) : AtR r s u t c (.returned (.tuple #[.slice none 0 0, .int .i64 k])) w' := by
  unfold AtR
  rw [h, if_neg hk]
  exact ⟨_, rfl, Sl.nil _ _ _⟩
theorem atR_ok {r : RecD} {s : SchedD} {u : P3} {t : Int} {c : Int × Int} (h : askS r s u = 0) {w' : World} {v' : Value} (hs : SlOf w' w'.heap.size 4 encEl v' (atL r s u t c)) : AtR r s u t c (.returned (.tuple #[v', .int .i64 0])) w' := by
  unfold AtR
  rw [h, if_pos rfl]
  exact ⟨_, rfl, hs⟩
set_option maxHeartbeats 4000000 in
set_option maxRecDepth 100000 in
theorem rAt_l (r : RecD) (s : SchedD) (u : P3) (t : Int) (c : Int × Int) (w : World) (hr : RecRd w r) (hs : SchedRd w s) :
    Calls Try.prog 22 #[.agg #[.int .i64 r.n, r.lv, r.vv], .agg #[.int .i64 s.f.1, .int .i64 s.f.2.1, .int .i64 s.f.2.2, s.ov], .agg #[.int .i64 u.1, .int .i64 u.2.1, .int .i64 u.2.2], .int .i64 t, .agg #[.int .i64 c.1, .int .i64 c.2]] w fun e w' => AtR r s u t c e w' ∧ Below w.heap.size w w' := by
  have HR := Lib.hid hr
  have HS := Lib.hid hs
  clear hr hs
  have HDR := Lib.hid (fun (W : World) (h : RecRd W r) (h2 : SchedRd W s) => AskedSched_l r s u W h h2)
  obtain ⟨W0, hW0⟩ : ∃ W : World, (((w.alloc (Obj.cells #[.int .i64 r.n, r.lv, r.vv] 27)).alloc (Obj.cells #[.int .i64 s.f.1, .int .i64 s.f.2.1, .int .i64 s.f.2.2, s.ov] 42)).alloc (Obj.cells #[.int .i64 u.1, .int .i64 u.2.1, .int .i64 u.2.2] 29)).alloc (Obj.cells #[.int .i64 c.1, .int .i64 c.2] 31) = W := ⟨_, rfl⟩
  have kw0 : Below w.heap.size w W0 := by rw [← hW0]; exact (by repeat (first | exact Below.refl _ _ | assumption | (refine Below.drew ?_) | (refine below_drewN ?_ _) | (refine Below.alloc ?_ (by first | (simp; done) | (simp; omega) | omega) _) | (refine Below.setCell ?_ (by first | (simp; done) | (simp; omega) | omega) _) | (refine Below.trans ?_ (Below.mono (by assumption) (by first | (simp; done) | (simp; omega) | omega)))))
  have ks0 : W0.heap.size = w.heap.size + 4 := by rw [← hW0]; simp
  have RD0 := Lib.hid (show ∀ V, Below W0.heap.size W0 V → V.cell? ⟨w.heap.size, 0, none⟩ = some (.int .i64 r.n) ∧ V.cell? ⟨w.heap.size, 1, none⟩ = some (r.lv) ∧ V.cell? ⟨w.heap.size, 2, none⟩ = some (r.vv) ∧ V.cell? ⟨w.heap.size + 1, 0, none⟩ = some (.int .i64 s.f.1) ∧ V.cell? ⟨w.heap.size + 1, 1, none⟩ = some (.int .i64 s.f.2.1) ∧ V.cell? ⟨w.heap.size + 1, 2, none⟩ = some (.int .i64 s.f.2.2) ∧ V.cell? ⟨w.heap.size + 1, 3, none⟩ = some (s.ov) ∧ V.cell? ⟨w.heap.size + 1 + 1, 0, none⟩ = some (.int .i64 u.1) ∧ V.cell? ⟨w.heap.size + 1 + 1, 1, none⟩ = some (.int .i64 u.2.1) ∧ V.cell? ⟨w.heap.size + 1 + 1, 2, none⟩ = some (.int .i64 u.2.2) ∧ V.cell? ⟨w.heap.size + 1 + 1 + 1, 0, none⟩ = some (.int .i64 c.1) ∧ V.cell? ⟨w.heap.size + 1 + 1 + 1, 1, none⟩ = some (.int .i64 c.2) from fun V h => by
      refine ⟨(h.cell (p := ⟨w.heap.size, 0, none⟩) (by simp; omega)).trans ?_, (h.cell (p := ⟨w.heap.size, 1, none⟩) (by simp; omega)).trans ?_, (h.cell (p := ⟨w.heap.size, 2, none⟩) (by simp; omega)).trans ?_, (h.cell (p := ⟨w.heap.size + 1, 0, none⟩) (by simp; omega)).trans ?_, (h.cell (p := ⟨w.heap.size + 1, 1, none⟩) (by simp; omega)).trans ?_, (h.cell (p := ⟨w.heap.size + 1, 2, none⟩) (by simp; omega)).trans ?_, (h.cell (p := ⟨w.heap.size + 1, 3, none⟩) (by simp; omega)).trans ?_, (h.cell (p := ⟨w.heap.size + 1 + 1, 0, none⟩) (by simp; omega)).trans ?_, (h.cell (p := ⟨w.heap.size + 1 + 1, 1, none⟩) (by simp; omega)).trans ?_, (h.cell (p := ⟨w.heap.size + 1 + 1, 2, none⟩) (by simp; omega)).trans ?_, (h.cell (p := ⟨w.heap.size + 1 + 1 + 1, 0, none⟩) (by simp; omega)).trans ?_, (h.cell (p := ⟨w.heap.size + 1 + 1 + 1, 1, none⟩) (by simp; omega)).trans ?_⟩ <;> (subst hW0; go_simp))
  have HW0 := Lib.hid hW0; have KW0 := Lib.hid kw0; clear hW0 kw0
  by_cases ha : askS r s u = 0
  rotate_left
  · have HE := Lib.hid (fun w' => atR_err (t := t) (c := c) (rfl : askS r s u = askS r s u) ha w')
    have hnz : (askS r s u != 0) = true := by simpa using ha
    clear ha
    generalize hA : askS r s u = A at *
    go_enter Try.func22, Try.ntmps22
    go_wp2_with (go_at_call 23; rw [HW0.out]; refine (HDR.out _ (HR.out.below KW0.out) (HS.out.below KW0.out)).mono ?_; go_must (rintro e w1 ⟨rfl, hb1⟩; have K0 := hb1; have HB1 := Lib.hid hb1; clear hb1; obtain ⟨k0_0, k0_1, k0_2, k0_3, k0_4, k0_5, k0_6, k0_7, k0_8, k0_9, k0_10, k0_11⟩ := RD0.out _ K0))
    refine bodyPost_ret (v := .tuple #[.slice none 0 0, .int .i64 A]) (by simp only [results, Try.results22]; first | (go_simp; done) | (go_simp; rfl)) rfl ⟨HE.out _, (KW0.out.trans (K0.mono (by omega)))⟩
  have HA := Lib.hid ha
  have HEV := Lib.hid (fun (W : World) (h : RecRd W r) (h2 : SchedRd W s) => events_l r s u ha W h h2)
  have hlb : (evsL r s u).length ≤ 4000 := by
    rw [evsL_len]
    have hvo := validR_out (askS_ok ha).1
    exact Nat.mul_le_mul hvo.2.2.1.2 hvo.2.1
  have HLB := Lib.hid hlb; clear hlb
  have HY := Lib.hid (fun (w' : World) (v' : Value) (h : SlOf w' w'.heap.size 4 encEl v' (atL r s u t c)) => atR_ok ha h)
  have HSM := Lib.hid (fun (l : List EvD) (hp : l.Perm (evsL r s u)) (ho : SortedE l) => at_same (t := t) (c := c) hp ho)
  clear ha
  go_enter Try.func22, Try.ntmps22
  go_wp2_with (first | (go_at_call 23; rw [HW0.out]; refine (HDR.out _ (HR.out.below KW0.out) (HS.out.below KW0.out)).mono ?_; go_must (rintro e w1 ⟨rfl, hb1⟩; have K0 := hb1; have HB1 := Lib.hid hb1; clear hb1; obtain ⟨k0_0, k0_1, k0_2, k0_3, k0_4, k0_5, k0_6, k0_7, k0_8, k0_9, k0_10, k0_11⟩ := RD0.out _ K0; rw [HA.out])) | (go_at_call 51; refine (HEV.out _ (HR.out.below (KW0.out.trans (K0.mono (by omega)))) (HS.out.below (KW0.out.trans (K0.mono (by omega))))).mono ?_; go_must (rintro e w2 ⟨⟨v2, l2, rfl, hsl, hp, ho⟩, hb2⟩; have K' := (by first | exact below_at K0 (by have := K0.size; omega) hb2 | exact below_at K0 (by have := K0.size; omega) (by repeat (first | exact Below.refl _ _ | assumption | (refine Below.drew ?_) | (refine below_drewN ?_ _) | (refine Below.alloc ?_ (by first | (simp; done) | (simp; omega) | omega) _) | (refine Below.setCell ?_ (by first | (simp; done) | (simp; omega) | omega) _) | (refine Below.trans ?_ (Below.mono (by assumption) (by first | (simp; done) | (simp; omega) | omega))))) : Below W0.heap.size W0 w2); have HB2 := Lib.hid hb2; clear K0 hb2; (try clear k0_0); (try clear k0_1); (try clear k0_2); (try clear k0_3); (try clear k0_4); (try clear k0_5); (try clear k0_6); (try clear k0_7); (try clear k0_8); (try clear k0_9); (try clear k0_10); (try clear k0_11); have K0 := K'; clear K'; obtain ⟨k0_0, k0_1, k0_2, k0_3, k0_4, k0_5, k0_6, k0_7, k0_8, k0_9, k0_10, k0_11⟩ := RD0.out _ K0; have hs2 := K0.size; have HP := Lib.hid hp; have HO2 := Lib.hid ho; clear hp ho)))
  obtain ⟨qa, qc, g, off, rfl, hlc, hcm, hx⟩ := SlOf.at (enc := encE) (fun _ => rfl) un_evs sz_evs hsl
  unfold maxLen at hcm
  have HX := Lib.hid hx; clear hx hsl
  have HT := Lib.hid (HSM.out l2 HP.out HO2.out)
  have HLN := Lib.hid (show l2.length ≤ 4000 by rw [HP.out.length_eq]; exact HLB.out)
  have KK0 := Lib.hid K0
  clear K0; (try clear k0_0); (try clear k0_1); (try clear k0_2); (try clear k0_3); (try clear k0_4); (try clear k0_5); (try clear k0_6); (try clear k0_7); (try clear k0_8); (try clear k0_9); (try clear k0_10); (try clear k0_11)
  go_loopw [13, 15] (fun t13 t15 wr => ∃ k : Nat, k ≤ l2.length ∧ t15 = .int .i64 (k : Nat) ∧ Hid (OwnL wr w2.heap.size t13 (((l2.take k).filter (isAt t c)).map EvD.e)) ∧ Below w2.heap.size w2 wr) (fun _ t15 _ => l2.length - (intOf t15).toNat)
  case atStart => exact ⟨0, Nat.zero_le _, rfl, Lib.hid (OwnOf.nil _ _ _ _ _), Below.refl _ _⟩
  case round =>
    obtain ⟨k, hk, rfl, HO, hb⟩ := hrel
    have hsr := hb.size
    have K0 := below_at KK0.out hs2 hb
    by_cases hlt : k < l2.length
    rotate_left
    · have HF := Lib.hid (show OwnL wr w2.heap.size u13 (atL r s u t c) by have := HO.out; rwa [List.take_of_length_le (by omega), HT.out] at this)
      obtain ⟨oa, oc, hoe⟩ := HF.out.shape
      subst hoe
      go_wp2
      refine bodyPost_ret (v := .tuple #[.slice oa (atL r s u t c).length oc, .int .i64 0]) (by simp only [results, Try.results22]; first | (go_simp; done) | (go_simp; rfl)) rfl ⟨HY.out _ _ HF.out.sl, (KW0.out.trans (K0.mono (by omega)))⟩
    obtain ⟨-, hi, hg, hc⟩ := HX.out k hlt
    have rd := fun j hj => (hb.cell (p := ⟨g, off + 7 * k + j, none⟩) hg).trans (hc j hj)
    clear hc
    have HFT := Lib.hid (show ((l2.take (k + 1)).filter (isAt t c)).map EvD.e = ((l2.take k).filter (isAt t c)).map EvD.e ++ (if isAt t c l2[k] = true then [l2[k].e] else []) by rw [filter_take _ _ _ hlt, List.map_append]; split <;> simp)
    have hacc : (((l2.take k).filter (isAt t c)).map EvD.e).length + 1 ≤ 1073741824 := by
      rw [List.length_map]
      have h1 := List.length_filter_le (isAt t c) (l2.take k)
      rw [List.length_take] at h1
      have := HLN.out
      omega
    have HLT := Lib.hid hlt
    have HKL := Lib.hid (show k < 4000 by have := HLN.out; omega)
    generalize ((l2.take k).filter (isAt t c)).map EvD.e = D at *
    generalize l2[k] = x at *
    have HIA := Lib.hid (show isAt t c x = (decide (x.t = t) && (decide (x.c.1 = c.1) && decide (x.c.2 = c.2))) from rfl)
    generalize isAt t c x = I at *
    obtain ⟨xt, ⟨x0, x1⟩, ⟨xv, q0, q1, q2⟩⟩ := x
    obtain ⟨c0, c1⟩ := c
    simp only at HIA HFT
    have r0 : wr.cell? ⟨g, off + 7 * k, none⟩ = some (.int .i64 xt) := rd 0 (by omega)
    have r1 : wr.cell? ⟨g, off + 7 * k + 1, none⟩ = some (.int .i64 x0) := rd 1 (by omega)
    have r2 : wr.cell? ⟨g, off + 7 * k + 2, none⟩ = some (.int .i64 x1) := rd 2 (by omega)
    have r3 : wr.cell? ⟨g, off + 7 * k + 3, none⟩ = some (.int .i64 xv) := rd 3 (by omega)
    have r4 : wr.cell? ⟨g, off + 7 * k + 4, none⟩ = some (.int .i64 q0) := rd 4 (by omega)
    have r5 : wr.cell? ⟨g, off + 7 * k + 5, none⟩ = some (.int .i64 q1) := rd 5 (by omega)
    have r6 : wr.cell? ⟨g, off + 7 * k + 6, none⟩ = some (.int .i64 q2) := rd 6 (by omega)
    clear rd
    have hgr : g < wr.heap.size := by omega
    have PT := Lib.hid (show ∀ V, Below wr.heap.size wr V → V.cell? ⟨g, off + 7 * k + 3, none⟩ = some (.int .i64 xv) ∧ V.cell? ⟨g, off + 7 * k + 4, none⟩ = some (.int .i64 q0) ∧ V.cell? ⟨g, off + 7 * k + 5, none⟩ = some (.int .i64 q1) ∧ V.cell? ⟨g, off + 7 * k + 6, none⟩ = some (.int .i64 q2) from fun V h => ⟨(h.cell (p := ⟨g, off + 7 * k + 3, none⟩) hgr).trans (by assumption), (h.cell (p := ⟨g, off + 7 * k + 4, none⟩) hgr).trans (by assumption), (h.cell (p := ⟨g, off + 7 * k + 5, none⟩) hgr).trans (by assumption), (h.cell (p := ⟨g, off + 7 * k + 6, none⟩) hgr).trans (by assumption)⟩)
    have heq := fun W => eq_cell x0 x1 c0 c1 W
    obtain ⟨k0_0, k0_1, k0_2, k0_3, k0_4, k0_5, k0_6, k0_7, k0_8, k0_9, k0_10, k0_11⟩ := RD0.out _ K0
    by_cases ht : xt = t
    rotate_left
    · have hte : (xt == t) = false := by simpa using ht
      have HI := Lib.hid (show I = false by rw [HIA.out]; simp [ht])
      rw [HI.out] at HFT
      clear ht HX
      go_wp2_with fail
      go_quiet (fail)
      have hb8 : Below wr.heap.size wr (wr.drewN nq) := below_drewN (Below.refl _ _) nq
      generalize wr.drewN nq = W8 at *
      have hs8 := hb8.size
      have hw8 : w2.heap.size ≤ W8.heap.size := by omega
      have HO8 := Lib.hid (HO.out.kept hb8)
      have hbw8 : Below w2.heap.size wr W8 := hb8.mono hsr
      go_wp2
      go_roundw
      case rel => exact ⟨k + 1, HLT.out, by simp, Lib.hid (by rw [HFT.out]; simpa using HO8.out), hb.trans hbw8⟩
      case measure => simp only [intOf]; have := HLT.out; omega
    · have hte : (xt == t) = true := by simpa using ht
      cases hcc : (decide (x0 = c0) && decide (x1 = c1))
      · have HI := Lib.hid (show I = false by rw [HIA.out, hcc]; simp)
        rw [HI.out] at HFT
        rw [hcc] at heq
        clear ht hcc HX
        go_wp2_with fail
        go_quiet (fail)
        have hb8 : Below wr.heap.size wr (wr.drewN nq) := below_drewN (Below.refl _ _) nq
        generalize wr.drewN nq = W8 at *
        have hs8 := hb8.size
        have hw8 : w2.heap.size ≤ W8.heap.size := by omega
        have HO8 := Lib.hid (HO.out.kept hb8)
        have hbw8 : Below w2.heap.size wr W8 := hb8.mono hsr
        go_wp2
        go_roundw
        case rel => exact ⟨k + 1, HLT.out, by simp, Lib.hid (by rw [HFT.out]; simpa using HO8.out), hb.trans hbw8⟩
        case measure => simp only [intOf]; have := HLT.out; omega
      · have HI := Lib.hid (show I = true by rw [HIA.out, hcc]; simp [ht])
        rw [HI.out] at HFT
        rw [hcc] at heq
        clear ht hcc HX
        go_wp2_with fail
        go_quiet (fail)
        have hb8 : Below wr.heap.size wr (wr.drewN nq) := below_drewN (Below.refl _ _) nq
        generalize wr.drewN nq = W8 at *
        have hs8 := hb8.size
        have hw8 : w2.heap.size ≤ W8.heap.size := by omega
        have HO8 := Lib.hid (HO.out.kept hb8)
        have hbw8 : Below w2.heap.size wr W8 := hb8.mono hsr
        obtain ⟨y3, y4, y5, y6⟩ := PT.out W8 hb8
        go_wp2_with (at_builtin; refine wpList_push rfl _ _ _ rfl slEl HO8.out rfl rfl (by first | rfl | simp) rfl rfl hacc (by omega) hw8 ?_; intro g5 c5 w6 hown6 hg6 hat6)
        go_roundw
        case rel => exact ⟨k + 1, HLT.out, by simp, Lib.hid (by rw [HFT.out]; exact OwnOf.snoc (enc := encEl) (x := (xv, q0, q1, q2)) (by simpa [encEl] using hown6) rfl), hb.trans (below_push hbw8 HO8.out (Nat.le_refl _) hw8 hg6)⟩
        case measure => simp only [intOf]; have := HLT.out; omega
end Go.Proofs.Ytndfdgdahinkpaa
