/- The law FoldOnes: its walk. Conditions: none. -/
import Derived.Test.YtnejicklenhpeaaGreatFldT
namespace Go.Proofs.YtnejicklenhpeaaGreat
open Go.RowKit Go.Lib Go.WideMaps
set_option linter.unusedVariables false
/-- The event of each element of a list of events. -/
def evF (l : List EvD) : ElD → Option Value := l.foldl (fun g x => fun e => if e = x.e then some (evD x) else g e) (fun _ => none)
theorem evF_snoc (l : List EvD) (x : EvD) : evF (l ++ [x]) = fun e => if e = x.e then some (evD x) else evF l e := by simp [evF]
theorem evF_acc {y : EvD} : ∀ (l : List EvD) (g : ElD → Option Value), (y ∈ l ∨ g y.e = some (evD y)) → (∀ x ∈ l, x.e = y.e → x = y) → l.foldl (fun g x => fun e => if e = x.e then some (evD x) else g e) g y.e = some (evD y)
  | [], g, h, _ => by
    rcases h with h | h
    · cases h
    · exact h
  | a :: l, g, h, hu => by
    refine evF_acc l _ ?_ (fun x hx => hu x (List.mem_cons_of_mem _ hx))
    by_cases he : y.e = a.e
    · right
      have := hu a List.mem_cons_self he.symm
      show (if y.e = a.e then some (evD a) else g y.e) = _
      rw [if_pos he, this]
    · rcases h with h | h
      · rcases List.mem_cons.1 h with rfl | h
        · exact absurd rfl he
        · exact .inl h
      · right
        show (if y.e = a.e then some (evD a) else g y.e) = _
        rw [if_neg he, h]
theorem ev_el {r : RecD} {s : SchedD} {u : P3} {x y : EvD} (hx : x ∈ evsL r s u) (hy : y ∈ evsL r s u) (h : x.e = y.e) : x = y := by
  obtain ⟨v, -, p, -, rfl⟩ := mem_evsL.1 hx
  obtain ⟨v', -, p', -, rfl⟩ := mem_evsL.1 hy
  simp only [evAt, Prod.mk.injEq] at h
  obtain ⟨h1, h2⟩ := h
  obtain rfl : v = v' := by omega
  subst h2
  rfl
theorem evF_at {r : RecD} {s : SchedD} {u : P3} {l : List EvD} (hp : l.Perm (evsL r s u)) {y : EvD} (hy : y ∈ evsL r s u) : evF l y.e = some (evD y) :=
  evF_acc l _ (.inl (hp.mem_iff.2 hy)) (fun x hx he => ev_el (hp.mem_iff.1 hx) hy he)
abbrev EvM (w : World) (b n : Nat) (l : List EvD) : Prop := MapV Tryz.prog 51 elD w b n (evF l)
set_option maxRecDepth 100000 in
theorem EvM.step {w : World} {b n : Nat} {l : List EvD} (h : EvM w b n l) (hn : n < 1000000) (x : EvD) (hx : wfE x.e) :
    ∃ w1, (Instr.mapUpdate 63 (.map (some b)) (elD x.e) (evD x)).run Tryz.prog w = .ok () w1 ∧ EvM w1 b (n + 1) (l ++ [x]) ∧ w.grownBy w1 (some b) := by
  obtain ⟨kl, hk⟩ := key_ele x.e hx
  obtain ⟨w1, hr, hm, hg⟩ := MapV.put h (Maps.Keyed.of_law law_ele) (t := 63) Tryz.underlying63 elD_inj hn hk (evD x)
  exact ⟨w1, hr, by unfold EvM; rw [evF_snoc]; exact hm, hg⟩
theorem zv_evt (u : World) : (zeroValue 54).run Tryz.prog u = .ok (.agg #[.int .i64 0, .int .i64 0, .int .i64 0, .int .i64 0, .int .i64 0, .int .i64 0, .int .i64 0]) u := by kernel_rfl
set_option maxRecDepth 100000 in
theorem EvM.look {w : World} {b n : Nat} {l : List EvD} (h : EvM w b n l) {y : EvD} (hy : evF l y.e = some (evD y)) (hw : wfE y.e) :
    (Instr.lookup 63 (.map (some b)) (elD y.e) true).run Tryz.prog w = .ok (.tuple #[evD y, .bool true]) w := by
  obtain ⟨kl, hk⟩ := key_ele y.e hw
  have := MapV.lookOk h (Maps.Keyed.of_law law_ele) (t := 63) Tryz.underlying63 (zv_evt w) hk
  rw [this, hy]
  rfl
theorem ones_at {r : RecD} {s : SchedD} {u : P3} {f : Int × Int} (hB : (blocksL r u f).length = 1) {x : EvD} (hx : x ∈ fevsL r s u f) : ∃ y ∈ evsL r s u, x = ⟨y.t, (y.c.1 % f.1, y.c.2 % f.2), y.e⟩ := by
  obtain ⟨y, hy, rfl⟩ := mem_fevsL.1 hx
  refine ⟨y, hy, ?_⟩
  have hp := pos_lt (evs_block (f := f) hy)
  unfold foldEv homC
  rw [hB] at hp ⊢
  have h0 : posTo (blocksL r u f) 1 (blkC f y.c) = 0 := by omega
  rw [h0]
  simp
theorem foldE_ok {r : RecD} {s : SchedD} {u : P3} {f : Int × Int} (hc : foldE r s u f = 0) : askS r s u = 0 ∧ eachB f.1 f.2 1 8 = true ∧ tabErr r s u = 0 ∧ cutE r u f = 0 := by
  unfold foldE at hc
  by_cases ha : askS r s u = 0
  · rw [if_pos ha] at hc
    cases hz : eachB f.1 f.2 1 8
    · rw [hz] at hc; simp at hc
    · rw [hz, if_pos rfl] at hc
      exact ⟨ha, rfl, hc, by unfold cutE; rw [if_pos (askS_ok ha).2.2.2, hz]; rfl⟩
  · rw [if_neg ha] at hc; exact absurd hc ha
set_option maxHeartbeats 16000000 in
set_option maxRecDepth 100000 in
theorem FoldOnes_any (r : RecD) (s : SchedD) (u : P3) (f : Int × Int) (w : World) (hr : RecRd w r) (hs : SchedRd w s) :
    Calls Tryz.prog 5 #[.agg #[.int .i64 r.n, r.lv, r.vv, .int .i64 s.f.1, .int .i64 s.f.2.1, .int .i64 s.f.2.2, s.ov, .int .i64 u.1, .int .i64 u.2.1, .int .i64 u.2.2], .agg #[.int .i64 f.1, .int .i64 f.2]] w fun e w' => e = .returned (.bool true) ∧ Below w.heap.size w w' := by
  have HR := Lib.hid hr
  have HS := Lib.hid hs
  clear hr hs
  have HWD := Lib.hid (fun (W : World) (h : RecRd W r) (h2 : SchedRd W s) => Wide6_l r s u W h h2)
  have HAS := Lib.hid (fun (W : World) (h : RecRd W r) (h2 : SchedRd W s) => rfAsked_l r s u f W h h2)
  obtain ⟨W0, hW0⟩ : ∃ W : World, (w.alloc (Obj.cells #[.int .i64 r.n, r.lv, r.vv, .int .i64 s.f.1, .int .i64 s.f.2.1, .int .i64 s.f.2.2, s.ov, .int .i64 u.1, .int .i64 u.2.1, .int .i64 u.2.2] 49)).alloc (Obj.cells #[.int .i64 f.1, .int .i64 f.2] 31) = W := ⟨_, rfl⟩
  have kw0 : Below w.heap.size w W0 := by rw [← hW0]; exact (by repeat (first | exact Below.refl _ _ | assumption | (refine Below.drew ?_) | (refine below_drewN ?_ _) | (refine Below.alloc ?_ (by first | (simp; done) | (simp; omega) | omega) _) | (refine Below.setCell ?_ (by first | (simp; done) | (simp; omega) | omega) _) | (refine Below.trans ?_ (Below.mono (by assumption) (by first | (simp; done) | (simp; omega) | omega)))))
  have ks0 : W0.heap.size = w.heap.size + 2 := by rw [← hW0]; simp
  have RD0 := Lib.hid (show ∀ V, Below W0.heap.size W0 V → V.cell? ⟨w.heap.size, 0, none⟩ = some (.int .i64 r.n) ∧ V.cell? ⟨w.heap.size, 1, none⟩ = some (r.lv) ∧ V.cell? ⟨w.heap.size, 2, none⟩ = some (r.vv) ∧ V.cell? ⟨w.heap.size, 3, none⟩ = some (.int .i64 s.f.1) ∧ V.cell? ⟨w.heap.size, 4, none⟩ = some (.int .i64 s.f.2.1) ∧ V.cell? ⟨w.heap.size, 5, none⟩ = some (.int .i64 s.f.2.2) ∧ V.cell? ⟨w.heap.size, 6, none⟩ = some (s.ov) ∧ V.cell? ⟨w.heap.size, 7, none⟩ = some (.int .i64 u.1) ∧ V.cell? ⟨w.heap.size, 8, none⟩ = some (.int .i64 u.2.1) ∧ V.cell? ⟨w.heap.size, 9, none⟩ = some (.int .i64 u.2.2) ∧ V.cell? ⟨w.heap.size + 1, 0, none⟩ = some (.int .i64 f.1) ∧ V.cell? ⟨w.heap.size + 1, 1, none⟩ = some (.int .i64 f.2) from fun V h => by
      refine ⟨(h.cell (p := ⟨w.heap.size, 0, none⟩) (by simp; omega)).trans ?_, (h.cell (p := ⟨w.heap.size, 1, none⟩) (by simp; omega)).trans ?_, (h.cell (p := ⟨w.heap.size, 2, none⟩) (by simp; omega)).trans ?_, (h.cell (p := ⟨w.heap.size, 3, none⟩) (by simp; omega)).trans ?_, (h.cell (p := ⟨w.heap.size, 4, none⟩) (by simp; omega)).trans ?_, (h.cell (p := ⟨w.heap.size, 5, none⟩) (by simp; omega)).trans ?_, (h.cell (p := ⟨w.heap.size, 6, none⟩) (by simp; omega)).trans ?_, (h.cell (p := ⟨w.heap.size, 7, none⟩) (by simp; omega)).trans ?_, (h.cell (p := ⟨w.heap.size, 8, none⟩) (by simp; omega)).trans ?_, (h.cell (p := ⟨w.heap.size, 9, none⟩) (by simp; omega)).trans ?_, (h.cell (p := ⟨w.heap.size + 1, 0, none⟩) (by simp; omega)).trans ?_, (h.cell (p := ⟨w.heap.size + 1, 1, none⟩) (by simp; omega)).trans ?_⟩ <;> (subst hW0; go_simp))
  have HW0 := Lib.hid hW0; have KW0 := Lib.hid kw0; clear hW0 kw0
  cases hwd : wide6B r s
  rotate_left
  · have HV := Lib.hid hwd; clear hwd
    go_enter Tryz.func5, Tryz.ntmps5
    go_wp2_with (first | (go_at_call 23; rw [HW0.out]; refine (HWD.out _ (HR.out.below KW0.out) (HS.out.below KW0.out)).mono ?_; go_must (rintro e w1 ⟨rfl, hb1⟩; have K0 := hb1; have HB1 := Lib.hid hb1; clear hb1; obtain ⟨k0_0, k0_1, k0_2, k0_3, k0_4, k0_5, k0_6, k0_7, k0_8, k0_9, k0_10, k0_11⟩ := RD0.out _ K0; rw [HV.out])) | (go_at_call 12; refine (sane_any _).mono ?_; go_must (rintro e w9 ⟨rfl, hb9⟩; have K' := (by first | exact below_at K0 (by have := K0.size; omega) hb9 | exact below_at K0 (by have := K0.size; omega) (by repeat (first | exact Below.refl _ _ | assumption | (refine Below.drew ?_) | (refine below_drewN ?_ _) | (refine Below.alloc ?_ (by first | (simp; done) | (simp; omega) | omega) _) | (refine Below.setCell ?_ (by first | (simp; done) | (simp; omega) | omega) _) | (refine Below.trans ?_ (Below.mono (by assumption) (by first | (simp; done) | (simp; omega) | omega))))) : Below W0.heap.size W0 w9); have HB9 := Lib.hid hb9; clear K0 hb9; (try clear k0_0); (try clear k0_1); (try clear k0_2); (try clear k0_3); (try clear k0_4); (try clear k0_5); (try clear k0_6); (try clear k0_7); (try clear k0_8); (try clear k0_9); (try clear k0_10); (try clear k0_11); have K0 := K'; clear K'; obtain ⟨k0_0, k0_1, k0_2, k0_3, k0_4, k0_5, k0_6, k0_7, k0_8, k0_9, k0_10, k0_11⟩ := RD0.out _ K0)))
    go_ret
    exact ⟨rfl, (KW0.out.trans (K0.mono (by omega)))⟩
  have HV := Lib.hid hwd; clear hwd
  by_cases hc : foldE r s u f = 0
  rotate_left
  · have hnz : (foldE r s u f != 0) = true := by simpa using hc
    clear hc
    generalize foldE r s u f = A at *
    go_enter Tryz.func5, Tryz.ntmps5
    go_wp2_with (first | (go_at_call 23; rw [HW0.out]; refine (HWD.out _ (HR.out.below KW0.out) (HS.out.below KW0.out)).mono ?_; go_must (rintro e w1 ⟨rfl, hb1⟩; have K0 := hb1; have HB1 := Lib.hid hb1; clear hb1; obtain ⟨k0_0, k0_1, k0_2, k0_3, k0_4, k0_5, k0_6, k0_7, k0_8, k0_9, k0_10, k0_11⟩ := RD0.out _ K0; rw [HV.out])) | (go_at_call 26; refine (HAS.out _ (HR.out.below (KW0.out.trans (K0.mono (by omega)))) (HS.out.below (KW0.out.trans (K0.mono (by omega))))).mono ?_; go_must (rintro e w2 ⟨rfl, hb2⟩; have K' := (by first | exact below_at K0 (by have := K0.size; omega) hb2 | exact below_at K0 (by have := K0.size; omega) (by repeat (first | exact Below.refl _ _ | assumption | (refine Below.drew ?_) | (refine below_drewN ?_ _) | (refine Below.alloc ?_ (by first | (simp; done) | (simp; omega) | omega) _) | (refine Below.setCell ?_ (by first | (simp; done) | (simp; omega) | omega) _) | (refine Below.trans ?_ (Below.mono (by assumption) (by first | (simp; done) | (simp; omega) | omega))))) : Below W0.heap.size W0 w2); have HB2 := Lib.hid hb2; clear K0 hb2; (try clear k0_0); (try clear k0_1); (try clear k0_2); (try clear k0_3); (try clear k0_4); (try clear k0_5); (try clear k0_6); (try clear k0_7); (try clear k0_8); (try clear k0_9); (try clear k0_10); (try clear k0_11); have K0 := K'; clear K'; obtain ⟨k0_0, k0_1, k0_2, k0_3, k0_4, k0_5, k0_6, k0_7, k0_8, k0_9, k0_10, k0_11⟩ := RD0.out _ K0)) | (go_at_call 12; refine (sane_any _).mono ?_; go_must (rintro e w9 ⟨rfl, hb9⟩; have K' := (by first | exact below_at K0 (by have := K0.size; omega) hb9 | exact below_at K0 (by have := K0.size; omega) (by repeat (first | exact Below.refl _ _ | assumption | (refine Below.drew ?_) | (refine below_drewN ?_ _) | (refine Below.alloc ?_ (by first | (simp; done) | (simp; omega) | omega) _) | (refine Below.setCell ?_ (by first | (simp; done) | (simp; omega) | omega) _) | (refine Below.trans ?_ (Below.mono (by assumption) (by first | (simp; done) | (simp; omega) | omega))))) : Below W0.heap.size W0 w9); have HB9 := Lib.hid hb9; clear K0 hb9; (try clear k0_0); (try clear k0_1); (try clear k0_2); (try clear k0_3); (try clear k0_4); (try clear k0_5); (try clear k0_6); (try clear k0_7); (try clear k0_8); (try clear k0_9); (try clear k0_10); (try clear k0_11); have K0 := K'; clear K'; obtain ⟨k0_0, k0_1, k0_2, k0_3, k0_4, k0_5, k0_6, k0_7, k0_8, k0_9, k0_10, k0_11⟩ := RD0.out _ K0)))
    go_ret
    exact ⟨rfl, (KW0.out.trans (K0.mono (by omega)))⟩
  obtain ⟨ha, hz, htab, hcut⟩ := foldE_ok hc
  have HC := Lib.hid hc
  have HBK := Lib.hid (fun (W : World) (h : RecRd W r) => show Calls Tryz.prog 13 #[.agg #[.int .i64 r.n, r.lv, r.vv], .agg #[.int .i64 u.1, .int .i64 u.2.1, .int .i64 u.2.2], .agg #[.int .i64 f.1, .int .i64 f.2]] W fun e w' => (∃ v, e = .returned (.tuple #[v, .int .i64 0]) ∧ SlOf w' w'.heap.size 2 encC v (blocksL r u f)) ∧ Below W.heap.size W w' from (Blocks_l r u f W h).mono (fun e w' k => by obtain ⟨⟨v, h1, h2⟩, h3⟩ := k; rw [hcut] at h1 h2; exact ⟨⟨v, h1, h2⟩, h3⟩))
  by_cases hB : (blocksL r u f).length = 1
  rotate_left
  · have HB := Lib.hid hB
    have hbi : ¬ (((blocksL r u f).length : Int) = 1) := by omega
    clear hB ha hz htab hcut hc
    go_enter Tryz.func5, Tryz.ntmps5
    go_wp2_with (first | (go_at_call 23; rw [HW0.out]; refine (HWD.out _ (HR.out.below KW0.out) (HS.out.below KW0.out)).mono ?_; go_must (rintro e w1 ⟨rfl, hb1⟩; have K0 := hb1; have HB1 := Lib.hid hb1; clear hb1; obtain ⟨k0_0, k0_1, k0_2, k0_3, k0_4, k0_5, k0_6, k0_7, k0_8, k0_9, k0_10, k0_11⟩ := RD0.out _ K0; rw [HV.out])) | (go_at_call 26; refine (HAS.out _ (HR.out.below (KW0.out.trans (K0.mono (by omega)))) (HS.out.below (KW0.out.trans (K0.mono (by omega))))).mono ?_; go_must (rintro e w2 ⟨rfl, hb2⟩; have K' := (by first | exact below_at K0 (by have := K0.size; omega) hb2 | exact below_at K0 (by have := K0.size; omega) (by repeat (first | exact Below.refl _ _ | assumption | (refine Below.drew ?_) | (refine below_drewN ?_ _) | (refine Below.alloc ?_ (by first | (simp; done) | (simp; omega) | omega) _) | (refine Below.setCell ?_ (by first | (simp; done) | (simp; omega) | omega) _) | (refine Below.trans ?_ (Below.mono (by assumption) (by first | (simp; done) | (simp; omega) | omega))))) : Below W0.heap.size W0 w2); have HB2 := Lib.hid hb2; clear K0 hb2; (try clear k0_0); (try clear k0_1); (try clear k0_2); (try clear k0_3); (try clear k0_4); (try clear k0_5); (try clear k0_6); (try clear k0_7); (try clear k0_8); (try clear k0_9); (try clear k0_10); (try clear k0_11); have K0 := K'; clear K'; obtain ⟨k0_0, k0_1, k0_2, k0_3, k0_4, k0_5, k0_6, k0_7, k0_8, k0_9, k0_10, k0_11⟩ := RD0.out _ K0; rw [HC.out])) | (go_at_call 13; refine (HBK.out _ (HR.out.below (KW0.out.trans (K0.mono (by omega))))).mono ?_; go_must (rintro e w3 ⟨⟨v3, rfl, hs3⟩, hb3⟩; have K' := (by first | exact below_at K0 (by have := K0.size; omega) hb3 | exact below_at K0 (by have := K0.size; omega) (by repeat (first | exact Below.refl _ _ | assumption | (refine Below.drew ?_) | (refine below_drewN ?_ _) | (refine Below.alloc ?_ (by first | (simp; done) | (simp; omega) | omega) _) | (refine Below.setCell ?_ (by first | (simp; done) | (simp; omega) | omega) _) | (refine Below.trans ?_ (Below.mono (by assumption) (by first | (simp; done) | (simp; omega) | omega))))) : Below W0.heap.size W0 w3); have HB3 := Lib.hid hb3; clear K0 hb3; (try clear k0_0); (try clear k0_1); (try clear k0_2); (try clear k0_3); (try clear k0_4); (try clear k0_5); (try clear k0_6); (try clear k0_7); (try clear k0_8); (try clear k0_9); (try clear k0_10); (try clear k0_11); have K0 := K'; clear K'; obtain ⟨k0_0, k0_1, k0_2, k0_3, k0_4, k0_5, k0_6, k0_7, k0_8, k0_9, k0_10, k0_11⟩ := RD0.out _ K0; obtain ⟨va3, vc3, hv3, -⟩ := hs3.shape; subst hv3; clear hs3)) | (go_at_call 12; refine (sane_any _).mono ?_; go_must (rintro e w9 ⟨rfl, hb9⟩; have K' := (by first | exact below_at K0 (by have := K0.size; omega) hb9 | exact below_at K0 (by have := K0.size; omega) (by repeat (first | exact Below.refl _ _ | assumption | (refine Below.drew ?_) | (refine below_drewN ?_ _) | (refine Below.alloc ?_ (by first | (simp; done) | (simp; omega) | omega) _) | (refine Below.setCell ?_ (by first | (simp; done) | (simp; omega) | omega) _) | (refine Below.trans ?_ (Below.mono (by assumption) (by first | (simp; done) | (simp; omega) | omega))))) : Below W0.heap.size W0 w9); have HB9 := Lib.hid hb9; clear K0 hb9; (try clear k0_0); (try clear k0_1); (try clear k0_2); (try clear k0_3); (try clear k0_4); (try clear k0_5); (try clear k0_6); (try clear k0_7); (try clear k0_8); (try clear k0_9); (try clear k0_10); (try clear k0_11); have K0 := K'; clear K'; obtain ⟨k0_0, k0_1, k0_2, k0_3, k0_4, k0_5, k0_6, k0_7, k0_8, k0_9, k0_10, k0_11⟩ := RD0.out _ K0)))
    go_ret
    exact ⟨rfl, (KW0.out.trans (K0.mono (by omega)))⟩
  have HT1 := Lib.hid (fun (W : World) (h : RecRd W r) (h2 : SchedRd W s) => show Calls Tryz.prog 27 #[.agg #[.int .i64 r.n, r.lv, r.vv], .agg #[.int .i64 s.f.1, .int .i64 s.f.2.1, .int .i64 s.f.2.2, s.ov], .agg #[.int .i64 u.1, .int .i64 u.2.1, .int .i64 u.2.2], .agg #[.int .i64 f.1, .int .i64 f.2]] W fun e w' => (∃ v l, e = .returned (.tuple #[v, .int .i64 0]) ∧ SlOf w' w'.heap.size 7 encE v l ∧ l.Perm (fevsL r s u f)) ∧ Below W.heap.size W w' from (fTable_l r s u f W h h2).mono (fun e w' k => by obtain ⟨⟨v, l, h1, h2, h3⟩, h4⟩ := k; rw [hc] at h1; rw [if_pos hc] at h3; exact ⟨⟨v, l, h1, h2, h3.1⟩, h4⟩))
  have HT2 := Lib.hid (fun (W : World) (h : RecRd W r) (h2 : SchedRd W s) => show Calls Tryz.prog 28 #[.agg #[.int .i64 r.n, r.lv, r.vv], .agg #[.int .i64 s.f.1, .int .i64 s.f.2.1, .int .i64 s.f.2.2, s.ov], .agg #[.int .i64 u.1, .int .i64 u.2.1, .int .i64 u.2.2]] W fun e w' => (∃ v l, e = .returned (.tuple #[v, .int .i64 0]) ∧ SlOf w' w'.heap.size 7 encE v l ∧ l.Perm (evsL r s u)) ∧ Below W.heap.size W w' from (Table_l r s u W h h2).mono (fun e w' k => by obtain ⟨⟨v, l, h1, h2, h3⟩, h4⟩ := k; rw [htab] at h1; rw [if_pos htab] at h3; exact ⟨⟨v, l, h1, h2, h3.1⟩, h4⟩))
  have HLN := Lib.hid (fun (l m : List EvD) (h1 : l.Perm (fevsL r s u f)) (h2 : m.Perm (evsL r s u)) => (show l.length = m.length by rw [h1.length_eq, h2.length_eq]; unfold fevsL; rw [List.length_map]))
  have hle : (evsL r s u).length ≤ 4000 := by
    rw [evsL_len]
    have hvo := validR_out (askS_ok ha).1
    exact Nat.mul_le_mul hvo.2.2.1.2 hvo.2.1
  have HLE := Lib.hid (fun (m : List EvD) (h2 : m.Perm (evsL r s u)) => (show m.length ≤ 4000 by rw [h2.length_eq]; exact hle))
  have HON := Lib.hid (fun (l m : List EvD) (h1 : l.Perm (fevsL r s u f)) (h2 : m.Perm (evsL r s u)) (x : EvD) (hx : x ∈ l) => (show ∃ y : EvD, x = ⟨y.t, (y.c.1 % f.1, y.c.2 % f.2), y.e⟩ ∧ askedB y.c.1 y.c.2 f.1 f.2 = true ∧ wfE y.e ∧ evF m y.e = some (evD y) from by
    obtain ⟨y, hy, e⟩ := ones_at hB (h1.mem_iff.1 hx)
    obtain ⟨-, hcc, hwe⟩ := evs_small ha hy
    refine ⟨y, e, ?_, hwe, evF_at h2 hy⟩
    unfold askedB
    rw [hz]
    simp only [eachB, Bool.true_and, decide_eq_true_eq]
    omega))
  have HWE := Lib.hid (fun (m : List EvD) (h2 : m.Perm (evsL r s u)) (x : EvD) (hx : x ∈ m) => (evs_small ha (h2.mem_iff.1 hx)).2.2)
  have hmm := @run_makeMap Tryz.prog
  clear ha hz htab hcut hc hle
  go_enter Tryz.func5, Tryz.ntmps5
  go_wp2_with (first | (go_at_call 23; rw [HW0.out]; refine (HWD.out _ (HR.out.below KW0.out) (HS.out.below KW0.out)).mono ?_; go_must (rintro e w1 ⟨rfl, hb1⟩; have K0 := hb1; have HB1 := Lib.hid hb1; clear hb1; obtain ⟨k0_0, k0_1, k0_2, k0_3, k0_4, k0_5, k0_6, k0_7, k0_8, k0_9, k0_10, k0_11⟩ := RD0.out _ K0; rw [HV.out])) | (go_at_call 26; refine (HAS.out _ (HR.out.below (KW0.out.trans (K0.mono (by omega)))) (HS.out.below (KW0.out.trans (K0.mono (by omega))))).mono ?_; go_must (rintro e w2 ⟨rfl, hb2⟩; have K' := (by first | exact below_at K0 (by have := K0.size; omega) hb2 | exact below_at K0 (by have := K0.size; omega) (by repeat (first | exact Below.refl _ _ | assumption | (refine Below.drew ?_) | (refine below_drewN ?_ _) | (refine Below.alloc ?_ (by first | (simp; done) | (simp; omega) | omega) _) | (refine Below.setCell ?_ (by first | (simp; done) | (simp; omega) | omega) _) | (refine Below.trans ?_ (Below.mono (by assumption) (by first | (simp; done) | (simp; omega) | omega))))) : Below W0.heap.size W0 w2); have HB2 := Lib.hid hb2; clear K0 hb2; (try clear k0_0); (try clear k0_1); (try clear k0_2); (try clear k0_3); (try clear k0_4); (try clear k0_5); (try clear k0_6); (try clear k0_7); (try clear k0_8); (try clear k0_9); (try clear k0_10); (try clear k0_11); have K0 := K'; clear K'; obtain ⟨k0_0, k0_1, k0_2, k0_3, k0_4, k0_5, k0_6, k0_7, k0_8, k0_9, k0_10, k0_11⟩ := RD0.out _ K0; rw [HC.out])) | (go_at_call 13; refine (HBK.out _ (HR.out.below (KW0.out.trans (K0.mono (by omega))))).mono ?_; go_must (rintro e w3 ⟨⟨v3, rfl, hs3⟩, hb3⟩; have K' := (by first | exact below_at K0 (by have := K0.size; omega) hb3 | exact below_at K0 (by have := K0.size; omega) (by repeat (first | exact Below.refl _ _ | assumption | (refine Below.drew ?_) | (refine below_drewN ?_ _) | (refine Below.alloc ?_ (by first | (simp; done) | (simp; omega) | omega) _) | (refine Below.setCell ?_ (by first | (simp; done) | (simp; omega) | omega) _) | (refine Below.trans ?_ (Below.mono (by assumption) (by first | (simp; done) | (simp; omega) | omega))))) : Below W0.heap.size W0 w3); have HB3 := Lib.hid hb3; clear K0 hb3; (try clear k0_0); (try clear k0_1); (try clear k0_2); (try clear k0_3); (try clear k0_4); (try clear k0_5); (try clear k0_6); (try clear k0_7); (try clear k0_8); (try clear k0_9); (try clear k0_10); (try clear k0_11); have K0 := K'; clear K'; obtain ⟨k0_0, k0_1, k0_2, k0_3, k0_4, k0_5, k0_6, k0_7, k0_8, k0_9, k0_10, k0_11⟩ := RD0.out _ K0; obtain ⟨va3, vc3, hv3, -⟩ := hs3.shape; subst hv3; rw [hB]; clear hs3)) | (go_at_call 27; refine (HT1.out _ (HR.out.below (KW0.out.trans (K0.mono (by omega)))) (HS.out.below (KW0.out.trans (K0.mono (by omega))))).mono ?_; go_must (rintro e w4 ⟨⟨v4, l4, rfl, hs4, hp4⟩, hb4⟩; have K' := (by first | exact below_at K0 (by have := K0.size; omega) hb4 | exact below_at K0 (by have := K0.size; omega) (by repeat (first | exact Below.refl _ _ | assumption | (refine Below.drew ?_) | (refine below_drewN ?_ _) | (refine Below.alloc ?_ (by first | (simp; done) | (simp; omega) | omega) _) | (refine Below.setCell ?_ (by first | (simp; done) | (simp; omega) | omega) _) | (refine Below.trans ?_ (Below.mono (by assumption) (by first | (simp; done) | (simp; omega) | omega))))) : Below W0.heap.size W0 w4); have HB4 := Lib.hid hb4; clear K0 hb4; (try clear k0_0); (try clear k0_1); (try clear k0_2); (try clear k0_3); (try clear k0_4); (try clear k0_5); (try clear k0_6); (try clear k0_7); (try clear k0_8); (try clear k0_9); (try clear k0_10); (try clear k0_11); have K0 := K'; clear K'; obtain ⟨k0_0, k0_1, k0_2, k0_3, k0_4, k0_5, k0_6, k0_7, k0_8, k0_9, k0_10, k0_11⟩ := RD0.out _ K0; obtain ⟨va4, vc4, hv4, -⟩ := hs4.shape; subst hv4; have HS4 := Lib.hid hs4; have HP4 := Lib.hid hp4; clear hs4 hp4)) | (go_at_call 28; refine (HT2.out _ (HR.out.below (KW0.out.trans (K0.mono (by omega)))) (HS.out.below (KW0.out.trans (K0.mono (by omega))))).mono ?_; go_must (rintro e w5 ⟨⟨v5, l5, rfl, hs5, hp5⟩, hb5⟩; have K' := (by first | exact below_at K0 (by have := K0.size; omega) hb5 | exact below_at K0 (by have := K0.size; omega) (by repeat (first | exact Below.refl _ _ | assumption | (refine Below.drew ?_) | (refine below_drewN ?_ _) | (refine Below.alloc ?_ (by first | (simp; done) | (simp; omega) | omega) _) | (refine Below.setCell ?_ (by first | (simp; done) | (simp; omega) | omega) _) | (refine Below.trans ?_ (Below.mono (by assumption) (by first | (simp; done) | (simp; omega) | omega))))) : Below W0.heap.size W0 w5); have HB5 := Lib.hid hb5; clear K0 hb5; (try clear k0_0); (try clear k0_1); (try clear k0_2); (try clear k0_3); (try clear k0_4); (try clear k0_5); (try clear k0_6); (try clear k0_7); (try clear k0_8); (try clear k0_9); (try clear k0_10); (try clear k0_11); have K0 := K'; clear K'; obtain ⟨k0_0, k0_1, k0_2, k0_3, k0_4, k0_5, k0_6, k0_7, k0_8, k0_9, k0_10, k0_11⟩ := RD0.out _ K0; obtain ⟨va5, vc5, hv5, -⟩ := hs5.shape; subst hv5; have HS5 := Lib.hid hs5; have HP5 := Lib.hid hp5; have HS45 := Lib.hid (HS4.out.below HB5.out); have hll := HLN.out l4 l5 HP4.out hp5; rw [hll]; clear hs5 hp5)))
  clear hmm
  have KX := Lib.hid (KW0.out.trans (K0.mono (show w.heap.size ≤ W0.heap.size by omega)))
  have FX := Lib.hid (show ∀ V, Below w5.heap.size w5 V → V.cell? ⟨w.heap.size + 1, 0, none⟩ = some (.int .i64 f.1) ∧ V.cell? ⟨w.heap.size + 1, 1, none⟩ = some (.int .i64 f.2) from fun V h => by
    obtain ⟨b0, b1, b2, b3, b4, b5, b6, b7, b8, b9, b10, b11⟩ := RD0.out V (below_at K0 K0.size h)
    exact ⟨b10, b11⟩)
  have hsx := KX.out.size
  have hf0 : w.heap.size + 1 < w5.heap.size := by have := K0.size; omega
  have HB5L := Lib.hid (HLE.out l5 HP5.out)
  have hbl5 := HB5L.out
  have HO2 := Lib.hid (fun (x : EvD) (hx : x ∈ l4) => HON.out l4 l5 HP4.out HP5.out x hx)
  have HWE2 := Lib.hid (HWE.out l5 HP5.out)
  (try clear k0_0); (try clear k0_1); (try clear k0_2); (try clear k0_3); (try clear k0_4); (try clear k0_5); (try clear k0_6); (try clear k0_7); (try clear k0_8); (try clear k0_9); (try clear k0_10); (try clear k0_11)
  clear K0 HT1 HT2 HBK HWD HAS HLN HON HLE HWE HR HS RD0 HS4
  obtain ⟨xa, xc, g, off, he, hlc, hcm, hx⟩ := SlOf.at (enc := encE) (fun _ => rfl) un_evF sz_evF HS5.out
  cases he
  have HX := Lib.hid hx
  clear hx HS5
  obtain ⟨xa4, xc4, g4, off4, he4, hlc4, hcm4, hx4⟩ := SlOf.at (enc := encE) (fun _ => rfl) un_evF sz_evF HS45.out
  rw [hll] at he4
  cases he4
  have HX4 := Lib.hid hx4
  clear hx4 HS45
  refine forgetW (fun V => EvM V w5.heap.size 0 [] ∧ Below w5.heap.size w5 V) ⟨MapV.made Tryz.prog 51 elD w5, by exact (by repeat (first | exact Below.refl _ _ | assumption | (refine Below.drew ?_) | (refine below_drewN ?_ _) | (refine Below.alloc ?_ (by first | (simp; done) | (simp; omega) | omega) _) | (refine Below.setCell ?_ (by first | (simp; done) | (simp; omega) | omega) _) | (refine Below.trans ?_ (Below.mono (by assumption) (by first | (simp; done) | (simp; omega) | omega)))))⟩ ?_
  rintro V0 ⟨hvm, hvb⟩
  go_loopw [11] (fun t11 wr => ∃ k n : Nat, k ≤ l5.length ∧ n ≤ k ∧ t11 = .int .i64 (k : Int) ∧ Hid (EvM wr w5.heap.size n (l5.take k)) ∧ Hid (Below w5.heap.size w5 wr)) (fun t11 _ => l5.length - (intOf t11).toNat)
  case atStart => exact ⟨0, 0, Nat.zero_le _, Nat.le_refl _, rfl, Lib.hid hvm, Lib.hid hvb⟩
  case round =>
    clear hvm hvb
    obtain ⟨k, n, hk, hnk, rfl, HM, HB⟩ := hrel
    have hsr := HB.out.size
    by_cases hlt : k < l5.length
    rotate_left
    · have hke : k = l5.length := by omega
      subst hke
      rw [List.take_length] at HM
      clear HX HWE2
      obtain ⟨w6, rfl⟩ : ∃ x : World, x = wr := ⟨_, rfl⟩
      go_wp2_with fail
      go_loopw [12, 13, 14, 15, 16] (fun t12 t13 t14 t15 t16 wr => ∃ k : Nat, k ≤ l5.length ∧ t12 = .int .i64 (k : Int) ∧ Hid (EvM wr w5.heap.size n l5) ∧ Hid (Below w5.heap.size w5 wr)) (fun t12 _ _ _ _ _ => l5.length - (intOf t12).toNat)
      case atStart => exact ⟨0, Nat.zero_le _, rfl, HM, HB⟩
      case round =>
        clear HM HB
        obtain ⟨j, hj, rfl, HM, HB⟩ := hrel
        have hsr := HB.out.size
        by_cases hjl : j < l5.length
        rotate_left
        · have hje : j = l5.length := by omega
          subst hje
          go_wp2_with (go_at_call 12; refine (sane_any _).mono ?_; go_must (rintro e w9 ⟨rfl, hb9⟩))
          go_ret
          exact ⟨rfl, below_at (below_at KX.out hsx HB.out) (by omega) hb9⟩
        have hjl4 : j < l4.length := by rw [hll]; exact hjl
        have hjk : (j : Int) < (l5.length : Int) := by omega
        have hj0 : (0 : Int) ≤ (j : Int) := by omega
        obtain ⟨-, hi, hgg, hc⟩ := HX4.out j hjl4
        rw [hll] at hi
        obtain ⟨y, hxe, hak, hwy, hey⟩ := HO2.out l4[j] (List.getElem_mem hjl4)
        have HLK := Lib.hid (fun (W : World) (hm : EvM W w5.heap.size n l5) => EvM.look hm hey hwy)
        have HHM := Lib.hid (fun (W : World) => Home_yes y.c.1 y.c.2 f.1 f.2 W hak)
        have rd := fun i hi' => (HB.out.cell (p := ⟨g4, off4 + 7 * j + i, none⟩) hgg).trans (hc i hi')
        rw [hxe] at rd
        clear hc hxe hak hwy hey
        obtain ⟨yt, ⟨yc0, yc1⟩, ⟨yv, y0, y1, y2⟩⟩ := y
        simp only at HHM rd
        generalize hh0 : yc0 % f.1 = h0 at *
        generalize hh1 : yc1 % f.2 = h1 at *
        clear hh0 hh1
        have r0 : wr.cell? ⟨g4, off4 + 7 * j, none⟩ = some (.int .i64 yt) := rd 0 (by omega)
        have r1 : wr.cell? ⟨g4, off4 + 7 * j + 1, none⟩ = some (.int .i64 h0) := rd 1 (by omega)
        have r2 : wr.cell? ⟨g4, off4 + 7 * j + 2, none⟩ = some (.int .i64 h1) := rd 2 (by omega)
        have r3 : wr.cell? ⟨g4, off4 + 7 * j + 3, none⟩ = some (.int .i64 yv) := rd 3 (by omega)
        have r4 : wr.cell? ⟨g4, off4 + 7 * j + 4, none⟩ = some (.int .i64 y0) := rd 4 (by omega)
        have r5 : wr.cell? ⟨g4, off4 + 7 * j + 5, none⟩ = some (.int .i64 y1) := rd 5 (by omega)
        have r6 : wr.cell? ⟨g4, off4 + 7 * j + 6, none⟩ = some (.int .i64 y2) := rd 6 (by omega)
        have hlk := HLK.out wr HM.out
        simp only [elD, evD] at hlk
        obtain ⟨f0, f1⟩ := FX.out wr HB.out
        have hgr : g4 < wr.heap.size := by omega
        have zf := z1 (show w.heap.size + 1 + 1 ≤ wr.heap.size by omega)
        clear rd HLK HO2 HX4
        go_wp2_with (go_at_call 29; refine (HHM.out _).mono ?_; go_must (rintro e w9 ⟨rfl, hb9⟩; have hs9 := hb9.size; (try simp at hs9); obtain ⟨hc9, hf9⟩ := bcell hb9; have zz := z1 (show wr.heap.size + 1 ≤ w9.heap.size by omega); have HB9 := Lib.hid hb9; clear hb9))
        refine forgetW (fun V => Below wr.heap.size wr V ∧ wr.heap.size < w9.heap.size ∧ w9.heap.size < V.heap.size ∧ V.cell? ⟨wr.heap.size, 0, none⟩ = some (.int .i64 yt) ∧ V.cell? ⟨w9.heap.size, 0, none⟩ = some (.int .i64 h0) ∧ V.cell? ⟨w9.heap.size, 1, none⟩ = some (.int .i64 h1)) ⟨by have hb9 := HB9.out; exact (by repeat (first | exact Below.refl _ _ | assumption | (refine Below.drew ?_) | (refine below_drewN ?_ _) | (refine Below.alloc ?_ (by first | (simp; done) | (simp; omega) | omega) _) | (refine Below.setCell ?_ (by first | (simp; done) | (simp; omega) | omega) _) | (refine Below.trans ?_ (Below.mono (by assumption) (by first | (simp; done) | (simp; omega) | omega))))), by omega, by simp, by go_simp, by go_simp, by go_simp⟩ ?_
        rintro V ⟨hv, hq1, hq2, x0, x1, x2⟩
        have s0 := (hv.cell (p := ⟨g4, off4 + 7 * j, none⟩) hgr).trans r0
        have s1 := (hv.cell (p := ⟨g4, off4 + 7 * j + 1, none⟩) hgr).trans r1
        have s2 := (hv.cell (p := ⟨g4, off4 + 7 * j + 2, none⟩) hgr).trans r2
        have heq := fun W => eq_cell h0 h1 h0 h1 W
        have HM2 := Lib.hid (MapV.kept HM.out hv)
        have HB2 := Lib.hid (HB.out.trans (hv.mono hsr))
        clear r0 r1 r2 r3 r4 r5 r6 hc9 hf9 zz zf hlk f0 f1 hq1 hq2 hs9 HB9 hv HM HB HHM
        go_quiet (fail)
        go_wp2_with fail
        go_roundw
        case rel => exact ⟨j + 1, hjl, by simp, Lib.hid (MapV.kept HM2.out (below_drewN (Below.refl _ _) _)), Lib.hid (below_drewN HB2.out _)⟩
        case measure => simp only [intOf]; omega
    have hkl : (k : Int) < (l5.length : Int) := by omega
    have hk0 : (0 : Int) ≤ (k : Int) := by omega
    obtain ⟨-, hi, hgg, hc⟩ := HX.out k hlt
    have rd := fun i hi' => (HB.out.cell (p := ⟨g, off + 7 * k + i, none⟩) hgg).trans (hc i hi')
    have hwx := HWE2.out l5[k] (List.getElem_mem hlt)
    have HT := Lib.hid (show l5.take (k + 1) = l5.take k ++ [l5[k]] from List.take_succ_eq_append_getElem hlt)
    obtain ⟨w9, hr9, hm9, hg9⟩ := EvM.step (MapV.kept HM.out ((Below.refl _ wr).drew)) (by have := HB5L.out; omega) l5[k] hwx
    have HM9 := Lib.hid (show EvM w9 w5.heap.size (n + 1) (l5.take (k + 1)) by rw [HT.out]; exact hm9)
    have HB9 := Lib.hid ((HB.out.drew).grown hg9 (by have := hsr; simpa using this) (fun r e => by cases e; exact Nat.le_refl _))
    clear hc hm9 hg9 HT hwx
    generalize l5[k] = x at *
    obtain ⟨xt, ⟨xc0, xc1⟩, ⟨xv, x0, x1, x2⟩⟩ := x
    have r0 : wr.cell? ⟨g, off + 7 * k, none⟩ = some (.int .i64 xt) := rd 0 (by omega)
    have r1 : wr.cell? ⟨g, off + 7 * k + 1, none⟩ = some (.int .i64 xc0) := rd 1 (by omega)
    have r2 : wr.cell? ⟨g, off + 7 * k + 2, none⟩ = some (.int .i64 xc1) := rd 2 (by omega)
    have r3 : wr.cell? ⟨g, off + 7 * k + 3, none⟩ = some (.int .i64 xv) := rd 3 (by omega)
    have r4 : wr.cell? ⟨g, off + 7 * k + 4, none⟩ = some (.int .i64 x0) := rd 4 (by omega)
    have r5 : wr.cell? ⟨g, off + 7 * k + 5, none⟩ = some (.int .i64 x1) := rd 5 (by omega)
    have r6 : wr.cell? ⟨g, off + 7 * k + 6, none⟩ = some (.int .i64 x2) := rd 6 (by omega)
    simp only [elD, evD] at hr9
    clear rd HM HB HO2 HX4 HWE2 HX FX
    go_wp2_with fail
    go_region
    all_goals
      go_wp2_with fail
      go_roundw
      case rel => exact ⟨k + 1, n + 1, hlt, by omega, by simp, HM9, HB9⟩
      case measure => simp only [intOf]; omega
end Go.Proofs.YtnejicklenhpeaaGreat
