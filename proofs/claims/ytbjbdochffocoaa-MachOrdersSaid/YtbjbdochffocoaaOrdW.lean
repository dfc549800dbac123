/- The law MachOrders: its walk. -/
import Derived.Test.YtbjbdochffocoaaSwpB
namespace Go.Proofs.Ytbjbdochffocoaa
open Go.RowKit Go.Lib
set_option linter.unusedVariables false
/-- What Run gives of a program without an error: a row of its own. -/
def RunV (q : List OpD) (n B : Nat) (e : Ending) (w' : World) : Prop := ∃ b m, e = .returned (.tuple #[.slice (some ⟨b, 0, none⟩) n n, .int .i64 0]) ∧ B ≤ b ∧ RowI w' b m ∧ RunOk q m
theorem run_v (q : List OpD) (n : Nat) (hn : q.length = n) (h0 : runErr q = 0) (v : Value) (W : World) (h : ProgRd W v q) : Calls Try.prog 12 #[v] W fun e w' => RunV q n W.heap.size e w' ∧ Below W.heap.size W w' :=
  (Run_w q v W h).mono fun e w' k => by
    subst hn
    refine ⟨?_, k.2⟩
    have h1 := k.1
    unfold UntW at h1
    rw [if_pos h0] at h1
    obtain ⟨b, m, he, hb, hr, hok⟩ := h1
    rw [untilL_run (runErr_ok h0).1 hok.len] at hr
    exact ⟨b, m, he, hb, hr, hok⟩
theorem run_e (q : List OpD) (E : Int) (he : runErr q = E) (h0 : E ≠ 0) (v : Value) (W : World) (h : ProgRd W v q) : Calls Try.prog 12 #[v] W fun e w' => e = .returned (.tuple #[.slice none 0 0, .int .i64 E]) ∧ Below W.heap.size W w' :=
  (Run_w q v W h).mono fun e w' k => by
    refine ⟨?_, k.2⟩
    have h1 := k.1
    unfold UntW at h1
    rw [he, if_neg h0] at h1
    exact h1
theorem swap_run {p q : List OpD} {a b : Nat} {l m : List Int} (hx : Exch a b p q) (h0 : runErr p = 0) (h1 : RunOk p l) (h2 : RunOk q m) (ha : a < l.length) (hb : b < l.length) : (l.set a l[b]).set b l[a] = m := by
  refine getD_ext (by simp; rw [h1.len, h2.len, hx.len]) (fun i hi => ?_)
  have hi2 : i < p.length := by simp at hi; rw [h1.len] at hi; exact hi
  rw [hx.run h0 h1 h2 i hi2]
  have e1 : ∀ j (hj : j < l.length), l.getD j 0 = l[j] := fun j hj => by rw [List.getD_eq_getElem?_getD, List.getElem?_eq_getElem hj]; rfl
  unfold exI
  by_cases e : b = i
  · subst e
    rw [getD_set_self _ _ _ (by simpa using hb)]
    by_cases e2 : b = a
    · subst e2; rw [if_pos rfl]; exact (e1 _ _).symm
    · rw [if_neg e2, if_pos rfl]; exact (e1 _ _).symm
  · rw [getD_set _ _ _ _ e]
    by_cases e2 : a = i
    · subst e2; rw [getD_set_self _ _ _ ha, if_pos rfl]; exact (e1 _ _).symm
    · rw [getD_set _ _ _ _ e2, if_neg (fun e => e2 e.symm), if_neg (fun e3 => e e3.symm)]
theorem rows_sl {w : World} {b n : Nat} {l : List Int} (h : RowI w b l) (hl : l.length = n) (hn : n ≤ 1000000) : SlOf w w.heap.size 1 encInt (.slice (some ⟨b, 0, none⟩) n n) l := by
  subst hl; exact h.sl _ (Nat.le_refl _) (by unfold maxLen; omega)
set_option maxHeartbeats 16000000 in
set_option maxRecDepth 100000 in
theorem MachOrders_any (p : List OpD) (v : Value) (x y z : Int) (hx : 0 ≤ x ∧ x ≤ 65535) (hy : 0 ≤ y ∧ y ≤ 65535) (hz : -32768 ≤ z ∧ z ≤ 32767) (w : World) (hp : ProgRd w v p) : Calls Try.prog 6 #[v, .agg #[.int .u16 x, .int .u16 y], .int .i16 z] w fun e w' => e = .returned (.bool true) ∧ Below w.heap.size w w' := by
  obtain ⟨W0, hW0⟩ : ∃ W : World, w.alloc (Obj.cells #[.int .u16 x, .int .u16 y] 41) = W := ⟨_, rfl⟩
  have kw0 : Below w.heap.size w W0 := by rw [← hW0]; exact (by repeat (first | exact Below.refl _ _ | assumption | (refine Below.drew ?_) | (refine below_drewN ?_ _) | (refine Below.alloc ?_ (by first | (simp; done) | (simp; omega) | omega) _) | (refine Below.setCell ?_ (by first | (simp; done) | (simp; omega) | omega) _) | (refine Below.trans ?_ (Below.mono (by assumption) (by first | (simp; done) | (simp; omega) | omega)))))
  have ks0 : W0.heap.size = w.heap.size + 1 := by rw [← hW0]; simp
  have RD0 := Lib.hid (show ∀ V, Below W0.heap.size W0 V → V.cell? ⟨w.heap.size, 0, none⟩ = some (.int .u16 x) ∧ V.cell? ⟨w.heap.size, 1, none⟩ = some (.int .u16 y) from fun V h => by
      refine ⟨(h.cell (p := ⟨w.heap.size, 0, none⟩) (by simp; omega)).trans ?_, (h.cell (p := ⟨w.heap.size, 1, none⟩) (by simp; omega)).trans ?_⟩ <;> (subst hW0; go_simp))
  have HW0 := Lib.hid hW0; have KW0 := Lib.hid kw0; clear hW0 kw0
  have hsW : w.heap.size ≤ W0.heap.size := by omega
  have HP := Lib.hid (hp.below KW0.out)
  have HWD := Lib.hid (Wide8_l p v W0 HP.out)
  have HVD := Lib.hid (fun (W : World) (h : ProgRd W v p) => rValid_l p v W h)
  have HFB := Lib.hid (fun V (h : Below W0.heap.size W0 V) => KW0.out.trans (h.mono hsW))
  clear hp
  cases hwd : wideP p
  rotate_left
  · rw [hwd] at HWD
    clear hwd
    go_enter Try.func6, Try.ntmps6
    go_wp2_with fail
    rw [HW0.out]
    go_wp2_with (first | (go_at_call 10; refine HWD.out.mono ?_; go_must (rintro e w1 ⟨rfl, hb1⟩; have HB1 := Lib.hid hb1; clear hb1)) | (go_at_call 11; refine (sane08 _).mono ?_; go_must (rintro e w2 ⟨rfl, hb2⟩)))
    go_ret
    exact ⟨rfl, HFB.out _ (below_at HB1.out HB1.out.size hb2)⟩
  rw [hwd] at HWD
  have HW1 := Lib.hid hwd
  clear hwd
  have hl60 : p.length ≤ 60 ∨ validP p = false := by
    rcases Nat.lt_or_ge 60 p.length with h | h
    · right
      have h2 := HW1.out
      cases hv : validP p
      · rfl
      · have := (small_of hv).len
        unfold wideP at h2
        rw [decide_eq_true h, decide_eq_true this] at h2
        simp at h2
    · exact .inl h
  cases hvd : validP p
  · rw [hvd] at HVD
    clear hvd hl60
    go_enter Try.func6, Try.ntmps6
    go_wp2_with fail
    rw [HW0.out]
    go_wp2_with (first | (go_at_call 10; refine HWD.out.mono ?_; go_must (rintro e w1 ⟨rfl, hb1⟩; have HB1 := Lib.hid hb1; clear hb1)) | (go_at_call 17; refine (HVD.out _ (HP.out.below HB1.out)).mono ?_; go_must (rintro e w2 ⟨rfl, hb2⟩; have HB2 := Lib.hid (below_at HB1.out HB1.out.size hb2); clear hb2)) | (go_at_call 11; refine (sane08 _).mono ?_; go_must (rintro e w3 ⟨rfl, hb3⟩)))
    go_ret
    exact ⟨rfl, HFB.out _ (below_at HB2.out HB2.out.size hb3)⟩
  have HV := Lib.hid hvd
  have hl6 : p.length ≤ 60 := by rcases hl60 with h | h; exact h; rw [hvd] at h; cases h
  rw [hvd] at HVD
  clear hvd hl60
  have hln : (p.length : Int) ≤ 60 := by omega
  obtain ⟨pa, pc, rfl⟩ : ∃ a c, v = .slice a p.length c := by obtain ⟨a, c, g, o, rfl, -⟩ := ops_at HP.out; exact ⟨a, c, rfl⟩
  by_cases h0 : p.length = 0
  · have hz0 : ((p.length : Int) == 0) = true := by simp [h0]
    clear h0
    go_enter Try.func6, Try.ntmps6
    go_wp2_with fail
    rw [HW0.out]
    go_wp2_with (first | (go_at_call 10; refine HWD.out.mono ?_; go_must (rintro e w1 ⟨rfl, hb1⟩; have HB1 := Lib.hid hb1; clear hb1)) | (go_at_call 17; refine (HVD.out _ (HP.out.below HB1.out)).mono ?_; go_must (rintro e w2 ⟨rfl, hb2⟩; have HB2 := Lib.hid (below_at HB1.out HB1.out.size hb2); clear hb2)) | (go_at_call 11; refine (sane08 _).mono ?_; go_must (rintro e w3 ⟨rfl, hb3⟩)))
    go_ret
    exact ⟨rfl, HFB.out _ (below_at HB2.out HB2.out.size hb3)⟩
  have hz0 : ((p.length : Int) == 0) = false := beq_eq_false_iff_ne.2 (by omega)
  obtain ⟨a, hae⟩ : ∃ a : Nat, a = x.toNat % p.length := ⟨_, rfl⟩
  obtain ⟨b, hbe⟩ : ∃ b : Nat, b = y.toNat % p.length := ⟨_, rfl⟩
  have hal : a < p.length := by rw [hae]; exact Nat.mod_lt _ (by omega)
  have hbl : b < p.length := by rw [hbe]; exact Nat.mod_lt _ (by omega)
  have hxa : x.tmod (p.length : Int) = (a : Int) := by rw [Int.tmod_eq_emod_of_nonneg hx.1, hae, Int.natCast_emod, Int.toNat_of_nonneg hx.1]
  have hyb : y.tmod (p.length : Int) = (b : Int) := by rw [Int.tmod_eq_emod_of_nonneg hy.1, hbe, Int.natCast_emod, Int.toNat_of_nonneg hy.1]
  have wx : IntKind.i64.wrap x = x := IntWalk.i64_in _ (by omega)
  have wy : IntKind.i64.wrap y = y := IntWalk.i64_in _ (by omega)
  have wz : IntKind.i64.wrap z = z := IntWalk.i64_in _ (by omega)
  have HXA := Lib.hid (⟨hxa, hyb, wx, wy⟩ : x.tmod (p.length : Int) = (a : Int) ∧ y.tmod (p.length : Int) = (b : Int) ∧ IntKind.i64.wrap x = x ∧ IntKind.i64.wrap y = y)
  have hn1 : (1 : Int) ≤ (p.length : Int) := by omega
  clear hae hbe hxa hyb wx wy h0
  have HAB := Lib.hid (⟨hal, hbl⟩ : a < p.length ∧ b < p.length)
  have HSW := Lib.hid (fun (W : World) (h : ProgRd W (.slice pa p.length pc) p) => Swapped_l p HV.out a b hal hbl _ W h)
  have HEX := Lib.hid (fun q (h : Exch a b p q) => h.err)
  obtain ⟨hz1, hz2⟩ := hz
  have HSH := Lib.hid (fun (W : World) (h : ProgRd W (.slice pa p.length pc) p) => Shift_l p z (by omega) _ W h)
  have hshe : shErr p z = 0 ∨ shErr p z = 2 := by unfold shErr; rw [HV.out, if_pos rfl]; split; exact .inl rfl; exact .inr rfl
  clear hal hbl
  by_cases he : runErr p = 0

  · have HE := Lib.hid he
    have HR1 := Lib.hid (fun (W : World) (h : ProgRd W (.slice pa p.length pc) p) => run_v p p.length rfl he _ W h)
    have HR2 := Lib.hid (fun q (hx : Exch a b p q) v' W (h : ProgRd W v' q) => run_v q p.length hx.len (by rw [hx.err]; exact he) v' W h)
    have HR3 := Lib.hid (fun q (ht : Later z p q ∧ runErr q = 0) v' W (h : ProgRd W v' q) => (run_v q p.length ht.1.len ht.2 v' W h).mono (fun e w' k => (⟨by
      obtain ⟨nb, n, he, -, hr, hok⟩ := k.1
      refine ⟨nb, he, fun l hl => ?_⟩
      have := RunOk.same (runErr_ok ht.2).2.2.2 (ht.1.run hl) hok
      rw [this]
      exact rows_sl hr (by rw [hok.len, ht.1.len]) (by omega), k.2⟩ : (∃ nb, e = .returned (.tuple #[.slice (some ⟨nb, 0, none⟩) p.length p.length, .int .i64 0]) ∧ ∀ l, RunOk p l → SlOf w' w'.heap.size 1 encInt (.slice (some ⟨nb, 0, none⟩) p.length p.length) l) ∧ Below W.heap.size W w')))
    have HSM := Lib.hid (fun (W : World) (l : List Int) (v1 v2 : Value) (h1 : SlOf W W.heap.size 1 encInt v1 l) (h2 : SlOf W W.heap.size 1 encInt v2 l) => by have := same8_l l l W v1 v2 h1 h2; rwa [decide_eq_true rfl] at this)
    have HSM2 := HSM
    have hl6' : p.length ≤ 1000000 := by omega
    have hnn : ((p.length : Int) != (p.length : Int)) = false := by simp
    clear he
    rcases hshe with hs0 | hs0
    · have HS2 := Lib.hid (fun (W : World) (h : ProgRd W (.slice pa p.length pc) p) => (HSH.out W h).mono (fun e w' k => (⟨by
        have h1 := k.1; unfold ShiftR at h1; rw [if_pos hs0] at h1
        obtain ⟨v', q, he, ho, ht⟩ := h1
        have hl : Later z p q := ht.later
        have hsb : shB p z = true := by
          cases hc : shB p z
          · unfold shErr at hs0; rw [HV.out, if_pos rfl, hc] at hs0; simp at hs0
          · rfl
        exact ⟨v', q, he, ho.rd, hl, (hl.err HV.out (fun i hi => by rw [(hl.at_ i hi (by rw [← hl.len]; exact hi)).1]; exact shB_iff.1 hsb i (by rw [← hl.len]; exact hi))).trans HE.out⟩, k.2⟩ : (∃ v' q, e = .returned (.tuple #[v', .int .i64 0]) ∧ ProgRd w' v' q ∧ Later z p q ∧ runErr q = 0) ∧ Below W.heap.size W w')))
      clear hs0 HSH
      go_enter Try.func6, Try.ntmps6
      go_wp2_with fail
      rw [HW0.out]
      go_wp2_with (first | (go_at_call 10; refine HWD.out.mono ?_; go_must (rintro e w1 ⟨rfl, hb1⟩; have HB1 := Lib.hid hb1; clear hb1)) | (go_at_call 17; refine (HVD.out _ (HP.out.below HB1.out)).mono ?_; go_must (rintro e w2 ⟨rfl, hb2⟩; have HB2 := Lib.hid (below_at HB1.out HB1.out.size hb2); clear hb2)) | (go_at_call 12; refine (HR1.out _ (HP.out.below HB2.out)).mono ?_; clear HR1; go_must (rintro e w3 ⟨⟨lb, l, rfl, hlb, hrl, hokl⟩, hb3⟩; have HB3 := Lib.hid (below_at HB2.out HB2.out.size hb3); have HRL := Lib.hid hrl; have HOKL := Lib.hid hokl; have HLB := Lib.hid hlb; clear hb3 hrl hokl hlb)))
      obtain ⟨c0, c1⟩ := RD0.out w3 HB3.out
      obtain ⟨hxa, hyb, wx, wy⟩ := HXA.out
      go_quiet (fail)
      clear c0 c1 hxa hyb wx wy
      have HB3 := Lib.hid (below_drewN HB3.out nq)
      have HRL := Lib.hid (HRL.out.drewN nq)
      generalize w3.drewN nq = w3' at *
      go_wp2_with (first | (go_at_call 23; refine (HSW.out _ (HP.out.below HB3.out)).mono ?_; go_must (rintro e w4 ⟨⟨v4, q4, rfl, ho4, hx4⟩, hb4⟩; have HB4 := Lib.hid (below_at HB3.out HB3.out.size hb4); have HX4 := Lib.hid hx4; have HQ4 := Lib.hid ho4.rd; have HRL4 := Lib.hid (HRL.out.kept hb4); clear hb4 ho4 hx4)) | (go_at_call 12; refine (HR2.out q4 HX4.out _ _ HQ4.out).mono ?_; clear HR2; go_must (rintro e w5 ⟨⟨mb, m, rfl, hmb, hrm, hokm⟩, hb5⟩; have HB5 := Lib.hid (below_at HB4.out HB4.out.size hb5); have HRM := Lib.hid hrm; have HOKM := Lib.hid hokm; have HMB := Lib.hid hmb; have HRL5 := Lib.hid (HRL4.out.kept hb5); clear hb5 hrm hokm hmb)) | (go_at_call 24; refine (HS2.out _ (HP.out.below HB5.out)).mono ?_; go_must (rintro e w6 ⟨⟨v6, q6, rfl, hq6, ht6⟩, hb6⟩; have HB6 := Lib.hid (below_at HB5.out HB5.out.size hb6); have HQ6 := Lib.hid hq6; have HT6 := Lib.hid ht6; have HRL6 := Lib.hid (HRL5.out.kept hb6); have HRM6 := Lib.hid (HRM.out.kept hb6); clear hb6 hq6 ht6)) | (go_at_call 12; refine (HR3.out q6 HT6.out _ _ HQ6.out).mono ?_; go_must (rintro e w7 ⟨⟨nb, rfl, hrn⟩, hb7⟩; have HB7 := Lib.hid (below_at HB6.out HB6.out.size hb7); have HSN := Lib.hid hrn; have HRL7 := Lib.hid (HRL6.out.kept hb7); have HRM7 := Lib.hid (HRM6.out.kept hb7); clear hb7 hrn)) | (go_at_call 16; refine (HSM.out _ l _ _ (rows_sl HRL7.out HOKL.out.len hl6') (HSN.out l HOKL.out)).mono ?_; clear HSM; go_must (rintro e w8 ⟨rfl, hb8⟩; have HB8 := Lib.hid (below_at HB7.out HB7.out.size hb8); have HRL8 := Lib.hid (HRL7.out.kept hb8); have HRM8 := Lib.hid (HRM7.out.kept hb8); clear hb8)))
      have hal : a < p.length := HAB.out.1
      have hbl : b < p.length := HAB.out.2
      have hla : a < l.length := by rw [HOKL.out.len]; exact hal
      have hlb2 : b < l.length := by rw [HOKL.out.len]; exact hbl
      have HSR := Lib.hid (swap_run HX4.out HE.out HOKL.out HOKM.out hla hlb2)
      have hia := fun V => idx_of (P := Try.prog) un_int sz_int1 lb 0 p.length p.length a hal V
      have hib := fun V => idx_of (P := Try.prog) un_int sz_int1 lb 0 p.length p.length b hbl V
      simp only [Nat.one_mul, Nat.zero_add] at hia hib
      have hlm : lb ≠ mb := by have := HRL4.out.lt; have := HMB.out; omega
      have hw8 : W0.heap.size ≤ lb := by have := HLB.out; have := HB2.out.size; omega
      have haz : (a : Int) < (p.length : Int) := by omega
      have hbz : (b : Int) < (p.length : Int) := by omega
      have HLM := Lib.hid HOKM.out.len
      have hpq4 : q4.length = p.length := HX4.out.len
      have HPQ := Lib.hid hpq4
      clear hpq4 hal hbl
      by_cases hab : a = b
      · subst hab
        have ca := HRL8.out.cell a hla
        have fa := HRL8.out.free a hla
        have HRF := Lib.hid (show ∀ V, RowI V lb ((l.set a l[a]).set a l[a]) → RowI V lb m from fun V h => by rwa [HSR.out] at h)
        have HLA := Lib.hid hla
        generalize l[a] = xa at *
        clear hla hlb2
        go_big_region
        all_goals (have R1 := Lib.hid (show RowI ((w8.setCell ⟨lb, a, none⟩ (.int .i64 xa)).setCell ⟨lb, a, none⟩ (.int .i64 xa)).drew lb m from HRF.out _ (RowI.drew ((HRL8.out.set a HLA.out xa).set a (by simpa using HLA.out) xa))); have R2 := Lib.hid (show RowI ((w8.setCell ⟨lb, a, none⟩ (.int .i64 xa)).setCell ⟨lb, a, none⟩ (.int .i64 xa)).drew mb m from RowI.drew ((HRM8.out.other _ _ _ hlm).other _ _ _ hlm)); have R3 := Lib.hid (show Below W0.heap.size W0 ((w8.setCell ⟨lb, a, none⟩ (.int .i64 xa)).setCell ⟨lb, a, none⟩ (.int .i64 xa)).drew by have := HB8.out; exact (by (repeat (first | (with_reducible refine Below.setCell ?_ (by first | (simp; done) | (simp; omega) | omega) _) | (with_reducible refine Below.drew ?_) | (with_reducible refine below_drewN ?_ _))); with_reducible exact this)); obtain ⟨V9, hV9⟩ : ∃ V, V = ((w8.setCell ⟨lb, a, none⟩ (.int .i64 xa)).setCell ⟨lb, a, none⟩ (.int .i64 xa)).drew := ⟨_, rfl⟩; rw [← hV9] at R1 R2 R3 ⊢; clear hV9)
        all_goals go_wp2_with (first | (go_at_call 16; refine (HSM2.out _ m _ _ (rows_sl R1.out (HLM.out.trans HPQ.out) hl6') (rows_sl R2.out (HLM.out.trans HPQ.out) hl6')).mono ?_; go_must (rintro e wA ⟨rfl, hbA⟩; have HBA := Lib.hid (below_at R3.out R3.out.size hbA); clear hbA)) | (go_at_call 11; refine (sane08 _).mono ?_; go_must (rintro e wB ⟨rfl, hbB⟩)))
        all_goals go_ret
        all_goals exact ⟨rfl, HFB.out _ (below_at HBA.out HBA.out.size hbB)⟩
      · have ca := HRL8.out.cell a hla
        have fa := HRL8.out.free a hla
        have cb := HRL8.out.cell b hlb2
        have fb := HRL8.out.free b hlb2
        have HRF := Lib.hid (show ∀ V, RowI V lb ((l.set a l[b]).set b l[a]) → RowI V lb m from fun V h => by rwa [HSR.out] at h)
        have HRG := Lib.hid (show ∀ V, RowI V lb ((l.set b l[a]).set a l[b]) → RowI V lb m from fun V h => by rw [← List.set_comm _ _ hab] at h; rwa [HSR.out] at h)
        have HLA := Lib.hid (⟨hla, hlb2⟩ : a < l.length ∧ b < l.length)
        generalize l[a] = xa at *
        generalize l[b] = xb at *
        have z1 : (a = b) = False := eq_false hab
        have z2 : (b = a) = False := eq_false (fun e => hab e.symm)
        clear hla hlb2 hab
        go_big_region
        all_goals first | (have R1 := Lib.hid (show RowI ((w8.setCell ⟨lb, a, none⟩ (.int .i64 xb)).setCell ⟨lb, b, none⟩ (.int .i64 xa)).drew lb m from HRF.out _ (RowI.drew ((HRL8.out.set a HLA.out.1 xb).set b (by simpa using HLA.out.2) xa))); have R2 := Lib.hid (show RowI ((w8.setCell ⟨lb, a, none⟩ (.int .i64 xb)).setCell ⟨lb, b, none⟩ (.int .i64 xa)).drew mb m from RowI.drew ((HRM8.out.other _ _ _ hlm).other _ _ _ hlm)); have R3 := Lib.hid (show Below W0.heap.size W0 ((w8.setCell ⟨lb, a, none⟩ (.int .i64 xb)).setCell ⟨lb, b, none⟩ (.int .i64 xa)).drew by have := HB8.out; exact (by (repeat (first | (with_reducible refine Below.setCell ?_ (by first | (simp; done) | (simp; omega) | omega) _) | (with_reducible refine Below.drew ?_) | (with_reducible refine below_drewN ?_ _))); with_reducible exact this)); obtain ⟨V9, hV9⟩ : ∃ V, V = ((w8.setCell ⟨lb, a, none⟩ (.int .i64 xb)).setCell ⟨lb, b, none⟩ (.int .i64 xa)).drew := ⟨_, rfl⟩; rw [← hV9] at R1 R2 R3 ⊢; clear hV9) | (have R1 := Lib.hid (show RowI ((w8.setCell ⟨lb, b, none⟩ (.int .i64 xa)).setCell ⟨lb, a, none⟩ (.int .i64 xb)).drew lb m from HRG.out _ (RowI.drew ((HRL8.out.set b HLA.out.2 xa).set a (by simpa using HLA.out.1) xb))); have R2 := Lib.hid (show RowI ((w8.setCell ⟨lb, b, none⟩ (.int .i64 xa)).setCell ⟨lb, a, none⟩ (.int .i64 xb)).drew mb m from RowI.drew ((HRM8.out.other _ _ _ hlm).other _ _ _ hlm)); have R3 := Lib.hid (show Below W0.heap.size W0 ((w8.setCell ⟨lb, b, none⟩ (.int .i64 xa)).setCell ⟨lb, a, none⟩ (.int .i64 xb)).drew by have := HB8.out; exact (by (repeat (first | (with_reducible refine Below.setCell ?_ (by first | (simp; done) | (simp; omega) | omega) _) | (with_reducible refine Below.drew ?_) | (with_reducible refine below_drewN ?_ _))); with_reducible exact this)); obtain ⟨V9, hV9⟩ : ∃ V, V = ((w8.setCell ⟨lb, b, none⟩ (.int .i64 xa)).setCell ⟨lb, a, none⟩ (.int .i64 xb)).drew := ⟨_, rfl⟩; rw [← hV9] at R1 R2 R3 ⊢; clear hV9)
        all_goals go_wp2_with (first | (go_at_call 16; refine (HSM2.out _ m _ _ (rows_sl R1.out (HLM.out.trans HPQ.out) hl6') (rows_sl R2.out (HLM.out.trans HPQ.out) hl6')).mono ?_; go_must (rintro e wA ⟨rfl, hbA⟩; have HBA := Lib.hid (below_at R3.out R3.out.size hbA); clear hbA)) | (go_at_call 11; refine (sane08 _).mono ?_; go_must (rintro e wB ⟨rfl, hbB⟩)))
        all_goals go_ret
        all_goals exact ⟨rfl, HFB.out _ (below_at HBA.out HBA.out.size hbB)⟩
    · have HS2 := Lib.hid (fun (W : World) (h : ProgRd W (.slice pa p.length pc) p) => (HSH.out W h).mono (fun e w' k => (⟨by
        have h1 := k.1; unfold ShiftR at h1; rw [hs0, if_neg (by omega)] at h1
        exact h1, k.2⟩ : e = .returned (.tuple #[.slice none 0 0, .int .i64 2]) ∧ Below W.heap.size W w')))
      clear hs0 HSH
      go_enter Try.func6, Try.ntmps6
      go_wp2_with fail
      rw [HW0.out]
      go_wp2_with (first | (go_at_call 10; refine HWD.out.mono ?_; go_must (rintro e w1 ⟨rfl, hb1⟩; have HB1 := Lib.hid hb1; clear hb1)) | (go_at_call 17; refine (HVD.out _ (HP.out.below HB1.out)).mono ?_; go_must (rintro e w2 ⟨rfl, hb2⟩; have HB2 := Lib.hid (below_at HB1.out HB1.out.size hb2); clear hb2)) | (go_at_call 12; refine (HR1.out _ (HP.out.below HB2.out)).mono ?_; clear HR1; go_must (rintro e w3 ⟨⟨lb, l, rfl, hlb, hrl, hokl⟩, hb3⟩; have HB3 := Lib.hid (below_at HB2.out HB2.out.size hb3); have HRL := Lib.hid hrl; have HOKL := Lib.hid hokl; have HLB := Lib.hid hlb; clear hb3 hrl hokl hlb)))
      obtain ⟨c0, c1⟩ := RD0.out w3 HB3.out
      obtain ⟨hxa, hyb, wx, wy⟩ := HXA.out
      go_quiet (fail)
      clear c0 c1 hxa hyb wx wy
      have HB3 := Lib.hid (below_drewN HB3.out nq)
      have HRL := Lib.hid (HRL.out.drewN nq)
      generalize w3.drewN nq = w3' at *
      go_wp2_with (first | (go_at_call 23; refine (HSW.out _ (HP.out.below HB3.out)).mono ?_; go_must (rintro e w4 ⟨⟨v4, q4, rfl, ho4, hx4⟩, hb4⟩; have HB4 := Lib.hid (below_at HB3.out HB3.out.size hb4); have HX4 := Lib.hid hx4; have HQ4 := Lib.hid ho4.rd; have HRL4 := Lib.hid (HRL.out.kept hb4); clear hb4 ho4 hx4)) | (go_at_call 12; refine (HR2.out q4 HX4.out _ _ HQ4.out).mono ?_; clear HR2; go_must (rintro e w5 ⟨⟨mb, m, rfl, hmb, hrm, hokm⟩, hb5⟩; have HB5 := Lib.hid (below_at HB4.out HB4.out.size hb5); have HRM := Lib.hid hrm; have HOKM := Lib.hid hokm; have HMB := Lib.hid hmb; have HRL5 := Lib.hid (HRL4.out.kept hb5); clear hb5 hrm hokm hmb)) | (go_at_call 24; refine (HS2.out _ (HP.out.below HB5.out)).mono ?_; go_must (rintro e w6 ⟨rfl, hb6⟩; have HB8 := Lib.hid (below_at HB5.out HB5.out.size hb6); have HRL8 := Lib.hid (HRL5.out.kept hb6); have HRM8 := Lib.hid (HRM.out.kept hb6); clear hb6)))
      have hal : a < p.length := HAB.out.1
      have hbl : b < p.length := HAB.out.2
      have hla : a < l.length := by rw [HOKL.out.len]; exact hal
      have hlb2 : b < l.length := by rw [HOKL.out.len]; exact hbl
      have HSR := Lib.hid (swap_run HX4.out HE.out HOKL.out HOKM.out hla hlb2)
      have hia := fun V => idx_of (P := Try.prog) un_int sz_int1 lb 0 p.length p.length a hal V
      have hib := fun V => idx_of (P := Try.prog) un_int sz_int1 lb 0 p.length p.length b hbl V
      simp only [Nat.one_mul, Nat.zero_add] at hia hib
      have hlm : lb ≠ mb := by have := HRL4.out.lt; have := HMB.out; omega
      have hw8 : W0.heap.size ≤ lb := by have := HLB.out; have := HB2.out.size; omega
      have haz : (a : Int) < (p.length : Int) := by omega
      have hbz : (b : Int) < (p.length : Int) := by omega
      have HLM := Lib.hid HOKM.out.len
      have hpq4 : q4.length = p.length := HX4.out.len
      have HPQ := Lib.hid hpq4
      clear hpq4 hal hbl
      by_cases hab : a = b
      · subst hab
        have ca := HRL8.out.cell a hla
        have fa := HRL8.out.free a hla
        have HRF := Lib.hid (show ∀ V, RowI V lb ((l.set a l[a]).set a l[a]) → RowI V lb m from fun V h => by rwa [HSR.out] at h)
        have HLA := Lib.hid hla
        generalize l[a] = xa at *
        clear hla hlb2
        go_big_region
        all_goals (have R1 := Lib.hid (show RowI ((w6.setCell ⟨lb, a, none⟩ (.int .i64 xa)).setCell ⟨lb, a, none⟩ (.int .i64 xa)).drew lb m from HRF.out _ (RowI.drew ((HRL8.out.set a HLA.out xa).set a (by simpa using HLA.out) xa))); have R2 := Lib.hid (show RowI ((w6.setCell ⟨lb, a, none⟩ (.int .i64 xa)).setCell ⟨lb, a, none⟩ (.int .i64 xa)).drew mb m from RowI.drew ((HRM8.out.other _ _ _ hlm).other _ _ _ hlm)); have R3 := Lib.hid (show Below W0.heap.size W0 ((w6.setCell ⟨lb, a, none⟩ (.int .i64 xa)).setCell ⟨lb, a, none⟩ (.int .i64 xa)).drew by have := HB8.out; exact (by (repeat (first | (with_reducible refine Below.setCell ?_ (by first | (simp; done) | (simp; omega) | omega) _) | (with_reducible refine Below.drew ?_) | (with_reducible refine below_drewN ?_ _))); with_reducible exact this)); obtain ⟨V9, hV9⟩ : ∃ V, V = ((w6.setCell ⟨lb, a, none⟩ (.int .i64 xa)).setCell ⟨lb, a, none⟩ (.int .i64 xa)).drew := ⟨_, rfl⟩; rw [← hV9] at R1 R2 R3 ⊢; clear hV9)
        all_goals go_wp2_with (first | (go_at_call 16; refine (HSM2.out _ m _ _ (rows_sl R1.out (HLM.out.trans HPQ.out) hl6') (rows_sl R2.out (HLM.out.trans HPQ.out) hl6')).mono ?_; go_must (rintro e wA ⟨rfl, hbA⟩; have HBA := Lib.hid (below_at R3.out R3.out.size hbA); clear hbA)) | (go_at_call 11; refine (sane08 _).mono ?_; go_must (rintro e wB ⟨rfl, hbB⟩)))
        all_goals go_ret
        all_goals exact ⟨rfl, HFB.out _ (below_at HBA.out HBA.out.size hbB)⟩
      · have ca := HRL8.out.cell a hla
        have fa := HRL8.out.free a hla
        have cb := HRL8.out.cell b hlb2
        have fb := HRL8.out.free b hlb2
        have HRF := Lib.hid (show ∀ V, RowI V lb ((l.set a l[b]).set b l[a]) → RowI V lb m from fun V h => by rwa [HSR.out] at h)
        have HRG := Lib.hid (show ∀ V, RowI V lb ((l.set b l[a]).set a l[b]) → RowI V lb m from fun V h => by rw [← List.set_comm _ _ hab] at h; rwa [HSR.out] at h)
        have HLA := Lib.hid (⟨hla, hlb2⟩ : a < l.length ∧ b < l.length)
        generalize l[a] = xa at *
        generalize l[b] = xb at *
        have z1 : (a = b) = False := eq_false hab
        have z2 : (b = a) = False := eq_false (fun e => hab e.symm)
        clear hla hlb2 hab
        go_big_region
        all_goals first | (have R1 := Lib.hid (show RowI ((w6.setCell ⟨lb, a, none⟩ (.int .i64 xb)).setCell ⟨lb, b, none⟩ (.int .i64 xa)).drew lb m from HRF.out _ (RowI.drew ((HRL8.out.set a HLA.out.1 xb).set b (by simpa using HLA.out.2) xa))); have R2 := Lib.hid (show RowI ((w6.setCell ⟨lb, a, none⟩ (.int .i64 xb)).setCell ⟨lb, b, none⟩ (.int .i64 xa)).drew mb m from RowI.drew ((HRM8.out.other _ _ _ hlm).other _ _ _ hlm)); have R3 := Lib.hid (show Below W0.heap.size W0 ((w6.setCell ⟨lb, a, none⟩ (.int .i64 xb)).setCell ⟨lb, b, none⟩ (.int .i64 xa)).drew by have := HB8.out; exact (by (repeat (first | (with_reducible refine Below.setCell ?_ (by first | (simp; done) | (simp; omega) | omega) _) | (with_reducible refine Below.drew ?_) | (with_reducible refine below_drewN ?_ _))); with_reducible exact this)); obtain ⟨V9, hV9⟩ : ∃ V, V = ((w6.setCell ⟨lb, a, none⟩ (.int .i64 xb)).setCell ⟨lb, b, none⟩ (.int .i64 xa)).drew := ⟨_, rfl⟩; rw [← hV9] at R1 R2 R3 ⊢; clear hV9) | (have R1 := Lib.hid (show RowI ((w6.setCell ⟨lb, b, none⟩ (.int .i64 xa)).setCell ⟨lb, a, none⟩ (.int .i64 xb)).drew lb m from HRG.out _ (RowI.drew ((HRL8.out.set b HLA.out.2 xa).set a (by simpa using HLA.out.1) xb))); have R2 := Lib.hid (show RowI ((w6.setCell ⟨lb, b, none⟩ (.int .i64 xa)).setCell ⟨lb, a, none⟩ (.int .i64 xb)).drew mb m from RowI.drew ((HRM8.out.other _ _ _ hlm).other _ _ _ hlm)); have R3 := Lib.hid (show Below W0.heap.size W0 ((w6.setCell ⟨lb, b, none⟩ (.int .i64 xa)).setCell ⟨lb, a, none⟩ (.int .i64 xb)).drew by have := HB8.out; exact (by (repeat (first | (with_reducible refine Below.setCell ?_ (by first | (simp; done) | (simp; omega) | omega) _) | (with_reducible refine Below.drew ?_) | (with_reducible refine below_drewN ?_ _))); with_reducible exact this)); obtain ⟨V9, hV9⟩ : ∃ V, V = ((w6.setCell ⟨lb, b, none⟩ (.int .i64 xa)).setCell ⟨lb, a, none⟩ (.int .i64 xb)).drew := ⟨_, rfl⟩; rw [← hV9] at R1 R2 R3 ⊢; clear hV9)
        all_goals go_wp2_with (first | (go_at_call 16; refine (HSM2.out _ m _ _ (rows_sl R1.out (HLM.out.trans HPQ.out) hl6') (rows_sl R2.out (HLM.out.trans HPQ.out) hl6')).mono ?_; go_must (rintro e wA ⟨rfl, hbA⟩; have HBA := Lib.hid (below_at R3.out R3.out.size hbA); clear hbA)) | (go_at_call 11; refine (sane08 _).mono ?_; go_must (rintro e wB ⟨rfl, hbB⟩)))
        all_goals go_ret
        all_goals exact ⟨rfl, HFB.out _ (below_at HBA.out HBA.out.size hbB)⟩
  · have HE := Lib.hid (show runErr p = 81 ∨ runErr p = 82 by
      have h1 := he
      unfold runErr at h1 ⊢
      rw [HV.out, if_pos rfl] at h1 ⊢
      split
      · exact .inl rfl
      · rename_i hm
        rw [if_neg hm] at h1
        split
        · rename_i hw; rw [if_pos hw] at h1; exact absurd rfl h1
        · exact .inr rfl)
    have HR1 := Lib.hid (fun (W : World) (h : ProgRd W (.slice pa p.length pc) p) => run_e p _ rfl he _ W h)
    have HR2 := Lib.hid (fun q (hx : Exch a b p q) v' W (h : ProgRd W v' q) => run_e q (runErr p) hx.err he v' W h)
    have HR3 := Lib.hid (fun q (ht : runErr q = runErr p) v' W (h : ProgRd W v' q) => run_e q (runErr p) ht he v' W h)
    have HSM := Lib.hid (fun (W : World) => by have := same8_l [] [] W (.slice none 0 0) (.slice none 0 0) (Sl.nil _ _ _) (Sl.nil _ _ _); rwa [decide_eq_true rfl] at this)
    have hez : (runErr p != 0) = true := by simpa using he
    have hee : (runErr p == 0) = false := by simpa using he
    have hex : (runErr p != runErr p) = false := by simp
    clear he
    have hs0 := hshe
    have HS2 := Lib.hid (show (∀ (W : World) (h : ProgRd W (.slice pa p.length pc) p), Calls Try.prog 24 #[.slice pa p.length pc, .int .i64 z] W fun e w' => (∃ v' q, e = .returned (.tuple #[v', .int .i64 0]) ∧ ProgRd w' v' q ∧ runErr q = runErr p) ∧ Below W.heap.size W w') ∨ (∀ (W : World) (h : ProgRd W (.slice pa p.length pc) p), Calls Try.prog 24 #[.slice pa p.length pc, .int .i64 z] W fun e w' => e = .returned (.tuple #[.slice none 0 0, .int .i64 2]) ∧ Below W.heap.size W w') by
      rcases hs0 with hs0 | hs0
      · left
        intro W h
        refine (HSH.out W h).mono (fun e w' k => ⟨?_, k.2⟩)
        have h1 := k.1; unfold ShiftR at h1; rw [if_pos hs0] at h1
        obtain ⟨v', q, he, ho, ht⟩ := h1
        have hl : Later z p q := ht.later
        have hsb : shB p z = true := by
          cases hc : shB p z
          · unfold shErr at hs0; rw [HV.out, if_pos rfl, hc] at hs0; simp at hs0
          · rfl
        exact ⟨v', q, he, ho.rd, hl.err HV.out (fun i hi => by rw [(hl.at_ i hi (by rw [← hl.len]; exact hi)).1]; exact shB_iff.1 hsb i (by rw [← hl.len]; exact hi))⟩
      · right
        intro W h
        refine (HSH.out W h).mono (fun e w' k => ⟨?_, k.2⟩)
        have h1 := k.1; unfold ShiftR at h1; rw [hs0, if_neg (by omega)] at h1
        exact h1)
    have hl6' : p.length ≤ 1000000 := by omega
    clear hs0 HSH hshe
    have HS3 := HS2.out
    clear HS2
    generalize runErr p = E at *
    rcases HE.out with rfl | rfl
    all_goals rcases HS3 with hs2 | hs2
    all_goals have HS2 := Lib.hid hs2
    all_goals clear hs2
    iterate 2
      ·
        go_enter Try.func6, Try.ntmps6
        go_wp2_with fail
        rw [HW0.out]
        go_wp2_with (first | (go_at_call 10; refine HWD.out.mono ?_; go_must (rintro e w1 ⟨rfl, hb1⟩; have HB1 := Lib.hid hb1; clear hb1)) | (go_at_call 17; refine (HVD.out _ (HP.out.below HB1.out)).mono ?_; go_must (rintro e w2 ⟨rfl, hb2⟩; have HB2 := Lib.hid (below_at HB1.out HB1.out.size hb2); clear hb2)) | (go_at_call 12; refine (HR1.out _ (HP.out.below HB2.out)).mono ?_; clear HR1; go_must (rintro e w3 ⟨rfl, hb3⟩; have HB3 := Lib.hid (below_at HB2.out HB2.out.size hb3); clear hb3)))
        obtain ⟨c0, c1⟩ := RD0.out w3 HB3.out
        obtain ⟨hxa, hyb, wx, wy⟩ := HXA.out
        go_quiet (fail)
        clear c0 c1 hxa hyb wx wy
        have HB3 := Lib.hid (below_drewN HB3.out nq)
        generalize w3.drewN nq = w3' at *
        go_wp2_with (first | (go_at_call 23; refine (HSW.out _ (HP.out.below HB3.out)).mono ?_; go_must (rintro e w4 ⟨⟨v4, q4, rfl, ho4, hx4⟩, hb4⟩; have HB4 := Lib.hid (below_at HB3.out HB3.out.size hb4); have HX4 := Lib.hid hx4; have HQ4 := Lib.hid ho4.rd; clear hb4 ho4 hx4)) | (go_at_call 12; refine (HR2.out q4 HX4.out _ _ HQ4.out).mono ?_; clear HR2; go_must (rintro e w5 ⟨rfl, hb5⟩; have HB5 := Lib.hid (below_at HB4.out HB4.out.size hb5); clear hb5)) | (go_at_call 24; refine (HS2.out _ (HP.out.below HB5.out)).mono ?_; go_must (rintro e w6 ⟨⟨v6, q6, rfl, hq6, ht6⟩, hb6⟩; have HB6 := Lib.hid (below_at HB5.out HB5.out.size hb6); have HQ6 := Lib.hid hq6; have HT6 := Lib.hid ht6; clear hb6 hq6 ht6)) | (go_at_call 12; refine (HR3.out q6 HT6.out _ _ HQ6.out).mono ?_; go_must (rintro e w7 ⟨rfl, hb7⟩; have HB7 := Lib.hid (below_at HB6.out HB6.out.size hb7); clear hb7)) | (go_at_call 16; refine (HSM.out _).mono ?_; go_must (rintro e w8 ⟨rfl, hb8⟩; have HB8 := Lib.hid (below_at HB7.out HB7.out.size hb8); clear hb8)) | (go_at_call 11; refine (sane08 _).mono ?_; go_must (rintro e w9 ⟨rfl, hb9⟩)))
        go_ret
        exact ⟨rfl, HFB.out _ (below_at HB8.out HB8.out.size hb9)⟩
      ·
        go_enter Try.func6, Try.ntmps6
        go_wp2_with fail
        rw [HW0.out]
        go_wp2_with (first | (go_at_call 10; refine HWD.out.mono ?_; go_must (rintro e w1 ⟨rfl, hb1⟩; have HB1 := Lib.hid hb1; clear hb1)) | (go_at_call 17; refine (HVD.out _ (HP.out.below HB1.out)).mono ?_; go_must (rintro e w2 ⟨rfl, hb2⟩; have HB2 := Lib.hid (below_at HB1.out HB1.out.size hb2); clear hb2)) | (go_at_call 12; refine (HR1.out _ (HP.out.below HB2.out)).mono ?_; clear HR1; go_must (rintro e w3 ⟨rfl, hb3⟩; have HB3 := Lib.hid (below_at HB2.out HB2.out.size hb3); clear hb3)))
        obtain ⟨c0, c1⟩ := RD0.out w3 HB3.out
        obtain ⟨hxa, hyb, wx, wy⟩ := HXA.out
        go_quiet (fail)
        clear c0 c1 hxa hyb wx wy
        have HB3 := Lib.hid (below_drewN HB3.out nq)
        generalize w3.drewN nq = w3' at *
        go_wp2_with (first | (go_at_call 23; refine (HSW.out _ (HP.out.below HB3.out)).mono ?_; go_must (rintro e w4 ⟨⟨v4, q4, rfl, ho4, hx4⟩, hb4⟩; have HB4 := Lib.hid (below_at HB3.out HB3.out.size hb4); have HX4 := Lib.hid hx4; have HQ4 := Lib.hid ho4.rd; clear hb4 ho4 hx4)) | (go_at_call 12; refine (HR2.out q4 HX4.out _ _ HQ4.out).mono ?_; clear HR2; go_must (rintro e w5 ⟨rfl, hb5⟩; have HB5 := Lib.hid (below_at HB4.out HB4.out.size hb5); clear hb5)) | (go_at_call 24; refine (HS2.out _ (HP.out.below HB5.out)).mono ?_; go_must (rintro e w6 ⟨rfl, hb6⟩; have HB8 := Lib.hid (below_at HB5.out HB5.out.size hb6); clear hb6)) | (go_at_call 11; refine (sane08 _).mono ?_; go_must (rintro e w9 ⟨rfl, hb9⟩)))
        go_ret
        exact ⟨rfl, HFB.out _ (below_at HB8.out HB8.out.size hb9)⟩
end Go.Proofs.Ytbjbdochffocoaa
