/- Package mach: run: its walk. -/
import Derived.Test.YtbjbdochffocoaaMachJ
namespace Go.Proofs.Ytbjbdochffocoaa
open Go.RowKit Go.Lib
set_option linter.unusedVariables false
/-- The values of the first k operations of an order are right. -/
def DoneTo (p : List OpD) (L : List Nat) (k : Nat) (l : List Int) : Prop := ∀ j (hj : j < k) (h1 : j < L.length) (h2 : L[j] < p.length), l.getD L[j] 0 = valO (fun i => l.getD i 0) p[L[j]]
theorem getD_set (l : List Int) (i j : Nat) (x : Int) (h : i ≠ j) : (l.set i x).getD j 0 = l.getD j 0 := by
  simp [List.getD_eq_getElem?_getD, List.getElem?_set_ne h]
theorem getD_set_self (l : List Int) (i : Nat) (x : Int) (h : i < l.length) : (l.set i x).getD i 0 = x := by
  simp [List.getD_eq_getElem?_getD, List.getElem?_set_self h]
theorem ord_src {p : List OpD} {L : List Nat} (hL : OrdL (timeP p) p.length L) (hr : Ready p) {k : Nat} (hk : k < L.length) {s : SrcD} (h2 : L[k] < p.length) (hs : s ∈ p[L[k]].src) (h0 : 0 ≤ s.op) : ∃ j, ∃ (h : j < L.length), j < k ∧ L[j] = s.op.toNat := by
  obtain ⟨r1, r2⟩ := hr _ h2 s hs h0
  obtain ⟨j, hj, e⟩ := List.getElem_of_mem ((hL.mem s.op.toNat).2 r1)
  refine ⟨j, hj, ?_, e⟩
  rw [← timeP_at h2] at r2
  rcases Nat.lt_trichotomy j k with h | h | h
  · exact h
  · subst h; rw [e] at r2; omega
  · have := List.pairwise_iff_getElem.1 hL.srt k j hk hj h
    rw [e] at this; omega
theorem ord_ne {p : List OpD} {L : List Nat} (hL : OrdL (timeP p) p.length L) {j k : Nat} (hj : j < L.length) (hk : k < L.length) (h : j < k) : L[j] ≠ L[k] := by
  have := List.pairwise_iff_getElem.1 hL.srt j k hj hk h
  intro e; rw [e] at this; omega
theorem done_step {p : List OpD} {L : List Nat} (hL : OrdL (timeP p) p.length L) (hr : Ready p) {k : Nat} (hk : k < L.length) (h2 : L[k] < p.length) {l : List Int} (hl : l.length = p.length) (hd : DoneTo p L k l) : DoneTo p L (k + 1) (l.set L[k] (valO (fun i => l.getD i 0) p[L[k]])) := by
  intro j hj h1 h3
  have key : ∀ (m : Nat) (hm : m < L.length) (h4 : L[m] < p.length), m ≤ k → valO (fun i => (l.set L[k] (valO (fun i => l.getD i 0) p[L[k]])).getD i 0) p[L[m]] = valO (fun i => l.getD i 0) p[L[m]] := fun m hm h4 hmk => by
    refine valO_eq (fun s hs h0 => ?_)
    obtain ⟨q, hq, hqm, e⟩ := ord_src hL hr hm h4 hs h0
    rw [← e]
    exact getD_set _ _ _ _ (fun e' => ord_ne hL hq hk (by omega) e'.symm)
  by_cases e : j = k
  · subst e
    rw [getD_set_self _ _ _ (by omega), key j h1 h3 (Nat.le_refl _)]
  · rw [getD_set _ _ _ _ (fun e' => ord_ne hL h1 hk (by omega) e'.symm), key j h1 h3 (by omega)]
    exact hd j (by omega) h1 h3
theorem done_all {p : List OpD} {L : List Nat} (hL : OrdL (timeP p) p.length L) {l : List Int} (hl : l.length = p.length) (hd : DoneTo p L L.length l) : RunOk p l := by
  refine ⟨hl, fun i hi => ?_⟩
  obtain ⟨j, hj, rfl⟩ := List.getElem_of_mem ((hL.mem i).2 hi)
  exact hd j hj hj hi
/-- The three values that an operation gets, the first j of them in place. -/
def vL (v : Nat → Int) (src : List SrcD) (j : Nat) : List Int := [((src.map (srcV v)).take j).getD 0 0, ((src.map (srcV v)).take j).getD 1 0, ((src.map (srcV v)).take j).getD 2 0]
theorem vL_set (v : Nat → Int) (src : List SrcD) (j : Nat) (hj : j < src.length) (h3 : src.length ≤ 3) : (vL v src j).set j (srcV v src[j]) = vL v src (j + 1) := by
  have e : (src.map (srcV v)).take (j + 1) = (src.map (srcV v)).take j ++ [srcV v src[j]] := by
    rw [List.take_succ_eq_append_getElem (by simpa using hj)]; simp
  have hl : ((src.map (srcV v)).take j).length = j := by simp; omega
  unfold vL
  rw [e]
  generalize (src.map (srcV v)).take j = m at *
  generalize srcV v src[j] = x at *
  obtain rfl | rfl | rfl : j = 0 ∨ j = 1 ∨ j = 2 := by omega
  · match m, hl with
    | [], _ => rfl
  · match m, hl with
    | [a], _ => rfl
  · match m, hl with
    | [a, b], _ => rfl
theorem vL_zero (v : Nat → Int) (src : List SrcD) : vL v src 0 = [0, 0, 0] := by simp [vL]
theorem vL_all (v : Nat → Int) (src : List SrcD) : vL v src src.length = [(src.map (srcV v)).getD 0 0, (src.map (srcV v)).getD 1 0, (src.map (srcV v)).getD 2 0] := by
  unfold vL; rw [show (src.map (srcV v)).take src.length = src.map (srcV v) from List.take_of_length_le (by simp)]
theorem un_a3 : Try.prog.underlying 70 = some (.array 3 3) := Try.underlying70
theorem ix3v (b j : Nat) (hj : j < 3) (W : World) : (Instr.indexAt 70 (.pointer (some ⟨b, 0, none⟩)) (.int .i64 (j : Int))).run Try.prog W = .ok (.pointer (some ⟨b, j, none⟩)) W := by
  obtain rfl | rfl | rfl : j = 0 ∨ j = 1 ∨ j = 2 := by omega
  all_goals rfl
theorem doK_bd {k a b c : Int} (hk : needK k ≠ 0) (ha : 0 ≤ a ∧ a ≤ 10006) (hb : 0 ≤ b ∧ b ≤ 10006) (hc : 0 ≤ c ∧ c ≤ 10006) : 0 ≤ doK k a b c ∧ doK k a b c ≤ 1000000000 := by
  have h1 := prod_bd ha hb
  have h2 := prod_bd hb hc
  unfold doK
  rcases need_cases hk with rfl | rfl | rfl | rfl | rfl | rfl | rfl <;> simp <;> omega
theorem srcV_bd {p : List OpD} (hv : validP p = true) {l : List Int} (hl : ∀ i, 0 ≤ l.getD i 0 ∧ l.getD i 0 ≤ 10006) {i : Nat} (hi : i < p.length) (m : Nat) : 0 ≤ (p[i].src.map (srcV fun i => l.getD i 0)).getD m 0 ∧ (p[i].src.map (srcV fun i => l.getD i 0)).getD m 0 ≤ 10006 := by
  rw [List.getD_eq_getElem?_getD]
  cases h : (p[i].src.map (srcV fun i => l.getD i 0))[m]? with
  | none => simp
  | some x =>
    rw [List.getElem?_map, Option.map_eq_some_iff] at h
    obtain ⟨s, hs, rfl⟩ := h
    simp only [Option.getD_some]
    unfold srcV
    split
    · have := src_const ((valid_at hv hi).2 s (List.mem_of_getElem? hs)) (by omega); omega
    · exact hl _
theorem row3_new (w : World) : RowI (w.alloc (Obj.cells #[.int .i64 0, .int .i64 0, .int .i64 0] 70)) w.heap.size [0, 0, 0] := by
  refine ⟨by simp, fun i hi => ?_, fun i hi => by go_simp⟩
  have : i = 0 ∨ i = 1 ∨ i = 2 := by simp at hi; omega
  rcases this with rfl | rfl | rfl <;> go_simp
set_option maxHeartbeats 16000000 in
set_option maxRecDepth 100000 in
theorem run_l (p : List OpD) (hv : validP p = true) (hw : waitsP p = []) (v : Value) (w : World) (hp : ProgRd w v p) : Calls Try.prog 38 #[v] w fun e w' => (∃ l, RunOk p l ∧ RowR w l e w') ∧ Below w.heap.size w w' := by
  have HP := Lib.hid hp
  have hr := ready_of hv hw
  have hl4 := (small_of hv).len
  obtain ⟨a, cap, g, off, rfl, hl, hm, hat⟩ := ops_at hp
  have HX := Lib.hid hat
  have HV := Lib.hid hv; have HRD := Lib.hid hr
  obtain ⟨Z, hmk, hrow⟩ := make_ints p.length (by omega)
  have HRW := Lib.hid hrow
  have HOD := Lib.hid (fun (W : World) (h : ProgRd W (.slice a p.length cap) p) => (ordered_l p _ W h (by omega)).mono (fun e w' q => (⟨by
    obtain ⟨L, hL, b, he, hb, hR⟩ := q.1
    have : (L.map fun i : Nat => (i : Int)).length = p.length := by rw [List.length_map, hL.len]
    rw [this] at he
    exact ⟨L, hL, b, he, hb, hR⟩, q.2⟩ : (∃ L, OrdL (timeP p) p.length L ∧ ∃ b, e = .returned (.slice (some ⟨b, 0, none⟩) p.length p.length) ∧ W.heap.size ≤ b ∧ RowI w' b (L.map fun i : Nat => (i : Int))) ∧ Below W.heap.size W w')))
  clear hp hat hv hr hw hrow
  have hln : (p.length : Int) ≤ 1000000 := by omega
  go_enter Try.func38, Try.ntmps38
  go_wp2_with (go_at_call 51; refine (HOD.out _ (HP.out.below ((Below.refl _ _).alloc (Nat.le_refl _) _))).mono ?_; go_must (rintro e w2 ⟨⟨L, hL, lb, rfl, hlb, hR⟩, hb2⟩; have HL := Lib.hid hL; have HR := Lib.hid hR; have HB2 := Lib.hid hb2; clear hL hR hb2))
  have hs2 := HB2.out.size
  simp at hs2
  have hlb1 : w.heap.size + 1 ≤ lb := by simpa using hlb
  clear hlb hmk
  have HR0 := Lib.hid ((HRW.out w).kept HB2.out)
  have HBW := Lib.hid (show Below w.heap.size w w2 from ((Below.refl _ _).alloc (Nat.le_refl _) _).trans (HB2.out.mono (by simp)))
  have HLL := Lib.hid HL.out.len
  clear HB2 HRW
  go_loopw [17] (fun t17 wr => ∃ (k : Nat) (l : List Int), k ≤ p.length ∧ t17 = .int .i64 (k : Nat) ∧ Hid (l.length = p.length ∧ DoneTo p L k l ∧ ∀ i, 0 ≤ l.getD i 0 ∧ l.getD i 0 ≤ 10006) ∧ Hid (RowI wr w.heap.size l ∧ RowI wr lb (L.map fun i : Nat => (i : Int))) ∧ Below w.heap.size w wr) (fun t17 _ => p.length - (intOf t17).toNat)
  case atStart => exact ⟨0, _, Nat.zero_le _, rfl, Lib.hid ⟨by simp, fun j hj => by omega, fun i => by simp [List.getD_eq_getElem?_getD, List.getElem?_replicate]; split <;> simp⟩, Lib.hid ⟨HR0.out, HR.out⟩, HBW.out⟩
  case round =>
    obtain ⟨k, l, hk, rfl, HD, HRR, hb⟩ := hrel
    have hs := hb.size
    by_cases hlt : k < p.length
    rotate_left
    · have hke : k = p.length := by omega
      have hlz : ¬ (k : Int) < (p.length : Int) := by omega
      have HRN := Lib.hid (done_all HL.out HD.out.1 (by have := HD.out.2.1; rwa [hke, ← HLL.out] at this))
      have HLE := Lib.hid HD.out.1
      clear hke hlt
      go_wp2
      go_ret
      exact ⟨⟨l, HRN.out, w.heap.size, by rw [HLE.out]; rfl, Nat.le_refl _, HRR.out.1⟩, hb⟩
    have hlz : (k : Int) < (p.length : Int) := by omega
    have hkL : k < L.length := by rw [HLL.out]; exact hlt
    have hkp : L[k] < p.length := (HL.out.mem _).1 (List.getElem_mem hkL)
    have hi1 := fun W => idx_of (P := Try.prog) un_int sz_int1 lb 0 p.length p.length k hlt W
    have hi2 := fun W => idx_of (P := Try.prog) un_int sz_int1 w.heap.size 0 p.length p.length L[k] hkp W
    simp only [Nat.one_mul, Nat.zero_add] at hi1 hi2
    have e1 := HRR.out.2.cell k (by simpa using hkL)
    simp only [List.getElem_map] at e1
    obtain ⟨hix, hg, q0, q1, q2, q3, q4, q5⟩ := HX.out L[k] hkp
    have r4 := (hb.cell (p := ⟨g, off + 6 * L[k] + 4, none⟩) hg).trans q4
    have r5 := (hb.cell (p := ⟨g, off + 6 * L[k] + 5, none⟩) hg).trans q5
    clear q0 q1 q2 q3 q4 q5
    have HST := Lib.hid (done_step HL.out HRD.out hkL hkp HD.out.1 HD.out.2.1)
    have HSB := Lib.hid (fun m => srcV_bd HV.out HD.out.2.2 hkp m)
    have HVB := Lib.hid (show 0 ≤ valO (fun i => l.getD i 0) p[L[k]] ∧ valO (fun i => l.getD i 0) p[L[k]] ≤ 10006 from by have := valO_bd (fun i => l.getD i 0) p[L[k]]; omega)
    have HVA := Lib.hid (show valO (fun i => l.getD i 0) p[L[k]] = doK p[L[k]].kind ((p[L[k]].src.map (srcV fun i => l.getD i 0)).getD 0 0) ((p[L[k]].src.map (srcV fun i => l.getD i 0)).getD 1 0) ((p[L[k]].src.map (srcV fun i => l.getD i 0)).getD 2 0) % 10007 from rfl)
    have HSRC := Lib.hid (fun s (hs : s ∈ p[L[k]].src) => (valid_at HV.out hkp).2 s hs)
    have hhd := (valid_at HV.out hkp).1
    have HSL := Lib.hid (HP.out.each p[L[k]] (List.getElem_mem hkp))
    have HLT := Lib.hid hlt
    have hLk0 : (0 : Int) ≤ (L[k] : Int) := by omega
    have hLkn : (L[k] : Int) < (p.length : Int) := by omega
    generalize hLK : L[k] = i at *
    clear hLK
    have HDU := Lib.hid (show ∀ vv : Int, vv = valO (fun i => l.getD i 0) p[i] → (0 ≤ vv ∧ vv ≤ 10006) → (l.set i vv).length = p.length ∧ DoneTo p L (k + 1) (l.set i vv) ∧ ∀ j, 0 ≤ (l.set i vv).getD j 0 ∧ (l.set i vv).getD j 0 ≤ 10006 from fun vv e hb => ⟨by rw [List.length_set]; exact HD.out.1, by rw [e]; exact HST.out, fun j => by
      by_cases ej : i = j
      · subst ej; rw [getD_set_self _ _ _ (by rw [HD.out.1]; exact hkp)]; exact hb
      · rw [getD_set _ _ _ _ ej]; exact HD.out.2.2 j⟩)
    clear HST
    obtain ⟨⟨hk1, hk2⟩, -⟩ : ((needK p[i].kind ≠ 0 ∧ ((p[i].src.length : Int) = needK p[i].kind)) ∧ True) := by
      simp only [headB, Bool.and_eq_true, decide_eq_true_eq] at hhd
      exact ⟨hhd.1.1, trivial⟩
    have hk3 : p[i].src.length ≤ 3 := by
      rcases need_cases hk1 with e | e | e | e | e | e | e <;> rw [e] at hk2 <;> simp [needK] at hk2 <;> omega
    clear hhd hk2
    generalize p[i] = o at *
    obtain ⟨t, ⟨c0, c1⟩, u, kd, fv, src⟩ := o
    simp only at r4 r5 HSB HVA HVB HSRC HSL hk1 hk3 HDU
    obtain ⟨fa, fc, fg, fo, rfl, hfl, hfm, hfx⟩ := src_at HSL.out
    have HFX := Lib.hid hfx; clear hfx
    generalize hvv : valO (fun i => l.getD i 0) ⟨t, (c0, c1), u, kd, .slice fa src.length fc, src⟩ = vv at *
    have HDV := Lib.hid (HDU.out vv rfl HVB.out)
    clear hvv HDU
    have HN := Lib.hid (fun W => (needs_l kd W).mono (fun e w' q => (⟨by have := q.1; unfold NeedR at this; rwa [if_neg hk1] at this, q.2⟩ : (∃ fn, e = .returned (.tuple #[.int .i64 (needK kd), .func (.func fn) #[] #[]]) ∧ Does fn kd) ∧ w' = W)))
    have HDB := Lib.hid (doK_bd hk1 (HSB.out 0) (HSB.out 1) (HSB.out 2))
    have HVA2 := Lib.hid (vL_all (fun i => l.getD i 0) src)
    have HV0 := Lib.hid (vL_zero (fun i => l.getD i 0) src)
    have HVS := Lib.hid (fun j hj => vL_set (fun i => l.getD i 0) src j hj hk3)
    have hob : w.heap.size + 1 ≤ wr.heap.size := HRR.out.1.lt
    have hlbw : lb < wr.heap.size := HRR.out.2.lt
    obtain ⟨wo, hwo⟩ : ∃ x : World, x = wr := ⟨_, rfl⟩
    subst hwo
    have hzg := z1 (show g + 1 ≤ wo.heap.size by omega)
    go_wp2_with fail
    clear r5 e1
    go_loopw [27] (fun t27 wq => ∃ j : Nat, j ≤ src.length ∧ t27 = .int .i64 (j : Nat) ∧ Hid (RowI wq wo.heap.size (vL (fun i => l.getD i 0) src j)) ∧ Below wo.heap.size wo wq) (fun t27 _ => src.length - (intOf t27).toNat)
    case atStart => exact ⟨0, Nat.zero_le _, rfl, Lib.hid (by rw [HV0.out]; exact row3_new _), (Below.refl _ _).alloc (Nat.le_refl _) _⟩
    case round =>
      obtain ⟨j, hj, rfl, HR3, hbq⟩ := hrel
      have hsq := hbq.size
      have hvlt := HR3.out.lt
      have hz1 := z1 (show wo.heap.size + 1 ≤ wr.heap.size by omega)
      have hz2 := z1 hob
      have HOB := Lib.hid (HRR.out.1.kept hbq)
      by_cases hltj : j < src.length
      rotate_left
      · have hje : j = src.length := by omega
        have hlz2 : ¬ (j : Int) < (src.length : Int) := by omega
        rw [hje, HVA2.out] at HR3
        clear hje hltj
        have x0 := HR3.out.cell 0 (by simp)
        have x1 := HR3.out.cell 1 (by simp)
        have x2 := HR3.out.cell 2 (by simp)
        simp only [List.getElem_cons_zero, List.getElem_cons_succ] at x0 x1 x2
        have n0 : ∀ W, (Instr.indexAt 70 (.pointer (some ⟨wo.heap.size, 0, none⟩)) (.int .i64 0)).run Try.prog W = .ok (.pointer (some ⟨wo.heap.size, 0, none⟩)) W := fun W => ix3v wo.heap.size 0 (by omega) W
        have n1 : ∀ W, (Instr.indexAt 70 (.pointer (some ⟨wo.heap.size, 0, none⟩)) (.int .i64 1)).run Try.prog W = .ok (.pointer (some ⟨wo.heap.size, 1, none⟩)) W := fun W => ix3v wo.heap.size 1 (by omega) W
        have n2 : ∀ W, (Instr.indexAt 70 (.pointer (some ⟨wo.heap.size, 0, none⟩)) (.int .i64 2)).run Try.prog W = .ok (.pointer (some ⟨wo.heap.size, 2, none⟩)) W := fun W => ix3v wo.heap.size 2 (by omega) W
        have r4q := (hbq.cell (p := ⟨g, off + 6 * i + 4, none⟩) (show g < wo.heap.size by omega)).trans r4
        have oc := HOB.out.cell i (by rw [HD.out.1]; exact hkp)
        have of := HOB.out.free i (by rw [HD.out.1]; exact hkp)
        generalize l[i]'(by rw [HD.out.1]; exact hkp) = old at *
        have HB0 := Lib.hid (HSB.out 0); have HB1 := Lib.hid (HSB.out 1); have HB2 := Lib.hid (HSB.out 2)
        have hdb := HDB.out
        generalize (src.map (srcV fun i => l.getD i 0)).getD 0 0 = a0 at *
        generalize (src.map (srcV fun i => l.getD i 0)).getD 1 0 = a1 at *
        generalize (src.map (srcV fun i => l.getD i 0)).getD 2 0 = a2 at *
        generalize hdk : doK kd a0 a1 a2 = dk at *
        have HDK := Lib.hid hdk; clear hdk
        obtain ⟨hd1, hd2⟩ := hdb
        go_wp2_with (first | (go_at_call 56; refine (HN.out _).mono ?_; go_must (rintro e w5 ⟨⟨fn, rfl, hdo⟩, rfl⟩; have eg := hdo.2; have HDO := Lib.hid (hdo.1 a0 a1 a2 HB0.out HB1.out HB2.out); clear hdo)) | (go_at_fn fn; refine (HDO.out _).mono ?_; go_must (rintro e w6 ⟨rfl, rfl⟩; rw [HDK.out])))
        go_roundw
        case rel => exact ⟨k + 1, l.set i vv, HLT.out, by simp, HDV, Lib.hid ⟨by rw [HVA.out]; exact HOB.out.set i (by rw [HD.out.1]; exact hkp) _, (HRR.out.2.kept hbq).other _ _ _ (by omega)⟩, (hb.trans (hbq.mono hs)).setCell (p := ⟨w.heap.size, i, none⟩) (Nat.le_refl _) _⟩
        case measure => simp only [intOf]; have := HLT.out; omega
      · have hlz2 : (j : Int) < (src.length : Int) := by omega
        have hj3 : j < 3 := by omega
        obtain ⟨hfi, hfg, s0, s1, s2⟩ := HFX.out j hltj
        have hbwq := hb.trans (hbq.mono hs)
        have y0 := (hbwq.cell (p := ⟨fg, fo + 3 * j, none⟩) hfg).trans s0
        have y1 := (hbwq.cell (p := ⟨fg, fo + 3 * j + 1, none⟩) hfg).trans s1
        have y2 := (hbwq.cell (p := ⟨fg, fo + 3 * j + 2, none⟩) hfg).trans s2
        clear s0 s1 s2
        have nj := fun W => ix3v wo.heap.size j hj3 W
        have vc := HR3.out.cell j (by simpa [vL] using hj3)
        have vf := HR3.out.free j (by simpa [vL] using hj3)
        generalize (vL (fun i => l.getD i 0) src j)[j]'(by simpa [vL] using hj3) = oldv at *
        have HVJ := Lib.hid (HVS.out j hltj)
        have hsr := HSRC.out src[j] (List.getElem_mem hltj)
        have HLJ := Lib.hid hltj
        have hvl3 : (vL (fun i => l.getD i 0) src j).length = 3 := rfl
        generalize src[j] = s at *
        obtain ⟨op, val, hops⟩ := s
        simp only at y0 y1 y2
        have hz3 := z1 (show w.heap.size + 1 ≤ wr.heap.size by omega)
        by_cases hop : op < 0
        · have hd : ¬ (0 : Int) ≤ op := by omega
          have HSV := Lib.hid (show srcV (fun i => l.getD i 0) ⟨op, val, hops⟩ = val by unfold srcV; rw [if_pos hop])
          clear hsr hop
          go_wp2
          go_roundw
          case rel => exact ⟨j + 1, HLJ.out, by simp, Lib.hid (by rw [← HVJ.out, HSV.out]; exact (HR3.out.set j (by rw [hvl3]; exact hj3) _).alloc _), (hbq.setCell (p := ⟨wo.heap.size, j, none⟩) (Nat.le_refl _) _).alloc (by simp; omega) _⟩
          case measure => simp only [intOf]; have := HLJ.out; omega
        · have hso := src_op hsr (show (0 : Int) ≤ op by omega)
          obtain ⟨q, rfl⟩ : ∃ q : Nat, op = (q : Int) := ⟨op.toNat, by omega⟩
          have hqn : q < p.length := by have := hso.1; simpa using this
          have hd : (0 : Int) ≤ (q : Int) := by omega
          have hi3 := fun W => idx_of (P := Try.prog) un_int sz_int1 w.heap.size 0 p.length p.length q hqn W
          simp only [Nat.one_mul, Nat.zero_add] at hi3
          have oq := HOB.out.cell q (by rw [HD.out.1]; exact hqn)
          have HSV := Lib.hid (show srcV (fun i => l.getD i 0) ⟨(q : Int), val, hops⟩ = l[q]'(by rw [HD.out.1]; exact hqn) by unfold srcV; rw [if_neg hop]; simp [List.getD_eq_getElem?_getD, List.getElem?_eq_getElem (show q < l.length by rw [HD.out.1]; exact hqn)])
          generalize l[q]'(by rw [HD.out.1]; exact hqn) = lq at *
          clear hsr hop hso
          go_wp2
          go_roundw
          case rel => exact ⟨j + 1, HLJ.out, by simp, Lib.hid (by rw [← HVJ.out, HSV.out]; have h := ((HR3.out.set j (by rw [hvl3]; exact hj3) val).set j (by rw [List.length_set, hvl3]; exact hj3) lq).alloc (Obj.cells #[.int .i64 (q : Int), .int .i64 val, .int .i64 hops] 52); rwa [List.set_set] at h), ((hbq.setCell (p := ⟨wo.heap.size, j, none⟩) (Nat.le_refl _) _).setCell (p := ⟨wo.heap.size, j, none⟩) (Nat.le_refl _) _).alloc (by simp; omega) _⟩
          case measure => simp only [intOf]; have := HLJ.out; omega
end Go.Proofs.Ytbjbdochffocoaa
