/- The reference's early: its walk. -/
import Derived.Test.YtbjbdochffocoaaEarB
namespace Go.Proofs.Ytbjbdochffocoaa
open Go.RowKit Go.Lib
set_option linter.unusedVariables false
def EarV (p : List OpD) (vb i : Nat) (l : List Int) (W : World) (e : Ending) (w' : World) : Prop := ∃ m, e = .returned (.int .i64 (m.getD i 0)) ∧ RowI w' vb m ∧ (PartE p m ∧ ExtV l m ∧ 0 ≤ m.getD i 0) ∧ Below vb W w' ∧ KeepS (fun b => b = vb) W.heap.size W w'
def EarQ (p : List OpD) (pv : Value) (w0 : World) (vb i : Nat) : Prop := ∀ (W : World) (l : List Int), Below w0.heap.size w0 W → RowI W vb l → PartE p l → Calls Try.prog 54 #[pv, .int .i64 (i : Int), .slice (some ⟨vb, 0, none⟩) p.length p.length] W (EarV p vb i l W)
set_option maxHeartbeats 16000000 in
set_option maxRecDepth 100000 in
theorem rearly_l (p : List OpD) (hv : validP p = true) (hr : Ready p) (pv : Value) (w0 : World) (hp : ProgRd w0 pv p) (vb : Nat) (hvb : w0.heap.size ≤ vb) : ∀ i, i < p.length → EarQ p pv w0 vb i := by
  refine ready_ind hr (fun i hi ih => ?_)
  intro W l hbw hrow hpart
  have HP := Lib.hid hp
  have HV := Lib.hid hv
  have HSM := Lib.hid (small_of hv)
  have HRY := Lib.hid hr
  have hl4 := (small_of hv).len
  obtain ⟨a, cap, g, off, rfl, hl, hm, hat⟩ := ops_at hp
  obtain ⟨hix, hg, q0, q1, q2, q3, q4, q5⟩ := hat i hi
  have HROW := Lib.hid hrow
  have HPT := Lib.hid hpart
  have HBW := Lib.hid hbw
  have HIH := Lib.hid ih
  have hvW : vb < W.heap.size := hrow.lt
  have hlen := hpart.len
  have oc := hrow.cell i (by rw [hlen]; exact hi)
  have HEA := Lib.hid (hpart.each i hi)
  have hge : l[i]'(by rw [hlen]; exact hi) = l.getD i 0 := by rw [List.getD_eq_getElem?_getD, List.getElem?_eq_getElem (by rw [hlen]; exact hi)]; rfl
  rw [hge] at oc
  have hiv := fun V => idx_of (P := Try.prog) un_int sz_int1 vb 0 p.length p.length i hi V
  simp only [Nat.one_mul, Nat.zero_add] at hiv
  have HI := Lib.hid hi
  have hil : (i : Int) < (p.length : Int) := by omega
  clear hge hlen hrow hpart hbw ih hp hv hr hat
  by_cases hpos : 0 ≤ l.getD i 0
  · have HR := Lib.hid (show EarV p vb i l W (.returned (.int .i64 (l.getD i 0))) W from ⟨l, rfl, HROW.out, ⟨HPT.out, ExtV.refl l, hpos⟩, Below.refl _ _, KeepS.refl _ _ _⟩)
    clear HEA
    generalize l.getD i 0 = x at *
    have hd : decide (0 ≤ x) = true := decide_eq_true hpos
    clear hpos q0 q1 q2 q3 q4 q5 hix
    go_enter Try.func54, Try.ntmps54
    go_wp2_with fail
    go_ret
    exact HR.out
  have hz : l.getD i 0 = -1 := by rcases HEA.out with h | h; exact h; omega
  rw [hz] at oc
  clear hpos hz HEA
  have HSRC := Lib.hid (fun s (hs : s ∈ p[i].src) => (valid_at HV.out hi).2 s hs)
  have HSL := Lib.hid (HP.out.each p[i] (List.getElem_mem hi))
  have HST := Lib.hid (fun (m : List Int) (h : PartE p m) (hs : ∀ s ∈ p[i].src, 0 ≤ s.op → 0 ≤ m.getD s.op.toNat 0) => h.put HSM.out HRY.out hi hs)
  have HAA := Lib.hid (fun (m : List Int) (hs : ∀ s ∈ p[i].src, 0 ≤ s.op → 0 ≤ m.getD s.op.toNat 0) => accE_all hs)
  have hti : -100000 ≤ p[i].t ∧ p[i].t ≤ 100000 := by have := HSM.out.time i; rwa [timeP_at hi] at this
  have hk3 := (valid_src HV.out (List.getElem_mem hi)).2
  have r5 := (HBW.out.cell (p := ⟨g, off + 6 * i + 5, none⟩) hg).trans q5
  clear q0 q1 q2 q3 q4 q5
  generalize hO : p[i] = o at *
  have HOE := Lib.hid hO
  clear hO
  obtain ⟨t, ⟨c0, c1⟩, u, kd, fv, src⟩ := o
  simp only at r5 HSRC HSL HST HAA hti hk3 HIH
  obtain ⟨fa, fc, fg, fo, rfl, hfl, hfm, hfx⟩ := src_at HSL.out
  have HFX := Lib.hid hfx; clear hfx
  have hln : (src.length : Int) ≤ 3 := by omega
  have hgv : g < vb := by omega
  go_enter Try.func54, Try.ntmps54
  go_wp2_with fail
  go_loopw [7, 8] (fun t7 t8 wr => ∃ (k : Nat) (m : List Int), k ≤ src.length ∧ t8 = .int .i64 (k : Nat) ∧ t7 = .int .i64 (accE m (src.take k)) ∧ Hid (PartE p m ∧ ExtV l m ∧ (∀ s ∈ src.take k, 0 ≤ s.op → 0 ≤ m.getD s.op.toNat 0)) ∧ Hid (RowI wr vb m) ∧ Below vb W wr ∧ Hid (KeepS (fun b => b = vb) W.heap.size W wr)) (fun t7 t8 _ => src.length - (intOf t8).toNat)
  case atStart => exact ⟨0, l, Nat.zero_le _, rfl, rfl, Lib.hid ⟨HPT.out, ExtV.refl l, fun s hs => by simp at hs⟩, HROW, Below.refl _ _, Lib.hid (KeepS.refl _ _ _)⟩
  case round =>
    obtain ⟨k, m, hk, rfl, rfl, HD, HRW, hb, HKS⟩ := hrel
    have hs := hb.size
    have hks := HKS.out.1
    have p5 := (hb.cell (p := ⟨g, off + 6 * i + 5, none⟩) hgv).trans r5
    clear oc
    by_cases hlt : k < src.length
    rotate_left
    · have hke : k = src.length := by omega
      have hlz : ¬ (k : Int) < (src.length : Int) := by omega
      have HF := Lib.hid (show ∀ s ∈ src, 0 ≤ s.op → 0 ≤ m.getD s.op.toNat 0 from by have := HD.out.2.2; rwa [hke, List.take_length] at this)
      have HAE := Lib.hid (show accE m (src.take k) = earlyO (fun j => m.getD j 0) ⟨t, (c0, c1), u, kd, .slice fa src.length fc, src⟩ by rw [hke, List.take_length]; exact HAA.out m HF.out)
      have HSS := Lib.hid (HST.out m HD.out.1 HF.out)
      rw [HAE.out]
      have hmi : i < m.length := by rw [HD.out.1.len]; exact HI.out
      have HMI := Lib.hid hmi
      have oc := HRW.out.cell i hmi
      have of := HRW.out.free i hmi
      generalize m[i] = old at oc
      generalize earlyO (fun j => m.getD j 0) ⟨t, (c0, c1), u, kd, .slice fa src.length fc, src⟩ = vv at *
      have hvw : vb < wr.heap.size := HRW.out.lt
      clear hke hlt HF hmi r5
      go_wp2_with fail
      go_ret
      exact ⟨m.set i vv, by rw [getD_set_self _ _ _ HMI.out]; rfl, HRW.out.set i HMI.out vv, ⟨HSS.out.1, HD.out.2.1.trans HSS.out.2.1, by rw [getD_set_self _ _ _ HMI.out]; exact HSS.out.2.2.1⟩, hb.setCell (p := ⟨vb, i, none⟩) (Nat.le_refl _) _, HKS.out.set i _⟩
    have hlz : (k : Int) < (src.length : Int) := by omega
    obtain ⟨hfi, hfg, s0, s1, s2⟩ := HFX.out k hlt
    have u0 := (hb.cell (p := ⟨fg, fo + 3 * k, none⟩) (show fg < vb by omega)).trans ((HBW.out.cell (p := ⟨fg, fo + 3 * k, none⟩) hfg).trans s0)
    have u1 := (hb.cell (p := ⟨fg, fo + 3 * k + 1, none⟩) (show fg < vb by omega)).trans ((HBW.out.cell (p := ⟨fg, fo + 3 * k + 1, none⟩) hfg).trans s1)
    have u2 := (hb.cell (p := ⟨fg, fo + 3 * k + 2, none⟩) (show fg < vb by omega)).trans ((HBW.out.cell (p := ⟨fg, fo + 3 * k + 2, none⟩) hfg).trans s2)
    clear s0 s1 s2
    have HSI := Lib.hid (HSRC.out src[k] (List.getElem_mem hlt))
    have HIK := Lib.hid (HIH.out src[k] (List.getElem_mem hlt))
    have HTK := Lib.hid (show src.take (k + 1) = src.take k ++ [src[k]] from List.take_succ_eq_append_getElem hlt)
    have HLT := Lib.hid hlt
    have HAB := Lib.hid (accE_bd (m := m) (l := src.take k) (fun s hs h0 => ⟨HD.out.1.bd HSM.out _ (HD.out.2.2 s hs h0), by have := src_op (HSRC.out s (List.mem_of_mem_take hs)) h0; omega⟩))
    generalize src[k] = s at *
    obtain ⟨op, val, hops⟩ := s
    simp only at u0 u1 u2 HSI HIK
    have hzg := z1 (show g + 1 ≤ wr.heap.size by omega)
    have hvr : vb < wr.heap.size := HRW.out.lt
    by_cases hop : op < 0
    · have hop2 : decide (0 ≤ op) = false := decide_eq_false (by omega)
      have HSM2 := Lib.hid (show accE m (src.take (k + 1)) = accE m (src.take k) by rw [HTK.out, accE_snoc, if_pos hop])
      have HFM := Lib.hid (show ∀ s ∈ src.take (k + 1), 0 ≤ s.op → 0 ≤ m.getD s.op.toNat 0 from fun s hs h0 => by
        rw [HTK.out] at hs
        rcases List.mem_append.1 hs with h | h
        · exact HD.out.2.2 s h h0
        · rw [List.mem_singleton] at h; subst h; simp only at h0; omega)
      clear hop HSI HIK hlt r5
      go_wp2
      go_roundw
      case rel => exact ⟨k + 1, m, HLT.out, by simp, by rw [HSM2.out], Lib.hid ⟨HD.out.1, HD.out.2.1, HFM.out⟩, Lib.hid (HRW.out.alloc _), hb.alloc (by omega) _, Lib.hid (HKS.out.trans (KeepS.of_below (((Below.refl wr.heap.size wr).alloc (Nat.le_refl _) _).mono hks)))⟩
      case measure => simp only [intOf]; have := HLT.out; omega
    · obtain ⟨hq1, -, hh1, hh2⟩ := src_op HSI.out (show (0 : Int) ≤ op by omega)
      obtain ⟨q, rfl⟩ : ∃ q : Nat, op = (q : Int) := ⟨op.toNat, by omega⟩
      have hqn : q < p.length := by simpa using hq1
      have HQ := Lib.hid (show EarQ p (.slice a p.length cap) w0 vb q from by have := HIK.out (by omega); simpa using this)
      have hop2 : decide ((0 : Int) ≤ (q : Int)) = true := decide_eq_true (by omega)
      have HSM2 := Lib.hid (show ∀ m2, ExtV m m2 → 0 ≤ m2.getD q 0 → accE m2 (src.take (k + 1)) = max (accE m (src.take k)) (m2.getD q 0 + max 1 hops) ∧ ∀ s ∈ src.take (k + 1), 0 ≤ s.op → 0 ≤ m2.getD s.op.toNat 0 from fun m2 he h2 => by
        refine ⟨?_, fun s hs h0 => ?_⟩
        · rw [HTK.out, accE_snoc, accE_ext he HD.out.2.2]; simp only; rw [if_neg hop, Int.toNat_natCast]
        · rw [HTK.out] at hs
          rcases List.mem_append.1 hs with h | h
          · have := HD.out.2.2 s h h0; rw [he _ this]; exact this
          · rw [List.mem_singleton] at h; subst h; simpa using h2)
      have HQ2 := Lib.hid (fun (V : World) (hV : Below wr.heap.size wr V) => (HQ.out V m (HBW.out.trans ((hb.trans (hV.mono (by omega))).mono hvb)) (HRW.out.kept hV) HD.out.1).mono (fun e w' k => (by
        obtain ⟨m2, he, hr, hpe, hb2, hk2⟩ := k
        have hs1 := hV.size
        exact ⟨m2, he, hr, hpe, HD.out.2.1.trans hpe.2.1, hpe.1.bd HSM.out q hpe.2.2, (hb.trans (hV.mono (by omega))).trans hb2, HKS.out.trans ((KeepS.of_below (hV.mono hks)).trans ⟨hk2.1, fun b hb hs => hk2.2 b (by omega) hs⟩), fun c o hc hne => World.cell?_of_block (hk2.2 c hc hne)⟩ : ∃ m2, e = .returned (.int .i64 (m2.getD q 0)) ∧ RowI w' vb m2 ∧ (PartE p m2 ∧ ExtV m m2 ∧ 0 ≤ m2.getD q 0) ∧ ExtV l m2 ∧ m2.getD q 0 ≤ 200000 ∧ Below vb W w' ∧ KeepS (fun b => b = vb) W.heap.size W w' ∧ ∀ c o, c < V.heap.size → c ≠ vb → w'.cell? ⟨c, o, none⟩ = V.cell? ⟨c, o, none⟩)))
      clear hop HSI HIK HQ hlt r5 hq1
      have hh3 : hops ≤ 12 := hh2
      have hmx1 : 1 ≤ max 1 hops ∧ max 1 hops ≤ 12 := by omega
      obtain ⟨hmx2, hmx3⟩ := hmx1
      have hac := HAB.out
      obtain ⟨hac1, hac2⟩ := hac
      generalize accE m (src.take k) = ac at *
      go_wp2_with fail
      go_region_held3 (fun V => V.cell? ⟨wr.heap.size, 0, none⟩ = some (.int .i64 (q : Int)) ∧ V.cell? ⟨wr.heap.size, 2, none⟩ = some (.int .i64 hops)) (go_keep) ((go_at_call 54; refine (HQ2.out _ (by repeat (first | exact Below.refl _ _ | assumption | (refine Below.drew ?_) | (refine below_drewN ?_ _) | (refine Below.alloc ?_ (by first | (simp; done) | (simp; omega) | omega) _) | (refine Below.setCell ?_ (by first | (simp; done) | (simp; omega) | omega) _) | (refine Below.trans ?_ (Below.mono (by assumption) (by first | (simp; done) | (simp; omega) | omega)))))).mono ?_; go_must (rintro e w6 ⟨m2, rfl, hrw6, hpe6, hel6, hbd6, hb6, hk6, hc6⟩; have e0 : w6.cell? ⟨wr.heap.size, 0, none⟩ = some (.int .i64 (q : Int)) := (hc6 wr.heap.size 0 (by simp) (by omega)).trans (by go_simp); have e2 : w6.cell? ⟨wr.heap.size, 2, none⟩ = some (.int .i64 hops) := (hc6 wr.heap.size 2 (by simp) (by omega)).trans (by go_simp); have hp6 := hpe6.2.2; have wq : IntKind.i64.wrap (m2.getD q 0 + max 1 hops) = m2.getD q 0 + max 1 hops := IntWalk.i64_in _ (by omega); have HPE := Lib.hid hpe6; have HEL := Lib.hid hel6; have HRW6 := Lib.hid hrw6; have HK6 := Lib.hid hk6; clear hrw6 hpe6 hk6 hel6 hc6)))
      all_goals (try go_wp2)
      all_goals go_roundw
      all_goals first
        | (case rel => exact ⟨k + 1, m2, HLT.out, by simp, by rw [(HSM2.out m2 HPE.out.2.1 HPE.out.2.2).1, ← List.getD_eq_getElem?_getD, wq], Lib.hid ⟨HPE.out.1, HEL.out, (HSM2.out m2 HPE.out.2.1 HPE.out.2.2).2⟩, Lib.hid HRW6.out, hb6, Lib.hid HK6.out⟩)
        | (case measure => simp only [intOf]; have := HLT.out; omega)
end Go.Proofs.Ytbjbdochffocoaa
