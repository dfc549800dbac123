/- The reference's meet, Meet, slack, waits, Waits: their walks. -/
import Derived.Test.YtbjbdochffocoaaMachM
namespace Go.Proofs.Ytbjbdochffocoaa
open Go.RowKit Go.WideMaps Go.Lib
set_option linter.unusedVariables false
abbrev MetR8 (w : World) (base b n : Nat) (K : List SpotD) : Prop := MetG Try.prog 77 3 kvR w base b n K
def leastStep (T : Int) (tm : Nat → Int) (acc : Option Int) (s : SrcD) : Option Int := if s.op < 0 then acc else match acc with
  | none => some (T - tm s.op.toNat - max 1 s.hops)
  | some a => some (min a (T - tm s.op.toNat - max 1 s.hops))
theorem least_arr (T : Int) (tm : Nat → Int) (l : List SrcD) (acc acc' : Option Int) (h : acc' = acc.map fun a => T - a) : l.foldl (leastStep T tm) acc' = (l.foldl (arrStep tm) acc).map fun a => T - a := by
  induction l generalizing acc acc' with
  | nil => exact h
  | cons s l ih =>
    rw [List.foldl_cons, List.foldl_cons]
    refine ih _ _ ?_
    subst h
    unfold leastStep arrStep
    by_cases hs : s.op < 0
    · rw [if_pos hs, if_pos hs]
    · rw [if_neg hs, if_neg hs]
      cases acc with
      | none => simp only [Option.map_none, Option.map_some]; congr 1; omega
      | some a => simp only [Option.map_some]; congr 1; omega
def slackV (p : List OpD) (i : Nat) : Option Int := ((p[i]?).bind fun o => arrF (timeP p) o.src).map fun a => timeP p i - a
set_option maxHeartbeats 8000000 in
set_option maxRecDepth 100000 in
theorem slack_l (p : List OpD) (hsm : SmallP p) (v : Value) (i : Nat) (hi : i < p.length) (w : World) (hp : ProgRd w v p) :
    Calls Try.prog 50 #[v, .int .i64 (i : Int)] w fun e w' => e = .returned (optV ((arrF (timeP p) p[i].src).map fun a => p[i].t - a)) ∧ Below w.heap.size w w' := by
  have HP := Lib.hid hp
  obtain ⟨a, cap, g, off, rfl, hl, hm, hat⟩ := ops_at hp
  have HX := Lib.hid hat
  obtain ⟨hix, hg, q0, -, -, -, -, q5⟩ := hat i hi
  have HSL := Lib.hid (hp.each p[i] (List.getElem_mem hi))
  have hti := hsm.time i
  rw [timeP_at hi] at hti
  have HSR := Lib.hid (fun s (hs : s ∈ p[i].src) h0 => hsm.src p[i] (List.getElem_mem hi) s hs h0)
  have HTM := Lib.hid hsm.time
  have HLA := Lib.hid (show ∀ k, (p[i].src.take k).foldl (leastStep p[i].t (timeP p)) none = ((p[i].src.take k).foldl (arrStep (timeP p)) none).map fun a => p[i].t - a from fun k => least_arr _ _ _ none none rfl)
  have HFO := Lib.hid (arrF_foldl (timeP p) p[i].src)
  have HBD := Lib.hid (show ∀ k z, (p[i].src.take k).foldl (leastStep p[i].t (timeP p)) none = some z → -300000 ≤ z ∧ z ≤ 300000 from fun k z hz => by
    rw [HLA.out k] at hz
    cases hf : (p[i].src.take k).foldl (arrStep (timeP p)) none with
    | none => rw [hf] at hz; cases hz
    | some y =>
      rw [hf] at hz
      simp only [Option.map_some, Option.some.injEq] at hz
      rw [← arrF_foldl] at hf
      obtain ⟨s, hs, h0, e⟩ := (arrF_le hf).2
      have h1 := hsm.time s.op.toNat
      have h2 := hsm.src p[i] (List.getElem_mem hi) s (List.mem_of_mem_take hs) h0
      omega)
  have hil : (i : Int) < (p.length : Int) := by omega
  clear hp hat hsm
  generalize hO : p[i] = o at *
  clear hO
  obtain ⟨t, ⟨c0, c1⟩, u, kd, fv, src⟩ := o
  simp only at q0 q5 HSL hti HSR HLA HFO HBD ⊢
  obtain ⟨fa, fc, fg, fo, rfl, hfl, hfm, hfx⟩ := src_at HSL.out
  have HFX := Lib.hid hfx; clear hfx
  obtain ⟨ht1, ht2⟩ := hti
  go_enter Try.func50, Try.ntmps50
  go_wp2_with fail
  go_loopw [6, 7, 8] (fun t6 t7 t8 wr => ∃ (k : Nat) (acc : Option Int), k ≤ src.length ∧ t8 = .int .i64 (k : Nat) ∧ t6 = .int .i64 (acc.getD 0) ∧ t7 = .bool acc.isSome ∧ Hid ((src.take k).foldl (leastStep t (timeP p)) none = acc) ∧ Below w.heap.size w wr) (fun t6 t7 t8 _ => src.length - (intOf t8).toNat)
  case atStart => exact ⟨0, none, Nat.zero_le _, rfl, rfl, rfl, Lib.hid rfl, Below.refl _ _⟩
  case round =>
    obtain ⟨k, acc, hk, rfl, rfl, rfl, HA, hb⟩ := hrel
    have hs := hb.size
    have r0 := (hb.cell (p := ⟨g, off + 6 * i, none⟩) hg).trans q0
    have r5 := (hb.cell (p := ⟨g, off + 6 * i + 5, none⟩) hg).trans q5
    by_cases hlt : k < src.length
    rotate_left
    · have hke : k = src.length := by omega
      have hlz : ¬ (k : Int) < (src.length : Int) := by omega
      have HE := Lib.hid (show optV ((arrF (timeP p) src).map fun a => t - a) = .tuple #[.int .i64 (acc.getD 0), .bool acc.isSome] by
        rw [HFO.out]
        have h1 := HLA.out k
        rw [HA.out, hke, List.take_length] at h1
        rw [← h1]; rfl)
      clear hke hlt
      go_wp2
      go_ret2
      exact ⟨by rw [HE.out]; rfl, hb⟩
    have hlz : (k : Int) < (src.length : Int) := by omega
    obtain ⟨hfi, hfg, s0, s1, s2⟩ := HFX.out k hlt
    have u0 := (hb.cell (p := ⟨fg, fo + 3 * k, none⟩) hfg).trans s0
    have u1 := (hb.cell (p := ⟨fg, fo + 3 * k + 1, none⟩) hfg).trans s1
    have u2 := (hb.cell (p := ⟨fg, fo + 3 * k + 2, none⟩) hfg).trans s2
    clear s0 s1 s2
    have HT := Lib.hid (foldl_take (leastStep t (timeP p)) none src k hlt)
    have HSI := Lib.hid (HSR.out src[k] (List.getElem_mem hlt))
    have HLT := Lib.hid hlt
    have HBI := Lib.hid (fun z h => HBD.out k z (HA.out.trans h))
    rw [HA.out] at HT
    generalize src[k] = s at *
    obtain ⟨op, val, hops⟩ := s
    simp only at u0 u1 u2 HSI
    have hzg := z1 (show g + 1 ≤ wr.heap.size by omega)
    by_cases hop : op < 0
    · have hop2 : decide (op < 0) = true := decide_eq_true hop
      have HT2 := Lib.hid (show (src.take (k + 1)).foldl (leastStep t (timeP p)) none = acc by rw [HT.out]; unfold leastStep; rw [if_pos hop])
      go_wp2
      go_roundw
      case rel => exact ⟨k + 1, acc, HLT.out, by simp, rfl, rfl, HT2, hb.alloc hs _⟩
      case measure => simp only [intOf]; have := HLT.out; omega
    · obtain ⟨hq1, hq2, hq3⟩ := HSI.out (by omega)
      obtain ⟨q, rfl⟩ : ∃ q : Nat, op = (q : Int) := ⟨op.toNat, by omega⟩
      have hqn : q < p.length := by simpa using hq1
      obtain ⟨hiq, hgq, p0, -⟩ := HX.out q hqn
      have v0 := (hb.cell (p := ⟨g, off + 6 * q, none⟩) hgq).trans p0
      have htq := HTM.out q
      have HT2 := Lib.hid (show ∀ ac, acc = ac → (src.take (k + 1)).foldl (leastStep t (timeP p)) none = (match ac with
        | none => some (t - timeP p q - max 1 hops)
        | some a => some (min a (t - timeP p q - max 1 hops))) from fun ac e => by rw [HT.out, e]; unfold leastStep; rw [if_neg hop]; rfl)
      rw [timeP_at hqn] at htq HT2
      clear HSI HT p0 hq1
      generalize p[q].t = tq at *
      obtain ⟨tq1, tq2⟩ := htq
      have hqz : (q : Int) < (p.length : Int) := by omega
      have hop2 : decide ((q : Int) < 0) = false := decide_eq_false (by omega)
      have w1 : IntKind.i64.wrap (t - tq) = t - tq := IntWalk.i64_in _ (by omega)
      have w2 : IntKind.i64.wrap (t - tq - max 1 hops) = t - tq - max 1 hops := IntWalk.i64_in _ (by omega)
      cases acc with
      | none =>
        have HT3 := Lib.hid (show (src.take (k + 1)).foldl (leastStep t (timeP p)) none = some (t - tq - max 1 hops) from HT2.out none rfl)
        clear HT2 hop
        go_wp2
        go_quiet (fail)
        go_wp2
        go_roundw
        case rel => exact ⟨k + 1, some (t - tq - max 1 hops), HLT.out, by simp, rfl, rfl, HT3, below_drewN (hb.alloc hs _) _⟩
        case measure => simp only [intOf]; have := HLT.out; omega
      | some a =>
        obtain ⟨ha1, ha2⟩ := HBI.out a rfl
        by_cases hm : t - tq - max 1 hops < a
        · have HT3 := Lib.hid (show (src.take (k + 1)).foldl (leastStep t (timeP p)) none = some (t - tq - max 1 hops) by rw [HT2.out (some a) rfl]; simp only; congr 1; omega)
          have hm2 : decide (t - tq - max 1 hops < a) = true := decide_eq_true hm
          clear HT2 hop
          go_wp2
          go_quiet (fail)
          go_wp2
          go_roundw
          case rel => exact ⟨k + 1, some (t - tq - max 1 hops), HLT.out, by simp, rfl, rfl, HT3, below_drewN (hb.alloc hs _) _⟩
          case measure => simp only [intOf]; have := HLT.out; omega
        · have HT3 := Lib.hid (show (src.take (k + 1)).foldl (leastStep t (timeP p)) none = some a by rw [HT2.out (some a) rfl]; simp only; congr 1; omega)
          have hm2 : decide (t - tq - max 1 hops < a) = false := decide_eq_false hm
          clear HT2 hop
          go_wp2
          go_quiet (fail)
          go_wp2
          go_roundw
          case rel => exact ⟨k + 1, some a, HLT.out, by simp, rfl, rfl, HT3, below_drewN (hb.alloc hs _) _⟩
          case measure => simp only [intOf]; have := HLT.out; omega
theorem waits_late (p : List OpD) (k : Nat) (hk : k < p.length) : waitsTo p (k + 1) = waitsTo p k ++ (match (arrF (timeP p) p[k].src).map fun a => p[k].t - a with
  | none => []
  | some z => if z < 0 then [(k : Int)] else []) := by
  rw [waitsTo_step p k hk]
  congr 1
  have h := slack_late (timeP p) p[k]
  unfold lateB at h
  cases ha : arrF (timeP p) p[k].src with
  | none =>
    rw [ha] at h
    rw [if_neg (by simpa using h)]; rfl
  | some z =>
    rw [ha] at h
    simp only [Option.map_some]
    simp only at h
    by_cases hz : p[k].t < z
    · rw [decide_eq_true hz] at h
      rw [if_pos (by simpa using h), if_pos (by omega)]
    · rw [decide_eq_false hz] at h
      rw [if_neg (by simpa using h), if_neg (by omega)]
set_option maxHeartbeats 8000000 in
set_option maxRecDepth 100000 in
theorem rwaits_l (p : List OpD) (hsm : SmallP p) (v : Value) (w : World) (hp : ProgRd w v p) : Calls Try.prog 43 #[v] w fun e w' => (∃ v', e = .returned v' ∧ SlOf w' w'.heap.size 1 encInt v' (waitsI p)) ∧ Below w.heap.size w w' := by
  have HP := Lib.hid hp
  obtain ⟨a, cap, rfl, -⟩ := hp.ops.shape
  have hl4 := hsm.len
  have HSL := Lib.hid (fun (i : Nat) (hi : i < p.length) (W : World) (h : ProgRd W (.slice a p.length cap) p) => slack_l p hsm _ i hi W h)
  have HWT := Lib.hid (fun k hk => waits_late p k hk)
  have HW0 := Lib.hid (show waitsTo p 0 = [] from rfl)
  have HWE := Lib.hid (waits_to p)
  have HWL := Lib.hid (fun (k : Nat) (hk : k ≤ p.length) => show (waitsTo p k).length ≤ 4000 by
    unfold waitsTo
    rw [List.length_map]
    exact Nat.le_trans (List.length_filter_le _ _) (by simp; omega))
  clear hp hsm
  generalize waitsI p = WI at *
  generalize waitsTo p = WT at *
  go_enter Try.func43, Try.ntmps43
  go_wp2
  go_loopw [3, 4] (fun t3 t4 wr => ∃ k : Nat, k ≤ p.length ∧ t4 = .int .i64 (k : Nat) ∧ Hid (OwnOf wr w.heap.size 3 1 encInt t3 (WT k)) ∧ Below w.heap.size w wr) (fun t3 t4 _ => p.length - (intOf t4).toNat)
  case atStart => exact ⟨0, Nat.zero_le _, rfl, Lib.hid (by rw [HW0.out]; exact OwnOf.nil _ _ _ _ _), Below.refl _ _⟩
  case round =>
    obtain ⟨k, hk, rfl, HO, hb⟩ := hrel
    have hs := hb.size
    by_cases hlt : k < p.length
    rotate_left
    · have hke : k = p.length := by omega
      have hlz : ¬ (k : Int) < (p.length : Int) := by omega
      have HSF := Lib.hid (show SlOf wr wr.heap.size 1 encInt u3 WI by have := HO.out.sl; rw [hke, HWE.out] at this; exact this)
      clear hke hlt HO
      go_wp2
      go_ret
      exact ⟨⟨_, rfl, HSF.out⟩, hb⟩
    have hlz : (k : Int) < (p.length : Int) := by omega
    have HSK := Lib.hid (HSL.out k hlt wr (HP.out.below hb))
    have HTW := Lib.hid (HWT.out k hlt)
    have hacc : (WT k).length + 1 ≤ 1073741824 := by have := HWL.out k (by omega); omega
    have HLT := Lib.hid hlt
    generalize (arrF (timeP p) p[k].src).map (fun a => p[k].t - a) = ar at *
    cases ar with
    | none =>
      simp only [optV, Option.getD_none, Option.isSome_none] at HSK
      simp only [List.append_nil] at HTW
      go_wp2_with (go_at_call 50; refine HSK.out.mono ?_; go_must (rintro e w5 ⟨rfl, hb5⟩))
      go_roundw
      case rel => exact ⟨k + 1, HLT.out, by simp, Lib.hid (by rw [HTW.out]; exact HO.out.kept hb5), hb.trans (hb5.mono hs)⟩
      case measure => simp only [intOf]; have := HLT.out; omega
    | some z =>
      simp only [optV, Option.getD_some, Option.isSome_some] at HSK
      simp only at HTW
      by_cases hz : z < 0
      · have hd : decide (z < 0) = true := decide_eq_true hz
        rw [if_pos hz] at HTW
        clear hz
        go_wp2_with (first | (go_at_call 50; refine HSK.out.mono ?_; go_must (rintro e w5 ⟨rfl, hb5⟩; have HO5 := Lib.hid (HO.out.kept hb5); have hs5 : w.heap.size ≤ w5.heap.size := (by have := hb5.size; omega))) | (at_builtin; refine wpList_push rfl _ _ _ rfl slInts HO5.out rfl rfl (by first | rfl | simp) rfl rfl hacc (by omega) hs5 ?_; intro g7 c7 w7 hown7 hg7 hat7))
        go_roundw
        case rel => exact ⟨k + 1, HLT.out, by simp, Lib.hid (by rw [HTW.out]; exact OwnOf.snoc (enc := encInt) (by simpa [encInt] using hown7) rfl), below_push (hb.trans (hb5.mono hs)) HO5.out (Nat.le_refl _) hs5 hg7⟩
        case measure => simp only [intOf]; have := HLT.out; omega
      · have hd : decide (z < 0) = false := decide_eq_false hz
        rw [if_neg hz, List.append_nil] at HTW
        clear hz
        go_wp2_with (go_at_call 50; refine HSK.out.mono ?_; go_must (rintro e w5 ⟨rfl, hb5⟩))
        go_roundw
        case rel => exact ⟨k + 1, HLT.out, by simp, Lib.hid (by rw [HTW.out]; exact HO.out.kept hb5), hb.trans (hb5.mono hs)⟩
        case measure => simp only [intOf]; have := HLT.out; omega
theorem rWaits_l (p : List OpD) (v : Value) (w : World) (hp : ProgRd w v p) : Calls Try.prog 21 #[v] w fun e w' => WaitsR p e w' ∧ Below w.heap.size w w' := by
  have HP := Lib.hid hp
  have HVL := Lib.hid (fun (W : World) (h : ProgRd W v p) => rValid_l p v W h)
  clear hp
  cases hv : validP p
  · have HR := Lib.hid (fun w' => show WaitsR p (.returned (.tuple #[.slice none 0 0, .int .i64 80])) w' by unfold WaitsR; rw [hv]; exact ⟨_, rfl, Sl.nil _ _ _⟩)
    rw [hv] at HVL
    clear hv
    go_enter Try.func21, Try.ntmps21
    go_wp2_with (go_at_call 17; refine (HVL.out _ HP.out).mono ?_; go_must (rintro e w1 ⟨rfl, hb1⟩))
    go_ret2
    exact ⟨HR.out _, hb1⟩
  have HWL := Lib.hid (fun (W : World) (h : ProgRd W v p) => rwaits_l p (small_of hv) v W h)
  have HR := Lib.hid (fun (w' : World) (v' : Value) (hs : SlOf w' w'.heap.size 1 encInt v' (waitsI p)) => show WaitsR p (.returned (.tuple #[v', .int .i64 0])) w' by unfold WaitsR; rw [hv]; exact ⟨_, rfl, hs⟩)
  rw [hv] at HVL
  clear hv
  generalize waitsI p = WI at *
  go_enter Try.func21, Try.ntmps21
  go_wp2_with (first | (go_at_call 17; refine (HVL.out _ HP.out).mono ?_; go_must (rintro e w1 ⟨rfl, hb1⟩; have HB1 := Lib.hid hb1; clear hb1)) | (go_at_call 43; refine (HWL.out _ (HP.out.below HB1.out)).mono ?_; go_must (rintro e w2 ⟨⟨v2, rfl, hs2⟩, hb2⟩; have HS2 := Lib.hid hs2; clear hs2)))
  go_ret2
  exact ⟨HR.out _ _ HS2.out, below_at HB1.out HB1.out.size hb2⟩
end Go.Proofs.Ytbjbdochffocoaa
