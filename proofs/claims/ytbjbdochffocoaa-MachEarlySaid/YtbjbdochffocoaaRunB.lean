/- The reference's value: its walk. -/
import Derived.Test.YtbjbdochffocoaaRunA
namespace Go.Proofs.Ytbjbdochffocoaa
open Go.RowKit Go.Lib
set_option linter.unusedVariables false
def ValR (p : List OpD) (vb i : Nat) (l : List Int) (W : World) (e : Ending) (w' : World) : Prop := ∃ m, e = .returned (.int .i64 (m.getD i 0)) ∧ RowI w' vb m ∧ (PartV p m ∧ ExtV l m ∧ 0 ≤ m.getD i 0) ∧ Below vb W w' ∧ KeepS (fun b => b = vb) W.heap.size W w'
def ValC (p : List OpD) (pv : Value) (w0 : World) (vb i : Nat) : Prop := ∀ (W : World) (l : List Int), Below w0.heap.size w0 W → RowI W vb l → PartV p l → Calls Try.prog 55 #[pv, .int .i64 (i : Int), .slice (some ⟨vb, 0, none⟩) p.length p.length] W (ValR p vb i l W)
def srcM (m : List Int) (l : List SrcD) : List Int := l.map (srcV fun j => m.getD j 0)
theorem srcM_len (m : List Int) (l : List SrcD) : (srcM m l).length = l.length := by simp [srcM]
theorem srcM_ext {l m : List Int} (h : ExtV l m) {s : List SrcD} (hs : ∀ x ∈ s, 0 ≤ x.op → 0 ≤ l.getD x.op.toNat 0) : srcM m s = srcM l s := by
  refine List.map_congr_left (fun x hx => ?_)
  unfold srcV
  by_cases h0 : x.op < 0
  · rw [if_pos h0, if_pos h0]
  · rw [if_neg h0, if_neg h0]; exact h _ (hs x hx (by omega))
set_option maxHeartbeats 16000000 in
set_option maxRecDepth 100000 in
theorem value_l (p : List OpD) (hv : validP p = true) (hr : Ready p) (pv : Value) (w0 : World) (hp : ProgRd w0 pv p) (vb : Nat) (hvb : w0.heap.size ≤ vb) : ∀ i, i < p.length → ValC p pv w0 vb i := by
  refine ready_ind hr (fun i hi ih => ?_)
  intro W l hbw hrow hpart
  have HP := Lib.hid hp
  have HV := Lib.hid hv
  have hl4 := (small_of hv).len
  obtain ⟨a, cap, g, off, rfl, hl, hm, hat⟩ := ops_at hp
  obtain ⟨hix, hg, q0, q1, q2, q3, q4, q5⟩ := hat i hi
  have HROW := Lib.hid hrow
  have HPT := Lib.hid hpart
  have HBW := Lib.hid hbw
  have HIH := Lib.hid ih
  have hvW : vb < W.heap.size := hrow.lt
  have hlen := hpart.len
  have oc := hrow.cell i (by rw [hlen]; exact hi)
  have HEA := Lib.hid (hpart.each i hi)
  have hge : l[i]'(by rw [hlen]; exact hi) = l.getD i 0 := by rw [List.getD_eq_getElem?_getD, List.getElem?_eq_getElem (by rw [hlen]; exact hi)]; rfl
  rw [hge] at oc
  have hiv := fun V => idx_of (P := Try.prog) un_int sz_int1 vb 0 p.length p.length i hi V
  simp only [Nat.one_mul, Nat.zero_add] at hiv
  have HI := Lib.hid hi
  have hil : (i : Int) < (p.length : Int) := by omega
  clear hge hlen hrow hpart hbw ih hp hv hr hat
  by_cases hpos : 0 ≤ l.getD i 0
  · have HR := Lib.hid (show ValR p vb i l W (.returned (.int .i64 (l.getD i 0))) W from ⟨l, rfl, HROW.out, ⟨HPT.out, ExtV.refl l, hpos⟩, Below.refl _ _, KeepS.refl _ _ _⟩)
    clear HEA
    generalize l.getD i 0 = x at *
    have hd : decide (0 ≤ x) = true := decide_eq_true hpos
    clear hpos q0 q1 q2 q3 q4 q5 hix
    go_enter Try.func55, Try.ntmps55
    go_wp2_with fail
    go_ret
    exact HR.out
  have hz : l.getD i 0 = -1 := by rcases HEA.out with h | h; exact h; omega
  rw [hz] at oc
  clear hpos hz HEA
  have HSRC := Lib.hid (fun s (hs : s ∈ p[i].src) => (valid_at HV.out hi).2 s hs)
  have HSL := Lib.hid (HP.out.each p[i] (List.getElem_mem hi))
  have HVO := Lib.hid (fun (m : List Int) => show valO (fun j => m.getD j 0) p[i] = doK p[i].kind ((srcM m p[i].src).getD 0 0) ((srcM m p[i].src).getD 1 0) ((srcM m p[i].src).getD 2 0) % 10007 from rfl)
  have HSB := Lib.hid (fun (m : List Int) (h : PartV p m) (hs : ∀ s ∈ p[i].src, 0 ≤ s.op → 0 ≤ m.getD s.op.toNat 0) => show ∀ n, 0 ≤ (srcM m p[i].src).getD n 0 ∧ (srcM m p[i].src).getD n 0 ≤ 10006 from h.src HV.out hi hs)
  have HST := Lib.hid (fun (m : List Int) (h : PartV p m) (hs : ∀ s ∈ p[i].src, 0 ≤ s.op → 0 ≤ m.getD s.op.toNat 0) => h.set' hi hs)
  have hhd := (valid_at HV.out hi).1
  obtain ⟨hk1, hk2⟩ : needK p[i].kind ≠ 0 ∧ ((p[i].src.length : Int) = needK p[i].kind) := by
    simp only [headB, Bool.and_eq_true, decide_eq_true_eq] at hhd
    exact hhd.1.1
  have hk3 : p[i].src.length ≤ 3 := by
    rcases need_cases hk1 with e | e | e | e | e | e | e <;> rw [e] at hk2 <;> simp [needK] at hk2 <;> omega
  have HK1 := Lib.hid hk1; have HK2 := Lib.hid hk2
  have HVB := Lib.hid (fun (m : List Int) => valO_bd (fun j => m.getD j 0) p[i])
  clear hhd hk1 hk2
  have r4 := (HBW.out.cell (p := ⟨g, off + 6 * i + 4, none⟩) hg).trans q4
  have r5 := (HBW.out.cell (p := ⟨g, off + 6 * i + 5, none⟩) hg).trans q5
  clear q0 q1 q2 q3 q4 q5
  generalize p[i] = o at *
  obtain ⟨t, ⟨c0, c1⟩, u, kd, fv, src⟩ := o
  simp only at r4 r5 HSRC HSL HVO HSB HST HK1 HK2 HVB hk3 HIH
  obtain ⟨fa, fc, fg, fo, rfl, hfl, hfm, hfx⟩ := src_at HSL.out
  have HFX := Lib.hid hfx; clear hfx
  have hln : (src.length : Int) ≤ 3 := by omega
  have hgv : g < vb := by omega
  go_enter Try.func55, Try.ntmps55
  go_wp2_with fail
  go_loopw [7, 8] (fun t7 t8 wr => ∃ (k : Nat) (m D : List Int), k ≤ src.length ∧ t8 = .int .i64 (k : Nat) ∧ Hid (PartV p m ∧ ExtV l m ∧ (∀ s ∈ src.take k, 0 ≤ s.op → 0 ≤ m.getD s.op.toNat 0) ∧ D = srcM m (src.take k)) ∧ Hid (RowI wr vb m) ∧ Hid (OwnOf wr W.heap.size 3 1 encInt t7 D) ∧ Below vb W wr ∧ Hid (KeepS (fun b => b = vb) W.heap.size W wr)) (fun t7 t8 _ => src.length - (intOf t8).toNat)
  case atStart => exact ⟨0, l, [], Nat.zero_le _, rfl, Lib.hid ⟨HPT.out, ExtV.refl l, fun s hs => by simp at hs, rfl⟩, HROW, Lib.hid (OwnOf.nil _ _ _ _ _), Below.refl _ _, Lib.hid (KeepS.refl _ _ _)⟩
  case round =>
    obtain ⟨k, m, D, hk, rfl, HD, HRW, HO, hb, HKS⟩ := hrel
    have hs := hb.size
    have hks := HKS.out.1
    have p4 := (hb.cell (p := ⟨g, off + 6 * i + 4, none⟩) hgv).trans r4
    have p5 := (hb.cell (p := ⟨g, off + 6 * i + 5, none⟩) hgv).trans r5
    clear oc
    by_cases hlt : k < src.length
    rotate_left
    · have hke : k = src.length := by omega
      have hlz : ¬ (k : Int) < (src.length : Int) := by omega
      have HF := Lib.hid (show ∀ s ∈ src, 0 ≤ s.op → 0 ≤ m.getD s.op.toNat 0 from by have := HD.out.2.2.1; rwa [hke, List.take_length] at this)
      have HDE := Lib.hid (show D = srcM m src by have := HD.out.2.2.2; rwa [hke, List.take_length] at this)
      have HAP := Lib.hid (show ∀ V, Below wr.heap.size wr V → Calls Try.prog 67 #[.int .i64 kd, u7] V fun e w' => e = .returned (.int .i64 (valO (fun j => m.getD j 0) ⟨t, (c0, c1), u, kd, .slice fa src.length fc, src⟩)) ∧ Below V.heap.size V w' from fun V hV => by
        rw [HVO.out m, ← HDE.out]
        exact Apply_l kd D u7 V (HO.out.kept hV).sl HK1.out (by rw [HDE.out, srcM_len]; exact HK2.out) (fun n => by rw [HDE.out]; exact HSB.out m HD.out.1 HF.out n))
      have HSS := Lib.hid (HST.out m HD.out.1 HF.out)
      have hvv := HVB.out m
      have hmi : i < m.length := by rw [HD.out.1.len]; exact HI.out
      have HMI := Lib.hid hmi
      generalize valO (fun j => m.getD j 0) ⟨t, (c0, c1), u, kd, .slice fa src.length fc, src⟩ = vv at *
      clear hke hlt HF hmi r5
      go_wp2_with (go_at_call 67; refine (HAP.out _ (Below.refl _ _)).mono ?_; go_must (rintro e w5 ⟨rfl, hb5⟩; have hrw5 := HRW.out.kept hb5; have oc := hrw5.cell i HMI.out; have of := hrw5.free i HMI.out; have HR5 := Lib.hid hrw5; have HB5 := Lib.hid hb5; clear hrw5 hb5; generalize m[i]'(HMI.out) = old at oc))
      go_ret
      have hb5 : Below vb W w5 := hb.trans (HB5.out.mono (Nat.le_of_lt HRW.out.lt))
      exact ⟨m.set i vv, by rw [getD_set_self _ _ _ HMI.out]; rfl, HR5.out.set i HMI.out vv, ⟨HSS.out.1, HD.out.2.1.trans HSS.out.2, by rw [getD_set_self _ _ _ HMI.out]; omega⟩, hb5.setCell (p := ⟨vb, i, none⟩) (Nat.le_refl _) _, (HKS.out.trans (KeepS.of_below (HB5.out.mono hks))).set i _⟩
    have hlz : (k : Int) < (src.length : Int) := by omega
    obtain ⟨hfi, hfg, s0, s1, s2⟩ := HFX.out k hlt
    have u0 := (hb.cell (p := ⟨fg, fo + 3 * k, none⟩) (show fg < vb by omega)).trans ((HBW.out.cell (p := ⟨fg, fo + 3 * k, none⟩) hfg).trans s0)
    have u1 := (hb.cell (p := ⟨fg, fo + 3 * k + 1, none⟩) (show fg < vb by omega)).trans ((HBW.out.cell (p := ⟨fg, fo + 3 * k + 1, none⟩) hfg).trans s1)
    have u2 := (hb.cell (p := ⟨fg, fo + 3 * k + 2, none⟩) (show fg < vb by omega)).trans ((HBW.out.cell (p := ⟨fg, fo + 3 * k + 2, none⟩) hfg).trans s2)
    clear s0 s1 s2
    have HSI := Lib.hid (HSRC.out src[k] (List.getElem_mem hlt))
    have HIK := Lib.hid (HIH.out src[k] (List.getElem_mem hlt))
    have HTK := Lib.hid (show src.take (k + 1) = src.take k ++ [src[k]] from List.take_succ_eq_append_getElem hlt)
    have HLT := Lib.hid hlt
    have hDl : D.length + 1 ≤ 1073741824 := by rw [HD.out.2.2.2, srcM_len, List.length_take]; omega
    generalize src[k] = s at *
    obtain ⟨op, val, hops⟩ := s
    simp only at u0 u1 u2 HSI HIK
    have hzg := z1 (show g + 1 ≤ wr.heap.size by omega)
    have hvr : vb < wr.heap.size := HRW.out.lt
    by_cases hop : op < 0
    · have hop2 : decide (op < 0) = true := decide_eq_true hop
      have HSM := Lib.hid (show srcM m (src.take (k + 1)) = D ++ [val] by rw [HTK.out, HD.out.2.2.2]; unfold srcM; rw [List.map_append]; simp only [List.map_cons, List.map_nil]; unfold srcV; rw [if_pos hop])
      have HFM := Lib.hid (show ∀ s ∈ src.take (k + 1), 0 ≤ s.op → 0 ≤ m.getD s.op.toNat 0 from fun s hs h0 => by
        rw [HTK.out] at hs
        rcases List.mem_append.1 hs with h | h
        · exact HD.out.2.2.1 s h h0
        · rw [List.mem_singleton] at h; subst h; simp only at h0; omega)
      clear hop HSI HIK hlt r4 r5 p4
      have HO5 := Lib.hid (fun o => HO.out.kept ((Below.refl _ _).alloc (Nat.le_refl _) o))
      have HK5 := Lib.hid (fun o => HKS.out.trans (KeepS.of_below (((Below.refl wr.heap.size wr).alloc (Nat.le_refl _) o).mono hks)))
      have hks5 : W.heap.size ≤ wr.heap.size + 1 := by omega
      go_wp2_with (at_builtin; refine wpList_push rfl _ _ _ rfl slInts (HO5.out _) rfl rfl (by first | rfl | simp) rfl rfl hDl (by omega) (by simpa using hks5) ?_; intro g7 c7 w7 hown7 hg7 hat7)
      go_roundw
      case rel => exact ⟨k + 1, m, D ++ [val], HLT.out, by simp, Lib.hid ⟨HD.out.1, HD.out.2.1, HFM.out, HSM.out.symm⟩, Lib.hid ((HRW.out.alloc _).grown (HO5.out _) (by omega) hg7), Lib.hid (OwnOf.snoc (enc := encInt) (by simpa [encInt] using hown7) rfl), below_push (hb.alloc (by omega) _) (HO5.out _) (by omega) (by simp; omega) hg7, Lib.hid ((HK5.out _).own (HO5.out _) (by simpa using hks5) hg7)⟩
      case measure => simp only [intOf]; have := HLT.out; omega
    · obtain ⟨hq1, -, -, -⟩ := src_op HSI.out (show (0 : Int) ≤ op by omega)
      obtain ⟨q, rfl⟩ : ∃ q : Nat, op = (q : Int) := ⟨op.toNat, by omega⟩
      have hqn : q < p.length := by simpa using hq1
      have HQ := Lib.hid (show ValC p (.slice a p.length cap) w0 vb q from by have := HIK.out (by omega); simpa using this)
      have hop2 : decide ((q : Int) < 0) = false := decide_eq_false (by omega)
      have HSM := Lib.hid (show ∀ m2, ExtV m m2 → 0 ≤ m2.getD q 0 → srcM m2 (src.take (k + 1)) = D ++ [m2.getD q 0] ∧ ∀ s ∈ src.take (k + 1), 0 ≤ s.op → 0 ≤ m2.getD s.op.toNat 0 from fun m2 he h2 => by
        refine ⟨?_, fun s hs h0 => ?_⟩
        · rw [HTK.out]
          have h3 := srcM_ext he HD.out.2.2.1
          rw [← HD.out.2.2.2] at h3
          rw [← h3]
          unfold srcM; rw [List.map_append]; simp only [List.map_cons, List.map_nil]; unfold srcV; simp only; rw [if_neg hop, Int.toNat_natCast]
        · rw [HTK.out] at hs
          rcases List.mem_append.1 hs with h | h
          · have := HD.out.2.2.1 s h h0; rw [he _ this]; exact this
          · rw [List.mem_singleton] at h; subst h; simpa using h2)
      clear hop HSI HIK hlt r4 r5 hq1 p4
      have HOA := Lib.hid (fun o => HO.out.kept ((Below.refl _ _).alloc (Nat.le_refl _) o))
      have hks5 : W.heap.size ≤ wr.heap.size + 1 := by omega
      have HBA := Lib.hid (fun o => hb.alloc (show vb ≤ wr.heap.size by omega) o)
      have HKA := Lib.hid (fun o => HKS.out.trans (KeepS.of_below (((Below.refl wr.heap.size wr).alloc (Nat.le_refl _) o).mono hks)))
      go_wp2_with (first | (go_at_call 55; refine (HQ.out _ m (HBW.out.trans ((HBA.out _).mono hvb)) (HRW.out.alloc _) HD.out.1).mono ?_; go_must (rintro e w6 ⟨m2, rfl, hrw6, hpe6, hb6, hk6⟩; have HPE := Lib.hid hpe6; have HRW6 := Lib.hid hrw6; have HB6 := Lib.hid ((HBA.out _).trans hb6); have hss6 : W.heap.size ≤ w6.heap.size := (by have := hk6.1; simp at this; omega); have HK6 := Lib.hid ((HKA.out _).trans ⟨hk6.1, fun b hb hs => hk6.2 b (by simp; omega) hs⟩); have HO6 := Lib.hid ((HOA.out _).keptS hk6 hvW); clear hrw6 hpe6 hb6 hk6)) | (at_builtin; refine wpList_push rfl _ _ _ rfl slInts HO6.out rfl rfl (by first | rfl | simp) rfl rfl hDl (by omega) hss6 ?_; intro g7 c7 w7 hown7 hg7 hat7))
      go_roundw
      case rel => exact ⟨k + 1, m2, D ++ [m2.getD q 0], HLT.out, by simp, Lib.hid ⟨HPE.out.1, HD.out.2.1.trans HPE.out.2.1, (HSM.out m2 HPE.out.2.1 HPE.out.2.2).2, (HSM.out m2 HPE.out.2.1 HPE.out.2.2).1.symm⟩, Lib.hid (HRW6.out.grown HO6.out hvW hg7), Lib.hid (OwnOf.snoc (enc := encInt) (by simpa [encInt] using hown7) rfl), below_push HB6.out HO6.out (by omega) (by omega) hg7, Lib.hid (HK6.out.own HO6.out hss6 hg7)⟩
      case measure => simp only [intOf]; have := HLT.out; omega
end Go.Proofs.Ytbjbdochffocoaa
