/- mach.Early: plain part and walk. -/
import Derived.Test.YtbjbdochffocoaaOwnI
namespace Go.Proofs.Ytbjbdochffocoaa
open Go.RowKit Go.Lib
set_option linter.unusedVariables false
theorem earlyO_eq {v u : Nat → Int} {o : OpD} (h : ∀ s ∈ o.src, 0 ≤ s.op → v s.op.toNat = u s.op.toNat) : earlyO v o = earlyO u o := by
  unfold earlyO; rw [arrF_eq h]
/-- The earliest times of the first k operations of an order are found. -/
structure DoneE (p : List OpD) (L : List Nat) (k : Nat) (f : Nat → Int) : Prop where
  done : ∀ j (hj : j < k) (h1 : j < L.length) (h2 : L[j] < p.length), f L[j] = earlyO f p[L[j]] ∧ 0 ≤ f L[j] ∧ f L[j] ≤ timeP p L[j] + 100000
  rest : ∀ j (hj : k ≤ j) (h1 : j < L.length), f L[j] = timeP p L[j]
theorem DoneE.bd {p : List OpD} {L : List Nat} {k : Nat} {f : Nat → Int} (h : DoneE p L k f) (hsm : SmallP p) (hL : OrdL (timeP p) p.length L) {i : Nat} (hi : i < p.length) : -200000 ≤ f i ∧ f i ≤ 200000 := by
  obtain ⟨j, hj, rfl⟩ := List.getElem_of_mem ((hL.mem i).2 hi)
  have := hsm.time L[j]
  by_cases e : j < k
  · have := h.done j e hj hi; omega
  · have := h.rest j (by omega) hj; omega
theorem DoneE.step {p : List OpD} {L : List Nat} {k : Nat} {f : Nat → Int} (h : DoneE p L k f) (hL : OrdL (timeP p) p.length L) (hr : Ready p) (hsm : SmallP p) (hk : k < L.length) (h2 : L[k] < p.length) : DoneE p L (k + 1) (fun i => if i = L[k] then earlyO f p[L[k]] else f i) := by
  have key : ∀ (m : Nat) (hm : m < L.length) (h4 : L[m] < p.length), m ≤ k → earlyO (fun i => if i = L[k] then earlyO f p[L[k]] else f i) p[L[m]] = earlyO f p[L[m]] := fun m hm h4 hmk => by
    refine earlyO_eq (fun s hs h0 => ?_)
    obtain ⟨q, hq, hqm, e⟩ := ord_src hL hr hm h4 hs h0
    rw [← e]
    exact if_neg (ord_ne hL hq hk (by omega))
  refine ⟨fun j hj h1 h3 => ?_, fun j hj h1 => ?_⟩
  · by_cases e : j = k
    · subst e
      rw [key j h1 h3 (Nat.le_refl _)]
      refine ⟨if_pos rfl, ?_⟩
      simp only [if_pos]
      unfold earlyO
      have ht := hsm.time L[j]
      cases ha : arrF f p[L[j]].src with
      | none => simp only [Option.getD_none]; omega
      | some a =>
        simp only [Option.getD_some]
        obtain ⟨s, hs, h0, e⟩ := (arrF_le ha).2
        obtain ⟨q, hq, hqm, e2⟩ := ord_src hL hr h1 h3 hs h0
        have h5 := (h.done q hqm hq (by rw [e2]; exact (hr _ h3 s hs h0).1)).2
        have h6 := (hr _ h3 s hs h0).2
        rw [e2] at h5
        rw [timeP_at h3]
        omega
    · rw [key j h1 h3 (by omega)]
      simp only [if_neg (ord_ne hL h1 hk (by omega))]
      exact h.done j (by omega) h1 h3
  · simp only [if_neg (fun e => (ord_ne hL hk h1 (by omega)) (Eq.symm e))]
    exact h.rest j (by omega) h1
theorem DoneE.all {p : List OpD} {L : List Nat} {f : Nat → Int} (h : DoneE p L L.length f) (hL : OrdL (timeP p) p.length L) : Erl p f := fun i hi => by
  obtain ⟨j, hj, rfl⟩ := List.getElem_of_mem ((hL.mem i).2 hi)
  exact (h.done j hj hj hi).1
/-- The program with the earliest times. -/
def EarlyR (p : List OpD) (B : Nat) (e : Ending) (w' : World) : Prop := if readyE p = 0 then ∃ v' q f, e = .returned (.tuple #[v', .int .i64 0]) ∧ ProgOwn w' B v' q ∧ Timed f p q ∧ Erl p f else e = .returned (.tuple #[.slice none 0 0, .int .i64 (readyE p)])
theorem early_err {p : List OpD} {B : Nat} {k : Int} (h : readyE p = k) (hk : k ≠ 0) (w' : World) : EarlyR p B (.returned (.tuple #[.slice none 0 0, .int .i64 k])) w' := by
  unfold EarlyR; rw [h, if_neg hk]
theorem early_ok {p : List OpD} {B : Nat} {v' : Value} {q : List OpD} {f : Nat → Int} {w' : World} (h : readyE p = 0) (ho : ProgOwn w' B v' q) (ht : Timed f p q) (he : Erl p f) : EarlyR p B (.returned (.tuple #[v', .int .i64 0])) w' := by
  unfold EarlyR; rw [if_pos h]; exact ⟨v', q, f, rfl, ho, ht, he⟩
theorem ready_ok {p : List OpD} (h : readyE p = 0) : validP p = true ∧ waitsP p = [] ∧ Ready p := by
  unfold readyE at h
  cases hv : validP p
  · rw [hv] at h; simp at h
  · rw [hv, if_pos rfl] at h
    by_cases hw : waitsP p = []
    · exact ⟨rfl, hw, ready_of hv hw⟩
    · rw [if_neg hw] at h; omega
theorem early1_l (q : List OpD) (v : Value) (pb : Nat) (w : World) (hp : ProgRd w v q) (hlt : pb < w.heap.size) (c0 : w.cell? ⟨pb, 0, none⟩ = some v) (x : Nat) (hx : x < q.length) :
    Calls Try.prog 53 #[.int .i64 (x : Int), .pointer (some ⟨pb, 0, none⟩)] w fun e w' => e = .returned (.int .i64 (timeP q x)) ∧ w' = w := by
  obtain ⟨a, cap, g, off, rfl, hl, hm, hat⟩ := ops_at hp
  obtain ⟨i1, g1, t1, -⟩ := hat x hx
  rw [timeP_at hx]
  clear hat hp
  generalize q[x].t = tx at *
  generalize q.length = n at *
  have hx1 : (x : Int) < (n : Int) := by omega
  go_enter Try.func53, Try.ntmps53
  go_wp2
  go_ret
  exact ⟨rfl, rfl⟩
set_option maxHeartbeats 16000000 in
set_option maxRecDepth 100000 in
theorem Early_l (p : List OpD) (v : Value) (w : World) (hp : ProgRd w v p) : Calls Try.prog 29 #[v] w fun e w' => EarlyR p w.heap.size e w' ∧ Below w.heap.size w w' := by
  have HP := Lib.hid hp
  have HRD := Lib.hid (ready_l p v w hp)
  by_cases h0 : readyE p = 0
  rotate_left
  · have HR := Lib.hid (fun w' => early_err (B := w.heap.size) rfl h0 w')
    have hne : (readyE p != 0) = true := by simpa using h0
    clear hp h0
    generalize readyE p = E at *
    go_enter Try.func29, Try.ntmps29
    go_wp2_with (go_at_call 37; refine HRD.out.mono ?_; go_must (rintro e w1 ⟨rfl, hb1⟩))
    go_ret2
    exact ⟨HR.out _, hb1⟩
  obtain ⟨hv, hw, hr⟩ := ready_ok h0
  rw [h0] at HRD
  have HR := Lib.hid (fun w' v' q f (ho : ProgOwn w' w.heap.size v' q) (ht : Timed f p q) (he : Erl p f) => early_ok h0 ho ht he)
  have hl4 := (small_of hv).len
  have HSM := Lib.hid (small_of hv)
  have HRY := Lib.hid hr
  obtain ⟨a, cap, g0, off, rfl, hl, hm, hat⟩ := ops_at hp
  have HX := Lib.hid hat
  have HCP := Lib.hid (fun (W : World) (h : ProgRd W (.slice a p.length cap) p) => copied_l p hv _ W h)
  have HOD := Lib.hid (fun (W : World) (h : ProgRd W (.slice a p.length cap) p) => (ordered_l p _ W h (by omega)).mono (fun e w' q => (⟨by
    obtain ⟨L, hL, b, he, hb, hR⟩ := q.1
    have : (L.map fun i : Nat => (i : Int)).length = p.length := by rw [List.length_map, hL.len]
    rw [this] at he
    exact ⟨L, hL, b, he, hb, hR⟩, q.2⟩ : (∃ L, OrdL (timeP p) p.length L ∧ ∃ b, e = .returned (.slice (some ⟨b, 0, none⟩) p.length p.length) ∧ W.heap.size ≤ b ∧ RowI w' b (L.map fun i : Nat => (i : Int))) ∧ Below W.heap.size W w')))
  have hln : (p.length : Int) ≤ 4000 := by omega
  have eg : ∀ args w, (callFunc 53 args).run Try.prog w = .ok (.enter 53 args) w := enters_of Try.func53 (by kernel_rfl) rfl
  have HEG := Lib.hid eg
  clear hp hat hv hw hr h0 eg
  go_enter Try.func29, Try.ntmps29
  go_wp2_with (first | (go_at_call 37; refine HRD.out.mono ?_; go_must (rintro e w1 ⟨rfl, hb1⟩; have HB1 := Lib.hid hb1; clear hb1)) | (go_at_call 49; refine (HCP.out _ (HP.out.below HB1.out)).mono ?_; go_must (rintro e w3 ⟨⟨v3, q3, rfl, ho3, hs3⟩, hb3⟩; obtain ⟨a3, c3, hv3⟩ := OwnOf.shape ho3.1; rw [hs3.len] at hv3; subst hv3; have HO3 := Lib.hid (ho3.mono HB1.out.size); have HSQ := Lib.hid hs3; have HB3 := Lib.hid (below_at HB1.out HB1.out.size hb3); clear ho3 hs3 hb3)) | (go_at_call 51; refine (HOD.out _ (HP.out.below (HB3.out.alloc HB3.out.size _))).mono ?_; go_must (rintro e w5 ⟨⟨L, hL, lb, rfl, hlb, hR⟩, hb5⟩; have HL := Lib.hid hL; have HRL := Lib.hid hR; have HB5 := Lib.hid hb5; have HLB := Lib.hid hlb; clear hL hR hb5 hlb)))
  have hs3 := HB3.out.size
  have hs5 := HB5.out.size
  simp at hs5
  have HBW := Lib.hid (show Below w.heap.size w w5 from (HB3.out.alloc hs3 _).trans (HB5.out.mono (by simp; omega)))
  have c5 : w5.cell? ⟨w3.heap.size, 0, none⟩ = some (.slice a3 p.length c3) := (HB5.out.cell (p := ⟨w3.heap.size, 0, none⟩) (by simp)).trans (by go_simp)
  have HO5 := Lib.hid (ProgOwn.kept (ProgOwn.kept HO3.out ((Below.refl _ _).alloc (Nat.le_refl _) (Obj.cells #[.slice a3 p.length c3] 22))) HB5.out)
  by_cases hn0 : p.length = 0
  · have HFN := Lib.hid (HR.out w5 _ q3 (timeP p) HO5.out (timed_same HSQ.out) (fun i hi => by omega))
    have hlz : ¬ (0 : Int) < (p.length : Int) := by omega
    clear hn0
    refine wp_loop_rounds 1 ?_
    rw [rounds_succ]
    go_wp2
    go_ret2
    exact ⟨HFN.out, HBW.out⟩
  obtain ⟨g, rfl, hg1, hg2⟩ : ∃ g, a3 = some ⟨g, 0, none⟩ ∧ w.heap.size ≤ g ∧ g < w3.heap.size := by
    obtain ⟨g, cap, e, h1, h2⟩ := copy_some HO3.out HSQ.out (by omega)
    simp only [Value.slice.injEq] at e
    exact ⟨g, e.1, h1, h2⟩
  have HLL := Lib.hid HL.out.len
  have HC5 := Lib.hid c5
  have hlb3 : w3.heap.size + 1 ≤ lb := by have := HLB.out; simpa using this
  clear HO3 c5 hn0
  go_loopw [20] (fun t20 wr => ∃ (k : Nat) (f : Nat → Int) (q : List OpD), k ≤ p.length ∧ t20 = .int .i64 (k : Nat) ∧ Hid (DoneE p L k f ∧ Timed f p q) ∧ Hid (ProgOwn wr w.heap.size (.slice (some ⟨g, 0, none⟩) p.length c3) q) ∧ Hid (RowI wr lb (L.map fun i : Nat => (i : Int)) ∧ wr.cell? ⟨w3.heap.size, 0, none⟩ = some (.slice (some ⟨g, 0, none⟩) p.length c3)) ∧ Below w.heap.size w wr ∧ w5.heap.size ≤ wr.heap.size) (fun t20 _ => p.length - (intOf t20).toNat)
  case atStart => exact ⟨0, timeP p, q3, Nat.zero_le _, rfl, Lib.hid ⟨⟨fun j hj => by omega, fun j _ _ => rfl⟩, timed_same HSQ.out⟩, HO5, Lib.hid ⟨HRL.out, HC5.out⟩, HBW.out, Nat.le_refl _⟩
  case round =>
    obtain ⟨k, f, q, hk, rfl, HD, HO, HRR, hb, hsw⟩ := hrel
    have hs := hb.size
    by_cases hlt : k < p.length
    rotate_left
    · have hke : k = p.length := by omega
      have hlz : ¬ (k : Int) < (p.length : Int) := by omega
      have HFN := Lib.hid (HR.out wr _ q f HO.out HD.out.2 (DoneE.all (L := L) (by have := HD.out.1; rwa [hke, ← HLL.out] at this) HL.out))
      have cb := HRR.out.2
      clear hke hlt
      go_wp2
      go_ret2
      exact ⟨HFN.out, hb⟩
    have hlz : (k : Int) < (p.length : Int) := by omega
    have hkL : k < L.length := by rw [HLL.out]; exact hlt
    have hkp : L[k] < p.length := (HL.out.mem _).1 (List.getElem_mem hkL)
    have hi1 := fun W => idx_of (P := Try.prog) un_int sz_int1 lb 0 p.length p.length k hlt W
    simp only [Nat.one_mul, Nat.zero_add] at hi1
    have e1 := HRR.out.1.cell k (by simpa using hkL)
    simp only [List.getElem_map] at e1
    obtain ⟨hix, hg, q0, q1, q2, q4, q5, q6⟩ := HX.out L[k] hkp
    have r0 := (hb.cell (p := ⟨g0, off + 6 * L[k], none⟩) hg).trans q0
    have r1 := (hb.cell (p := ⟨g0, off + 6 * L[k] + 1, none⟩) hg).trans q1
    have r2 := (hb.cell (p := ⟨g0, off + 6 * L[k] + 2, none⟩) hg).trans q2
    have r3 := (hb.cell (p := ⟨g0, off + 6 * L[k] + 3, none⟩) hg).trans q4
    have r4 := (hb.cell (p := ⟨g0, off + 6 * L[k] + 4, none⟩) hg).trans q5
    have r5 := (hb.cell (p := ⟨g0, off + 6 * L[k] + 5, none⟩) hg).trans q6
    clear q0 q1 q2 q4 q5 q6
    have HST := Lib.hid (HD.out.1.step HL.out HRY.out HSM.out hkL hkp)
    have hmem := List.getElem_mem hkp
    have HAR := Lib.hid (arrival_l p[L[k]] 53 #[.pointer (some ⟨w3.heap.size, 0, none⟩)] HEG.out f wr ((HP.out.below hb).each p[L[k]] hmem)
      (fun s hs h0 => ⟨by have := HD.out.1.bd HSM.out HL.out (HRY.out _ hkp s hs h0).1; omega, by have := HSM.out.src p[L[k]] hmem s hs h0; omega⟩)
      (fun s hs h0 U hU => by
        have hl1 := (HRY.out _ hkp s hs h0).1
        have := early1_l q _ w3.heap.size U ((HO.out.kept hU).rd) (by have := hU.size; omega) ((hU.cell (p := ⟨w3.heap.size, 0, none⟩) (by simp; omega)).trans HRR.out.2) s.op.toNat (by rw [HD.out.2.len]; exact hl1)
        rw [Int.toNat_of_nonneg h0, HD.out.2.time hl1] at this
        exact this))
    obtain ⟨fa, fc, hfe, -⟩ := (HP.out.each p[L[k]] hmem).shape
    have HEA := Lib.hid (show earlyO f p[L[k]] = (arrF f p[L[k]].src).getD 0 from rfl)
    have hiq : L[k] < q.length := by rw [HD.out.2.len]; exact hkp
    have HNX := Lib.hid (show ∀ V, Below wr.heap.size wr V → ProgOwn (V.setCell ⟨g, 6 * L[k], none⟩ (.int .i64 (earlyO f p[L[k]]))) w.heap.size (.slice (some ⟨g, 0, none⟩) p.length c3) (q.set L[k] { q[L[k]] with t := earlyO f p[L[k]] }) ∧ Timed (fun i => if i = L[k] then earlyO f p[L[k]] else f i) p (q.set L[k] { q[L[k]] with t := earlyO f p[L[k]] }) from fun V hV => ⟨(HO.out.kept hV).time HD.out.2.len L[k] hkp hiq _, HD.out.2.put hiq _⟩)
    have HCE := Lib.hid (show ∀ V, Below wr.heap.size wr V → (∀ W, (Instr.indexAt 22 (.slice (some ⟨g, 0, none⟩) p.length c3) (.int .i64 (L[k] : Int))).run Try.prog W = .ok (.pointer (some ⟨g, 6 * L[k], none⟩)) W) ∧ V.cell? ⟨g, 6 * L[k], none⟩ = some (.int .i64 q[L[k]].t) ∧ V.frozen? ⟨g, 6 * L[k], none⟩ = false ∧ V.cell? ⟨w3.heap.size, 0, none⟩ = some (.slice (some ⟨g, 0, none⟩) p.length c3) from fun V hV => by
      obtain ⟨h1, ⟨h2, -⟩, h3⟩ := ops_own_at (HO.out.kept hV).1 HD.out.2.len L[k] hkp q[L[k]] (List.getElem?_eq_getElem hiq)
      exact ⟨h1, h2, h3 _, (hV.cell (p := ⟨w3.heap.size, 0, none⟩) (by simp; omega)).trans HRR.out.2⟩)
    have HKR := Lib.hid (show ∀ V y, Below wr.heap.size wr V → RowI (V.setCell ⟨g, 6 * L[k], none⟩ y) lb (L.map fun i : Nat => (i : Int)) ∧ (V.setCell ⟨g, 6 * L[k], none⟩ y).cell? ⟨w3.heap.size, 0, none⟩ = some (.slice (some ⟨g, 0, none⟩) p.length c3) from fun V y hV => by
      refine ⟨(HRR.out.1.kept hV).other _ _ _ (by omega), ?_⟩
      rw [World.cell?_setCell_other _ _ _ _ (by intro e; simp only [Addr.mk.injEq] at e; omega)]
      exact (hV.cell (p := ⟨w3.heap.size, 0, none⟩) (by simp; omega)).trans HRR.out.2)
    have HLT := Lib.hid hlt
    have hLk0 : (0 : Int) ≤ (L[k] : Int) := by omega
    have hLkn : (L[k] : Int) < (p.length : Int) := by omega
    have hgw : w.heap.size ≤ g := hg1
    generalize q[L[k]].t = old at *
    generalize (fun i => if i = L[k] then earlyO f p[L[k]] else f i) = f' at *
    generalize q.set L[k] _ = q' at *
    generalize earlyO f p[L[k]] = ev at *
    generalize L[k] = i at *
    clear hiq hmem hlt hkL
    generalize arrF f _ = ar at *
    generalize p[i] = o at *
    obtain ⟨t, ⟨c0, c1⟩, u, kd, fv, src⟩ := o
    simp only at r0 r1 r2 r3 r4 r5 HAR hfe
    subst hfe
    unfold optV at HAR
    go_wp2_with (go_at_call 52; refine HAR.out.mono ?_; go_must (rintro e w6 ⟨rfl, hb6⟩; obtain ⟨j1, j2, j3, j4⟩ := HCE.out w6 hb6; have HB6 := Lib.hid hb6; clear hb6; rw [← HEA.out]))
    go_roundw
    case rel => exact ⟨k + 1, f', q', HLT.out, by simp, Lib.hid ⟨HST.out, (HNX.out _ HB6.out).2⟩, Lib.hid (HNX.out _ HB6.out).1, Lib.hid (HKR.out _ _ HB6.out), (hb.trans (HB6.out.mono hs)).setCell (p := ⟨g, 6 * i, none⟩) hgw _, by have := HB6.out.size; simp; omega⟩
    case measure => simp only [intOf]; have := HLT.out; omega
end Go.Proofs.Ytbjbdochffocoaa
