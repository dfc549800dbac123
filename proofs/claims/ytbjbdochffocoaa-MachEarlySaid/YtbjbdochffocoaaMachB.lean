/- Programs of operations, plainly: what meets, exchanged operations, shifted and earliest times. -/
import Derived.Test.YtbjbdochffocoaaMachA
import Derived.Test.YtbjbdochffocoaaIdxA
namespace Go.Proofs.Ytbjbdochffocoaa
open Go.RowKit
def meetP (p : List OpD) : Option (Nat × Nat) := clashF (p.map spotO)
/-- The error of a run: 80 not valid, 81 two meet, 82 not ready. -/
def runErr (p : List OpD) : Int := if validP p = true then (if (meetP p).isSome = true then 81 else if waitsP p = [] then 0 else 82) else 80
theorem clash_iff {κ : Type} [DecidableEq κ] (l : List κ) : (clashF l).isSome = true ↔ ¬ l.Nodup := by
  constructor
  · intro h hn
    obtain ⟨⟨i, k⟩, e⟩ := Option.isSome_iff_exists.1 h
    obtain ⟨h1, h2, h3⟩ := clash_out e
    rw [List.getElem?_eq_getElem (by omega), List.getElem?_eq_getElem h2, Option.some.injEq] at h3
    have := List.pairwise_iff_getElem.1 hn i k (by omega) h2 h1
    exact this h3
  · intro h
    by_cases hc : clashF l = none
    · exfalso
      apply h
      rw [List.Nodup, List.pairwise_iff_getElem]
      intro i j hi hj hij e
      have := clash_inj hc (List.getElem?_eq_getElem hi) (by rw [List.getElem?_eq_getElem hj, e])
      omega
    · exact Option.isSome_iff_ne_none.2 hc
/-- The result of a run. -/
structure RunOk (p : List OpD) (l : List Int) : Prop where
  len : l.length = p.length
  val : Val p (fun i => l.getD i 0)
theorem RunOk.same {p : List OpD} {l m : List Int} (hr : Ready p) (h1 : RunOk p l) (h2 : RunOk p m) : l = m := by
  refine List.ext_getElem (h1.len.trans h2.len.symm) (fun i h3 h4 => ?_)
  have := Val.same hr h1.val h2.val i (by rw [← h1.len]; exact h3)
  simpa [List.getD_eq_getElem?_getD, List.getElem?_eq_getElem h3, List.getElem?_eq_getElem h4] using this
theorem RunOk.bd {p : List OpD} {l : List Int} (h : RunOk p l) {i : Nat} (hi : i < l.length) : 0 ≤ l[i] ∧ l[i] < 10007 := by
  have h1 := h.val i (by rw [← h.len]; exact hi)
  have h2 := valO_bd (fun i => l.getD i 0) (p[i]'(by rw [← h.len]; exact hi))
  rw [← h1] at h2
  simpa [List.getD_eq_getElem?_getD, List.getElem?_eq_getElem hi] using h2
theorem runErr_ok {p : List OpD} (h : runErr p = 0) : validP p = true ∧ meetP p = none ∧ waitsP p = [] ∧ Ready p := by
  unfold runErr at h
  by_cases hv : validP p = true
  · rw [if_pos hv] at h
    by_cases hm : (meetP p).isSome = true
    · rw [if_pos hm] at h; omega
    · rw [if_neg hm] at h
      by_cases hw : waitsP p = []
      · exact ⟨hv, by simpa using hm, hw, ready_of hv hw⟩
      · rw [if_neg hw] at h; omega
  · rw [if_neg hv] at h; omega
theorem waits_nil {p : List OpD} : waitsP p = [] ↔ ∀ i (h : i < p.length), lateB (timeP p) p[i] = false := by
  unfold waitsP
  rw [List.filter_eq_nil_iff]
  constructor
  · intro h i hi
    have := h i (List.mem_range.2 hi)
    rw [List.getElem?_eq_getElem hi] at this
    simpa using this
  · intro h i hi
    rw [List.mem_range] at hi
    rw [List.getElem?_eq_getElem hi]
    simp only [Option.map_some, Option.getD_some, h i hi]
    simp
/-! ### two operations exchanged -/
def exI (a b i : Nat) : Nat := if i = a then b else if i = b then a else i
theorem exI_exI (a b i : Nat) : exI a b (exI a b i) = i := by
  unfold exI
  repeat' split
  all_goals omega
theorem exI_lt {a b i n : Nat} (ha : a < n) (hb : b < n) (hi : i < n) : exI a b i < n := by
  unfold exI
  repeat' split
  all_goals omega
def exS (a b : Nat) (s : SrcD) : SrcD := if s.op < 0 then s else { s with op := (exI a b s.op.toNat : Int) }
/-- q is p with the operations a and b exchanged. -/
structure Exch (a b : Nat) (p q : List OpD) : Prop where
  len : q.length = p.length
  la : a < p.length
  lb : b < p.length
  at_ : ∀ i (h : i < q.length) (h2 : exI a b i < p.length), q[i].t = p[exI a b i].t ∧ q[i].c = p[exI a b i].c ∧ q[i].unit = p[exI a b i].unit ∧ q[i].kind = p[exI a b i].kind ∧ q[i].src = p[exI a b i].src.map (exS a b)
theorem exS_op {a b : Nat} {s : SrcD} : (exS a b s).op < 0 ↔ s.op < 0 := by
  unfold exS; split
  · exact Iff.rfl
  · simp only; omega
theorem exS_nat {a b : Nat} {s : SrcD} (h : ¬ s.op < 0) : (exS a b s).op.toNat = exI a b s.op.toNat ∧ (exS a b s).hops = s.hops ∧ (exS a b s).val = s.val := by
  unfold exS; rw [if_neg h]; exact ⟨by simp, rfl, rfl⟩
theorem srcB_ex {a b n : Nat} (ha : a < n) (hb : b < n) (s : SrcD) : srcB n (exS a b s) = srcB n s := by
  by_cases h : s.op < 0
  · unfold exS; rw [if_pos h]
  · have h1 := exI_lt (i := s.op.toNat) ha hb
    have h2 := exI_lt (i := exI a b s.op.toNat) ha hb
    rw [exI_exI] at h2
    unfold srcB exS
    rw [if_neg h]
    simp only
    rw [if_neg (by omega), if_neg (by omega)]
    congr 2
    unfold btwM
    rw [Bool.eq_iff_iff]
    simp only [Bool.and_eq_true, decide_eq_true_eq]
    constructor
    · intro h3; have := h2 (by omega); omega
    · intro h3; have := h1 (by omega); omega
section
variable {a b : Nat} {p q : List OpD}
theorem Exch.time (h : Exch a b p q) (i : Nat) : timeP q (exI a b i) = timeP p i := by
  unfold timeP
  by_cases hi : i < p.length
  · have h1 := exI_lt h.la h.lb hi
    have h2 := (h.at_ (exI a b i) (by rw [h.len]; exact h1) (by rw [exI_exI]; exact hi)).1
    rw [List.getElem?_eq_getElem hi, List.getElem?_eq_getElem (by rw [h.len]; exact h1)]
    simp only [Option.map_some, Option.getD_some]
    rw [h2]; simp only [exI_exI]
  · have h1 : ¬ exI a b i < p.length := fun h1 => hi (by have := exI_lt h.la h.lb h1; rwa [exI_exI] at this)
    rw [List.getElem?_eq_none (show q.length ≤ exI a b i by rw [h.len]; omega), List.getElem?_eq_none (show p.length ≤ i by omega)]
theorem arrF_ex {tm tm' : Nat → Int} (ht : ∀ i, tm' (exI a b i) = tm i) (l : List SrcD) : arrF tm' (l.map (exS a b)) = arrF tm l := by
  induction l with
  | nil => rfl
  | cons s l ih =>
    simp only [List.map_cons, arrF]
    rw [ih]
    by_cases h : s.op < 0
    · rw [if_pos h, if_pos (exS_op.2 h)]
    · rw [if_neg h, if_neg (fun e => h (exS_op.1 e)), (exS_nat h).1, (exS_nat h).2.1, ht]
theorem Exch.all (h : Exch a b p q) {Q R : OpD → Bool} (hq : ∀ i (h1 : i < q.length) (h2 : exI a b i < p.length), Q q[i] = R p[exI a b i]) : q.all Q = p.all R := by
  rw [Bool.eq_iff_iff, List.all_eq_true, List.all_eq_true]
  constructor
  · intro hh x hx
    obtain ⟨i, hi, rfl⟩ := List.getElem_of_mem hx
    have h1 := exI_lt h.la h.lb hi
    have := hq (exI a b i) (by rw [h.len]; exact h1) (by rw [exI_exI]; exact hi)
    simp only [exI_exI] at this
    rw [← this]
    exact hh _ (List.getElem_mem _)
  · intro hh x hx
    obtain ⟨i, hi, rfl⟩ := List.getElem_of_mem hx
    have h1 := exI_lt h.la h.lb (show i < p.length by rw [← h.len]; exact hi)
    rw [hq i hi h1]
    exact hh _ (List.getElem_mem _)
theorem Exch.valid (h : Exch a b p q) : validP q = validP p := by
  unfold validP
  rw [h.len]
  congr 1
  refine h.all (fun i h1 h2 => ?_)
  obtain ⟨e1, e2, e3, e4, e5⟩ := h.at_ i h1 h2
  unfold opB headB
  rw [e1, e2, e3, e4, e5, List.length_map, List.all_map]
  congr 1
  refine List.all_congr rfl (fun s => ?_)
  exact srcB_ex h.la h.lb s
theorem Exch.spots (h : Exch a b p q) : (q.map spotO).Nodup ↔ (p.map spotO).Nodup := by
  have key : ∀ {a b : Nat} {p q : List OpD}, Exch a b p q → (p.map spotO).Nodup → (q.map spotO).Nodup := by
    intro a b p q h hn
    rw [List.Nodup, List.pairwise_iff_getElem] at hn ⊢
    intro i j hi hj hij e
    simp only [List.length_map] at hi hj
    have h1 := exI_lt h.la h.lb (show i < p.length by rw [← h.len]; exact hi)
    have h2 := exI_lt h.la h.lb (show j < p.length by rw [← h.len]; exact hj)
    simp only [List.getElem_map] at e
    have e1 : spotO q[i] = spotO p[exI a b i] := by obtain ⟨e1, e2, e3, -⟩ := h.at_ i hi h1; unfold spotO; rw [e1, e2, e3]
    have e2 : spotO q[j] = spotO p[exI a b j] := by obtain ⟨e1, e2, e3, -⟩ := h.at_ j hj h2; unfold spotO; rw [e1, e2, e3]
    rw [e1, e2] at e
    have hne : exI a b i ≠ exI a b j := fun e' => by have := congrArg (exI a b) e'; rw [exI_exI, exI_exI] at this; omega
    rcases Nat.lt_or_gt_of_ne hne with hl | hl
    · exact hn _ _ (by simpa using h1) (by simpa using h2) hl (by simpa using e)
    · exact hn _ _ (by simpa using h2) (by simpa using h1) hl (by simpa using e.symm)
  refine ⟨fun hq => ?_, key h⟩
  -- the other way round: without the sources
  rw [List.Nodup, List.pairwise_iff_getElem] at hq ⊢
  intro i j hi hj hij e
  simp only [List.length_map] at hi hj
  have h1 := exI_lt h.la h.lb hi
  have h2 := exI_lt h.la h.lb hj
  simp only [List.getElem_map] at e
  have e1 : spotO (q[exI a b i]'(by rw [h.len]; exact h1)) = spotO p[i] := by obtain ⟨e1, e2, e3, -⟩ := h.at_ (exI a b i) (by rw [h.len]; exact h1) (by rw [exI_exI]; exact hi); unfold spotO; rw [e1, e2, e3]; simp only [exI_exI]
  have e2 : spotO (q[exI a b j]'(by rw [h.len]; exact h2)) = spotO p[j] := by obtain ⟨e1, e2, e3, -⟩ := h.at_ (exI a b j) (by rw [h.len]; exact h2) (by rw [exI_exI]; exact hj); unfold spotO; rw [e1, e2, e3]; simp only [exI_exI]
  rw [← e1, ← e2] at e
  have hne : exI a b i ≠ exI a b j := fun e' => by have := congrArg (exI a b) e'; rw [exI_exI, exI_exI] at this; omega
  rcases Nat.lt_or_gt_of_ne hne with hl | hl
  · exact hq _ _ (by simpa [h.len] using h1) (by simpa [h.len] using h2) hl (by simpa using e)
  · exact hq _ _ (by simpa [h.len] using h2) (by simpa [h.len] using h1) hl (by simpa using e.symm)
theorem Exch.waits (h : Exch a b p q) : waitsP q = [] ↔ waitsP p = [] := by
  rw [waits_nil, waits_nil]
  have e : ∀ i (h1 : i < q.length) (h2 : exI a b i < p.length), lateB (timeP q) q[i] = lateB (timeP p) p[exI a b i] := fun i h1 h2 => by
    obtain ⟨e1, -, -, -, e5⟩ := h.at_ i h1 h2
    unfold lateB
    rw [e1, e5, arrF_ex h.time]
  constructor
  · intro hh i hi
    have h1 := exI_lt h.la h.lb hi
    have := e (exI a b i) (by rw [h.len]; exact h1) (by rw [exI_exI]; exact hi)
    simp only [exI_exI] at this
    rw [← this]; exact hh _ _
  · intro hh i hi
    have h1 := exI_lt h.la h.lb (show i < p.length by rw [← h.len]; exact hi)
    rw [e i hi h1]; exact hh _ _
theorem Exch.err (h : Exch a b p q) : runErr q = runErr p := by
  have hm : (meetP q).isSome = (meetP p).isSome := by
    rw [Bool.eq_iff_iff]; unfold meetP; rw [clash_iff, clash_iff, h.spots]
  unfold runErr
  rw [h.valid, hm]
  by_cases hw : waitsP p = []
  · rw [if_pos hw, if_pos (h.waits.2 hw)]
  · rw [if_neg hw, if_neg (fun e => hw (h.waits.1 e))]
theorem Exch.run (h : Exch a b p q) (h0 : runErr p = 0) {l m : List Int} (h1 : RunOk p l) (h2 : RunOk q m) : ∀ i, i < p.length → m.getD i 0 = l.getD (exI a b i) 0 := by
  have hr := (runErr_ok (h.err.trans h0)).2.2.2
  have hv : Val q (fun i => l.getD (exI a b i) 0) := fun i hi => by
    have hx := exI_lt h.la h.lb (show i < p.length by rw [← h.len]; exact hi)
    obtain ⟨-, -, -, e4, e5⟩ := h.at_ i hi hx
    have h3 := h1.val (exI a b i) hx
    simp only at h3 ⊢
    rw [h3]
    unfold valO
    rw [e4, e5, List.map_map]
    have : p[exI a b i].src.map (srcV (fun i => l.getD i 0)) = p[exI a b i].src.map (srcV (fun i => l.getD (exI a b i) 0) ∘ exS a b) := List.map_congr_left fun s _ => by
      simp only [Function.comp, srcV]
      by_cases hs : s.op < 0
      · rw [if_pos hs, if_pos (exS_op.2 hs)]; unfold exS; rw [if_pos hs]
      · rw [if_neg hs, if_neg (fun e => hs (exS_op.1 e)), (exS_nat hs).1, exI_exI]
    rw [this]
  intro i hi
  exact Val.same hr h2.val hv i (by rw [h.len]; exact hi)
end
/-! ### shifted times -/
def shiftP (by_ : Int) (p : List OpD) : List OpD := p.map fun o => { o with t := o.t + by_ }
/-- q is p, but for where its sources lie, and later by a number. -/
structure Later (by_ : Int) (p q : List OpD) : Prop where
  len : q.length = p.length
  at_ : ∀ i (h : i < q.length) (h2 : i < p.length), q[i].t = p[i].t + by_ ∧ q[i].c = p[i].c ∧ q[i].unit = p[i].unit ∧ q[i].kind = p[i].kind ∧ q[i].src = p[i].src
section
variable {d : Int} {p q : List OpD}
theorem arrF_add {tm tm' : Nat → Int} (l : List SrcD) (h : ∀ s ∈ l, 0 ≤ s.op → tm' s.op.toNat = tm s.op.toNat + d) : arrF tm' l = (arrF tm l).map (· + d) := by
  induction l with
  | nil => rfl
  | cons s l ih =>
    simp only [arrF]
    rw [ih (fun x hx => h x (List.mem_cons_of_mem _ hx))]
    by_cases h0 : s.op < 0
    · rw [if_pos h0, if_pos h0]
    · rw [if_neg h0, if_neg h0, h s List.mem_cons_self (by omega)]
      cases arrF tm l with
      | none => simp only [Option.map_none, Option.map_some]; congr 1; omega
      | some x => simp only [Option.map_some]; congr 1; omega
theorem Later.time (h : Later d p q) {i : Nat} (hi : i < p.length) : timeP q i = timeP p i + d := by
  rw [timeP_at hi, timeP_at (by rw [h.len]; exact hi)]
  exact (h.at_ i (by rw [h.len]; exact hi) hi).1
theorem Later.valid (h : Later d p q) (hv : validP p = true) (ht : ∀ i (hi : i < q.length), -100000 ≤ q[i].t ∧ q[i].t ≤ 100000) : validP q = true := by
  simp only [validP, Bool.and_eq_true, decide_eq_true_eq, List.all_eq_true] at hv ⊢
  refine ⟨by rw [h.len]; exact hv.1, fun x hx => ?_⟩
  obtain ⟨i, hi, rfl⟩ := List.getElem_of_mem hx
  obtain ⟨e1, e2, e3, e4, e5⟩ := h.at_ i hi (by rw [← h.len]; exact hi)
  have h1 := hv.2 _ (List.getElem_mem (show i < p.length by rw [← h.len]; exact hi))
  have h2 := ht i hi
  have hn : (q.length : Int) = (p.length : Int) := by rw [h.len]
  rw [hn]
  unfold opB headB at h1 ⊢
  rw [e2, e3, e4, e5]
  simp only [Bool.and_eq_true, btwM_iff] at h1 ⊢
  exact ⟨⟨⟨h1.1.1.1, h2, h1.1.1.2.2⟩, h1.1.2⟩, h1.2⟩
theorem Later.waits (h : Later d p q) (hv : validP p = true) : waitsP q = [] ↔ waitsP p = [] := by
  rw [waits_nil, waits_nil]
  have e : ∀ i (h1 : i < q.length) (h2 : i < p.length), lateB (timeP q) q[i] = lateB (timeP p) p[i] := fun i h1 h2 => by
    obtain ⟨e1, -, -, -, e5⟩ := h.at_ i h1 h2
    unfold lateB
    rw [e5, arrF_add (tm := timeP p) (d := d) _ (fun s hs h0 => h.time (src_op ((valid_at hv h2).2 s hs) h0).1), e1]
    cases arrF (timeP p) p[i].src with
    | none => rfl
    | some x => simp only [Option.map_some]; rw [Bool.eq_iff_iff, decide_eq_true_eq, decide_eq_true_eq]; omega
  constructor
  · intro hh i hi
    rw [← e i (by rw [h.len]; exact hi) hi]; exact hh _ _
  · intro hh i hi
    rw [e i hi (by rw [← h.len]; exact hi)]; exact hh _ _
theorem Later.spots (h : Later d p q) : (q.map spotO).Nodup ↔ (p.map spotO).Nodup := by
  have e : ∀ i (h1 : i < q.length) (h2 : i < p.length) j (h3 : j < q.length) (h4 : j < p.length), (spotO q[i] = spotO q[j] ↔ spotO p[i] = spotO p[j]) := fun i h1 h2 j h3 h4 => by
    obtain ⟨e1, e2, e3, -⟩ := h.at_ i h1 h2
    obtain ⟨f1, f2, f3, -⟩ := h.at_ j h3 h4
    unfold spotO
    rw [e1, e2, e3, f1, f2, f3]
    simp only [Prod.mk.injEq]
    constructor
    · rintro ⟨a, b⟩; exact ⟨by omega, b⟩
    · rintro ⟨a, b⟩; exact ⟨by omega, b⟩
  unfold List.Nodup
  rw [List.pairwise_iff_getElem, List.pairwise_iff_getElem]
  constructor
  · intro hh i j hi hj hij
    simp only [List.length_map] at hi hj
    have := hh i j (by simpa [h.len] using hi) (by simpa [h.len] using hj) hij
    simp only [List.getElem_map] at this ⊢
    exact fun e' => this ((e i (by rw [h.len]; exact hi) hi j (by rw [h.len]; exact hj) hj).2 e')
  · intro hh i j hi hj hij
    simp only [List.length_map] at hi hj
    have := hh i j (by simpa [← h.len] using hi) (by simpa [← h.len] using hj) hij
    simp only [List.getElem_map] at this ⊢
    exact fun e' => this ((e i hi (by rw [← h.len]; exact hi) j hj (by rw [← h.len]; exact hj)).1 e')
theorem Later.err (h : Later d p q) (hv : validP p = true) (ht : ∀ i (hi : i < q.length), -100000 ≤ q[i].t ∧ q[i].t ≤ 100000) : runErr q = runErr p := by
  have hm : (meetP q).isSome = (meetP p).isSome := by
    rw [Bool.eq_iff_iff]; unfold meetP; rw [clash_iff, clash_iff, h.spots]
  unfold runErr
  rw [h.valid hv ht, hv, hm]
  by_cases hw : waitsP p = []
  · rw [if_pos hw, if_pos ((h.waits hv).2 hw)]
  · rw [if_neg hw, if_neg (fun e => hw ((h.waits hv).1 e))]
theorem Later.run (h : Later d p q) {l : List Int} (h1 : RunOk p l) : RunOk q l := by
  refine ⟨h1.len.trans h.len.symm, fun i hi => ?_⟩
  obtain ⟨-, -, -, e4, e5⟩ := h.at_ i hi (by rw [← h.len]; exact hi)
  have h3 := h1.val i (by rw [← h.len]; exact hi)
  rw [h3]; unfold valO; rw [e4, e5]
end
end Go.Proofs.Ytbjbdochffocoaa
