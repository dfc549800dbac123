/- Programs of operations, plainly: validity, what waits, values, earliest times. -/
import Derived.Test.YtbjbdochffocoaaKitA
namespace Go.Proofs.Ytbjbdochffocoaa
open Go.RowKit
/-- Where an operation takes a value from. -/
structure SrcD where
  op : Int
  val : Int
  hops : Int
/-- An operation; fv: the slice of its sources. -/
structure OpD where
  t : Int
  c : Int × Int
  unit : Int
  kind : Int
  fv : Value
  src : List SrcD
def encSr (s : SrcD) : List Value := [.int .i64 s.op, .int .i64 s.val, .int .i64 s.hops]
def encOp (o : OpD) : List Value := [.int .i64 o.t, .int .i64 o.c.1, .int .i64 o.c.2, .int .i64 o.unit, .int .i64 o.kind, o.fv]
/-- The slice v reads the program p. -/
structure ProgRd (w : World) (v : Value) (p : List OpD) : Prop where
  ops : SlOf w w.heap.size 6 encOp v p
  each : ∀ o ∈ p, SlOf w w.heap.size 3 encSr o.fv o.src
theorem ProgRd.below {w w' : World} {v : Value} {p : List OpD} (h : ProgRd w v p) (hb : Below w.heap.size w w') : ProgRd w' v p :=
  ⟨h.ops.below hb, fun o ho => (h.each o ho).below hb⟩
def btwM (lo n hi : Int) : Bool := decide (lo ≤ n) && decide (n ≤ hi)
theorem btwM_iff {lo n hi : Int} : btwM lo n hi = true ↔ lo ≤ n ∧ n ≤ hi := by simp [btwM]
def needK (k : Int) : Int := if k = 1 then 1 else if k = 5 then 3 else if 1 ≤ k ∧ k ≤ 7 then 2 else 0
def srcB (n : Int) (s : SrcD) : Bool := if s.op = -1 then btwM 0 s.val 10006 && decide (s.hops = 0) else btwM 0 s.op (n - 1) && decide (s.val = 0) && btwM 0 s.hops 12
def headB (o : OpD) : Bool := decide (needK o.kind ≠ 0) && decide ((o.src.length : Int) = needK o.kind) && (btwM (-100000) o.t 100000 && btwM 0 o.unit 3) && (btwM (-1000) o.c.1 1000 && btwM (-1000) o.c.2 1000)
def opB (n : Int) (o : OpD) : Bool := headB o && o.src.all (srcB n)
def validP (p : List OpD) : Bool := decide (p.length ≤ 4000) && p.all (opB p.length)
/-- Time, cell and unit of an operation. -/
abbrev SpotD := Int × Int × Int × Int
def spotO (o : OpD) : SpotD := (o.t, o.c.1, o.c.2, o.unit)
/-- The time at which the last value comes that an operation takes from others. -/
def arrF (tm : Nat → Int) : List SrcD → Option Int
  | [] => none
  | s :: l => if s.op < 0 then arrF tm l else match arrF tm l with
    | none => some (tm s.op.toNat + max 1 s.hops)
    | some a => some (max (tm s.op.toNat + max 1 s.hops) a)
def timeP (p : List OpD) (i : Nat) : Int := (p[i]?.map OpD.t).getD 0
theorem arrF_none {tm : Nat → Int} {l : List SrcD} : arrF tm l = none ↔ ∀ s ∈ l, s.op < 0 := by
  induction l with
  | nil => simp [arrF]
  | cons s l ih =>
    unfold arrF
    by_cases h : s.op < 0
    · rw [if_pos h, ih]; simp [h]
    · rw [if_neg h]
      constructor
      · intro e; cases hr : arrF tm l <;> rw [hr] at e <;> cases e
      · intro e; exact absurd (e s List.mem_cons_self) h
theorem arrF_le {tm : Nat → Int} {l : List SrcD} {a : Int} (h : arrF tm l = some a) : (∀ s ∈ l, 0 ≤ s.op → tm s.op.toNat + max 1 s.hops ≤ a) ∧ ∃ s ∈ l, 0 ≤ s.op ∧ tm s.op.toNat + max 1 s.hops = a := by
  induction l generalizing a with
  | nil => simp [arrF] at h
  | cons s l ih =>
    unfold arrF at h
    by_cases hs : s.op < 0
    · rw [if_pos hs] at h
      obtain ⟨h1, x, h2, h3⟩ := ih h
      refine ⟨fun y hy h0 => ?_, x, List.mem_cons_of_mem _ h2, h3⟩
      rcases List.mem_cons.1 hy with e | e
      · rw [e] at h0; omega
      · exact h1 y e h0
    · rw [if_neg hs] at h
      cases hr : arrF tm l with
      | none =>
        rw [hr] at h
        simp only [Option.some.injEq] at h
        have hn := arrF_none.1 hr
        refine ⟨fun y hy h0 => ?_, s, List.mem_cons_self, by omega, h⟩
        rcases List.mem_cons.1 hy with e | e
        · rw [e]; omega
        · have := hn y e; omega
      | some b =>
        rw [hr] at h
        simp only [Option.some.injEq] at h
        obtain ⟨h1, x, h2, h3, h4⟩ := ih hr
        refine ⟨fun y hy h0 => ?_, ?_⟩
        · rcases List.mem_cons.1 hy with e | e
          · rw [e]; omega
          · have := h1 y e h0; omega
        · by_cases hm : b ≤ tm s.op.toNat + max 1 s.hops
          · exact ⟨s, List.mem_cons_self, by omega, by omega⟩
          · exact ⟨x, List.mem_cons_of_mem _ h2, h3, by omega⟩
/-- By how many ticks an operation could be earlier, as the program keeps it: below -1 if it is not ready. -/
def slackO (tm : Nat → Int) (o : OpD) : Int := match arrF tm o.src with
  | none => -1
  | some a => if o.t < a then o.t - a - 1 else o.t - a
def lateB (tm : Nat → Int) (o : OpD) : Bool := match arrF tm o.src with
  | none => false
  | some a => decide (o.t < a)
theorem slack_late (tm : Nat → Int) (o : OpD) : decide (slackO tm o < -1) = lateB tm o := by
  unfold slackO lateB
  cases arrF tm o.src with
  | none => rfl
  | some a =>
    simp only
    rw [Bool.eq_iff_iff, decide_eq_true_eq, decide_eq_true_eq]
    by_cases h : o.t < a
    · rw [if_pos h]; omega
    · rw [if_neg h]; omega
def waitsP (p : List OpD) : List Nat := (List.range p.length).filter fun i => (p[i]?.map (lateB (timeP p))).getD false
/-- Every source is valid and ready. -/
def Ready (p : List OpD) : Prop := ∀ i (h : i < p.length), ∀ s ∈ p[i].src, 0 ≤ s.op → s.op.toNat < p.length ∧ timeP p s.op.toNat + max 1 s.hops ≤ p[i].t
theorem timeP_at {p : List OpD} {i : Nat} (h : i < p.length) : timeP p i = p[i].t := by unfold timeP; rw [List.getElem?_eq_getElem h]; rfl
theorem src_op {n : Nat} {s : SrcD} (h : srcB n s = true) (h0 : 0 ≤ s.op) : s.op.toNat < n ∧ s.val = 0 ∧ 0 ≤ s.hops ∧ s.hops ≤ 12 := by
  unfold srcB at h
  rw [if_neg (by omega)] at h
  simp only [Bool.and_eq_true, btwM_iff, decide_eq_true_eq] at h
  omega
theorem src_const {n : Int} {s : SrcD} (h : srcB n s = true) (h0 : s.op < 0) : s.op = -1 ∧ 0 ≤ s.val ∧ s.val ≤ 10006 ∧ s.hops = 0 := by
  unfold srcB at h
  by_cases he : s.op = -1
  · rw [if_pos he] at h
    simp only [Bool.and_eq_true, btwM_iff, decide_eq_true_eq] at h
    omega
  · rw [if_neg he] at h
    simp only [Bool.and_eq_true, btwM_iff, decide_eq_true_eq] at h
    omega
theorem valid_at {p : List OpD} (h : validP p = true) {i : Nat} (hi : i < p.length) : headB p[i] = true ∧ ∀ s ∈ p[i].src, srcB p.length s = true := by
  simp only [validP, Bool.and_eq_true, List.all_eq_true] at h
  have := h.2 _ (List.getElem_mem hi)
  simpa [opB] using this
theorem ready_of {p : List OpD} (h : validP p = true) (hw : waitsP p = []) : Ready p := by
  intro i hi s hs h0
  have hs1 := src_op ((valid_at h hi).2 s hs) h0
  refine ⟨hs1.1, ?_⟩
  have hl : lateB (timeP p) p[i] = false := by
    unfold waitsP at hw
    have := List.filter_eq_nil_iff.1 hw i (List.mem_range.2 hi)
    rw [List.getElem?_eq_getElem hi] at this
    simpa using this
  unfold lateB at hl
  cases ha : arrF (timeP p) p[i].src with
  | none => have := arrF_none.1 ha s hs; omega
  | some a =>
    rw [ha] at hl
    have h1 := (arrF_le ha).1 s hs h0
    have : ¬ p[i].t < a := by simpa using hl
    omega
theorem waits_of {p : List OpD} (hr : Ready p) : waitsP p = [] := by
  unfold waitsP
  rw [List.filter_eq_nil_iff]
  intro i hi
  rw [List.mem_range] at hi
  rw [List.getElem?_eq_getElem hi]
  simp only [Option.map_some, Option.getD_some]
  unfold lateB
  cases ha : arrF (timeP p) p[i].src with
  | none => simp
  | some a =>
    obtain ⟨s, hs, h0, e⟩ := (arrF_le ha).2
    have := (hr i hi s hs h0).2
    simp only [decide_eq_true_eq]
    omega
/-- A rule that follows times can be shown operation by operation. -/
theorem ready_ind {p : List OpD} (hr : Ready p) {Q : Nat → Prop} (h : ∀ i (hi : i < p.length), (∀ s ∈ p[i].src, 0 ≤ s.op → Q s.op.toNat) → Q i) : ∀ i, i < p.length → Q i := by
  obtain ⟨lo, hlo⟩ : ∃ lo : Int, ∀ i, i < p.length → lo ≤ timeP p i := by
    clear hr h
    have : ∀ n, ∃ lo : Int, ∀ i, i < n → lo ≤ timeP p i := by
      intro n
      induction n with
      | zero => exact ⟨0, fun i h => by omega⟩
      | succ n ih =>
        obtain ⟨lo, hl⟩ := ih
        refine ⟨min lo (timeP p n), fun i hi => ?_⟩
        by_cases e : i = n
        · subst e; omega
        · have := hl i (by omega); omega
    exact this _
  have key : ∀ m i, (timeP p i - lo).toNat ≤ m → i < p.length → Q i := by
    intro m
    induction m with
    | zero =>
      intro i hm hi
      refine h i hi (fun s hs h0 => ?_)
      obtain ⟨h1, h2⟩ := hr i hi s hs h0
      rw [← timeP_at hi] at h2
      have := hlo _ h1
      omega
    | succ m ih =>
      intro i hm hi
      refine h i hi (fun s hs h0 => ?_)
      obtain ⟨h1, h2⟩ := hr i hi s hs h0
      rw [← timeP_at hi] at h2
      have := hlo _ h1
      exact ih _ (by omega) h1
  exact fun i hi => key _ i (Nat.le_refl _) hi
def srcV (v : Nat → Int) (s : SrcD) : Int := if s.op < 0 then s.val else v s.op.toNat
def doK (k : Int) (a b c : Int) : Int := if k = 1 then a else if k = 2 then a + b else if k = 3 then a - b + 10007 else if k = 4 then a * b else if k = 5 then a + b * c else if k = 6 then max a b else min a b
def valO (v : Nat → Int) (o : OpD) : Int := doK o.kind ((o.src.map (srcV v)).getD 0 0) ((o.src.map (srcV v)).getD 1 0) ((o.src.map (srcV v)).getD 2 0) % 10007
/-- v is the value of each operation. -/
def Val (p : List OpD) (v : Nat → Int) : Prop := ∀ i (h : i < p.length), v i = valO v p[i]
theorem valO_eq {v u : Nat → Int} {o : OpD} (h : ∀ s ∈ o.src, 0 ≤ s.op → v s.op.toNat = u s.op.toNat) : valO v o = valO u o := by
  have : o.src.map (srcV v) = o.src.map (srcV u) := List.map_congr_left fun s hs => by
    unfold srcV
    by_cases h0 : s.op < 0
    · rw [if_pos h0, if_pos h0]
    · rw [if_neg h0, if_neg h0]; exact h s hs (by omega)
  unfold valO; rw [this]
theorem Val.same {p : List OpD} {v u : Nat → Int} (hr : Ready p) (h1 : Val p v) (h2 : Val p u) : ∀ i, i < p.length → v i = u i :=
  ready_ind hr fun i hi ih => by rw [h1 i hi, h2 i hi]; exact valO_eq ih
theorem valO_bd (v : Nat → Int) (o : OpD) : 0 ≤ valO v o ∧ valO v o < 10007 := by unfold valO; omega
/-- The earliest times. -/
def earlyO (v : Nat → Int) (o : OpD) : Int := (arrF v o.src).getD 0
def Erl (p : List OpD) (v : Nat → Int) : Prop := ∀ i (h : i < p.length), v i = earlyO v p[i]
theorem arrF_eq {v u : Nat → Int} {l : List SrcD} (h : ∀ s ∈ l, 0 ≤ s.op → v s.op.toNat = u s.op.toNat) : arrF v l = arrF u l := by
  induction l with
  | nil => rfl
  | cons s l ih =>
    unfold arrF
    rw [ih (fun x hx => h x (List.mem_cons_of_mem _ hx))]
    by_cases h0 : s.op < 0
    · rw [if_pos h0, if_pos h0]
    · rw [if_neg h0, if_neg h0, h s List.mem_cons_self (by omega)]
theorem Erl.same {p : List OpD} {v u : Nat → Int} (hr : Ready p) (h1 : Erl p v) (h2 : Erl p u) : ∀ i, i < p.length → v i = u i :=
  ready_ind hr fun i hi ih => by
    rw [h1 i hi, h2 i hi]; unfold earlyO; rw [arrF_eq ih]
end Go.Proofs.Ytbjbdochffocoaa
