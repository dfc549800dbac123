/- The cells that links add up to, by levels: plainly. -/
import Derived.Test.YtjceppinjeehiaaKit
namespace Go.Proofs.Ytjceppinjeehiaa
abbrev C2 := Int × Int
def add2 (a b : C2) : C2 := (a.1 + b.1, a.2 + b.2)
/-- One link at one cell: what was seen, and the next level. -/
def stepL (go : Bool) (c : C2) (st : List C2 × List C2) (l : C2) : List C2 × List C2 :=
  if go = true ∧ add2 c l ∉ st.1 then (st.1 ++ [add2 c l], st.2 ++ [add2 c l]) else st
def stepC (go : Bool) (links : List C2) (st : List C2 × List C2) (c : C2) : List C2 × List C2 := links.foldl (stepL go c) st
def level (go : Bool) (links now : List C2) (st : List C2 × List C2) : List C2 × List C2 := now.foldl (stepC go links) st
def wavesF (links : List C2) (most : Nat) : Nat → Nat → List C2 → List C2 → List (C2 × Nat)
  | 0, _, _, _ => []
  | f + 1, n, now, seen => if now = [] then [] else
    now.map (fun c => (c, n)) ++ wavesF links most f (n + 1) (level (decide (n < most)) links now (seen, [])).2 (level (decide (n < most)) links now (seen, [])).1
def wavesL (links : List C2) (most : Nat) : List (C2 × Nat) := wavesF links most (most + 1) 0 [(0, 0)] [(0, 0)]
theorem stepL_stop (c : C2) (st : List C2 × List C2) (l : C2) : stepL false c st l = st := by simp [stepL]
theorem stepC_stop (links : List C2) (c : C2) (st : List C2 × List C2) : stepC false links st c = st := by
  unfold stepC
  induction links with
  | nil => rfl
  | cons l r ih => simp only [List.foldl_cons, stepL_stop, ih]
theorem level_stop (links now : List C2) (st : List C2 × List C2) : level false links now st = st := by
  unfold level
  induction now with
  | nil => rfl
  | cons c r ih => simp only [List.foldl_cons, stepC_stop, ih]
/-- How a cell stands within. -/
def Near (m : Int) (c : C2) : Prop := -m ≤ c.1 ∧ c.1 ≤ m ∧ -m ≤ c.2 ∧ c.2 ≤ m
/-- What holds of what was seen and of the next level, m: how far. -/
structure Lev (m : Int) (st : List C2 × List C2) : Prop where
  nd : st.1.Nodup
  ns : ∀ c ∈ st.1, Near m c
  nx : ∀ c ∈ st.2, Near m c
  sub : ∀ c ∈ st.2, c ∈ st.1
  nd2 : st.2.Nodup
theorem Near.mono {m m' : Int} {c : C2} (h : Near m c) (hm : m ≤ m') : Near m' c := by obtain ⟨h1, h2, h3, h4⟩ := h; exact ⟨by omega, by omega, by omega, by omega⟩
theorem Near.add {m k : Int} {c l : C2} (h : Near m c) (hl : Near k l) : Near (m + k) (add2 c l) := by
  obtain ⟨h1, h2, h3, h4⟩ := h; obtain ⟨k1, k2, k3, k4⟩ := hl
  simp only [Near, add2]
  exact ⟨by omega, by omega, by omega, by omega⟩
theorem Lev.step {m : Int} {st : List C2 × List C2} (h : Lev m st) (go : Bool) (c l : C2) (hd : Near m (add2 c l)) : Lev m (stepL go c st l) := by
  unfold stepL
  split
  · rename_i hg
    refine ⟨?_, ?_, ?_, ?_, ?_⟩
    · simp only
      rw [List.nodup_append]
      exact ⟨h.nd, by simp, by intro a ha b hb; simp at hb; subst hb; intro e; subst e; exact hg.2 ha⟩
    · intro x hx; simp at hx; rcases hx with hx | rfl
      · exact h.ns x hx
      · exact hd
    · intro x hx; simp at hx; rcases hx with hx | rfl
      · exact h.nx x hx
      · exact hd
    · intro x hx; simp at hx ⊢; rcases hx with hx | rfl
      · exact .inl (h.sub x hx)
      · exact .inr rfl
    · simp only
      rw [List.nodup_append]
      exact ⟨h.nd2, by simp, by intro a ha b hb; simp at hb; subst hb; intro e; subst e; exact hg.2 (h.sub _ ha)⟩
  · exact h
theorem Lev.stepC {m : Int} (go : Bool) (c : C2) : ∀ (links : List C2) {st : List C2 × List C2}, Lev m st → (∀ l ∈ links, Near m (add2 c l)) → Lev m (stepC go links st c)
  | [], _, h, _ => h
  | l :: ls, st, h, hl => by
    have := Lev.stepC go c ls (h.step go c l (hl l (by simp))) (fun x hx => hl x (by simp [hx]))
    exact this
theorem Lev.level {m : Int} (go : Bool) (links : List C2) : ∀ (now : List C2) {st : List C2 × List C2}, Lev m st → (∀ c ∈ now, ∀ l ∈ links, Near m (add2 c l)) → Lev m (level go links now st)
  | [], _, h, _ => h
  | c :: cs, st, h, hl => by
    have := Lev.level go links cs (h.stepC go c links (hl c (by simp))) (fun x hx => hl x (by simp [hx]))
    exact this
/-- No more different cells than there are within. -/
theorem sub_len : ∀ (l m : List C2), l.Nodup → (∀ c ∈ l, c ∈ m) → l.length ≤ m.length
  | [], _, _, _ => by simp
  | c :: l, m, hn, hs => by
    have hc := hs c (by simp)
    have h1 := sub_len l (m.erase c) (List.nodup_cons.1 hn).2 (fun x hx => (List.mem_erase_of_ne (fun e : x = c => (List.nodup_cons.1 hn).1 (by rw [← e]; exact hx))).2 (hs x (by simp [hx])))
    have h2 := List.length_erase_of_mem hc
    have h3 := List.length_pos_of_mem hc
    simp only [List.length_cons]
    omega
def box (m : Nat) : List C2 := (List.range (2 * m + 1)).flatMap fun (x : Nat) => (List.range (2 * m + 1)).map fun (y : Nat) => (((x : Int) - (m : Int)), ((y : Int) - (m : Int)))
theorem near_box {m : Nat} {c : C2} (h : Near m c) : c ∈ box m := by
  obtain ⟨h1, h2, h3, h4⟩ := h
  simp only [box, List.mem_flatMap, List.mem_map, List.mem_range]
  exact ⟨(c.1 + m).toNat, by omega, (c.2 + m).toNat, by omega, by apply Prod.ext <;> simp <;> omega⟩
theorem sum_const (k : Nat) : ∀ l : List Nat, (l.map fun _ => k).sum = l.length * k
  | [] => by simp
  | _ :: l => by rw [List.map_cons, List.sum_cons, sum_const k l, List.length_cons, Nat.succ_mul, Nat.add_comm]
theorem box_len (m : Nat) : (box m).length = (2 * m + 1) * (2 * m + 1) := by
  simp [box, List.length_flatMap, sum_const]
theorem nodup_len {m : Nat} {l : List C2} (hn : l.Nodup) (h : ∀ c ∈ l, Near m c) : l.length ≤ (2 * m + 1) * (2 * m + 1) := by
  rw [← box_len]
  exact sub_len l _ hn (fun c hc => near_box (h c hc))
end Go.Proofs.Ytjceppinjeehiaa
