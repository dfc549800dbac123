/- Events in order: the contract of the reference's Arranged; the reference's events: its walk. The elements at a time and a cell: plain; the reference's At: its walk. Conditions: none. -/
import Derived.Test.YtnejicklenhpeaaGreatEvL
import Derived.Test.YtnejicklenhpeaaGreatEvE
namespace Go.Proofs.YtnejicklenhpeaaGreat
open Go.RowKit
set_option linter.unusedVariables false
set_option maxHeartbeats 4000000 in
set_option maxRecDepth 100000 in
theorem arr_base (l : List EvD) (h2 : l.length < 2) (w : World) (v : Value) (hv : SlOf w w.heap.size 7 encE v l) :
    Calls Tryz.prog 134 #[v] w fun e w' => ArrR l e w' ∧ Below w.heap.size w w' := by
  have HV := Lib.hid hv
  obtain ⟨qa, qc, hqe, -⟩ := hv.shape
  subst hqe
  clear hv
  have HS := Lib.hid (show SortedE l by
    cases l with
    | nil => exact List.Pairwise.nil
    | cons x t =>
      cases t with
      | nil => exact List.pairwise_singleton _ _
      | cons y t2 => simp only [List.length_cons] at h2; omega)
  have h2' : (l.length : Int) < 2 := by omega
  generalize hn : l.length = n at *
  go_enter Tryz.func134, Tryz.ntmps134
  go_wp2
  refine bodyPost_ret (v := .slice qa n qc) (by simp only [results, Tryz.results134]; first | (go_simp; done) | (go_simp; rfl)) rfl ⟨⟨_, l, rfl, HV.out, List.Perm.refl _, HS.out⟩, by repeat (first | (with_reducible exact Below.refl _ _) | (with_reducible assumption) | (with_reducible refine Below.drew ?_) | (with_reducible refine Below.setCell ?_ (by first | (simp; done) | (simp; omega) | omega) _) | (with_reducible refine Below.alloc ?_ (by first | (simp; done) | (simp; omega) | omega) _) | (with_reducible refine below_drewN ?_ _) | (refine Below.trans ?_ (Below.mono (by with_reducible assumption) (by first | (simp; done) | (simp; omega) | omega))))⟩
theorem arranged_l : ∀ (n : Nat) (l : List EvD), l.length ≤ n → l.length ≤ 100000 → ∀ (w : World) (v : Value), SlOf w w.heap.size 7 encE v l → Calls Tryz.prog 134 #[v] w fun e w' => ArrR l e w' ∧ Below w.heap.size w w'
  | 0, l, hn, _, w, v, hv => arr_base l (by omega) w v hv
  | n + 1, l, hn, hb, w, v, hv => by
    by_cases h2 : 2 ≤ l.length
    · exact arr_step l h2 hb w v hv (fun l' hl' W u hu => arranged_l n l' (by omega) (by omega) W u hu)
    · exact arr_base l (by omega) w v hv
/-- The events of all elements, by variable and then by point. -/
def evsL (r : RecD) (s : SchedD) (u : P3) : List EvD := (List.range r.vars.length).flatMap fun v => (ptsL r.n r.l).map (evAt r s u v)
theorem flat_lenE {β : Type} (f : Nat → List β) (m : Nat) (h : ∀ v, (f v).length = m) : ∀ n, ((List.range n).flatMap f).length = n * m
  | 0 => by simp
  | n + 1 => by rw [List.range_succ, List.flatMap_append, List.length_append, flat_lenE f m h n, Nat.succ_mul]; simp [h]
theorem evsL_len (r : RecD) (s : SchedD) (u : P3) : (evsL r s u).length = r.vars.length * (ptsL r.n r.l).length := by
  exact flat_lenE _ _ (fun v => by simp) _
theorem flat_getE {α β : Type} (f : Nat → β → α) (L : List β) : ∀ (n v k : Nat) (hv : v < n) (hk : k < L.length), ((List.range n).flatMap fun v => L.map (f v))[v * L.length + k]? = some (f v L[k])
  | n + 1, v, k, hv, hk => by
    rw [List.range_succ, List.flatMap_append]
    have hl : ((List.range n).flatMap fun v => L.map (f v)).length = n * L.length := flat_lenE _ _ (fun v => by simp) n
    by_cases h : v < n
    · have hlt : v * L.length + k < n * L.length := by
        have : (v + 1) * L.length ≤ n * L.length := Nat.mul_le_mul_right _ h
        rw [Nat.succ_mul] at this; omega
      rw [List.getElem?_append_left (by rw [hl]; exact hlt)]
      exact flat_getE f L n v k h hk
    · have hv' : v = n := by omega
      subst hv'
      rw [List.getElem?_append_right (by rw [hl]; omega), hl, Nat.add_sub_cancel_left]
      simp [hk]
theorem evsL_take (r : RecD) (s : SchedD) (u : P3) (v k : Nat) (hv : v < r.vars.length) (hk : k < (ptsL r.n r.l).length) :
    (evsL r s u).take (v * (ptsL r.n r.l).length + k + 1) = (evsL r s u).take (v * (ptsL r.n r.l).length + k) ++ [evAt r s u v (ptsL r.n r.l)[k]] := by
  have h := flat_getE (fun v => evAt r s u v) (ptsL r.n r.l) r.vars.length v k hv hk
  obtain ⟨h1, h2⟩ := List.getElem?_eq_some_iff.1 (show (evsL r s u)[v * (ptsL r.n r.l).length + k]? = _ from h)
  rw [List.take_succ_eq_append_getElem h1, h2]
def EvsR (r : RecD) (s : SchedD) (u : P3) (e : Ending) (w' : World) : Prop := ArrR (evsL r s u) e w'
end Go.Proofs.YtnejicklenhpeaaGreat
namespace Go.Proofs.YtnejicklenhpeaaGreat
open Go.RowKit
set_option linter.unusedVariables false
def isAt (t : Int) (c : Int × Int) (x : EvD) : Bool := decide (x.t = t) && (decide (x.c.1 = c.1) && decide (x.c.2 = c.2))
/-- The elements at a time and a cell. -/
def atL (r : RecD) (s : SchedD) (u : P3) (t : Int) (c : Int × Int) : List ElD := ((evsL r s u).filter (isAt t c)).map EvD.e
def elB (a b : ElD) : Prop := a.1 < b.1 ∨ (a.1 = b.1 ∧ ltP a.2 b.2)
theorem evsL_sorted (r : RecD) (s : SchedD) (u : P3) : (evsL r s u).Pairwise (fun a b => elB a.e b.e) := by
  unfold evsL
  rw [List.pairwise_flatMap]
  refine ⟨fun v _ => ?_, ?_⟩
  · rw [List.pairwise_map]
    exact (ptsL_sorted r.n r.l).imp (fun h => .inr ⟨rfl, h⟩)
  · refine List.pairwise_lt_range.imp (fun {a b} hab => ?_)
    intro x hx y hy
    obtain ⟨p, _, rfl⟩ := List.mem_map.1 hx
    obtain ⟨q, _, rfl⟩ := List.mem_map.1 hy
    exact .inl (by show (a : Int) < (b : Int); omega)
theorem isAt_out {t : Int} {c : Int × Int} {x : EvD} (h : isAt t c x = true) : x.t = t ∧ x.c.1 = c.1 ∧ x.c.2 = c.2 := by
  simpa [isAt] using h
theorem at_le {t : Int} {c : Int × Int} {a b : EvD} (ha : isAt t c a = true) (hb : isAt t c b = true) (h : elB a.e b.e) : leB a b = true := by
  obtain ⟨a1, a2, a3⟩ := isAt_out ha
  obtain ⟨b1, b2, b3⟩ := isAt_out hb
  unfold leB
  have : ¬ (beforeB b a = true) := by
    rw [beforeB_iff]
    unfold elB ltP at h
    omega
  simpa using this
theorem at_same {r : RecD} {s : SchedD} {u : P3} {t : Int} {c : Int × Int} {l : List EvD} (hp : l.Perm (evsL r s u)) (ho : SortedE l) : (l.filter (isAt t c)).map EvD.e = atL r s u t c := by
  unfold atL
  congr 1
  refine List.Perm.eq_of_pairwise (le := fun a b => leB a b = true) (fun a b _ _ h1 h2 => leB_anti a b h1 h2) (List.Pairwise.filter _ ho) ?_ (hp.filter _)
  have h1 := List.Pairwise.filter (isAt t c) (evsL_sorted r s u)
  refine List.Pairwise.imp_of_mem (fun {a b} ha hb h => ?_) h1
  exact at_le (List.mem_filter.1 ha).2 (List.mem_filter.1 hb).2 h
def encEl (e : ElD) : List Value := [.int .i64 e.1, .int .i64 e.2.1, .int .i64 e.2.2.1, .int .i64 e.2.2.2]
abbrev OwnL (w : World) (base : Nat) (v : Value) (l : List ElD) : Prop := OwnOf w base 51 4 encEl v l
theorem slEl : SlT Tryz.prog 156 51 (.agg #[.int .i64 0, .int .i64 0, .int .i64 0, .int .i64 0]) 4 32 := ⟨Tryz.underlying156, by kernel_rfl, rfl, by decide⟩
def AtR (r : RecD) (s : SchedD) (u : P3) (t : Int) (c : Int × Int) (e : Ending) (w' : World) : Prop := ∃ v', e = .returned (.tuple #[v', .int .i64 (askS r s u)]) ∧ SlOf w' w'.heap.size 4 encEl v' (if askS r s u = 0 then atL r s u t c else [])
theorem atR_err {r : RecD} {s : SchedD} {u : P3} {t : Int} {c : Int × Int} {k : Int} (h : askS r s u = k) (hk : k ≠ 0) (w' : World) : AtR r s u t c (.returned (.tuple #[.slice none 0 0, .int .i64 k])) w' := by
  unfold AtR
  rw [h, if_neg hk]
  exact ⟨_, rfl, Sl.nil _ _ _⟩
theorem atR_ok {r : RecD} {s : SchedD} {u : P3} {t : Int} {c : Int × Int} (h : askS r s u = 0) {w' : World} {v' : Value} (hs : SlOf w' w'.heap.size 4 encEl v' (atL r s u t c)) : AtR r s u t c (.returned (.tuple #[v', .int .i64 0])) w' := by
  unfold AtR
  rw [h, if_pos rfl]
  exact ⟨_, rfl, hs⟩
end Go.Proofs.YtnejicklenhpeaaGreat
