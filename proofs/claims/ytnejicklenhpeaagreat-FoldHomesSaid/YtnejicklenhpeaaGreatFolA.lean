/- The lines of all cells (plain): each point once; points of a line lie along the direction; the opposite direction has the same cells. -/
import Derived.Test.YtnejicklenhpeaaGreatCelN
namespace Go.Proofs.YtnejicklenhpeaaGreat
open Go.RowKit Go.Lib
def negP (u : P3) : P3 := (-u.1, -u.2.1, -u.2.2)
theorem oneB_neg (x : Int) : oneB (-x) = oneB x := by
  unfold oneB; rw [decide_eq_decide]; omega
theorem findK_neg (n x0 x1 x2 : Int) : findK n (-x0) (-x1) (-x2) = findK n x0 x1 x2 := by
  unfold findK; simp only [oneB_neg]
theorem flatB_neg (n x0 x1 x2 m : Int) : flatB n (-x0) (-x1) (-x2) m = flatB n x0 x1 x2 m := by
  have h : ∀ x, btw (-m) (-x) m = btw (-m) x m := fun x => by unfold btw; rw [decide_eq_decide]; omega
  have h0 : ∀ x : Int, decide (-x = 0) = decide (x = 0) := fun x => by rw [decide_eq_decide]; omega
  unfold flatB
  simp only [h, h0]
theorem dirB_neg (n : Int) (u : P3) : dirB n (negP u) = dirB n u := by
  unfold dirB validB negP
  simp only [findK_neg, flatB_neg]
/-- The cell without the machine's wrap. -/
theorem cell_plain {n : Int} {u p : P3} (hd : dirB n u = true) (h : Sm 20 p) :
    (axK n u = 0 → (cellC n u p).1 = (if n = 1 then 0 else p.2.1 - p.1 * u.1 * u.2.1) ∧ (cellC n u p).2 = (if n ≤ 2 then 0 else p.2.2 - p.1 * u.1 * u.2.2)) ∧
    (axK n u = 1 → (cellC n u p).1 = p.1 - p.2.1 * u.2.1 * u.1 ∧ (cellC n u p).2 = (if n ≤ 2 then 0 else p.2.2 - p.2.1 * u.2.1 * u.2.2)) ∧
    (axK n u = 2 → (cellC n u p).1 = p.1 - p.2.2 * u.2.2 * u.1 ∧ (cellC n u p).2 = p.2.1 - p.2.2 * u.2.2 * u.2.1) := by
  obtain ⟨p0, p1, p2⟩ := p
  obtain ⟨u0, u1, u2⟩ := u
  obtain ⟨hn, hf, hk⟩ := validB_out hd
  have hu := flat_out hf
  obtain ⟨h0, h1, h2⟩ := h
  simp only at h0 h1 h2 hu
  have ho := findK_one (n := n) (x0 := u0) (x1 := u1) (x2 := u2)
  have hdir := dir_cases hd
  have key : ∀ {pi pk uk ui : Int}, (-20 ≤ pi ∧ pi ≤ 20) → (-20 ≤ pk ∧ pk ≤ 20) → (uk = 1 ∨ uk = -1) → (-3 ≤ ui ∧ ui ≤ 3) → cw pi pk uk ui = pi - pk * uk * ui :=
    fun a b c d => cw_eq (by omega) (by omega) c d
  unfold axK at hdir ⊢
  unfold cellC axK
  simp only at hdir ⊢
  refine ⟨fun e => ?_, fun e => ?_, fun e => ?_⟩
  · have c := ho.1 e
    rw [e]
    unfold cA cB
    rw [if_pos rfl, key h1 h0 c hu.2.1, if_pos rfl, key h2 h0 c hu.2.2]
    exact ⟨rfl, rfl⟩
  · have c := ho.2.1 e
    have hn1 : n ≠ 1 := by intro h; subst h; rcases hdir with ⟨_, h, _⟩ | ⟨h, _⟩ | ⟨h, _⟩ <;> omega
    rw [e]
    unfold cA cB
    simp only [key h0 h1 c hu.1, key h2 h1 c hu.2.2]
    exact ⟨by simp [hn1], by simp⟩
  · have c := ho.2.2 e
    have hn1 : n = 3 := by rcases hdir with ⟨_, h, _⟩ | ⟨_, h, _⟩ | ⟨h, _⟩ <;> omega
    subst hn1
    rw [e]
    unfold cA cB
    simp only [key h0 h2 c hu.1, key h1 h2 c hu.2.1]
    exact ⟨by simp, by simp⟩
theorem ax_cases {n : Int} {u : P3} (hd : dirB n u = true) : axK n u = 0 ∨ axK n u = 1 ∨ axK n u = 2 := by
  rcases dir_cases hd with ⟨_, h, _⟩ | ⟨_, h, _⟩ | ⟨_, h⟩ <;> omega
theorem ax_one {n : Int} {u : P3} : (axK n u = 0 → u.1 = 1 ∨ u.1 = -1) ∧ (axK n u = 1 → u.2.1 = 1 ∨ u.2.1 = -1) ∧ (axK n u = 2 → u.2.2 = 1 ∨ u.2.2 = -1) := findK_one
theorem cell_neg {n : Int} {u p : P3} (hd : dirB n u = true) (h : Sm 20 p) : cellC n (negP u) p = cellC n u p := by
  have h1 := cell_plain hd h
  have h2 := cell_plain (u := negP u) (by rw [dirB_neg]; exact hd) h
  have ha : axK n (negP u) = axK n u := by unfold axK negP; exact findK_neg _ _ _ _
  rw [ha] at h2
  have e : ∀ a b c : Int, a * -b * -c = a * b * c := fun a b c => by rw [Int.mul_neg, Int.mul_neg, Int.neg_mul, Int.neg_neg]
  simp only [negP, e] at h2
  rcases ax_cases hd with k | k | k
  · exact Prod.ext_iff.2 ⟨(h2.1 k).1.trans (h1.1 k).1.symm, (h2.1 k).2.trans (h1.1 k).2.symm⟩
  · exact Prod.ext_iff.2 ⟨(h2.2.1 k).1.trans (h1.2.1 k).1.symm, (h2.2.1 k).2.trans (h1.2.1 k).2.symm⟩
  · exact Prod.ext_iff.2 ⟨(h2.2.2 k).1.trans (h1.2.2 k).1.symm, (h2.2.2 k).2.trans (h1.2.2 k).2.symm⟩
/-- Two points of one cell differ by a multiple of the direction. -/
theorem cell_along {n : Int} {u p q : P3} (hd : dirB n u = true) {m : Int} (hm : m ≤ 20) (hp : flatB n p.1 p.2.1 p.2.2 m = true) (hq : flatB n q.1 q.2.1 q.2.2 m = true) (h : cellC n u p = cellC n u q) :
    ∃ t : Int, q.1 - p.1 = t * u.1 ∧ q.2.1 - p.2.1 = t * u.2.1 ∧ q.2.2 - p.2.2 = t * u.2.2 := by
  have sm : ∀ {x : P3}, flatB n x.1 x.2.1 x.2.2 m = true → Sm 20 x := fun hx => by
    obtain ⟨a, b, c⟩ := flat_sm hx
    exact ⟨by omega, by simp only at b; omega, by simp only at c; omega⟩
  have h1 := cell_plain hd (sm hp)
  have h2 := cell_plain hd (sm hq)
  have hdir := dir_cases hd
  have ho := ax_one (n := n) (u := u)
  have pp := flat_pad (validB_out hd).1 hp
  have pq := flat_pad (validB_out hd).1 hq
  have e1 := congrArg Prod.fst h
  have e2 := congrArg Prod.snd h
  obtain ⟨p0, p1, p2⟩ := p
  obtain ⟨q0, q1, q2⟩ := q
  obtain ⟨u0, u1, u2⟩ := u
  simp only at *
  have key : ∀ {a b ua ui pi qi : Int}, (ua = 1 ∨ ua = -1) → pi - a * ua * ui = qi - b * ua * ui → qi - pi = (b - a) * ua * ui := by
    intro a b ua ui pi qi _ h
    rw [Int.sub_mul, Int.sub_mul]; omega
  have self : ∀ {a b ua : Int}, (ua = 1 ∨ ua = -1) → b - a = (b - a) * ua * ua := by
    intro a b ua h
    rcases h with rfl | rfl <;> omega
  rcases hdir with ⟨rfl, k, rfl, rfl⟩ | ⟨rfl, k | k, rfl⟩ | ⟨rfl, k | k | k⟩
  · rcases pp with ⟨_, rfl, rfl, _⟩ | ⟨c, _⟩ | ⟨c, _⟩
    · rcases pq with ⟨_, rfl, rfl, _⟩ | ⟨c, _⟩ | ⟨c, _⟩
      · exact ⟨(q0 - p0) * u0, self (ho.1 k), by simp, by simp⟩
      · omega
      · omega
    · omega
    · omega
  · have r1 := (h1.1 k).1; have r2 := (h2.1 k).1
    simp only [if_neg (show ¬ (2 : Int) = 1 by omega)] at r1 r2
    rcases pp with ⟨c, _⟩ | ⟨_, rfl, _⟩ | ⟨c, _⟩
    · omega
    · rcases pq with ⟨c, _⟩ | ⟨_, rfl, _⟩ | ⟨c, _⟩
      · omega
      · exact ⟨(q0 - p0) * u0, self (ho.1 k), key (ho.1 k) (by omega), by simp⟩
      · omega
    · omega
  · have r1 := (h1.2.1 k).1; have r2 := (h2.2.1 k).1
    rcases pp with ⟨c, _⟩ | ⟨_, rfl, _⟩ | ⟨c, _⟩
    · omega
    · rcases pq with ⟨c, _⟩ | ⟨_, rfl, _⟩ | ⟨c, _⟩
      · omega
      · exact ⟨(q1 - p1) * u1, key (ho.2.1 k) (by omega), self (ho.2.1 k), by simp⟩
      · omega
    · omega
  · have r1 := h1.1 k; have r2 := h2.1 k
    simp only [if_neg (show ¬ (3 : Int) = 1 by omega), if_neg (show ¬ (3 : Int) ≤ 2 by omega)] at r1 r2
    exact ⟨(q0 - p0) * u0, self (ho.1 k), key (ho.1 k) (by omega), key (ho.1 k) (by omega)⟩
  · have r1 := h1.2.1 k; have r2 := h2.2.1 k
    simp only [if_neg (show ¬ (3 : Int) ≤ 2 by omega)] at r1 r2
    exact ⟨(q1 - p1) * u1, key (ho.2.1 k) (by omega), self (ho.2.1 k), key (ho.2.1 k) (by omega)⟩
  · have r1 := h1.2.2 k; have r2 := h2.2.2 k
    exact ⟨(q2 - p2) * u2, key (ho.2.2 k) (by omega), key (ho.2.2 k) (by omega), self (ho.2.2 k)⟩
/-- The points of the first i cells, cell by cell. -/
def linesTo (r : RecD) (u : P3) (i : Nat) : List P3 := ((cellsL r u).take i).flatMap (lineL r u)
theorem mem_line {r : RecD} {u : P3} {c : Int × Int} {p : P3} : p ∈ lineL r u c ↔ p ∈ ptsL r.n r.l ∧ cellC r.n u p = c := by
  unfold lineL inCell
  rw [List.mem_filter]
  simp [Prod.ext_iff]
theorem line_nodup (r : RecD) (u : P3) (c : Int × Int) : (lineL r u c).Nodup := (ptsL_nodup r.n r.l).filter _
theorem cellsL_nodup (r : RecD) (u : P3) : (cellsL r u).Nodup := by
  have h := sortC_strict ((ptsL r.n r.l).map (cellC r.n u))
  unfold StrictC at h
  exact h.imp (fun {a b} (h : cltC a b) (e : a = b) => cltC_irr b (by rw [e] at h; exact h))
theorem mem_cellsL {r : RecD} {u : P3} {c : Int × Int} : c ∈ cellsL r u ↔ ∃ p ∈ ptsL r.n r.l, cellC r.n u p = c := by
  unfold cellsL; rw [mem_sortC, List.mem_map]
theorem line_pos {r : RecD} {u : P3} {c : Int × Int} (h : c ∈ cellsL r u) : 0 < (lineL r u c).length := by
  obtain ⟨p, hp, e⟩ := mem_cellsL.1 h
  exact List.length_pos_of_mem (mem_line.2 ⟨hp, e⟩)
theorem linesTo_succ (r : RecD) (u : P3) (i : Nat) (h : i < (cellsL r u).length) : linesTo r u (i + 1) = linesTo r u i ++ lineL r u (cellsL r u)[i] := by
  unfold linesTo; rw [List.take_succ_eq_append_getElem h, List.flatMap_append]; simp
theorem lines_new {r : RecD} {u : P3} {i : Nat} (h : i < (cellsL r u).length) {p : P3} (hp : p ∈ lineL r u (cellsL r u)[i]) : p ∉ linesTo r u i := by
  intro hm
  obtain ⟨c, hc, hpc⟩ := List.mem_flatMap.1 hm
  obtain ⟨j, hj, rfl⟩ := List.getElem_of_mem hc
  rw [List.length_take] at hj
  rw [List.getElem_take] at hpc
  have e := (mem_line.1 hp).2.symm.trans (mem_line.1 hpc).2
  have := (List.getElem_inj (cellsL_nodup r u)).1 e
  omega
theorem linesTo_nodup (r : RecD) (u : P3) : ∀ i, i ≤ (cellsL r u).length → (linesTo r u i).Nodup
  | 0, _ => by simp [linesTo]
  | i + 1, h => by
    rw [linesTo_succ r u i (by omega)]
    exact List.nodup_append.2 ⟨linesTo_nodup r u i (by omega), line_nodup _ _ _, fun a ha b hb e => lines_new (by omega) hb (e ▸ ha)⟩
theorem lines_all (r : RecD) (u : P3) : (linesTo r u (cellsL r u).length).length = (ptsL r.n r.l).length := by
  have h1 := linesTo_nodup r u _ (Nat.le_refl _)
  have h2 := ptsL_nodup r.n r.l
  refine List.Perm.length_eq ((List.perm_ext_iff_of_nodup h1 h2).2 (fun a => ?_))
  unfold linesTo
  rw [List.take_length, List.mem_flatMap]
  constructor
  · rintro ⟨c, _, h⟩; exact (mem_line.1 h).1
  · intro h; exact ⟨cellC r.n u a, mem_cellsL.2 ⟨a, h, rfl⟩, mem_line.2 ⟨h, rfl⟩⟩
theorem line_neg {r : RecD} {u : P3} (hv : validR r.n r.l r.vars = true) (hd : dirB r.n u = true) (c : Int × Int) : lineL r (negP u) c = lineL r u c := by
  unfold lineL
  refine List.filter_congr (fun p hp => ?_)
  unfold inCell
  rw [cell_neg hd (pts_sm hv hp)]
end Go.Proofs.YtnejicklenhpeaaGreat
