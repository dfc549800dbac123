/- Elements that clash: of one cell and one time; none where the form times the direction is not 0: plain. -/
import Derived.Test.YtndfdgdahinkpaaEvF
namespace Go.Proofs.Ytndfdgdahinkpaa
open Go.RowKit
theorem off_line {a b c d x y : Int} (h : b - a * x * y = d - c * x * y) : d - b = (c - a) * x * y := by
  have : (c - a) * x * y = c * x * y - a * x * y := by rw [Int.sub_mul, Int.sub_mul]
  omega
theorem one_line {a c x : Int} (hx : x = 1 ∨ x = -1) : c - a = (c - a) * x * x := by
  rcases hx with rfl | rfl <;> omega
/-- Points of one cell differ by a multiple of the direction. -/
theorem fold_line {n : Int} {u p q : P3} (hd : dirB n u = true) (hp : flatB n p.1 p.2.1 p.2.2 20 = true) (hq : flatB n q.1 q.2.1 q.2.2 20 = true) (hc : cellC n u p = cellC n u q) :
    ∃ t, q.1 - p.1 = t * u.1 ∧ q.2.1 - p.2.1 = t * u.2.1 ∧ q.2.2 - p.2.2 = t * u.2.2 := by
  obtain ⟨hn, hf, hk⟩ := validB_out hd
  have hcs := dir_cases hd
  have h1 := findK_one (n := n) (x0 := u.1) (x1 := u.2.1) (x2 := u.2.2)
  have sp := flat_sm hp
  have sq := flat_sm hq
  have su := flat_sm hf
  have pp := flat_pad hn hp
  have pq := flat_pad hn hq
  unfold cellC at hc
  simp only [Prod.mk.injEq] at hc
  unfold axK at hcs hc
  obtain ⟨u0, u1, u2⟩ := u
  obtain ⟨p0, p1, p2⟩ := p
  obtain ⟨q0, q1, q2⟩ := q
  obtain ⟨⟨a1, a2⟩, ⟨a3, a4⟩, a5, a6⟩ := sp
  obtain ⟨⟨b1, b2⟩, ⟨b3, b4⟩, b5, b6⟩ := sq
  obtain ⟨⟨c1, c2⟩, ⟨c3, c4⟩, c5, c6⟩ := su
  simp only at hc hcs h1 pp pq a1 a2 a3 a4 a5 a6 b1 b2 b3 b4 b5 b6 c1 c2 c3 c4 c5 c6 ⊢
  unfold cA cB at hc
  rcases hcs with ⟨rfl, hk0, rfl, rfl⟩ | ⟨rfl, hk0 | hk0, rfl⟩ | ⟨rfl, hk0 | hk0 | hk0⟩
  · have hu := h1.1 hk0
    refine ⟨(q0 - p0) * u0, one_line hu, ?_, ?_⟩
    · obtain ⟨_, e1, e2, _⟩ | ⟨h, _⟩ | ⟨h, _⟩ := pp
      · obtain ⟨_, f1, f2, _⟩ | ⟨h, _⟩ | ⟨h, _⟩ := pq <;> omega
      · omega
      · omega
    · obtain ⟨_, e1, e2, _⟩ | ⟨h, _⟩ | ⟨h, _⟩ := pp
      · obtain ⟨_, f1, f2, _⟩ | ⟨h, _⟩ | ⟨h, _⟩ := pq <;> omega
      · omega
      · omega
  · have hu := h1.1 hk0
    rw [hk0] at hc
    simp at hc
    rw [cw_eq (by omega) (by omega) hu (by omega), cw_eq (by omega) (by omega) hu (by omega)] at hc
    refine ⟨(q0 - p0) * u0, one_line hu, off_line hc, ?_⟩
    obtain ⟨h, _⟩ | ⟨_, e2, _⟩ | ⟨h, _⟩ := pp
    · omega
    · obtain ⟨h, _⟩ | ⟨_, f2, _⟩ | ⟨h, _⟩ := pq <;> omega
    · omega
  · have hu := h1.2.1 hk0
    rw [hk0] at hc
    simp at hc
    rw [cw_eq (by omega) (by omega) hu (by omega), cw_eq (by omega) (by omega) hu (by omega)] at hc
    refine ⟨(q1 - p1) * u1, off_line hc, one_line hu, ?_⟩
    obtain ⟨h, _⟩ | ⟨_, e2, _⟩ | ⟨h, _⟩ := pp
    · omega
    · obtain ⟨h, _⟩ | ⟨_, f2, _⟩ | ⟨h, _⟩ := pq <;> omega
    · omega
  · have hu := h1.1 hk0
    rw [hk0] at hc
    simp at hc
    rw [cw_eq (by omega) (by omega) hu (by omega), cw_eq (by omega) (by omega) hu (by omega), cw_eq (by omega) (by omega) hu (by omega), cw_eq (by omega) (by omega) hu (by omega)] at hc
    exact ⟨(q0 - p0) * u0, one_line hu, off_line hc.1, off_line hc.2⟩
  · have hu := h1.2.1 hk0
    rw [hk0] at hc
    simp at hc
    rw [cw_eq (by omega) (by omega) hu (by omega), cw_eq (by omega) (by omega) hu (by omega), cw_eq (by omega) (by omega) hu (by omega), cw_eq (by omega) (by omega) hu (by omega)] at hc
    exact ⟨(q1 - p1) * u1, off_line hc.1, one_line hu, off_line hc.2⟩
  · have hu := h1.2.2 hk0
    rw [hk0] at hc
    simp at hc
    rw [cw_eq (by omega) (by omega) hu (by omega), cw_eq (by omega) (by omega) hu (by omega), cw_eq (by omega) (by omega) hu (by omega), cw_eq (by omega) (by omega) hu (by omega)] at hc
    exact ⟨(q2 - p2) * u2, off_line hc.1, off_line hc.2, one_line hu⟩
theorem clash_facts {r : RecD} {s : SchedD} {u : P3} {i k : Nat} (h : clashL r s u = some (i, k)) :
    (ptsL r.n r.l).getD i (0, 0, 0) ∈ ptsL r.n r.l ∧ (ptsL r.n r.l).getD k (0, 0, 0) ∈ ptsL r.n r.l ∧ (ptsL r.n r.l).getD i (0, 0, 0) ≠ (ptsL r.n r.l).getD k (0, 0, 0) ∧ dot3 s.f ((ptsL r.n r.l).getD i (0, 0, 0)) = dot3 s.f ((ptsL r.n r.l).getD k (0, 0, 0)) ∧ cellC r.n u ((ptsL r.n r.l).getD i (0, 0, 0)) = cellC r.n u ((ptsL r.n r.l).getD k (0, 0, 0)) := by
  obtain ⟨h1, h2, h3⟩ := clash_out (show clashF ((ptsL r.n r.l).map (keyS r s u)) = some (i, k) from h)
  rw [List.length_map] at h2
  have hi : i < (ptsL r.n r.l).length := by omega
  have e1 : (ptsL r.n r.l).getD i (0, 0, 0) = (ptsL r.n r.l)[i] := by simp [List.getD, hi]
  have e2 : (ptsL r.n r.l).getD k (0, 0, 0) = (ptsL r.n r.l)[k] := by simp [List.getD, h2]
  rw [e1, e2]
  rw [List.getElem?_map, List.getElem?_map, List.getElem?_eq_getElem hi, List.getElem?_eq_getElem h2] at h3
  simp only [Option.map_some, Option.some.injEq] at h3
  refine ⟨List.getElem_mem _, List.getElem_mem _, fun e => ?_, congrArg Prod.fst h3, Prod.ext (congrArg (fun q => q.2.1) h3) (congrArg (fun q => q.2.2) h3)⟩
  have := (List.pairwise_iff_getElem.1 (ptsL_nodup r.n r.l)) i k hi h2 h1
  exact this e
theorem clash_dot {r : RecD} {s : SchedD} {u : P3} (ha : askS r s u = 0) {i k : Nat} (h : clashL r s u = some (i, k)) : dot3 s.f u = 0 := by
  obtain ⟨h1, h2, h3, h4, h5⟩ := clash_facts h
  generalize (ptsL r.n r.l).getD i (0, 0, 0) = p at *
  generalize (ptsL r.n r.l).getD k (0, 0, 0) = q at *
  have hn := (validD_out (validR_out (askS_ok ha).1).1).1
  obtain ⟨t, e0, e1, e2⟩ := fold_line (askS_ok ha).2.2.1 ((mem_ptsL hn p).1 h1).1 ((mem_ptsL hn q).1 h2).1 h5
  have hq0 : q.1 = p.1 + t * u.1 := by omega
  have hq1 : q.2.1 = p.2.1 + t * u.2.1 := by omega
  have hq2 : q.2.2 = p.2.2 + t * u.2.2 := by omega
  have key : t * dot3 s.f u = 0 := by
    unfold dot3 at h4 ⊢
    rw [hq0, hq1, hq2] at h4
    simp only [Int.mul_add] at h4 ⊢
    have r1 : s.f.1 * (t * u.1) = t * (s.f.1 * u.1) := by rw [Int.mul_left_comm]
    have r2 : s.f.2.1 * (t * u.2.1) = t * (s.f.2.1 * u.2.1) := by rw [Int.mul_left_comm]
    have r3 : s.f.2.2 * (t * u.2.2) = t * (s.f.2.2 * u.2.2) := by rw [Int.mul_left_comm]
    rw [r1, r2, r3] at h4
    omega
  rcases Int.mul_eq_zero.1 key with ht | hd
  · subst ht
    exfalso
    apply h3
    refine Prod.ext ?_ (Prod.ext ?_ ?_)
    · rw [hq0]; omega
    · rw [hq1]; omega
    · rw [hq2]; omega
  · exact hd
end Go.Proofs.Ytndfdgdahinkpaa
