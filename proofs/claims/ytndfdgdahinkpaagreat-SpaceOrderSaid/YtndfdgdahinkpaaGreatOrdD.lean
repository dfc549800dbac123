/- SpaceOrder, plainly: a used element comes its delay earlier, a move nearer. -/
import Derived.Test.YtndfdgdahinkpaaGreatOrdC
import Derived.Test.YtndfdgdahinkpaaGreatCelK
import Derived.Test.YtndfdgdahinkpaaGreatEvF
namespace Go.Proofs.YtndfdgdahinkpaaGreat
open Go.RowKit Go.WideMaps
theorem cellC_add {n : Int} {u p q : P3} (hd : dirB n u = true) (hp : Sm 20 p) (hq : Sm 20 q) (hb : ((-80 ≤ (cellC n u p).1 ∧ (cellC n u p).1 ≤ 80) ∧ (-80 ≤ (cellC n u p).2 ∧ (cellC n u p).2 ≤ 80)) ∧ (-80 ≤ (cellC n u q).1 ∧ (cellC n u q).1 ≤ 80) ∧ (-80 ≤ (cellC n u q).2 ∧ (cellC n u q).2 ≤ 80)) :
    (cellC n u (p.1 + q.1, p.2.1 + q.2.1, p.2.2 + q.2.2)).1 = (cellC n u p).1 + (cellC n u q).1 ∧ (cellC n u (p.1 + q.1, p.2.1 + q.2.1, p.2.2 + q.2.2)).2 = (cellC n u p).2 + (cellC n u q).2 := by
  obtain ⟨p0, p1, p2⟩ := p
  obtain ⟨q0, q1, q2⟩ := q
  obtain ⟨u0, u1, u2⟩ := u
  obtain ⟨hn, hf, hk⟩ := validB_out hd
  have hu := flat_out hf
  obtain ⟨h0, h1, h2⟩ := hp
  obtain ⟨g0, g1, g2⟩ := hq
  obtain ⟨⟨b1, b2⟩, b3, b4⟩ := hb
  simp only at h0 h1 h2 g0 g1 g2 hu
  have ho := findK_one (n := n) (x0 := u0) (x1 := u1) (x2 := u2)
  have key : ∀ {pi pk qi qk uk ui : Int}, (-20 ≤ pi ∧ pi ≤ 20) → (-20 ≤ pk ∧ pk ≤ 20) → (-20 ≤ qi ∧ qi ≤ 20) → (-20 ≤ qk ∧ qk ≤ 20) → (uk = 1 ∨ uk = -1) → (-3 ≤ ui ∧ ui ≤ 3) → cw (pi + qi) (pk + qk) uk ui = cw pi pk uk ui + cw qi qk uk ui := by
    intro pi pk qi qk uk ui a b a' b' c d
    rw [cw_eq (by omega) (by omega) c d, cw_eq (by omega) (by omega) c d, cw_eq (by omega) (by omega) c d]
    rw [Int.add_mul, Int.add_mul]; omega
  have hdir := dir_cases hd
  unfold axK at hdir
  simp only at hdir
  unfold cellC axK
  simp only
  constructor
  · unfold cA
    split
    · omega
    · split
      · exact key h1 h0 g1 g0 (ho.1 (by assumption)) hu.2.1
      · split
        · exact key h0 h1 g0 g1 (ho.2.1 (by assumption)) hu.1
        · refine key h0 h2 g0 g2 (ho.2.2 ?_) hu.1
          have := findK_nonneg n u0 u1 u2
          omega
  · unfold cB
    split
    · omega
    · split
      · exact key h2 h0 g2 g0 (ho.1 (by assumption)) hu.2.2
      · split
        · exact key h2 h1 g2 g1 (ho.2.1 (by assumption)) hu.2.2
        · refine key h1 h2 g1 g2 (ho.2.2 ?_) hu.2.1
          have := findK_nonneg n u0 u1 u2
          omega
theorem elB_irr (a : ElD) : ¬ elB a a := by
  rintro (h | ⟨-, h | ⟨-, h | ⟨-, h⟩⟩⟩) <;> omega
theorem evs_nodup {r : RecD} {s : SchedD} {u : P3} {l : List EvD} (h : l.Perm (evsL r s u)) : (l.map EvD.e).Nodup := by
  refine ((h.map EvD.e).nodup_iff).2 ?_
  rw [List.Nodup, List.pairwise_map]
  exact (evsL_sorted r s u).imp (fun {a b} hab (e : a.e = b.e) => elB_irr b.e (by rw [e] at hab; exact hab))
/-- What the law wants of an event of the table. -/
theorem ord_ev {r : RecD} {s : SchedD} {u : P3} {l : List EvD} (ha : askS r s u = 0) (h : l.Perm (evsL r s u)) {x : EvD} (hx : x ∈ l) :
    evX r s u x.e = .tuple #[evD x, .int .i64 0] ∧ wfE x.e ∧ (0 ≤ x.e.1 ∧ x.e.1 < (r.vars.length : Int)) ∧ Sm 20 x.e.2 ∧ (-540 ≤ x.t ∧ x.t ≤ 1540) ∧ (-80 ≤ x.c.1 ∧ x.c.1 ≤ 80) ∧ (-80 ≤ x.c.2 ∧ x.c.2 ≤ 80) := by
  obtain ⟨v, hv, p, hp, rfl⟩ := mem_evsL.1 (h.mem_iff.1 hx)
  obtain ⟨h1, h2, h3, -⟩ := askS_ok ha
  have hsm := pts_sm h1 hp
  have hsm' := hsm
  obtain ⟨q0, q1, q2⟩ := hsm'
  have hd := dot_bd ha hp
  have ho := off_get h2 v
  have hc := cell_small h3 hsm
  have hie : isEl r ((v : Int), p) = true := by
    unfold isEl; simp only [decide_eq_true hp, Bool.true_and, Bool.and_eq_true, decide_eq_true_eq]; omega
  refine ⟨?_, ⟨wf_sm (by simp only [evAt]; have := (validR_out h1).2.2.1; omega), wf_sm (by simp only [evAt]; omega), wf_sm (by simp only [evAt]; omega), wf_sm (by simp only [evAt]; omega)⟩, by simp only [evAt]; omega, hsm, by simp only [evAt]; omega, hc.1, hc.2⟩
  simp only [evAt]
  unfold evX evVal evErr
  rw [if_pos ⟨ha, hie⟩, if_pos ha, if_pos hie]
  rfl
/-- Either a used element is none of the table's, or it lies its delay earlier and a move nearer. -/
theorem ord_arg {r : RecD} {s : SchedD} {u : P3} {l : List EvD} (ha : askS r s u = 0) (hl : legalB r s = true) (h : l.Perm (evsL r s u)) {x : EvD} (hx : x ∈ l)
    (v : Nat) (hv : v < r.vars.length) (hxv : x.e.1 = (v : Int)) (k : Nat) (hk : k < r.vars[v].args.length) :
    evF l (argE r.vars[v].args[k] x.e.2) = none ∨ ∃ y : EvD, evF l (argE r.vars[v].args[k] x.e.2) = some (evD y) ∧ ((-540 ≤ y.t ∧ y.t ≤ 1540) ∧ (-80 ≤ y.c.1 ∧ y.c.1 ≤ 80) ∧ (-80 ≤ y.c.2 ∧ y.c.2 ≤ 80)) ∧
      1 ≤ delayOf s v r.vars[v].args[k] ∧ x.t = y.t + delayOf s v r.vars[v].args[k] ∧ x.c.1 = y.c.1 + (moveC r.n u r.vars[v].args[k]).1 ∧ x.c.2 = y.c.2 + (moveC r.n u r.vars[v].args[k]).2 := by
  obtain ⟨h1, h2, h3, -⟩ := askS_ok ha
  unfold evF
  cases hf : l.find? (fun z => decide (z.e = argE r.vars[v].args[k] x.e.2)) with
  | none => exact .inl rfl
  | some y =>
    refine .inr ⟨y, rfl, ?_⟩
    have hy : y ∈ l := List.mem_of_find?_eq_some hf
    have hye : y.e = argE r.vars[v].args[k] x.e.2 := by simpa using List.find?_some hf
    have hb := (ord_ev ha h hy).2.2.2.2
    refine ⟨hb, ?_⟩
    obtain ⟨v1, hv1, p, hp, rfl⟩ := mem_evsL.1 (h.mem_iff.1 hx)
    obtain ⟨v2, hv2, q, hq, rfl⟩ := mem_evsL.1 (h.mem_iff.1 hy)
    simp only [evAt, argE, Prod.mk.injEq] at hye hxv ⊢
    have hvv : v1 = v := by omega
    subst hvv
    have hm1 : r.vars[v1] ∈ r.vars := List.getElem_mem hv
    have hm2 : r.vars[v1].args[k] ∈ r.vars[v1].args := List.getElem_mem hk
    have haf := arg_flat h1 hm1 hm2
    have hac := arg_cell h1 h3 hm1 hm2
    have hleg : 1 ≤ delayOf s v1 r.vars[v1].args[k] := by
      simp only [legalB, Bool.not_eq_true', List.any_eq_false, lowB] at hl
      have hmem : (r.vars[v1].args.map (delayOf s v1)) ∈ delaysL r s := by
        unfold delaysL
        rw [List.mem_mapIdx]
        exact ⟨v1, hv, rfl⟩
      have := hl _ hmem
      by_cases hd : delayOf s v1 r.vars[v1].args[k] < 1
      · exact absurd (List.any_eq_true.2 ⟨_, List.mem_map_of_mem hm2, by simpa using hd⟩) this
      · omega
    have hsp := pts_sm h1 hp
    have hsq := pts_sm h1 hq
    have hcp := cell_small h3 hsp
    have hsa := flat_sm haf.1
    generalize r.vars[v1].args[k] = a at *
    obtain ⟨av, a0, a1, a2⟩ := a
    obtain ⟨p0, p1, p2⟩ := p
    obtain ⟨q0, q1, q2⟩ := q
    simp only at hye hac hsa haf hsp hsq
    obtain ⟨e1, e2⟩ := hye
    rw [Prod.mk.injEq, Prod.mk.injEq] at e2
    obtain ⟨rfl, rfl, rfl⟩ := e2
    obtain ⟨c1, c2⟩ := cellC_add (p := (p0, p1, p2)) (q := (a0, a1, a2)) h3 hsp (by obtain ⟨x0, x1, x2⟩ := hsa; simp only at x0 x1 x2; exact ⟨by simp only; omega, by simp only; omega, by simp only; omega⟩) ⟨hcp, hac⟩
    simp only at c1 c2
    refine ⟨hleg, ?_, ?_, ?_⟩
    · simp only [delayOf, dot3]
      have : av.toNat = v2 := by omega
      rw [this]
      simp only [Int.mul_add]
      omega
    · simp only [moveC]; rw [c1]; omega
    · simp only [moveC]; rw [c2]; omega
theorem ord_times {l : List EvD} (h : SortedE l) (i : Nat) (hi : i + 1 < l.length) : l[i].t ≤ l[i + 1].t := by
  have h1 := List.pairwise_iff_getElem.1 h i (i + 1) (by omega) hi (by omega)
  simp only [leB, Bool.not_eq_true'] at h1
  by_cases hlt : l[i + 1].t < l[i].t
  · have : beforeB l[i + 1] l[i] = true := (beforeB_iff _ _).2 (.inl hlt)
    rw [h1] at this; cases this
  · omega
theorem ord_new {l : List EvD} (h : (l.map EvD.e).Nodup) (i : Nat) (hi : i < l.length) : ∀ y ∈ l.take i, y.e ≠ l[i].e := by
  intro y hy e
  obtain ⟨j, hj, rfl⟩ := List.getElem_of_mem hy
  simp only [List.length_take] at hj
  rw [List.getElem_take] at e
  have := List.pairwise_iff_getElem.1 h j i (by simp; omega) (by simpa using hi) (by omega)
  simp only [List.getElem_map] at this
  exact this e
end Go.Proofs.YtndfdgdahinkpaaGreat
