/- The walk of forge.next. -/
import Derived.Test.YtpoofjioeljigaaPieceB
namespace Go.Proofs.Ytpoofjioeljigaa
open Go.RowKit
set_option maxHeartbeats 4000000 in
set_option maxRecDepth 100000 in
theorem next_none (disk : Nat) (v : Value) (l : List Int) (hl : l.length ≤ 100000) (w : World) (hv : BSl w w.heap.size v l) (h : nextP disk l = none) :
    Calls Try.prog 96 #[.int .i64 (disk : Int), v] w fun e w' => e = .returned (.tuple #[.agg #[.int .i64 0, .slice none 0 0], v, .bool false]) ∧ Below w.heap.size w w' := by
  have hy := hv.2.at 0
  obtain ⟨a, cap, rfl, -, -, hr⟩ := hv.rd
  by_cases h0 : l.length = 0
  · have hb : ((l.length : Int) == 0) = true := by simp [h0]
    clear h hv hr
    have H0 := Lib.hid h0; clear h0
    go_enter Try.func96, Try.ntmps96
    go_wp2
    (refine bodyPost_ret (v := ?v) ?h rfl ⟨?e, ?b⟩; (case h => (simp only [results, Try.results96]; first | (go_simp; done) | (go_simp; rfl))); (case e => (rfl)); (case b => exact (by repeat (first | exact Below.refl _ _ | assumption | (refine Below.drew ?_) | (refine below_drewN ?_ _) | (refine Below.alloc ?_ (by first | (simp; done) | (simp; omega) | omega) _) | (refine Below.setCell ?_ (by first | (simp; done) | (simp; omega) | omega) _) | (refine Below.trans ?_ (Below.mono (by assumption) (by first | (simp; done) | (simp; omega) | omega)))))))
  have hb : ((l.length : Int) == 0) = false := by simp; intro e; exact h0 (by simp [e])
  obtain ⟨p, hx, hpb, hpc⟩ := rd_idx hr (z := 0) (by omega) (by omega)
  have hc0 := fun o => ((Below.refl w.heap.size w).alloc (Nat.le_refl _) o).cell (p := p) hpb |>.trans hpc
  rw [show (0 : Int).toNat = 0 from rfl] at hc0
  by_cases h1 : 200 < l.getD 0 0
  · generalize l.getD 0 0 = y at hc0 h1 hy
    clear h hv hr hpc
    go_enter Try.func96, Try.ntmps96
    go_wp2
    (refine bodyPost_ret (v := ?v) ?h rfl ⟨?e, ?b⟩; (case h => (simp only [results, Try.results96]; first | (go_simp; done) | (go_simp; rfl))); (case e => (rfl)); (case b => exact (by repeat (first | exact Below.refl _ _ | assumption | (refine Below.drew ?_) | (refine below_drewN ?_ _) | (refine Below.alloc ?_ (by first | (simp; done) | (simp; omega) | omega) _) | (refine Below.setCell ?_ (by first | (simp; done) | (simp; omega) | omega) _) | (refine Below.trans ?_ (Below.mono (by assumption) (by first | (simp; done) | (simp; omega) | omega)))))))
  have hq : pl disk (l.getD 0 0) = (partLen disk (l.getD 0 0).toNat : Nat) := by rw [← pl_nat]; congr 1; omega
  have hm : partLen disk (l.getD 0 0).toNat ≤ 101 := by unfold partLen; split <;> omega
  have h' : l.length < partLen disk (l.getD 0 0).toNat + 2 ∨ l.getD (partLen disk (l.getD 0 0).toNat + 1) 0 ≠ 165 := by
    refine Classical.byContradiction fun hn => ?_
    unfold nextP at h
    rw [if_neg (by omega), if_neg hn] at h
    cases h
  clear h
  generalize partLen disk (l.getD 0 0).toNat = m at hq hm h'
  generalize l.getD 0 0 = y at hc0 h1 hy hq
  by_cases h2 : l.length < m + 2
  · have h3 : (l.length : Int) < (m : Int) + 2 := by omega
    clear h' hv hr hpc
    go_enter Try.func96, Try.ntmps96
    go_wp2_with (go_at_call 59; refine (lengthOf_any _ _ (by omega) (by omega) _).mono ?_; go_must (rintro e w1 ⟨rfl, rfl⟩))
    (refine bodyPost_ret (v := ?v) ?h rfl ⟨?e, ?b⟩; (case h => (simp only [results, Try.results96]; first | (go_simp; done) | (go_simp; rfl))); (case e => (rfl)); (case b => exact (by repeat (first | exact Below.refl _ _ | assumption | (refine Below.drew ?_) | (refine below_drewN ?_ _) | (refine Below.alloc ?_ (by first | (simp; done) | (simp; omega) | omega) _) | (refine Below.setCell ?_ (by first | (simp; done) | (simp; omega) | omega) _) | (refine Below.trans ?_ (Below.mono (by assumption) (by first | (simp; done) | (simp; omega) | omega)))))))
  have h3 : ¬ (l.length : Int) < (m : Int) + 2 := by omega
  have h4 := h'.resolve_left h2
  obtain ⟨p2, hx2, hpb2, hpc2⟩ := rd_idx hr (z := (m : Int) + 1) (by omega) (by omega)
  have hc2 := fun o => ((Below.refl w.heap.size w).alloc (Nat.le_refl _) o).cell (p := p2) hpb2 |>.trans hpc2
  rw [show ((m : Int) + 1).toNat = m + 1 by omega] at hc2
  generalize l.getD (m + 1) 0 = y2 at hc2 h4
  have h5 : (y2 != 165) = true := by simpa using h4
  clear h' hv hr hpc hpc2 h4
  go_enter Try.func96, Try.ntmps96
  go_wp2_with (go_at_call 59; refine (lengthOf_any _ _ (by omega) (by omega) _).mono ?_; go_must (rintro e w1 ⟨rfl, rfl⟩))
  (refine bodyPost_ret (v := ?v) ?h rfl ⟨?e, ?b⟩; (case h => (simp only [results, Try.results96]; first | (go_simp; done) | (go_simp; rfl))); (case e => (rfl)); (case b => exact (by repeat (first | exact Below.refl _ _ | assumption | (refine Below.drew ?_) | (refine below_drewN ?_ _) | (refine Below.alloc ?_ (by first | (simp; done) | (simp; omega) | omega) _) | (refine Below.setCell ?_ (by first | (simp; done) | (simp; omega) | omega) _) | (refine Below.trans ?_ (Below.mono (by assumption) (by first | (simp; done) | (simp; omega) | omega)))))))
set_option maxHeartbeats 4000000 in
set_option maxRecDepth 100000 in
theorem next_some (disk : Nat) (v : Value) (l : List Int) (hl : l.length ≤ 100000) (w : World) (B : Nat) (hB : B ≤ w.heap.size) (hvB : BSl w B v l) (q : Int × List Int) (r : List Int) (h : nextP disk l = some (q, r)) :
    Calls Try.prog 96 #[.int .i64 (disk : Int), v] w fun e w' => ∃ vp vr, e = .returned (.tuple #[.agg #[.int .i64 q.1, vp], vr, .bool true]) ∧ Below w.heap.size w w' ∧ BOwn w' w.heap.size vp q.2 ∧ BSl w B vr r := by
  have hv := hvB.mono hB
  have hy := hv.2.at 0
  obtain ⟨a, cap, rfl, -, -, hr⟩ := hv.rd
  unfold nextP at h
  split at h
  · cases h
  rename_i g1
  split at h
  · cases h
  rename_i g2
  simp only [Option.some.injEq, Prod.mk.injEq] at h
  obtain ⟨rfl, rfl⟩ := h
  have h0 : l.length ≠ 0 := fun e => g1 (.inl e)
  have h1 : ¬ 200 < l.getD 0 0 := fun e => g1 (.inr e)
  have hb : ((l.length : Int) == 0) = false := by simp; intro e; exact h0 (by simp [e])
  obtain ⟨p, hx, hpb, hpc⟩ := rd_idx hr (z := 0) (by omega) (by omega)
  have hc0 := fun o => ((Below.refl w.heap.size w).alloc (Nat.le_refl _) o).cell (p := p) hpb |>.trans hpc
  rw [show (0 : Int).toNat = 0 from rfl] at hc0
  have hq : pl disk (l.getD 0 0) = (partLen disk (l.getD 0 0).toNat : Nat) := by rw [← pl_nat]; congr 1; omega
  have hm : partLen disk (l.getD 0 0).toNat ≤ 101 := by unfold partLen; split <;> omega
  generalize partLen disk (l.getD 0 0).toNat = m at hq hm g2 ⊢
  generalize l.getD 0 0 = y at hc0 h1 hy hq ⊢
  have h2 : ¬ l.length < m + 2 := fun e => g2 (.inl e)
  have h3 : ¬ (l.length : Int) < (m : Int) + 2 := by omega
  have h4 : l.getD (m + 1) 0 = 165 := Classical.byContradiction fun e => g2 (.inr e)
  obtain ⟨p2, hx2, hpb2, hpc2⟩ := rd_idx hr (z := (m : Int) + 1) (by omega) (by omega)
  have hc2 := fun o => ((Below.refl w.heap.size w).alloc (Nat.le_refl _) o).cell (p := p2) hpb2 |>.trans hpc2
  rw [show ((m : Int) + 1).toNat = m + 1 by omega, h4] at hc2
  obtain ⟨sa, sn, sc, hs1, hsb⟩ := bsl_slice hv (x := 1) (y := (m : Int) + 1) (by omega) (by omega) (by omega)
  obtain ⟨ta, tn, tc, ht1, htb⟩ := bsl_slice_l hvB (x := (m : Int) + 2) (by omega) (by omega)
  rw [show ((m : Int) + 1).toNat = m + 1 by omega, show (1 : Int).toNat = 1 from rfl] at hsb
  rw [show ((m : Int) + 2).toNat = m + 2 by omega] at htb
  have HSB := Lib.hid hsb; clear hsb
  have HTB := Lib.hid htb; clear htb
  have hw1 : IntKind.i64.wrap ((m : Int) + 1) = (m : Int) + 1 := IntWalk.i64_in _ (by omega)
  have hw2 : IntKind.i64.wrap ((m : Int) + 2) = (m : Int) + 2 := IntWalk.i64_in _ (by omega)
  have hw3 : IntKind.i64.wrap y = y := IntWalk.i64_in _ (by omega)
  have hgl : (((l.take (m + 1)).drop 1).length) ≤ 100000 := by simp; omega
  generalize (l.take (m + 1)).drop 1 = part at HSB hgl ⊢
  generalize l.drop (m + 2) = rest at HTB ⊢
  have hne := World.new_ne w p hpc
  clear hv hvB hr hpc2 g1 g2 h0 h2 h4
  go_enter Try.func96, Try.ntmps96
  go_wp2_with (go_at_call 59; refine (lengthOf_any _ _ (by omega) (by omega) _).mono ?_; go_must (rintro e w1 ⟨rfl, rfl⟩))
  go_region_held3 (fun w' => w'.cell? p = some (.int .u8 y)) (first | go_keep | assumption) (first | (go_at_call 102; refine (Clone_any _ part hgl _ ((HSB.out.kept (by repeat (first | exact Below.refl _ _ | assumption | (refine Below.drew ?_) | (refine below_drewN ?_ _) | (refine Below.alloc ?_ (by first | (simp; done) | (simp; omega) | omega) _) | (refine Below.setCell ?_ (by first | (simp; done) | (simp; omega) | omega) _) | (refine Below.trans ?_ (Below.mono (by assumption) (by first | (simp; done) | (simp; omega) | omega)))))).mono (by first | (simp; done) | (simp; omega)))).mono ?_; go_must (rintro e w1 ⟨v', rfl, hb1, hown⟩; obtain ⟨hcc, hff⟩ := bcell hb1; have hs1 := hb1.size; simp at hs1; have zz := z1 hs1; have hx9 := (hb1.cell (p := p) (by simp; omega)).trans (hc0 _); obtain ⟨b2, e2, rfl⟩ := hown.rd)))
  all_goals go_wp2
  all_goals refine bodyPost_ret (v := .tuple #[.agg #[.int .i64 y, .slice b2 part.length e2], .slice ta tn tc, .bool true]) ?_ rfl ⟨_, _, rfl, ?_, ?_, HTB.out⟩
  all_goals first | (simp only [results, Try.results96]; first | (go_simp; done) | (go_simp; rfl)) | (refine BOwn.mono (lo := w.heap.size + 1) ?_ (by omega); exact BOwn.set (BOwn.set (by simpa using hown) (by simp) _) (by simp) _) | (exact (by repeat (first | exact Below.refl _ _ | assumption | (refine Below.drew ?_) | (refine below_drewN ?_ _) | (refine Below.alloc ?_ (by first | (simp; done) | (simp; omega) | omega) _) | (refine Below.setCell ?_ (by first | (simp; done) | (simp; omega) | omega) _) | (refine Below.trans ?_ (Below.mono (by assumption) (by first | (simp; done) | (simp; omega) | omega))))))
end Go.Proofs.Ytpoofjioeljigaa
