/- The points of a box that satisfy inequalities, in order: plain laws. The reference's All: its walk. The walk of the iterator of poly.points: it gives just the points of the domain. poly.points, Count and Points: their walks. poly.Points: its walk. Conditions: none. -/
import Derived.Test.YtnejicklenhpeaaGreatRecX
import Derived.Test.YtnejicklenhpeaaGreatKitA
import Derived.Shelf.Abstract
import Derived.Shelf.RegionOpen
import Derived.OwnWalkIn
import Derived.TacticsInMore
import Derived.LoopNIn
import Derived.LoopIn
namespace Go.Proofs.YtnejicklenhpeaaGreat
def rngL (m : Int) : List Int := (List.range (2 * m.toNat + 1)).map fun (k : Nat) => (k : Int) - m
def rowL (P : P3 → Bool) (zs : List Int) (x y : Int) : List P3 := (zs.map fun z => (x, y, z)).filter P
def slabL (P : P3 → Bool) (ys zs : List Int) (x : Int) : List P3 := ys.flatMap (rowL P zs x)
def boxL (P : P3 → Bool) (xs ys zs : List Int) : List P3 := xs.flatMap (slabL P ys zs)
/-- All points of a domain, in order. -/
def ptsL (n : Int) (l : List IneqD) : List P3 := boxL (fun p => holdsB l p 1) (rngL (farI n 0)) (rngL (farI n 1)) (rngL (farI n 2))
theorem far_cases (n i : Int) : farI n i = 20 ∨ farI n i = 0 := by unfold farI; split <;> simp
theorem rngL_len (m : Int) : (rngL m).length = 2 * m.toNat + 1 := by simp [rngL]
theorem rngL_at (m : Int) (k : Nat) (h : k < (rngL m).length) : (rngL m)[k] = (k : Int) - m := by simp [rngL]
theorem rngL_mem {m x : Int} (hm : 0 ≤ m) : x ∈ rngL m ↔ -m ≤ x ∧ x ≤ m := by
  simp only [rngL, List.mem_map, List.mem_range]
  constructor
  · rintro ⟨k, hk, rfl⟩; omega
  · intro h; exact ⟨(x + m).toNat, by omega, by omega⟩
theorem take_flat {α β : Type} (f : α → List β) (xs : List α) (i : Nat) (h : i < xs.length) : (xs.take (i + 1)).flatMap f = (xs.take i).flatMap f ++ f xs[i] := by
  rw [List.take_succ_eq_append_getElem h, List.flatMap_append]; simp
theorem pre_flat {α β : Type} (f : α → List β) (xs : List α) (i : Nat) : (xs.take i).flatMap f <+: xs.flatMap f := by
  have h : xs.flatMap f = (xs.take i).flatMap f ++ (xs.drop i).flatMap f := by rw [← List.flatMap_append, List.take_append_drop]
  exact ⟨_, h.symm⟩
theorem row_take (P : P3 → Bool) (zs : List Int) (x y : Int) (k : Nat) (h : k < zs.length) : rowL P (zs.take (k + 1)) x y = rowL P (zs.take k) x y ++ (if P (x, y, zs[k]) = true then [(x, y, zs[k])] else []) := by
  unfold rowL
  rw [List.take_succ_eq_append_getElem h, List.map_append, List.filter_append]
  simp [List.filter_cons]
theorem row_pre (P : P3 → Bool) (zs : List Int) (x y : Int) (k : Nat) : rowL P (zs.take k) x y <+: rowL P zs x y := by
  have h : rowL P zs x y = rowL P (zs.take k) x y ++ rowL P (zs.drop k) x y := by unfold rowL; rw [← List.filter_append, ← List.map_append, List.take_append_drop]
  exact ⟨_, h.symm⟩
theorem box_pre (P : P3 → Bool) (xs ys zs : List Int) (i j k : Nat) (hi : i < xs.length) (hj : j < ys.length) :
    (xs.take i).flatMap (slabL P ys zs) ++ ((ys.take j).flatMap (rowL P zs xs[i]) ++ rowL P (zs.take k) xs[i] ys[j]) <+: boxL P xs ys zs := by
  have h1 : (ys.take j).flatMap (rowL P zs xs[i]) ++ rowL P (zs.take k) xs[i] ys[j] <+: slabL P ys zs xs[i] := by
    refine List.IsPrefix.trans ((List.prefix_append_right_inj _).2 (row_pre P zs xs[i] ys[j] k)) ?_
    rw [← take_flat (rowL P zs xs[i]) ys j hj]
    exact pre_flat _ _ _
  refine List.IsPrefix.trans ((List.prefix_append_right_inj _).2 h1) ?_
  rw [← take_flat (slabL P ys zs) xs i hi]
  exact pre_flat _ _ _
theorem row_len (P : P3 → Bool) (zs : List Int) (x y : Int) : (rowL P zs x y).length ≤ zs.length := by
  unfold rowL
  exact Nat.le_trans (List.length_filter_le _ _) (by simp)
theorem flat_le {α β : Type} (f : α → List β) (m : Nat) : ∀ (xs : List α), (∀ x ∈ xs, (f x).length ≤ m) → (xs.flatMap f).length ≤ xs.length * m
  | [], _ => by simp
  | x :: r, h => by
    rw [List.flatMap_cons, List.length_append, List.length_cons, Nat.succ_mul]
    have h1 := h x (by simp)
    have h2 := flat_le f m r (fun y hy => h y (by simp [hy]))
    omega
theorem box_len (P : P3 → Bool) (xs ys zs : List Int) (hx : xs.length ≤ 41) (hy : ys.length ≤ 41) (hz : zs.length ≤ 41) : (boxL P xs ys zs).length ≤ 68921 := by
  have h1 : ∀ x, (slabL P ys zs x).length ≤ 1681 := fun x => by
    have := flat_le (rowL P zs x) 41 ys (fun y _ => Nat.le_trans (row_len _ _ _ _) hz)
    unfold slabL
    omega
  have := flat_le (slabL P ys zs) 1681 xs (fun x _ => h1 x)
  unfold boxL
  omega
theorem rngL_le {n i : Int} : (rngL (farI n i)).length ≤ 41 := by
  rw [rngL_len]
  rcases far_cases n i with h | h <;> rw [h] <;> decide
theorem ptsL_len (n : Int) (l : List IneqD) : (ptsL n l).length ≤ 68921 := box_len _ _ _ _ rngL_le rngL_le rngL_le
theorem flat_box {n x y z : Int} (hn : 1 ≤ n ∧ n ≤ 3) (hx : x ∈ rngL (farI n 0)) (hy : y ∈ rngL (farI n 1)) (hz : z ∈ rngL (farI n 2)) : flatB n x y z 20 = true := by
  rw [rngL_mem (by unfold farI; split <;> omega)] at hx hy hz
  simp only [farI] at hx hy hz
  simp only [flatB, btw, Bool.and_eq_true, Bool.or_eq_true, decide_eq_true_eq]
  obtain ⟨h1, h2⟩ := hn
  split at hx <;> split at hy <;> split at hz <;> omega
theorem mem_ptsL {n : Int} {l : List IneqD} (hn : 1 ≤ n ∧ n ≤ 3) (p : P3) : p ∈ ptsL n l ↔ flatB n p.1 p.2.1 p.2.2 20 = true ∧ holdsB l p 1 = true := by
  obtain ⟨x, y, z⟩ := p
  simp only [ptsL, boxL, slabL, rowL, List.mem_flatMap, List.mem_filter, List.mem_map]
  constructor
  · rintro ⟨x', hx, y', hy, ⟨z', hz, e⟩, hP⟩
    simp only [Prod.mk.injEq] at e
    obtain ⟨rfl, rfl, rfl⟩ := e
    exact ⟨flat_box hn hx hy hz, hP⟩
  · rintro ⟨hf, hP⟩
    simp only [flatB, btw, Bool.and_eq_true, Bool.or_eq_true, decide_eq_true_eq] at hf
    refine ⟨x, ?_, y, ?_, ⟨z, ?_, rfl⟩, hP⟩
    all_goals
      rw [rngL_mem (by unfold farI; split <;> omega)]
      unfold farI
      split <;> omega
/-- A point comes ahead of another one. -/
def ltP (a b : P3) : Prop := a.1 < b.1 ∨ (a.1 = b.1 ∧ (a.2.1 < b.2.1 ∨ (a.2.1 = b.2.1 ∧ a.2.2 < b.2.2)))
theorem rngL_sorted (m : Int) : (rngL m).Pairwise (· < ·) := by
  unfold rngL
  rw [List.pairwise_map]
  exact List.pairwise_lt_range.imp (fun h => by omega)
theorem box_sorted (P : P3 → Bool) (xs ys zs : List Int) (hx : xs.Pairwise (· < ·)) (hy : ys.Pairwise (· < ·)) (hz : zs.Pairwise (· < ·)) : (boxL P xs ys zs).Pairwise ltP := by
  have mrow : ∀ x y p, p ∈ rowL P zs x y → p.1 = x ∧ p.2.1 = y := fun x y p hp => by
    simp only [rowL, List.mem_filter, List.mem_map] at hp
    obtain ⟨⟨z, _, rfl⟩, _⟩ := hp
    exact ⟨rfl, rfl⟩
  have mslab : ∀ x p, p ∈ slabL P ys zs x → p.1 = x := fun x p hp => by
    simp only [slabL, List.mem_flatMap] at hp
    obtain ⟨y, _, hp⟩ := hp
    exact (mrow x y p hp).1
  have h1 : ∀ x y, (rowL P zs x y).Pairwise ltP := fun x y => by
    unfold rowL
    refine List.Pairwise.filter _ ?_
    rw [List.pairwise_map]
    exact hz.imp (fun h => .inr ⟨rfl, .inr ⟨rfl, h⟩⟩)
  have h2 : ∀ x, (slabL P ys zs x).Pairwise ltP := fun x => by
    unfold slabL
    rw [List.pairwise_flatMap]
    exact ⟨fun y _ => h1 x y, hy.imp (fun {a b} h p hp q hq => by
      obtain ⟨e1, e2⟩ := mrow x a p hp
      obtain ⟨e3, e4⟩ := mrow x b q hq
      exact .inr ⟨by rw [e1, e3], .inl (by rw [e2, e4]; exact h)⟩)⟩
  unfold boxL
  rw [List.pairwise_flatMap]
  exact ⟨fun x _ => h2 x, hx.imp (fun {a b} h p hp q hq => by
    exact .inl (by rw [mslab a p hp, mslab b q hq]; exact h))⟩
theorem ptsL_sorted (n : Int) (l : List IneqD) : (ptsL n l).Pairwise ltP := box_sorted _ _ _ _ (rngL_sorted _) (rngL_sorted _) (rngL_sorted _)
theorem ltP_ne {a b : P3} (h : ltP a b) : a ≠ b := by
  rintro rfl
  unfold ltP at h
  omega
theorem ptsL_nodup (n : Int) (l : List IneqD) : (ptsL n l).Nodup := (ptsL_sorted n l).imp ltP_ne
end Go.Proofs.YtnejicklenhpeaaGreat
namespace Go.Proofs.YtnejicklenhpeaaGreat
open Go.RowKit
theorem slPt : SlT Tryz.prog 75 29 (.agg #[.int .i64 0, .int .i64 0, .int .i64 0]) 3 24 := ⟨Tryz.underlying75, by kernel_rfl, rfl, by decide⟩
/-- The row of points that a call has so far. -/
abbrev OwnP (w : World) (base : Nat) (v : Value) (l : List P3) : Prop := OwnOf w base 29 3 encP v l
set_option maxHeartbeats 4000000 in
set_option maxRecDepth 100000 in
theorem rAll_l (n : Int) (l : List IneqD) (hn : 1 ≤ n ∧ n ≤ 3) (hq : ∀ q ∈ l, SmQ q) (w : World) (v : Value) (hv : SlOf w w.heap.size 4 encI v l) :
    Calls Tryz.prog 38 #[.agg #[.int .i64 n, v]] w fun e w' => (∃ v', e = .returned v' ∧ SlOf w' w'.heap.size 3 encP v' (ptsL n l)) ∧ Below w.heap.size w w' := by
  have HV := Lib.hid hv; clear hv
  have HQ := Lib.hid hq; clear hq
  have HN := Lib.hid hn; clear hn
  have HL := Lib.hid (ptsL_len n l)
  have HP := Lib.hid (show ptsL n l = boxL (fun p => holdsB l p 1) (rngL (farI n 0)) (rngL (farI n 1)) (rngL (farI n 2)) from rfl)
  have F0 := far_cases n 0
  have F1 := far_cases n 1
  have F2 := far_cases n 2
  have HM := Lib.hid (fun x y z (hx : x ∈ rngL (farI n 0)) (hy : y ∈ rngL (farI n 1)) (hz : z ∈ rngL (farI n 2)) => flat_box HN.out hx hy hz)
  generalize hPd : (fun p => holdsB l p 1) = P at *
  have HPd := Lib.hid hPd; clear hPd
  have L0 := rngL_len (farI n 0)
  have L1 := rngL_len (farI n 1)
  have L2 := rngL_len (farI n 2)
  have A0 := rngL_at (farI n 0)
  have A1 := rngL_at (farI n 1)
  have A2 := rngL_at (farI n 2)
  have HF := Lib.hid (fun i (W : World) => rfar_l n i v W)
  generalize farI n = f at *
  generalize rngL (f 0) = xs at *
  generalize rngL (f 1) = ys at *
  generalize rngL (f 2) = zs at *
  have L0 := Lib.hid L0; have L1 := Lib.hid L1; have L2 := Lib.hid L2
  have A0 := Lib.hid A0; have A1 := Lib.hid A1; have A2 := Lib.hid A2
  have b0 : 0 ≤ f 0 ∧ f 0 ≤ 20 := by omega
  have b1 : 0 ≤ f 1 ∧ f 1 ≤ 20 := by omega
  have b2 : 0 ≤ f 2 ∧ f 2 ≤ 20 := by omega
  obtain ⟨b00, b01⟩ := b0; obtain ⟨b10, b11⟩ := b1; obtain ⟨b20, b21⟩ := b2
  clear F0 F1 F2
  obtain ⟨W1, hW1⟩ : ∃ W : World, w.alloc (Obj.cells #[.int .i64 n, v] 24) = W := ⟨_, rfl⟩
  have kw : Below w.heap.size w W1 := by rw [← hW1]; exact (by repeat (first | exact Below.refl _ _ | assumption | (refine Below.drew ?_) | (refine below_drewN ?_ _) | (refine Below.alloc ?_ (by first | (simp; done) | (simp; omega) | omega) _) | (refine Below.setCell ?_ (by first | (simp; done) | (simp; omega) | omega) _) | (refine Below.trans ?_ (Below.mono (by assumption) (by first | (simp; done) | (simp; omega) | omega)))))
  have ks : W1.heap.size = w.heap.size + 1 := by rw [← hW1]; simp
  have d0 : W1.cell? ⟨w.heap.size, 0, none⟩ = some (.int .i64 n) := by subst hW1; go_simp
  have d1 : W1.cell? ⟨w.heap.size, 1, none⟩ = some v := by subst hW1; go_simp
  have KW := Lib.hid kw; clear kw
  have HW := Lib.hid hW1; clear hW1
  have RD := Lib.hid (show ∀ wr, Below W1.heap.size W1 wr → wr.cell? ⟨w.heap.size, 0, none⟩ = some (.int .i64 n) ∧ wr.cell? ⟨w.heap.size, 1, none⟩ = some v from fun wr hb => ⟨(hb.cell (p := ⟨w.heap.size, 0, none⟩) (by simp; omega)).trans d0, (hb.cell (p := ⟨w.heap.size, 1, none⟩) (by simp; omega)).trans d1⟩)
  have HV1 := Lib.hid (show ∀ wr, Below W1.heap.size W1 wr → SlOf wr wr.heap.size 4 encI v l from fun wr hb => (HV.out.below KW.out).below hb)
  go_enter Tryz.func38, Tryz.ntmps38
  go_wp2_with (first | (go_at_call 87; rw [HW.out]; refine (HF.out _ _).mono ?_; go_must (rintro e w1 ⟨rfl, hb1⟩)))
  clear d0 d1
  go_loopw [3, 4] (fun v3 v4 wr => ∃ (i : Nat) (vo : Value), i ≤ xs.length ∧ v4 = .int .i64 ((i : Int) - f 0) ∧ vo = v3 ∧ Hid (OwnP wr W1.heap.size vo ((xs.take i).flatMap (slabL P ys zs))) ∧ Below W1.heap.size W1 wr) (fun _ v4 _ => (f 0 + 1 - intOf v4).toNat)
  case atStart => exact ⟨0, _, Nat.zero_le _, by simp, rfl, Lib.hid (OwnOf.nil _ _ _ _ _), hb1⟩
  case round =>
    obtain ⟨i, vo, hi, rfl, rfl, O, K⟩ := hrel
    obtain ⟨r0, r1⟩ := RD.out wr K
    have hL0 := L0.out
    obtain ⟨w2, rfl⟩ : ∃ x : World, x = wr := ⟨_, rfl⟩
    have ks2 := K.size
    by_cases hlt : (i : Int) - f 0 ≤ f 0
    rotate_left
    · have HI := Lib.hid (show i = xs.length by omega)
      go_wp2_with (first | (go_at_call 87; refine (HF.out _ _).mono ?_; go_must (rintro e w3 ⟨rfl, hb3⟩; have K' := below_at K (by omega) hb3; have O' := Lib.hid (O.out.kept hb3); clear K O r0 r1; have K := K'; have O := O'; clear K' O'; have ks2 := K.size; have zq := z1 (show w.heap.size + 1 ≤ w3.heap.size by omega); clear hb3; obtain ⟨r0, r1⟩ := RD.out _ K)))
      refine bodyPost_ret (v := vo) (by simp only [results, Tryz.results38]; first | (go_simp; done) | (go_simp; rfl)) rfl ⟨⟨_, rfl, ?_⟩, below_at KW.out (by omega) K⟩
      have := O.out.sl
      rw [HP.out]
      unfold boxL
      rw [HI.out, List.take_length] at this
      exact this
    have hil : i < xs.length := by omega
    have HX := Lib.hid (A0.out i hil)
    have HXM := Lib.hid (List.getElem_mem hil)
    have HTI := Lib.hid (take_flat (slabL P ys zs) xs i hil)
    have HBI := Lib.hid (fun j k hj => box_pre P xs ys zs i j k hil hj)
    have HILT := Lib.hid hil
    generalize hA : (xs.take i).flatMap (slabL P ys zs) = A at *
    clear hA
    generalize xs[i] = x at *
    go_wp2_with (first | (go_at_call 87; refine (HF.out _ _).mono ?_; go_must (rintro e w3 ⟨rfl, hb3⟩; have K' := below_at K (by omega) hb3; have O' := Lib.hid (O.out.kept hb3); clear K O r0 r1; have K := K'; have O := O'; clear K' O'; have ks2 := K.size; have zq := z1 (show w.heap.size + 1 ≤ w3.heap.size by omega); clear hb3; obtain ⟨r0, r1⟩ := RD.out _ K)))
    go_loopw [3, 5] (fun v3 v5 wr => ∃ (j : Nat) (vo : Value), j ≤ ys.length ∧ v5 = .int .i64 ((j : Int) - f 1) ∧ vo = v3 ∧ Hid (OwnP wr W1.heap.size vo (A ++ (ys.take j).flatMap (rowL P zs x))) ∧ Below W1.heap.size W1 wr) (fun _ v5 _ => (f 1 + 1 - intOf v5).toNat)
    case atStart => exact ⟨0, _, Nat.zero_le _, by simp, rfl, by simpa using O, K⟩
    case round =>
      clear K O r0 r1 ks2
      obtain ⟨j, vo2, hj, rfl, rfl, O, K⟩ := hrel
      obtain ⟨r0, r1⟩ := RD.out wr K
      have hL1 := L1.out
      obtain ⟨w3, rfl⟩ : ∃ x : World, x = wr := ⟨_, rfl⟩
      have ks2 := K.size
      by_cases hlt2 : (j : Int) - f 1 ≤ f 1
      rotate_left
      · have HI := Lib.hid (show j = ys.length by omega)
        go_wp2_with (first | (go_at_call 87; refine (HF.out _ _).mono ?_; go_must (rintro e w3 ⟨rfl, hb3⟩; have K' := below_at K (by omega) hb3; have O' := Lib.hid (O.out.kept hb3); clear K O r0 r1; have K := K'; have O := O'; clear K' O'; have ks2 := K.size; have zq := z1 (show w.heap.size + 1 ≤ w3.heap.size by omega); clear hb3; obtain ⟨r0, r1⟩ := RD.out _ K)))
        go_roundw
        case rel =>
          refine ⟨i + 1, _, HILT.out, by rw [show ((i + 1 : Nat) : Int) - f 0 = (i : Int) - f 0 + 1 by omega], rfl, Lib.hid ?_, K⟩
          rw [HTI.out]
          have := O.out
          rw [HI.out, List.take_length] at this
          exact this
        case measure => simp only [intOf]; omega
      have hjl : j < ys.length := by omega
      have HY := Lib.hid (A1.out j hjl)
      have HYM := Lib.hid (List.getElem_mem hjl)
      have HTJ := Lib.hid (take_flat (rowL P zs x) ys j hjl)
      have HBJ := Lib.hid (fun k => HBI.out j k hjl)
      have HJLT := Lib.hid hjl
      generalize hB : (ys.take j).flatMap (rowL P zs x) = B at *
      clear hB
      generalize ys[j] = y at *
      go_wp2_with (first | (go_at_call 87; refine (HF.out _ _).mono ?_; go_must (rintro e w3 ⟨rfl, hb3⟩; have K' := below_at K (by omega) hb3; have O' := Lib.hid (O.out.kept hb3); clear K O r0 r1; have K := K'; have O := O'; clear K' O'; have ks2 := K.size; have zq := z1 (show w.heap.size + 1 ≤ w3.heap.size by omega); clear hb3; obtain ⟨r0, r1⟩ := RD.out _ K)))
      go_loopw [3, 6] (fun v3 v6 wr => ∃ (k : Nat) (vo : Value), k ≤ zs.length ∧ v6 = .int .i64 ((k : Int) - f 2) ∧ vo = v3 ∧ Hid (OwnP wr W1.heap.size vo (A ++ (B ++ rowL P (zs.take k) x y))) ∧ Below W1.heap.size W1 wr) (fun _ v6 _ => (f 2 + 1 - intOf v6).toNat)
      case atStart => exact ⟨0, _, Nat.zero_le _, by simp, rfl, by simpa [rowL] using O, K⟩
      case round =>
        clear K O r0 r1 ks2
        obtain ⟨k, vo3, hk, rfl, rfl, O, K⟩ := hrel
        obtain ⟨r0, r1⟩ := RD.out wr K
        have hL2 := L2.out
        obtain ⟨w4, rfl⟩ : ∃ x : World, x = wr := ⟨_, rfl⟩
        have ks2 := K.size
        by_cases hlt3 : (k : Int) - f 2 ≤ f 2
        rotate_left
        · have HI := Lib.hid (show k = zs.length by omega)
          go_wp2_with (first | (go_at_call 87; refine (HF.out _ _).mono ?_; go_must (rintro e w3 ⟨rfl, hb3⟩; have K' := below_at K (by omega) hb3; have O' := Lib.hid (O.out.kept hb3); clear K O r0 r1; have K := K'; have O := O'; clear K' O'; have ks2 := K.size; have zq := z1 (show w.heap.size + 1 ≤ w3.heap.size by omega); clear hb3; obtain ⟨r0, r1⟩ := RD.out _ K)))
          go_roundw
          case rel =>
            refine ⟨j + 1, _, HJLT.out, by rw [show ((j + 1 : Nat) : Int) - f 1 = (j : Int) - f 1 + 1 by omega], rfl, Lib.hid ?_, K⟩
            rw [HTJ.out]
            have := O.out
            rw [HI.out, List.take_length] at this
            exact this
          case measure => simp only [intOf]; omega
        have hkl : k < zs.length := by omega
        have HZ := Lib.hid (A2.out k hkl)
        have hfl := HM.out x y zs[k] HXM.out HYM.out (List.getElem_mem hkl)
        have HTK := Lib.hid (row_take P zs x y k hkl)
        have HLB := Lib.hid (HBJ.out k)
        have HKLT := Lib.hid hkl
        generalize hC : rowL P (zs.take k) x y = C at *
        clear hC
        generalize zs[k] = z at *
        have hx := HX.out; have hy := HY.out; have hzz := HZ.out
        have HLN := Lib.hid (show (A ++ (B ++ C)).length ≤ 68921 from by have := HL.out; rw [HP.out] at this; exact Nat.le_trans HLB.out.length_le this)
        subst hx hy hzz
        have HPT := Lib.hid (show P ((i : Int) - f 0, (j : Int) - f 1, (k : Int) - f 2) = holdsB l ((i : Int) - f 0, (j : Int) - f 1, (k : Int) - f 2) 1 by rw [← HPd.out])
        have HH := Lib.hid (fun (W : World) (hw : SlOf W W.heap.size 4 encI v l) => rhas_l n l ((i : Int) - f 0, (j : Int) - f 1, (k : Int) - f 2) HN.out HQ.out W v hw)
        have hpv : (flatB n ((i : Int) - f 0) ((j : Int) - f 1) ((k : Int) - f 2) 20 && holdsB l ((i : Int) - f 0, (j : Int) - f 1, (k : Int) - f 2) 1) = P ((i : Int) - f 0, (j : Int) - f 1, (k : Int) - f 2) := by rw [hfl, HPT.out]; rfl
        clear hfl
        cases hpp : P ((i : Int) - f 0, (j : Int) - f 1, (k : Int) - f 2)
        · have HPV := Lib.hid (hpv.trans hpp)
          rw [hpp] at HTK
          clear hpp hpv
          go_wp2_with (first | (go_at_call 87; refine (HF.out _ _).mono ?_; go_must (rintro e w3 ⟨rfl, hb3⟩; have K' := below_at K (by omega) hb3; have O' := Lib.hid (O.out.kept hb3); clear K O r0 r1; have K := K'; have O := O'; clear K' O'; have ks2 := K.size; have zq := z1 (show w.heap.size + 1 ≤ w3.heap.size by omega); clear hb3; obtain ⟨r0, r1⟩ := RD.out _ K)) | (go_at_call 88; refine (HH.out _ (SlOf.below (HV1.out _ K) (by repeat (first | exact Below.refl _ _ | assumption | (refine Below.drew ?_) | (refine below_drewN ?_ _) | (refine Below.alloc ?_ (by first | (simp; done) | (simp; omega) | omega) _) | (refine Below.setCell ?_ (by first | (simp; done) | (simp; omega) | omega) _) | (refine Below.trans ?_ (Below.mono (by assumption) (by first | (simp; done) | (simp; omega) | omega))))))).mono ?_; go_must (rintro e w5 ⟨rfl, hb5⟩; rw [HPV.out]; obtain ⟨hc5, hf5⟩ := bcell hb5; have hz5 := hb5.size; (try simp at hz5); (first | have z := z10 hz5 | have z := z9 hz5 | have z := z8 hz5 | have z := z7 hz5 | have z := z6 hz5 | have z := z5 hz5 | have z := z4 hz5 | have z := z3 hz5 | have z := z2 hz5 | have z := z1 hz5 | skip))))
          have hbE : Below w3.heap.size w3 w5 := ((Below.refl w3.heap.size w3).alloc (Nat.le_refl _) (.cells #[.int .i64 ((i : Int) - f 0), .int .i64 ((j : Int) - f 1), .int .i64 ((k : Int) - f 2)] 29)).trans (hb5.mono (by simp))
          go_roundw
          case rel =>
            refine ⟨k + 1, _, HKLT.out, by rw [show ((k + 1 : Nat) : Int) - f 2 = (k : Int) - f 2 + 1 by omega], rfl, Lib.hid ?_, below_at K (by omega) hbE⟩
            rw [HTK.out]
            simpa using O.out.kept hbE
          case measure => simp only [intOf]; omega
        · have HPV := Lib.hid (hpv.trans hpp)
          rw [hpp] at HTK
          clear hpp hpv
          have HO := Lib.hid (fun (w3 w5 : World) (O : Hid (OwnP w3 W1.heap.size vo3 (A ++ (B ++ C)))) (hb5 : Below (w3.alloc (.cells #[.int .i64 ((i : Int) - f 0), .int .i64 ((j : Int) - f 1), .int .i64 ((k : Int) - f 2)] 29)).heap.size (w3.alloc (.cells #[.int .i64 ((i : Int) - f 0), .int .i64 ((j : Int) - f 1), .int .i64 ((k : Int) - f 2)] 29)) w5) => O.out.kept (((Below.refl w3.heap.size w3).alloc (Nat.le_refl _) (.cells #[.int .i64 ((i : Int) - f 0), .int .i64 ((j : Int) - f 1), .int .i64 ((k : Int) - f 2)] 29)).trans (hb5.mono (by simp))))
          go_wp2_with (first | (go_at_call 87; refine (HF.out _ _).mono ?_; go_must (rintro e w3 ⟨rfl, hb3⟩; have K' := below_at K (by omega) hb3; have O' := Lib.hid (O.out.kept hb3); clear K O r0 r1; have K := K'; have O := O'; clear K' O'; have ks2 := K.size; have zq := z1 (show w.heap.size + 1 ≤ w3.heap.size by omega); clear hb3; obtain ⟨r0, r1⟩ := RD.out _ K)) | (go_at_call 88; refine (HH.out _ (SlOf.below (HV1.out _ K) (by repeat (first | exact Below.refl _ _ | assumption | (refine Below.drew ?_) | (refine below_drewN ?_ _) | (refine Below.alloc ?_ (by first | (simp; done) | (simp; omega) | omega) _) | (refine Below.setCell ?_ (by first | (simp; done) | (simp; omega) | omega) _) | (refine Below.trans ?_ (Below.mono (by assumption) (by first | (simp; done) | (simp; omega) | omega))))))).mono ?_; go_must (rintro e w5 ⟨rfl, hb5⟩; rw [HPV.out]; obtain ⟨hc5, hf5⟩ := bcell hb5; have hz5 := hb5.size; (try simp at hz5); (first | have z := z10 hz5 | have z := z9 hz5 | have z := z8 hz5 | have z := z7 hz5 | have z := z6 hz5 | have z := z5 hz5 | have z := z4 hz5 | have z := z3 hz5 | have z := z2 hz5 | have z := z1 hz5 | skip))) | (at_builtin; refine wpList_push rfl _ _ _ rfl slPt (HO.out _ _ O hb5) rfl rfl (by first | rfl | simp) rfl rfl (by have := HLN.out; omega) (by omega) (by omega) ?_; intro g5 c5 w6 hown6 hg6 hat6))
          go_roundw
          case rel =>
            have hbE : Below w3.heap.size w3 w5 := ((Below.refl w3.heap.size w3).alloc (Nat.le_refl _) (.cells #[.int .i64 ((i : Int) - f 0), .int .i64 ((j : Int) - f 1), .int .i64 ((k : Int) - f 2)] 29)).trans (hb5.mono (by simp))
            refine ⟨k + 1, _, HKLT.out, by rw [show ((k + 1 : Nat) : Int) - f 2 = (k : Int) - f 2 + 1 by omega], rfl, Lib.hid ?_, OwnOf.push (below_at K (by omega) hbE) (O.out.kept hbE) (Nat.le_refl _) (by omega) hg6⟩
            rw [HTK.out]
            have := OwnOf.snoc (l := A ++ (B ++ C)) (x := ((i : Int) - f 0, (j : Int) - f 1, (k : Int) - f 2)) (enc := encP) (by simpa [encP] using hown6) rfl
            simpa [List.append_assoc] using this
          case measure => simp only [intOf]; omega
end Go.Proofs.YtnejicklenhpeaaGreat
namespace Go.Proofs.YtnejicklenhpeaaGreat
open Go.RowKit Go.Shelf
attribute [local go_sem] Oper.semAt_some
def encPt (p : P3) : Array Value := #[ptV p]
set_option maxHeartbeats 4000000 in
set_option maxRecDepth 100000 in
theorem points_stops (m : Nat) (hm : 3 ≤ m) (n : Int) (l : List IneqD) (hn : 1 ≤ n ∧ n ≤ 3) (hq : ∀ q ∈ l, SmQ q) (S : Nat → Prop) (N0 B0 b1 b2 : Nat) (v : Value) (w : World) (hN : N0 ≤ w.heap.size) (h1 : b1 < N0) (h2 : b2 < N0) (hB0 : B0 ≤ N0) (s1 : ¬ S b1) (s2 : ¬ S b2) (s3 : ∀ b, S b → B0 ≤ b)
    (c0 : w.cell? ⟨b1, 0, none⟩ = some (.int .i64 (farI n 0))) (c1 : w.cell? ⟨b1, 1, none⟩ = some (.int .i64 (farI n 1))) (c2 : w.cell? ⟨b1, 2, none⟩ = some (.int .i64 (farI n 2)))
    (d1 : w.cell? ⟨b2, 1, none⟩ = some v) (hv : SlOf w B0 4 encI v l) :
    SeqMine Fence.wide m Tryz.prog 152 #[.pointer (some ⟨b1, 0, none⟩), .pointer (some ⟨b2, 0, none⟩)] encPt (MineFrom S N0) (ptsL n l) w := by
  intro ly J Jx W hW hmlt hJ hJx hY h0
  have hn1 : 1 ≤ m := by omega
  have h88 : Fence.wide.fn 153 := trivial
  have HJ := Lib.hid hJ; clear hJ
  have HJx := Lib.hid hJx; clear hJx
  have HY := Lib.hid hY; clear hY
  have HQ := Lib.hid hq; clear hq
  have hNW : N0 ≤ W.heap.size := Nat.le_trans hN hW.size
  have c0 := (hW.cell (p := ⟨b1, 0, none⟩) (by simp; omega)).trans c0
  have c1 := (hW.cell (p := ⟨b1, 1, none⟩) (by simp; omega)).trans c1
  have c2 := (hW.cell (p := ⟨b1, 2, none⟩) (by simp; omega)).trans c2
  have d1 := (hW.cell (p := ⟨b2, 1, none⟩) (by simp; omega)).trans d1
  have hv := hv.kept (hW.mono (Nat.le_trans hB0 hN))
  have RD := Lib.hid (show ∀ wr, FX S N0 W wr → wr.cell? ⟨b1, 0, none⟩ = some (.int .i64 (farI n 0)) ∧ wr.cell? ⟨b1, 1, none⟩ = some (.int .i64 (farI n 1)) ∧ wr.cell? ⟨b1, 2, none⟩ = some (.int .i64 (farI n 2)) ∧ wr.cell? ⟨b2, 1, none⟩ = some v from
    fun wr h => ⟨h.cell h1 s1 c0, h.cell h1 s1 c1, h.cell h1 s1 c2, h.cell h2 s2 d1⟩)
  have SL := Lib.hid (show ∀ wr, FX S N0 W wr → SlOf wr B0 4 encI v l from fun wr h => h.sl hB0 s3 hv (fun _ => rfl))
  clear hv hW hN
  have HP := Lib.hid (show ptsL n l = boxL (fun p => holdsB l p 1) (rngL (farI n 0)) (rngL (farI n 1)) (rngL (farI n 2)) from rfl)
  have F0 := far_cases n 0
  have F1 := far_cases n 1
  have F2 := far_cases n 2
  have HM := Lib.hid (fun x y z (hx : x ∈ rngL (farI n 0)) (hy : y ∈ rngL (farI n 1)) (hz : z ∈ rngL (farI n 2)) => flat_box hn hx hy hz)
  generalize hPd : (fun p => holdsB l p 1) = P at *
  have HPd := Lib.hid hPd; clear hPd
  have L0 := rngL_len (farI n 0)
  have L1 := rngL_len (farI n 1)
  have L2 := rngL_len (farI n 2)
  have A0 := rngL_at (farI n 0)
  have A1 := rngL_at (farI n 1)
  have A2 := rngL_at (farI n 2)
  generalize hf : farI n = f at *
  clear hf
  generalize rngL (f 0) = xs at *
  generalize rngL (f 1) = ys at *
  generalize rngL (f 2) = zs at *
  have L0 := Lib.hid L0; have L1 := Lib.hid L1; have L2 := Lib.hid L2
  have A0 := Lib.hid A0; have A1 := Lib.hid A1; have A2 := Lib.hid A2
  have b0 : 0 ≤ f 0 ∧ f 0 ≤ 20 := by omega
  have b1' : 0 ≤ f 1 ∧ f 1 ≤ 20 := by omega
  have b2' : 0 ≤ f 2 ∧ f 2 ≤ 20 := by omega
  obtain ⟨b00, b01⟩ := b0; obtain ⟨b10, b11⟩ := b1'; obtain ⟨b20, b21⟩ := b2'
  clear F0 F1 F2
  refine callsIn_of_wp Tryz.func152 rfl trivial ?_ rfl
  simp only [Tryz.ntmps152, List.size_toArray, List.length_cons, List.length_nil, Nat.reduceAdd, Nat.reduceSub, Array.replicate_succ, Array.replicate_zero, List.push_toArray, List.append_toArray, List.nil_append, List.cons_append]
  gi_wp2
  gi_loopw [4] (fun v4 wr => ∃ (i : Nat), i ≤ xs.length ∧ v4 = .int .i64 ((i : Int) - f 0) ∧ J ((xs.take i).flatMap (slabL P ys zs)) wr ∧ FX S N0 W wr ∧ W.heap.size ≤ wr.heap.size) (fun v4 _ => (f 0 + 1 - intOf v4).toNat)
  case atStart => exact ⟨0, Nat.zero_le _, by simp, by simpa using h0, FX.refl _ _ _, Nat.le_refl _⟩
  case round =>
    clear h0 c0 c1 c2 d1
    obtain ⟨i, hi, rfl, hJ, K, ks⟩ := hrel
    obtain ⟨r0, r1, r2, r3⟩ := RD.out wr K
    have hL0 := L0.out
    obtain ⟨w2, rfl⟩ : ∃ x : World, x = wr := ⟨_, rfl⟩
    by_cases hlt : (i : Int) - f 0 ≤ f 0
    rotate_left
    · have HI := Lib.hid (show i = xs.length by omega)
      have HJJ := Lib.hid hJ; clear hJ
      gi_wp2
      go_end0
      refine ⟨⟨_, rfl⟩, .inl ?_⟩
      have := HJJ.out
      rw [HI.out, List.take_length] at this
      rw [HP.out]
      exact this
    have hil : i < xs.length := by omega
    have HX := Lib.hid (A0.out i hil)
    have HXM := Lib.hid (List.getElem_mem hil)
    have HTI := Lib.hid (take_flat (slabL P ys zs) xs i hil)
    have HBI := Lib.hid (fun j k hj => box_pre P xs ys zs i j k hil hj)
    have HILT := Lib.hid hil
    generalize hA : (xs.take i).flatMap (slabL P ys zs) = A at *
    clear hA
    generalize xs[i] = x at *
    gi_wp2
    gi_loopw [5] (fun v5 wr => ∃ (j : Nat), j ≤ ys.length ∧ v5 = .int .i64 ((j : Int) - f 1) ∧ J (A ++ (ys.take j).flatMap (rowL P zs x)) wr ∧ FX S N0 W wr ∧ W.heap.size ≤ wr.heap.size) (fun v5 _ => (f 1 + 1 - intOf v5).toNat)
    case atStart => exact ⟨0, Nat.zero_le _, by simp, by simpa using hJ, K, ks⟩
    case round =>
      clear hJ K ks r0 r1 r2 r3
      obtain ⟨j, hj, rfl, hJ, K, ks⟩ := hrel
      obtain ⟨r0, r1, r2, r3⟩ := RD.out wr K
      have hL1 := L1.out
      obtain ⟨w3, rfl⟩ : ∃ x : World, x = wr := ⟨_, rfl⟩
      by_cases hlt2 : (j : Int) - f 1 ≤ f 1
      rotate_left
      · have HI := Lib.hid (show j = ys.length by omega)
        have HJJ := Lib.hid hJ; clear hJ
        gi_wp2
        go_roundw
        case rel =>
          refine ⟨i + 1, HILT.out, by rw [show ((i + 1 : Nat) : Int) - f 0 = (i : Int) - f 0 + 1 by omega], ?_, K, ks⟩
          rw [HTI.out]
          have := HJJ.out
          rw [HI.out, List.take_length] at this
          exact this
        case measure => simp only [intOf]; omega
      have hjl : j < ys.length := by omega
      have HY2 := Lib.hid (A1.out j hjl)
      have HYM := Lib.hid (List.getElem_mem hjl)
      have HTJ := Lib.hid (take_flat (rowL P zs x) ys j hjl)
      have HBJ := Lib.hid (fun k => HBI.out j k hjl)
      have HJLT := Lib.hid hjl
      generalize hB : (ys.take j).flatMap (rowL P zs x) = B at *
      clear hB
      generalize ys[j] = y at *
      gi_wp2
      gi_loopw [6] (fun v6 wr => ∃ (k : Nat), k ≤ zs.length ∧ v6 = .int .i64 ((k : Int) - f 2) ∧ J (A ++ (B ++ rowL P (zs.take k) x y)) wr ∧ FX S N0 W wr ∧ W.heap.size ≤ wr.heap.size) (fun v6 _ => (f 2 + 1 - intOf v6).toNat)
      case atStart => exact ⟨0, Nat.zero_le _, by simp, by simpa [rowL] using hJ, K, ks⟩
      case round =>
        clear hJ K ks r0 r1 r2 r3
        obtain ⟨k, hk, rfl, hJ, K, ks⟩ := hrel
        obtain ⟨r0, r1, r2, r3⟩ := RD.out wr K
        have hL2 := L2.out
        obtain ⟨w4, rfl⟩ : ∃ x : World, x = wr := ⟨_, rfl⟩
        by_cases hlt3 : (k : Int) - f 2 ≤ f 2
        rotate_left
        · have HI := Lib.hid (show k = zs.length by omega)
          have HJJ := Lib.hid hJ; clear hJ
          gi_wp2
          go_roundw
          case rel =>
            refine ⟨j + 1, HJLT.out, by rw [show ((j + 1 : Nat) : Int) - f 1 = (j : Int) - f 1 + 1 by omega], ?_, K, ks⟩
            rw [HTJ.out]
            have := HJJ.out
            rw [HI.out, List.take_length] at this
            exact this
          case measure => simp only [intOf]; omega
        have hkl : k < zs.length := by omega
        have HZ := Lib.hid (A2.out k hkl)
        have hfl := HM.out x y zs[k] HXM.out HYM.out (List.getElem_mem hkl)
        have HTK := Lib.hid (row_take P zs x y k hkl)
        have HLB := Lib.hid (HBJ.out (k + 1))
        have HKLT := Lib.hid hkl
        generalize hC : rowL P (zs.take k) x y = C at *
        clear hC
        generalize zs[k] = z at *
        have hx := HX.out; have hy := HY2.out; have hzz := HZ.out
        subst hx hy hzz
        have HSM := Lib.hid (flatB_sm hfl)
        have HPT := Lib.hid (show P ((i : Int) - f 0, (j : Int) - f 1, (k : Int) - f 2) = holdsB l ((i : Int) - f 0, (j : Int) - f 1, (k : Int) - f 2) 1 by rw [← HPd.out])
        have HH := Lib.hid (fun (Z : World) (hw : SlOf Z Z.heap.size 4 encI v l) => holds_l l ((i : Int) - f 0, (j : Int) - f 1, (k : Int) - f 2) HQ.out HSM.out Z v hw)
        clear hfl
        have HJJ := Lib.hid hJ; clear hJ
        have hz1 := z1 (show b1 + 1 ≤ w4.heap.size by omega)
        have hz2 := z1 (show b2 + 1 ≤ w4.heap.size by omega)
        have HSW := Lib.hid (SL.out w4 K)
        cases hpp : P ((i : Int) - f 0, (j : Int) - f 1, (k : Int) - f 2)
        · have HPV := Lib.hid (HPT.out.symm.trans hpp)
          rw [hpp] at HTK
          clear hpp
          gi_wp2_with (first | (gi_at_call 153; refine (callsIn_wide.2 (HH.out _ (SlOf.mono (SlOf.kept HSW.out (Below.mono (B := w4.heap.size) (by repeat (first | exact Below.refl _ _ | assumption | (refine Below.drew ?_) | (refine below_drewN ?_ _) | (refine Below.alloc ?_ (by first | (simp; done) | (simp; omega) | omega) _) | (refine Below.setCell ?_ (by first | (simp; done) | (simp; omega) | omega) _) | (refine Below.trans ?_ (Below.mono (by assumption) (by first | (simp; done) | (simp; omega) | omega))))) (by omega))) (by simp; omega)))).mono ?_; go_must (rintro e w5 ⟨rfl, hb5⟩; rw [HPV.out])))
          refine ⟨fun f h => by simp at h, ?_⟩
          gi_wp2
          have hbE : Below w4.heap.size w4 w5 := ((Below.refl w4.heap.size w4).alloc (Nat.le_refl _) (.cells #[.int .i64 ((i : Int) - f 0), .int .i64 ((j : Int) - f 1), .int .i64 ((k : Int) - f 2)] 29)).trans (hb5.mono (by simp))
          have hs5 := hbE.size
          go_roundw
          case rel =>
            refine ⟨k + 1, HKLT.out, by rw [show ((k + 1 : Nat) : Int) - f 2 = (k : Int) - f 2 + 1 by omega], ?_, K.below (hbE.mono (by omega)), by omega⟩
            rw [HTK.out]
            simpa using HJ.out _ _ _ HJJ.out (stepQ_from hbE ks)
          case measure => simp only [intOf]; omega
        · have HPV := Lib.hid (HPT.out.symm.trans hpp)
          rw [hpp] at HTK
          clear hpp
          have HTL := Lib.hid (show A ++ (B ++ rowL P (zs.take (k + 1)) (↑i - f 0) (↑j - f 1)) = (A ++ (B ++ C)) ++ [((i : Int) - f 0, (j : Int) - f 1, (k : Int) - f 2)] by rw [HTK.out]; simp)
          have hpre : (A ++ (B ++ C)) ++ [((i : Int) - f 0, (j : Int) - f 1, (k : Int) - f 2)] <+: ptsL n l := by rw [HP.out, ← HTL.out]; exact HLB.out
          have HPRE := Lib.hid hpre; clear hpre
          gi_wp2_with (first | (gi_at_call 153; refine (callsIn_wide.2 (HH.out _ (SlOf.mono (SlOf.kept HSW.out (Below.mono (B := w4.heap.size) (by repeat (first | exact Below.refl _ _ | assumption | (refine Below.drew ?_) | (refine below_drewN ?_ _) | (refine Below.alloc ?_ (by first | (simp; done) | (simp; omega) | omega) _) | (refine Below.setCell ?_ (by first | (simp; done) | (simp; omega) | omega) _) | (refine Below.trans ?_ (Below.mono (by assumption) (by first | (simp; done) | (simp; omega) | omega))))) (by omega))) (by simp; omega)))).mono ?_; go_must (rintro e w5 ⟨rfl, hb5⟩; rw [HPV.out]; obtain ⟨hc5, hf5⟩ := bcell hb5; have hz5 := hb5.size; (try simp at hz5); (first | have z := z10 hz5 | have z := z9 hz5 | have z := z8 hz5 | have z := z7 hz5 | have z := z6 hz5 | have z := z5 hz5 | have z := z4 hz5 | have z := z3 hz5 | have z := z2 hz5 | have z := z1 hz5 | skip); have hbE : Below w4.heap.size w4 w5 := ((Below.refl w4.heap.size w4).alloc (Nat.le_refl _) (.cells #[.int .i64 ((i : Int) - f 0), .int .i64 ((j : Int) - f 1), .int .i64 ((k : Int) - f 2)] 29)).trans (hb5.mono (by simp)); have hJ3 := HJ.out _ _ _ HJJ.out (stepQ_from hbE ks); obtain ⟨fn, tmps, assign, body, hy, hR⟩ := HY.out _ _ _ hJ3 HPRE.out; have HR := Lib.hid hR; clear hR hJ3; simp only [encPt, ptV] at hy)))
          have hs5 := hbE.size
          refine HR.out.mono ?_
          rintro e w6 (⟨rfl, hJ6, hk6⟩ | ⟨rfl, hJx6⟩)
          rotate_left
          · gi_wp2
            refine bodyPost_ret (results_none rfl _ _ _) rfl ?_
            exact ⟨⟨_, rfl⟩, .inr ⟨_, HPRE.out, hJx6⟩⟩
          have K6 := (K.below (hbE.mono (by omega))).round hk6
          have hs6 := hk6.1
          have HJ6 := Lib.hid hJ6; clear hJ6
          clear r0 r1 r2 r3 hy
          obtain ⟨r0, r1, r2, r3⟩ := RD.out w6 K6
          gi_wp2
          go_roundw
          case rel =>
            refine ⟨k + 1, HKLT.out, by rw [show ((k + 1 : Nat) : Int) - f 2 = (k : Int) - f 2 + 1 by omega], ?_, K6, by omega⟩
            rw [HTL.out]
            exact HJ6.out
          case measure => simp only [intOf]; omega
end Go.Proofs.YtnejicklenhpeaaGreat
namespace Go.Proofs.YtnejicklenhpeaaGreat
open Go.RowKit Go.Shelf
attribute [local go_sem] Oper.semAt_some
set_option maxHeartbeats 4000000 in
set_option maxRecDepth 100000 in
theorem ppoints_l (n : Int) (hn : 1 ≤ n ∧ n ≤ 3) (v : Value) (w : World) :
    Calls Tryz.prog 105 #[.agg #[.int .i64 n, v]] w fun e w' => e = .returned (.func (.func 152) #[] #[.pointer (some ⟨w.heap.size + 1, 0, none⟩), .pointer (some ⟨w.heap.size, 0, none⟩)]) ∧ Below w.heap.size w w' ∧ w'.heap.size = w.heap.size + 2 ∧
      w'.cell? ⟨w.heap.size + 1, 0, none⟩ = some (.int .i64 (farI n 0)) ∧ w'.cell? ⟨w.heap.size + 1, 1, none⟩ = some (.int .i64 (farI n 1)) ∧ w'.cell? ⟨w.heap.size + 1, 2, none⟩ = some (.int .i64 (farI n 2)) ∧ w'.cell? ⟨w.heap.size, 0, none⟩ = some (.int .i64 n) ∧ w'.cell? ⟨w.heap.size, 1, none⟩ = some v := by
  obtain rfl | rfl | rfl : n = 1 ∨ n = 2 ∨ n = 3 := by omega
  · go_enter Tryz.func105, Tryz.ntmps105
    go_wp2
    refine wp_loop_rounds 2 ?_
    iterate 2 (rw [rounds_succ]; go_wp2)
    go_ret
    refine ⟨rfl, by repeat (first | exact Below.refl _ _ | assumption | (refine Below.drew ?_) | (refine below_drewN ?_ _) | (refine Below.alloc ?_ (by first | (simp; done) | (simp; omega) | omega) _) | (refine Below.setCell ?_ (by first | (simp; done) | (simp; omega) | omega) _) | (refine Below.trans ?_ (Below.mono (by assumption) (by first | (simp; done) | (simp; omega) | omega)))), by simp, ?_⟩
    go_simp
    simp [farI]
  · go_enter Tryz.func105, Tryz.ntmps105
    go_wp2
    refine wp_loop_rounds 3 ?_
    iterate 3 (rw [rounds_succ]; go_wp2)
    go_ret
    refine ⟨rfl, by repeat (first | exact Below.refl _ _ | assumption | (refine Below.drew ?_) | (refine below_drewN ?_ _) | (refine Below.alloc ?_ (by first | (simp; done) | (simp; omega) | omega) _) | (refine Below.setCell ?_ (by first | (simp; done) | (simp; omega) | omega) _) | (refine Below.trans ?_ (Below.mono (by assumption) (by first | (simp; done) | (simp; omega) | omega)))), by simp, ?_⟩
    go_simp
    simp [farI]
  · go_enter Tryz.func105, Tryz.ntmps105
    go_wp2
    refine wp_loop_rounds 4 ?_
    iterate 4 (rw [rounds_succ]; go_wp2)
    go_ret
    refine ⟨rfl, by repeat (first | exact Below.refl _ _ | assumption | (refine Below.drew ?_) | (refine below_drewN ?_ _) | (refine Below.alloc ?_ (by first | (simp; done) | (simp; omega) | omega) _) | (refine Below.setCell ?_ (by first | (simp; done) | (simp; omega) | omega) _) | (refine Below.trans ?_ (Below.mono (by assumption) (by first | (simp; done) | (simp; omega) | omega)))), by simp, ?_⟩
    go_simp
    simp [farI]
set_option maxHeartbeats 4000000 in
set_option maxRecDepth 100000 in
theorem Count_in (n : Int) (l : List IneqD) (w : World) (v : Value) (hv : SlOf w w.heap.size 4 encI v l) (hd : validD n l = true) :
    CallsIn Fence.wide 5 Tryz.prog 156 #[.agg #[.int .i64 n, v]] w fun e w' => e = .returned (.tuple #[.int .i64 (ptsL n l).length, .int .i64 0]) ∧ Below w.heap.size w w' := by
  have hdo := validD_out hd
  obtain ⟨hn, -, hq⟩ := hdo
  have HV := Lib.hid hv; clear hv
  have HD := Lib.hid hd; clear hd
  have HQ := Lib.hid hq; clear hq
  have HLN := Lib.hid (ptsL_len n l)
  have f1 : Fence.wide.fn 104 := trivial
  have f2 : Fence.wide.fn 105 := trivial
  obtain ⟨W0, hW0⟩ : ∃ W0 : World, w.alloc (.cells #[.int .i64 n, v] 24) = W0 := ⟨_, rfl⟩
  have HK0 := Lib.hid (show Below w.heap.size w W0 from by rw [← hW0]; exact (by repeat (first | exact Below.refl _ _ | assumption | (refine Below.drew ?_) | (refine below_drewN ?_ _) | (refine Below.alloc ?_ (by first | (simp; done) | (simp; omega) | omega) _) | (refine Below.setCell ?_ (by first | (simp; done) | (simp; omega) | omega) _) | (refine Below.trans ?_ (Below.mono (by assumption) (by first | (simp; done) | (simp; omega) | omega))))))
  have hs0 : W0.heap.size = w.heap.size + 1 := by rw [← hW0]; simp
  have y0 : W0.cell? ⟨w.heap.size, 0, none⟩ = some (.int .i64 n) := by subst hW0; go_simp
  have y1 : W0.cell? ⟨w.heap.size, 1, none⟩ = some v := by subst hW0; go_simp
  have HW0 := Lib.hid hW0; clear hW0
  refine callsIn_of_wp_marks Tryz.func156 rfl trivial ?_ rfl
  simp only [Tryz.ntmps156, List.size_toArray, List.length_cons, List.length_nil, Nat.reduceAdd, Nat.reduceSub, Array.replicate_succ, Array.replicate_zero, List.push_toArray, List.append_toArray, List.nil_append, List.cons_append]
  gi_wp2_with (first | (gi_at_call 104; rw [HW0.out]; refine (callsIn_wide.2 (pValid_l n l W0 v (HV.out.below HK0.out))).mono ?_; go_must (rintro e w1 ⟨rfl, hb1⟩; rw [HD.out]; have hs1 := hb1.size; have hz1 := z1 (show w.heap.size + 1 ≤ w1.heap.size by omega); have e0 := (hb1.cell (p := ⟨w.heap.size, 0, none⟩) (by simp; omega)).trans y0; have e1 := (hb1.cell (p := ⟨w.heap.size, 1, none⟩) (by simp; omega)).trans y1; clear y0 y1)) | (gi_at_call 105; refine (callsIn_wide.2 (ppoints_l n hn v _)).mono ?_; go_must (rintro e w2 ⟨rfl, hb2, hs2, p0, p1, p2, q0, q1⟩)))
  have hz2 : w2.heap.size = w1.heap.size + 3 := by simp at hs2; omega
  have X0 : Boxed w2 w1.heap.size 3 (.int .i64 ((([] : List P3).length : Nat) : Int)) := (hb2.block w1.heap.size (by simp)).trans (Boxed.new w1 3 (.int .i64 0))
  have HB2 := Lib.hid (show Below w.heap.size w w2 from below_at HK0.out (by omega) (below_at hb1 (by omega) (((Below.refl w1.heap.size w1).alloc (Nat.le_refl _) (.cells #[.int .i64 0] 3)).trans (hb2.mono (by simp)))))
  have HS := Lib.hid (show SlOf w2 w.heap.size 4 encI v l from HV.out.kept HB2.out)
  have hS : ∀ b, b = w1.heap.size → b < w2.heap.size := fun b e => by omega
  simp only [World.size_alloc] at p0 p1 p2 q0 q1
  clear hb1 hb2 hs2 e0 e1
  refine wpIn_range_mine rfl (by omega) (gf := 152) (lb := #[.pointer (some ⟨w1.heap.size + 1 + 1, 0, none⟩), .pointer (some ⟨w1.heap.size + 1, 0, none⟩)]) rfl trivial (enters_of Tryz.func152 (by kernel_rfl) rfl)
    (points_stops (5 - 1) (by omega) n l hn HQ.out (fun b => b = w1.heap.size) w2.heap.size w.heap.size (w1.heap.size + 1 + 1) (w1.heap.size + 1) v w2 (Nat.le_refl _) (by omega) (by omega) (by omega) (by omega) (by omega) (fun b e => by omega) p0 p1 p2 q1 HS.out)
    (fun W l o o' _ _ _ _ b hm => by unfold MineFrom at hm ⊢; simpa using hm)
    (fun W hW b hm => by rcases hm with rfl | hm; have := hW.size; omega; exact hm.2) (Below.refl _ _) (fun _ => rfl)
    (fun pre W => Boxed W w1.heap.size 3 (.int .i64 ((pre.length : Nat) : Int)) ∧ Below w.heap.size w W ∧ w2.heap.size ≤ W.heap.size)
    (fun _ _ _ => False) ?hI (fun _ _ _ _ _ h _ _ => h) ?hIq (fun _ _ _ _ h _ => h) ⟨X0, HB2.out, Nat.le_refl _⟩
    (fun x a' _ => a' = { tmps := #[Value.agg #[Value.int IntKind.i64 n, v], Value.pointer (some { block := w.heap.size, off := 0 }), Value.int IntKind.i64 0, Value.int IntKind.i64 0, Value.pointer (some { block := w1.heap.size, off := 0 }), Value.agg #[Value.int IntKind.i64 n, v], Value.bool true, Value.bool false, Value.agg #[Value.int IntKind.i64 n, v], Value.func (Fn.func 152) #[] #[Value.pointer (some { block := w1.heap.size + 1 + 1, off := 0 }), Value.pointer (some { block := w1.heap.size + 1, off := 0 })], ptV x, undef, undef, undef], defers := [] })
    (fun _ _ => ownFrom_pure _ _) ?assign ?body ?done (fun _ _ _ _ _ _ h _ => h.elim)
  case hI => exact OwnFrom.and ((boxed_own _ _ _).from _) (OwnFrom.and (ownFrom_below (Nat.le_refl _) (by omega)) (fun _ _ _ _ hs hg _ => Nat.le_trans hs hg.size))
  case hIq =>
    rintro s A A' ⟨hx, hB, hs⟩ hq
    have hb := hq.all (Nat.le_refl _)
    exact ⟨(hb.block _ hx.lt).trans hx, below_at hB (by omega) hb, Nat.le_trans hs hb.size⟩
  case assign =>
    rintro l pre x W K hi hK
    simp only [encPt]
    gi_wp2
    exact hK _ _ (KeepsFrom.refl _ _) (kpM_from hS hi.2.2 (KeepS.refl _ _ _)) hi (by simp)
  case body =>
    rintro l pre x a' W hl ⟨hx, hB, hs⟩ rfl hpre
    have hln : pre.length ≤ 68921 := by have := hpre.length_le; simp at this; have := HLN.out; omega
    have c0 := hx.cell
    have g0 := hx.frozen
    have HX := Lib.hid hx; have HBW := Lib.hid hB; clear hpre hx hB
    gi_wp2
    refine ⟨(KeepsOthers.setCell _ _ _).from _, kpM_from hS hs (KeepS.grown (grownBy_setCell' _ _ _) hs (fun r e => by cases e; exact .inl rfl)), ?_, HBW.out.setCell (p := ⟨w1.heap.size, 0, none⟩) (by simp; omega) _, by simpa using hs⟩
    have := HX.out.set (.int .i64 ((pre.length : Int) + 1))
    simpa using this
  case done =>
    rintro D W hD ⟨hx, hB, hs⟩ hK
    have c0 := hx.cell
    have g0 := hx.frozen
    have HX := Lib.hid hx; have HBW := Lib.hid hB; clear hx hB
    gi_wp2
    refine ⟨by simp, .inl ⟨_, _, rfl, run_takeDeferred hK, ?_⟩⟩
    refine ⟨.tuple #[.int .i64 ((ptsL n l).length : Nat), .int .i64 0], ?_, rfl, HBW.out.trans (belowK_b (w := w) (Nat.le_refl _) W D _ _ (by omega) hK rfl rfl)⟩
    simp [results, Tryz.results156, go_sem]
set_option maxHeartbeats 4000000 in
set_option maxRecDepth 100000 in
theorem Count_l (n : Int) (l : List IneqD) (w : World) (v : Value) (hv : SlOf w w.heap.size 4 encI v l) :
    Calls Tryz.prog 156 #[.agg #[.int .i64 n, v]] w fun e w' => e = .returned (if validD n l = true then .tuple #[.int .i64 (ptsL n l).length, .int .i64 0] else .tuple #[.int .i64 0, .int .i64 10]) ∧ Below w.heap.size w w' := by
  cases hd : validD n l
  · have HD := Lib.hid hd; clear hd
    have HV := Lib.hid hv; clear hv
    obtain ⟨W0, hW0⟩ : ∃ W0 : World, w.alloc (.cells #[.int .i64 n, v] 24) = W0 := ⟨_, rfl⟩
    have HK0 := Lib.hid (show Below w.heap.size w W0 from by rw [← hW0]; exact (by repeat (first | exact Below.refl _ _ | assumption | (refine Below.drew ?_) | (refine below_drewN ?_ _) | (refine Below.alloc ?_ (by first | (simp; done) | (simp; omega) | omega) _) | (refine Below.setCell ?_ (by first | (simp; done) | (simp; omega) | omega) _) | (refine Below.trans ?_ (Below.mono (by assumption) (by first | (simp; done) | (simp; omega) | omega))))))
    have hs0 : W0.heap.size = w.heap.size + 1 := by rw [← hW0]; simp
    have HW0 := Lib.hid hW0; clear hW0
    go_enter Tryz.func156, Tryz.ntmps156
    go_wp2_with (first | (go_at_call 104; rw [HW0.out]; refine (pValid_l n l W0 v (HV.out.below HK0.out)).mono ?_; go_must (rintro e w1 ⟨rfl, hb1⟩; rw [HD.out])))
    go_ret2
    exact ⟨rfl, below_at HK0.out (by omega) hb1⟩
  · exact callsIn_wide.1 (Count_in n l w v hv hd)
end Go.Proofs.YtnejicklenhpeaaGreat
namespace Go.Proofs.YtnejicklenhpeaaGreat
open Go.RowKit Go.Shelf
attribute [local go_sem] Oper.semAt_some
/-- What Points returns for a valid domain. -/
def PtsR (L : List P3) (e : Ending) (w' : World) : Prop := if L.length ≤ 1000 then ∃ v', e = .returned (.tuple #[v', .int .i64 0]) ∧ SlOf w' w'.heap.size 3 encP v' L else e = .returned (.tuple #[.slice none 0 0, .int .i64 4])
set_option maxHeartbeats 4000000 in
set_option maxRecDepth 100000 in
theorem Points_in (n : Int) (l : List IneqD) (w : World) (v : Value) (hv : SlOf w w.heap.size 4 encI v l) (hd : validD n l = true) :
    CallsIn Fence.wide 5 Tryz.prog 49 #[.agg #[.int .i64 n, v]] w fun e w' => PtsR (ptsL n l) e w' ∧ Below w.heap.size w w' := by
  have hdo := validD_out hd
  obtain ⟨hn, -, hq⟩ := hdo
  have HV := Lib.hid hv; clear hv
  have HD := Lib.hid hd; clear hd
  have HQ := Lib.hid hq; clear hq
  have HLN := Lib.hid (ptsL_len n l)
  have f1 : Fence.wide.fn 104 := trivial
  have f2 : Fence.wide.fn 105 := trivial
  obtain ⟨W0, hW0⟩ : ∃ W0 : World, ((w.alloc (.cells #[.int .i64 n, v] 24)).alloc (.cells #[.slice none 0 0] 75)).alloc (.cells #[.int .i64 0] 35) = W0 := ⟨_, rfl⟩
  have HK0 := Lib.hid (show Below w.heap.size w W0 from by rw [← hW0]; exact (by repeat (first | exact Below.refl _ _ | assumption | (refine Below.drew ?_) | (refine below_drewN ?_ _) | (refine Below.alloc ?_ (by first | (simp; done) | (simp; omega) | omega) _) | (refine Below.setCell ?_ (by first | (simp; done) | (simp; omega) | omega) _) | (refine Below.trans ?_ (Below.mono (by assumption) (by first | (simp; done) | (simp; omega) | omega))))))
  have hs0 : W0.heap.size = w.heap.size + 3 := by rw [← hW0]; simp
  have y0 : W0.cell? ⟨w.heap.size, 0, none⟩ = some (.int .i64 n) := by subst hW0; go_simp
  have y1 : W0.cell? ⟨w.heap.size, 1, none⟩ = some v := by subst hW0; go_simp
  have Y2 := Lib.hid (show Boxed W0 (w.heap.size + 1) 75 (.slice none 0 0) by
    rw [← hW0]; exact ((Below.refl _ _).alloc (Nat.le_refl _) _).block _ (by simp) |>.trans (by have := Boxed.new (w.alloc (.cells #[.int .i64 n, v] 24)) 75 (.slice none 0 0); simpa [Boxed] using this))
  have Y3 := Lib.hid (show Boxed W0 (w.heap.size + 1 + 1) 35 (.int .i64 0) by
    rw [← hW0]; have := Boxed.new ((w.alloc (.cells #[.int .i64 n, v] 24)).alloc (.cells #[.slice none 0 0] 75)) 35 (.int .i64 0); simpa [Boxed] using this)
  have HW0 := Lib.hid hW0; clear hW0
  refine callsIn_of_wp_marks Tryz.func49 rfl trivial ?_ rfl
  simp only [Tryz.ntmps49, List.size_toArray, List.length_cons, List.length_nil, Nat.reduceAdd, Nat.reduceSub, Array.replicate_succ, Array.replicate_zero, List.push_toArray, List.append_toArray, List.nil_append, List.cons_append]
  gi_wp2_with (first | (gi_at_call 104; rw [HW0.out]; refine (callsIn_wide.2 (pValid_l n l W0 v (HV.out.below HK0.out))).mono ?_; go_must (rintro e w1 ⟨rfl, hb1⟩; rw [HD.out]; have hs1 := hb1.size; have hz1 := z3 (show w.heap.size + 1 + 1 + 1 ≤ w1.heap.size by omega); have e0 := (hb1.cell (p := ⟨w.heap.size, 0, none⟩) (by simp; omega)).trans y0; have e1 := (hb1.cell (p := ⟨w.heap.size, 1, none⟩) (by simp; omega)).trans y1; clear y0 y1)) | (gi_at_call 105; refine (callsIn_wide.2 (ppoints_l n hn v _)).mono ?_; go_must (rintro e w2 ⟨rfl, hb2, hs2, p0, p1, p2, q0, q1⟩)))
  have hz2 : w2.heap.size ≤ w1.heap.size + 3 ∧ w1.heap.size + 3 ≤ w2.heap.size := by simp at hs2; omega
  obtain ⟨hz2, hz2b⟩ := hz2
  have hb1w := below_at HK0.out (by omega) hb1
  have X0 : Boxed w2 w1.heap.size 75 (.slice none 0 0) := (hb2.block w1.heap.size (by simp)).trans (Boxed.new w1 75 (.slice none 0 0))
  have hb12 : Below w1.heap.size w1 w2 := ((Below.refl w1.heap.size w1).alloc (Nat.le_refl _) (.cells #[.slice none 0 0] 75)).trans (hb2.mono (by simp))
  have X2 : Boxed w2 (w.heap.size + 1) 75 (.slice none 0 0) := (hb12.block _ (by omega)).trans ((hb1.block _ (by omega)).trans Y2.out)
  have X3 : Boxed w2 (w.heap.size + 1 + 1) 35 (.int .i64 0) := (hb12.block _ (by omega)).trans ((hb1.block _ (by omega)).trans Y3.out)
  have HB2 := Lib.hid (show Below w.heap.size w w2 from below_at hb1w (by omega) hb12)
  have HS := Lib.hid (show SlOf w2 w.heap.size 4 encI v l from HV.out.kept HB2.out)
  have hS : ∀ b, b = w1.heap.size → b < w2.heap.size := fun b e => by omega
  simp only [World.size_alloc] at p0 p1 p2 q0 q1
  clear hb1 hb2 hs2 e0 e1 hb12 hb1w Y2 Y3
  refine wpIn_range_mine rfl (by omega) (gf := 152) (lb := #[.pointer (some ⟨w1.heap.size + 1 + 1, 0, none⟩), .pointer (some ⟨w1.heap.size + 1, 0, none⟩)]) rfl trivial (enters_of Tryz.func152 (by kernel_rfl) rfl)
    (points_stops (5 - 1) (by omega) n l hn HQ.out (fun b => b = w1.heap.size) w2.heap.size w.heap.size (w1.heap.size + 1 + 1) (w1.heap.size + 1) v w2 (Nat.le_refl _) (by omega) (by omega) (by omega) (by omega) (by omega) (fun b e => by omega) p0 p1 p2 q1 HS.out)
    (fun W l o o' _ _ _ _ b hm => by unfold MineFrom at hm ⊢; simpa using hm)
    (fun W hW b hm => by rcases hm with rfl | hm; have := hW.size; omega; exact hm.2) (Below.refl _ _) (fun _ => rfl)
    (fun pre W => (∃ vo : Value, Boxed W w1.heap.size 75 vo ∧ OwnP W w2.heap.size vo pre) ∧ Boxed W (w.heap.size + 1) 75 (.slice none 0 0) ∧ Boxed W (w.heap.size + 1 + 1) 35 (.int .i64 0) ∧ pre.length ≤ 1000 ∧ Below w.heap.size w W ∧ w2.heap.size ≤ W.heap.size)
    (fun c pre W => Boxed W (w.heap.size + 1) 75 (.slice none 0 0) ∧ Boxed W (w.heap.size + 1 + 1) 35 (.int .i64 4) ∧ (c = .ret ∧ 1000 < pre.length) ∧ Below w.heap.size w W ∧ w2.heap.size ≤ W.heap.size) ?hI ?hIx ?hIq ?hIxq ⟨⟨_, X0, OwnOf.nil _ _ _ _ _⟩, X2, X3, by simp, HB2.out, Nat.le_refl _⟩
    (fun x a' W => ∃ Bx, w2.heap.size ≤ Bx ∧ W.cell? ⟨Bx, 0, none⟩ = some (.int .i64 x.1) ∧ W.cell? ⟨Bx, 1, none⟩ = some (.int .i64 x.2.1) ∧ W.cell? ⟨Bx, 2, none⟩ = some (.int .i64 x.2.2) ∧ a' = { tmps := #[Value.agg #[Value.int IntKind.i64 n, v], Value.pointer (some { block := w.heap.size, off := 0 }), Value.pointer (some { block := w.heap.size + 1, off := 0 }), Value.pointer (some { block := w.heap.size + 1 + 1, off := 0 }), Value.pointer (some { block := w1.heap.size, off := 0 }), Value.pointer (some { block := Bx, off := 0 }), Value.agg #[Value.int IntKind.i64 n, v], Value.bool true, Value.bool false, Value.agg #[Value.int IntKind.i64 n, v], Value.func (Fn.func 152) #[] #[Value.pointer (some { block := w1.heap.size + 1 + 1, off := 0 }), Value.pointer (some { block := w1.heap.size + 1, off := 0 })], .agg #[.int .i64 x.1, .int .i64 x.2.1, .int .i64 x.2.2], undef, undef, undef, undef, undef, undef, undef, undef], defers := [] })
    ?hAx ?assign ?body ?done ?stop
  case hI => exact OwnFrom.and (ownFrom_ex fun vo => OwnFrom.and ((boxed_own _ _ _).from _) (OwnOf.from _ _ _)) (OwnFrom.and ((boxed_own _ _ _).from _) (OwnFrom.and ((boxed_own _ _ _).from _) (OwnFrom.and (ownFrom_pure _ _) (OwnFrom.and (ownFrom_below (Nat.le_refl _) (by omega)) (fun _ _ _ _ hs hg _ => Nat.le_trans hs hg.size)))))
  case hIx => exact fun c => OwnFrom.and ((boxed_own _ _ _).from _) (OwnFrom.and ((boxed_own _ _ _).from _) (OwnFrom.and (ownFrom_pure _ _) (OwnFrom.and (ownFrom_below (Nat.le_refl _) (by omega)) (fun _ _ _ _ hs hg _ => Nat.le_trans hs hg.size))))
  case hIq =>
    rintro s A A' ⟨⟨vo, hx, ho⟩, h2, h3, hl, hB, hs⟩ hq
    have hb := hq.all (Nat.le_refl _)
    exact ⟨⟨vo, (hb.block _ hx.lt).trans hx, ho.kept hb⟩, (hb.block _ h2.lt).trans h2, (hb.block _ h3.lt).trans h3, hl, below_at hB (by omega) hb, Nat.le_trans hs hb.size⟩
  case hIxq =>
    rintro c s A A' ⟨h2, h3, hl, hB, hs⟩ hq
    have hb := hq.all (Nat.le_refl _)
    exact ⟨(hb.block _ h2.lt).trans h2, (hb.block _ h3.lt).trans h3, hl, below_at hB (by omega) hb, Nat.le_trans hs hb.size⟩
  case hAx =>
    rintro x a' _ A A' row ⟨Bx, hB, c0, c1, c2, rfl⟩ hg hr
    exact ⟨Bx, hB, cell_kept c0 hg (fun r e => (hr r e).2), cell_kept c1 hg (fun r e => (hr r e).2), cell_kept c2 hg (fun r e => (hr r e).2), rfl⟩
  case assign =>
    rintro l pre ⟨x0, x1, x2⟩ W K hi hK
    obtain ⟨⟨vo, hx, ho⟩, h2, h3, hl, hB, hs⟩ := hi
    have HI := Lib.hid (And.intro hx (And.intro ho (And.intro h2 (And.intro h3 hB)))); clear hx ho h2 h3 hB
    simp only [encPt, ptV]
    gi_wp2
    have hn := World.alloc_heap_new W (.cells #[.int .i64 x0, .int .i64 x1, .int .i64 x2] 29)
    have hb := (Below.refl W.heap.size W).alloc (Nat.le_refl _) (.cells #[.int .i64 x0, .int .i64 x1, .int .i64 x2] 29)
    obtain ⟨hx, ho, h2, h3, hB⟩ := HI.out
    exact hK _ _ ((KeepsOthers.alloc _ _).from _) (kpM_from hS hs (KeepS.of_below (hb.mono hs))) ⟨⟨vo, hx.alloc _, ho.kept hb⟩, h2.alloc _, h3.alloc _, hl, below_at hB (by omega) hb, Nat.le_trans hs hb.size⟩
      ⟨W.heap.size, hs, by simp only [World.cell?, hn]; rfl, by simp only [World.cell?, hn]; rfl, by simp only [World.cell?, hn]; rfl, by simp⟩
  case body =>
    rintro l pre ⟨x0, x1, x2⟩ a' W hl ⟨⟨vo, hx, ho⟩, h2, h3, hpl, hB, hs⟩ ⟨Bx, hBx, c0, c1, c2, rfl⟩ hpre
    simp only at c0 c1 c2
    obtain ⟨a, cap, rfl⟩ := ho.shape
    have k0 := hx.cell
    have k1 := hx.frozen
    have k2 := h2.cell
    have k3 := h2.frozen
    have k4 := h3.cell
    have k5 := h3.frozen
    have hzz := z3 (show w1.heap.size + 1 + 1 + 1 ≤ Bx by omega)
    have HX := Lib.hid hx; have H2 := Lib.hid h2; have H3 := Lib.hid h3; have HO := Lib.hid ho; have HBW := Lib.hid hB; have HPR := Lib.hid hpre
    clear hx h2 h3 ho hB hpre
    by_cases hk : pre.length = 1000
    · have he : (pre.length : Int) = 1000 := by omega
      rw [hk] at HO
      gi_wp2
      refine ⟨((KeepsOthers.setCell _ _ _).trans (KeepsOthers.setCell _ _ _)).from _, ?_, ?_, ⟨rfl, by simp; omega⟩, ?_, by simpa using hs⟩
      · exact (H2.out.set (.slice none 0 0)).other (by omega) _
      · exact (H3.out.other (by omega) _).set _
      · exact (HBW.out.setCell (p := ⟨w.heap.size + 1, 0, none⟩) (by simp) _).setCell (p := ⟨w.heap.size + 1 + 1, 0, none⟩) (by simp; omega) _
    · have hbE : Below W.heap.size W (W.alloc (.cells #[.int .i64 x0, .int .i64 x1, .int .i64 x2] 29)) := (Below.refl W.heap.size W).alloc (Nat.le_refl _) _
      have hne : some w1.heap.size ≠ (Value.slice a pre.length cap).ownBlock := fun e => by have := HO.out.lt w1.heap.size e.symm; omega
      have HOE := Lib.hid (HO.out.kept hbE)
      have HNE := Lib.hid hne; clear hne
      have HBE := Lib.hid hbE; clear hbE
      gi_wp2_with (gi_at_builtin; refine pushIn rfl _ _ _ rfl slPt HO.out rfl rfl (by first | rfl | simp) rfl rfl (by omega) (by omega) hs ?_; intro g5 c5 w5 hown5 hg5 hat5; have q0 := (HX.out.alloc (.cells #[.int .i64 x0, .int .i64 x1, .int .i64 x2] 29)).kept hg5 HNE.out; have q1 := q0.cell; have q2 := q0.frozen)
      have hgs := hg5.size
      simp at hgs
      have hr0 : ∀ r, (Value.slice a pre.length cap).ownBlock = some r → w2.heap.size ≤ r := fun r e => (HO.out.lt r e).1
      have B5 : Below w2.heap.size W w5 := (HBE.out.mono hs).grown hg5 (by simp; omega) (fun k e => hr0 k e)
      refine ⟨(((KeepsOthers.alloc _ _).trans (KeepsOthers.of_grownBy hg5 (fun j o e ho => ?_))).trans (KeepsOthers.setCell _ _ _)).from _, kpM_from hS hs ((KeepS.of_below B5).trans (KeepS.grown (grownBy_setCell' _ _ _) (by omega) (fun r e => by cases e; exact .inl rfl))), ⟨_, q0.set _, ?_⟩, ?_, ?_, ?_, ?_, by simp; omega⟩
      · rcases HOE.out.2 with ⟨h, _⟩ | ⟨g', cp, cur, h, _, hb, _⟩
        · rw [h] at e; simp [Value.ownBlock] at e
        · rw [h] at e; simp [Value.ownBlock] at e; subst e; rw [hb] at ho; cases ho; rfl
      · have := OwnOf.snoc (l := pre) (x := (x0, x1, x2)) (enc := encP) (by simpa [encP] using hown5) rfl
        have h6 := OwnOf.grown this (grownBy_setCell' w5 w1.heap.size (.slice (some ⟨g5, 0, none⟩) (pre.length + 1) c5)) (.inl (fun e => by have := this.lt w1.heap.size (by rw [e]); omega))
        simpa using h6
      · exact (show Boxed w5 _ _ _ from (B5.block _ (by omega)).trans H2.out).other (by omega) _
      · exact (show Boxed w5 _ _ _ from (B5.block _ (by omega)).trans H3.out).other (by omega) _
      · simp; omega
      · exact (HBW.out.trans (B5.mono (by omega))).setCell (p := ⟨w1.heap.size, 0, none⟩) (by simp; omega) _
  case done =>
    rintro D W hD ⟨⟨vo, hx, ho⟩, h2, h3, hpl, hB, hs⟩ hK
    obtain ⟨a, cap, rfl⟩ := ho.shape
    have k0 := hx.cell
    have k1 := hx.frozen
    have k2 := h2.cell
    have k3 := h2.frozen
    have k4 := h3.cell
    have k5 := h3.frozen
    have HX := Lib.hid hx; have H2 := Lib.hid h2; have H3 := Lib.hid h3; have HO := Lib.hid ho; have HBW := Lib.hid hB
    have HL := Lib.hid hpl
    clear hx h2 h3 ho hB
    gi_wp2
    obtain ⟨W2, hW2⟩ : ∃ X : World, (W.setCell ⟨w.heap.size + 1, 0, none⟩ (.slice a (ptsL n l).length cap)).setCell ⟨w.heap.size + 1 + 1, 0, none⟩ (.int .i64 0) = X := ⟨_, rfl⟩
    have m2 : Boxed W2 (w.heap.size + 1) 75 (.slice a (ptsL n l).length cap) := by rw [← hW2]; exact (H2.out.set (.slice a (ptsL n l).length cap)).other (by omega) _
    have m3 : Boxed W2 (w.heap.size + 1 + 1) 35 (.int .i64 0) := by rw [← hW2]; exact (H3.out.other (by omega) _).set _
    have mo : OwnP W2 w2.heap.size (.slice a (ptsL n l).length cap) (ptsL n l) := by
      rw [← hW2]
      have h1 := OwnOf.grown HO.out (grownBy_setCell' W (w.heap.size + 1) (.slice a (ptsL n l).length cap)) (.inl (fun e => by have := HO.out.lt _ e; omega))
      exact OwnOf.grown h1 (grownBy_setCell' _ (w.heap.size + 1 + 1) (.int .i64 0)) (.inl (fun e => by have := h1.lt _ e; omega))
    have mb : Below w.heap.size w W2 := by rw [← hW2]; exact (HBW.out.setCell (p := ⟨w.heap.size + 1, 0, none⟩) (by simp) _).setCell (p := ⟨w.heap.size + 1 + 1, 0, none⟩) (by simp; omega) _
    have mk : W2.heap[D]? = some (.deferred (some [])) := by rw [← hW2]; exact ((KeepsOthers.setCell W ⟨w.heap.size + 1, 0, none⟩ (.slice a (ptsL n l).length cap)).trans (KeepsOthers.setCell _ ⟨w.heap.size + 1 + 1, 0, none⟩ (.int .i64 0))).same D _ hK rfl
    rw [hW2]
    clear hW2
    have e2 := cell_kept m2.cell (grownBy_putObj' W2 D (.deferred none)) (fun r e => by cases e; exact ⟨_, mk, rfl⟩)
    have e3 := cell_kept m3.cell (grownBy_putObj' W2 D (.deferred none)) (fun r e => by cases e; exact ⟨_, mk, rfl⟩)
    refine ⟨by simp, .inl ⟨_, _, rfl, run_takeDeferred mk, ?_⟩⟩
    refine ⟨.tuple #[(.slice a (ptsL n l).length cap), .int .i64 0], ?_, ?_, mb.trans (belowK_b (w := w) (Nat.le_refl _) W2 D _ _ (by omega) mk rfl rfl)⟩
    · simp [results, Tryz.results49, go_sem, e2, e3]
    · unfold PtsR
      rw [if_pos HL.out]
      exact ⟨(.slice a (ptsL n l).length cap), rfl, (mo.grown (grownBy_putObj' W2 D (.deferred none)) (.inl (fun e => by
        rcases mo.2 with ⟨h, _⟩ | ⟨g', cp, cur, h, _, hb, _⟩
        · rw [h] at e; simp [Value.ownBlock] at e
        · rw [h] at e; simp [Value.ownBlock] at e; subst e; rw [hb] at mk; cases mk))).sl⟩
  case stop =>
    rintro D c pre W hD hpre ⟨h2, h3, ⟨rfl, hpl⟩, hB, hs⟩ hK
    have HL := Lib.hid (show ¬ (ptsL n l).length ≤ 1000 from by have := hpre.length_le; omega)
    have e2 := cell_kept h2.cell (grownBy_putObj' W D (.deferred none)) (fun r e => by cases e; exact ⟨_, hK, rfl⟩)
    have e3 := cell_kept h3.cell (grownBy_putObj' W D (.deferred none)) (fun r e => by cases e; exact ⟨_, hK, rfl⟩)
    have HB := Lib.hid hB
    clear h2 h3 hB hpre
    gi_wp2
    refine ⟨by simp, .inl ⟨_, _, rfl, run_takeDeferred hK, ?_⟩⟩
    refine ⟨.tuple #[.slice none 0 0, .int .i64 4], ?_, ?_, HB.out.trans (belowK_b (w := w) (Nat.le_refl _) W D _ _ (by omega) hK rfl rfl)⟩
    · simp [results, Tryz.results49, go_sem, e2, e3]
    · unfold PtsR
      rw [if_neg HL.out]
set_option maxHeartbeats 4000000 in
set_option maxRecDepth 100000 in
/-- The points of a valid domain of at most 1000 points. -/
theorem Points_l (n : Int) (l : List IneqD) (w : World) (v : Value) (hv : SlOf w w.heap.size 4 encI v l) (hd : validD n l = true) (hl : (ptsL n l).length ≤ 1000) :
    Calls Tryz.prog 49 #[.agg #[.int .i64 n, v]] w fun e w' => (∃ v', e = .returned (.tuple #[v', .int .i64 0]) ∧ SlOf w' w'.heap.size 3 encP v' (ptsL n l)) ∧ Below w.heap.size w w' :=
  (callsIn_wide.1 (Points_in n l w v hv hd)).mono fun e w' ⟨h, hb⟩ => ⟨by unfold PtsR at h; rwa [if_pos hl] at h, hb⟩
end Go.Proofs.YtnejicklenhpeaaGreat
