/- The walk of the reference's Reach. -/
import Derived.Test.YtjceppinjeehiaaLinkZ
import Derived.Test.YtjceppinjeehiaaLinkJ
import Derived.Test.YtjceppinjeehiaaLinkAK
namespace Go.Proofs.Ytjceppinjeehiaa
open Go.RowKit
/-- Some at most n links lead to a cell. -/
def pR (links : List C2) (n : Nat) (c : C2) : Bool := (List.range (n + 1)).any fun k => decide (c ∈ sumsL links k)
def qc (q : Nat) : C2 := plc (q / 73) (q % 73)
def gridTo (links : List C2) (n q : Nat) : List C2 := ((List.range q).map qc).filter (pR links n)
def gridL (links : List C2) (n : Nat) : List C2 := gridTo links n 5329
theorem gridTo_succ (links : List C2) (n q : Nat) : gridTo links n (q + 1) = gridTo links n q ++ (if pR links n (qc q) = true then [qc q] else []) := by
  unfold gridTo
  rw [List.range_succ, List.map_append, List.filter_append]
  congr 1
  simp only [List.map_cons, List.map_nil, List.filter_cons, List.filter_nil]
theorem gridTo_len (links : List C2) (n q : Nat) : (gridTo links n q).length ≤ q := by
  unfold gridTo
  exact Nat.le_trans (List.length_filter_le _ _) (by simp)
theorem qc_at (x y : Nat) (hy : y < 73) : qc (73 * x + y) = plc x y := by
  unfold qc
  rw [show (73 * x + y) / 73 = x by omega, show (73 * x + y) % 73 = y by omega]
set_option maxHeartbeats 8000000 in
set_option maxRecDepth 100000 in
theorem ReachR_l (links : List C2) (hl : links.length ≤ 1000) (n : Int) (w : World) (g off : Nat) (v : Value) (hv : CRd w v g off links) :
    Calls Try.prog 15 #[v, .int .i64 n] w fun e w' => ((validL links = false ∧ e = .returned (.tuple #[.slice none 0 0, .int .i64 50])) ∨ (validL links = true ∧ ¬ (0 ≤ n ∧ n ≤ 4) ∧ e = .returned (.tuple #[.slice none 0 0, .int .i64 2])) ∨ (validL links = true ∧ ∃ k : Nat, n = k ∧ k ≤ 4 ∧ ∃ v' g', CRd w' v' g' 0 (gridL links k) ∧ e = .returned (.tuple #[v', .int .i64 0]))) ∧ Below w.heap.size w w' := by
  have HV := Lib.hid hv
  have HVA := Lib.hid (validR_l links hl w g off v hv)
  obtain ⟨a, cap, rfl, -⟩ := hv.at
  clear hv
  cases hval : validL links
  · have H := Lib.hid hval; clear hval
    go_enter Try.func15, Try.ntmps15
    go_wp2_with (first | (go_at_call 32; refine HVA.out.mono ?_; go_must (rintro e w1 ⟨rfl, hb1⟩; rw [H.out])))
    exact bodyPost_ret (v := .tuple #[.slice none 0 0, .int .i64 50]) (by simp only [results, Try.results15]; first | (go_simp; done) | (go_simp; rfl)) rfl ⟨.inl ⟨by trivial, rfl⟩, hb1⟩
  have hv8 := (validL_iff links).1 hval
  have H := Lib.hid hval; clear hval
  by_cases hn : 0 ≤ n ∧ n ≤ 4
  rotate_left
  · have HN := Lib.hid hn
    by_cases h0 : n < 0
    · clear hn
      go_enter Try.func15, Try.ntmps15
      go_wp2_with (first | (go_at_call 32; refine HVA.out.mono ?_; go_must (rintro e w1 ⟨rfl, hb1⟩; rw [H.out])))
      exact bodyPost_ret (v := .tuple #[.slice none 0 0, .int .i64 2]) (by simp only [results, Try.results15]; first | (go_simp; done) | (go_simp; rfl)) rfl ⟨.inr (.inl ⟨by trivial, HN.out, rfl⟩), hb1⟩
    · have h4 : 4 < n := by omega
      clear hn
      go_enter Try.func15, Try.ntmps15
      go_wp2_with (first | (go_at_call 32; refine HVA.out.mono ?_; go_must (rintro e w1 ⟨rfl, hb1⟩; rw [H.out])))
      exact bodyPost_ret (v := .tuple #[.slice none 0 0, .int .i64 2]) (by simp only [results, Try.results15]; first | (go_simp; done) | (go_simp; rfl)) rfl ⟨.inr (.inl ⟨by trivial, HN.out, rfl⟩), hb1⟩
  obtain ⟨hn0, hn4⟩ := hn
  obtain ⟨k, rfl⟩ := Int.eq_ofNat_of_zero_le hn0
  have hk4 : k ≤ 4 := by omega
  have HF := Lib.hid (fun w' (hb : Below w.heap.size w w') => from_l links hl (fun l hl => (hv8.2 l hl).1) k (by omega) w' g off (.slice a links.length cap) (HV.out.below hb))
  clear hv8
  obtain ⟨Z, hal, hZs⟩ := alloc_tab
  have HAL := Lib.hid hal; have HZS := Lib.hid hZs
  clear hal hZs
  have d1 : decide ((k : Int) < 0) = false := decide_eq_false (by omega)
  have d2 : decide ((4 : Int) < (k : Int)) = false := decide_eq_false (by omega)
  go_enter Try.func15, Try.ntmps15
  go_wp2_with (first | (go_at_call 32; refine HVA.out.mono ?_; go_must (rintro e w1 ⟨rfl, hb1⟩; rw [H.out])) | (go_at_call 33; refine (HF.out _ hb1).mono ?_; go_must (rintro e w2 ⟨rfl, hT, hb2⟩; have HT := Lib.hid hT; clear hT)))
  obtain ⟨T, ht, hi⟩ := HT.out
  have HTB := Lib.hid ht
  have HTV := Lib.hid (show ∀ j, j ≤ k → ∀ x y, x < 73 → y < 73 → T j x y = decide (plc x y ∈ sumsL links j) from fun j hj x y hx hy => by
    rw [Bool.eq_iff_iff, decide_eq_true_eq, mem_sumsL]
    exact hi.old j hj x y hx hy)
  have hs2 := hb2.size
  have hbt := ht.lt
  clear HT ht hi
  have HB1 := Lib.hid hb1; have HB2 := Lib.hid hb2
  clear hb1 hb2
  go_loopw [7, 25] (fun t7 t25 wr => ∃ x : Nat, x ≤ 73 ∧ t25 = .int .i64 (x : Nat) ∧ wr.ownsRow w2.heap.size 24 2 t7 (gridTo links k (73 * x)).length (flatC (gridTo links k (73 * x))) ∧ Below w2.heap.size w2 wr) (fun _ t25 _ => 73 - (intOf t25).toNat)
  case atStart => exact ⟨0, by omega, rfl, World.ownsRow_nil _ _ _ _, Below.refl _ _⟩
  case round =>
    obtain ⟨x, hx, rfl, hown, hb⟩ := hrel
    obtain ⟨wx, rfl⟩ : ∃ x : World, x = wr := ⟨_, rfl⟩
    by_cases hlt : x < 73
    rotate_left
    · obtain rfl : x = 73 := by omega
      simp only [show 73 * 73 = 5329 from rfl] at hown
      obtain ⟨a7, c7, rfl⟩ := row_shape hown
      have HO := Lib.hid hown; clear hown
      go_wp2
      refine bodyPost_ret (v := .tuple #[.slice a7 (gridTo links k 5329).length c7, .int .i64 0]) (by simp only [results, Try.results15]; first | (go_simp; done) | (go_simp; rfl)) rfl ⟨.inr (.inr ⟨by trivial, k, rfl, hk4, ?_⟩), HB1.out.trans ((HB2.out.trans (hb.mono hs2)).mono HB1.out.size)⟩
      obtain ⟨g', hg'⟩ := crd_of_row HO.out
      exact ⟨_, g', hg', rfl⟩
    have HO := Lib.hid hown; clear hown
    have dx : decide ((x : Int) < 73) = true := decide_eq_true (by omega)
    go_wp2
    go_loopw [7, 28] (fun t7 t28 wr => ∃ y : Nat, y ≤ 73 ∧ t28 = .int .i64 (y : Nat) ∧ wr.ownsRow w2.heap.size 24 2 t7 (gridTo links k (73 * x + y)).length (flatC (gridTo links k (73 * x + y))) ∧ Below w2.heap.size w2 wr) (fun _ t28 _ => 73 - (intOf t28).toNat)
    case atStart => exact ⟨0, by omega, rfl, HO.out, hb⟩
    case round =>
      clear HO hb
      obtain ⟨y, hy, rfl, hown, hb⟩ := hrel
      obtain ⟨wy, rfl⟩ : ∃ x : World, x = wr := ⟨_, rfl⟩
      by_cases hlt2 : y < 73
      rotate_left
      · obtain rfl : y = 73 := by omega
        have HO := Lib.hid hown; clear hown
        go_wp2
        go_roundw
        case rel => exact ⟨x + 1, by omega, by simp, HO.out, hb⟩
        case measure => simp only [intOf]; omega
      have dy : decide ((y : Int) < 73) = true := decide_eq_true (by omega)
      have hyl := gridTo_len links k (73 * x + y)
      have hyl2 : (gridTo links k (73 * x + y)).length ≤ 5329 := by omega
      have HSUC := Lib.hid (gridTo_succ links k (73 * x + y))
      have HQ := Lib.hid (qc_at x y hlt2)
      obtain ⟨a7, c7, rfl⟩ := row_shape hown
      have HO := Lib.hid hown
      have hs3 := hb.size
      have HTY := Lib.hid (HTB.out.kept hb hbt)
      clear hown hyl
      go_wp2
      go_loopw [10, 33] (fun t10 t33 wr => ∃ j : Nat, j ≤ k + 1 ∧ t33 = .int .i64 (j : Nat) ∧ t10 = .bool ((List.range j).any fun i => T i x y) ∧ Below wy.heap.size wy wr) (fun _ t33 _ => k + 1 - (intOf t33).toNat)
      case atStart => exact ⟨0, by omega, rfl, rfl, Below.refl _ _⟩
      case round =>
        obtain ⟨j, hj, rfl, rfl, hb4⟩ := hrel
        have hs4 := hb4.size
        by_cases hlt3 : j < k + 1
        rotate_left
        · obtain rfl : j = k + 1 := by omega
          have HP := Lib.hid (show ((List.range (k + 1)).any fun i => T i x y) = pR links k (qc (73 * x + y)) by
            rw [HQ.out, pR]
            refine Bool.eq_iff_iff.2 ?_
            simp only [List.any_eq_true, List.mem_range]
            exact ⟨fun ⟨i, hi, h⟩ => ⟨i, hi, by rw [← HTV.out i (by omega) x y hlt hlt2]; exact h⟩, fun ⟨i, hi, h⟩ => ⟨i, hi, by rw [HTV.out i (by omega) x y hlt hlt2]; exact h⟩⟩)
          have ho4 := row_kept HO.out hb4
          rw [HP.out]
          cases hpr : pR links k (qc (73 * x + y))
          · have HS2 := Lib.hid (show gridTo links k (73 * x + (y + 1)) = gridTo links k (73 * x + y) by rw [show 73 * x + (y + 1) = (73 * x + y) + 1 by omega, HSUC.out, hpr]; simp)
            have HO4 := Lib.hid ho4
            clear hpr ho4
            go_wp2
            go_roundw
            case rel => exact ⟨y + 1, by omega, by simp, by rw [HS2.out]; exact HO4.out, hb.trans (hb4.mono hs3)⟩
            case measure => simp only [intOf]; omega
          · have HS2 := Lib.hid (show gridTo links k (73 * x + (y + 1)) = gridTo links k (73 * x + y) ++ [((x : Int) - 36, (y : Int) - 36)] by rw [show 73 * x + (y + 1) = (73 * x + y) + 1 by omega, HSUC.out, hpr, HQ.out]; rfl)
            clear hpr
            generalize gridTo links k (73 * x + y) = D at *
            go_wp2_with (at_builtin; refine wpList_push rfl _ _ _ rfl slCs ho4 rfl rfl (by first | rfl | simp) rfl rfl (by omega) (by omega) (by omega) ?_; intro g5 c5 w5 hown5 hg5 hat5)
            go_roundw
            case rel =>
              refine ⟨y + 1, by omega, by simp, ?_, below_push (hb.trans (hb4.mono hs3)) ho4 (Nat.le_refl _) (by omega) hg5⟩
              rw [HS2.out, flatC_snoc, List.length_append]
              simpa using hown5
            case measure => simp only [intOf]; omega
        have htw := HTY.out.kept hb4 (by have := HTY.out.lt; exact this)
        obtain ⟨cs, hcl, hcr, hcg, hco⟩ := htw.range (show j < k + 1 by omega)
        have HMK := Lib.hid (hcg x y hlt hlt2); have HCL := Lib.hid hcl; have HCO := Lib.hid hco; have HCR := Lib.hid hcr
        clear hcg hcl hco hcr htw
        have j1 := fun W => idx_tabs w1.heap.size (k + 1) (j : Int) j rfl (by omega) W
        have hthere : (wr.alloc (.cells Z 60)).there wr.heap.size 0 cs.toArray.size := fun j hj => by
          have hj2 : j < Z.size := by rw [HZS.out]; rw [← HCL.out]; simpa using hj
          simp only [Nat.zero_add]
          refine ⟨?_, ?_⟩
          · simp only [World.cell?, heap_alloc_new]
            simp [hj2]
          · simp only [World.frozen?, heap_alloc_new]
            simp
        have HTH := Lib.hid hthere; clear hthere
        have HRS := Lib.hid (show ((List.range (j + 1)).any fun i => T i x y) = (((List.range j).any fun i => T i x y) || T j x y) by rw [List.range_succ, List.any_append]; simp)
        have hcc : ((wr.alloc (.cells Z 60)).setCells wr.heap.size 0 cs).cell? ⟨wr.heap.size, x * 73 + y, none⟩ = some (.bool (T j x y)) := by
          have := World.rangeAt_setCells_same _ wr.heap.size 0 cs (by have := HTH.out; simpa using this) (73 * x + y) _ HMK.out
          rw [Nat.zero_add, Nat.mul_comm 73 x] at this
          exact this
        have HBE := Lib.hid (below_setCells (Nat.le_refl _) cs 0 ((Below.refl wr.heap.size wr).alloc (Nat.le_refl _) (.cells Z 60)))
        generalize T j x y = tv at *
        generalize ((List.range j).any fun i => T i x y) = bb at *
        cases bb
        all_goals
          go_wp2_with (first | (refine wpList_load_mid rfl 60 _ rfl w1.heap.size (5329 * j) rfl cs _ HCR.out Try.underlying60 rfl (by rw [HCL.out]; exact tab_size) ?_) | (refine wpList_alloc_z rfl 60 rfl HAL.out ?_) | (refine wpList_store_mid rfl 60 _ _ rfl wr.heap.size 0 cs.toArray rfl rfl HTH.out (by simp only [List.size_toArray]; rw [HCL.out]; exact tab_size) (all_oneCell_toArray HCO.out) ?_))
          go_roundw
          case rel => exact ⟨j + 1, by omega, by simp, by rw [HRS.out]; rfl, hb4.trans (HBE.out.mono hs4)⟩
          case measure => simp only [intOf]; omega
end Go.Proofs.Ytjceppinjeehiaa
