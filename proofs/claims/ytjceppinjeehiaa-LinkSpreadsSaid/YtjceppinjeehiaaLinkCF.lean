/- Both ways to the cells give one list; and the contract of link.Reach. -/
import Derived.Test.YtjceppinjeehiaaLinkCB
import Derived.Test.YtjceppinjeehiaaLinkCI
namespace Go.Proofs.Ytjceppinjeehiaa
open Go.RowKit
theorem qc_lt {a b : Nat} (h : a < b) : lt2 (qc a) (qc b) := by
  unfold lt2 qc plc
  simp only
  omega
theorem gridL_sorted (links : List C2) (k : Nat) : (gridL links k).Pairwise lt2 := by
  unfold gridL gridTo
  refine List.Pairwise.filter _ ?_
  rw [List.pairwise_map]
  exact List.pairwise_lt_range.imp (fun h => qc_lt h)
theorem mem_gridL {links : List C2} (hl : ∀ l ∈ links, Near 3 l) {k : Nat} (hk : k ≤ 4) (c : C2) : c ∈ gridL links k ↔ ∃ j, j ≤ k ∧ Sums links j c := by
  have hp : pR links k c = true ↔ ∃ j, j ≤ k ∧ Sums links j c := by
    simp only [pR, List.any_eq_true, List.mem_range, decide_eq_true_eq, mem_sumsL]
    exact ⟨fun ⟨j, h1, h2⟩ => ⟨j, by omega, h2⟩, fun ⟨j, h1, h2⟩ => ⟨j, by omega, h2⟩⟩
  rw [← hp]
  simp only [gridL, gridTo, List.mem_filter, List.mem_map, List.mem_range]
  constructor
  · exact fun h => h.2
  · intro h
    refine ⟨?_, h⟩
    obtain ⟨j, hj, hs⟩ := hp.1 h
    obtain ⟨h1, h2, h3, h4⟩ := (hs.near hl).mono (show 3 * (j : Int) ≤ 36 by omega)
    refine ⟨(73 * (c.1 + 36) + (c.2 + 36)).toNat, by omega, ?_⟩
    unfold qc plc
    apply Prod.ext <;> simp only <;> omega
theorem reach_eq {links : List C2} (hl : ∀ l ∈ links, Near 3 l) {k : Nat} (hk : k ≤ 4) {l : List C2} (hp : l.Perm (wavC links k)) (hs : l.Pairwise (fun a b => ¬ (b.1 < a.1 ∨ (b.1 = a.1 ∧ b.2 < a.2)))) : l = gridL links k :=
  eq_of_lt2 _ _ (sorted_lt2 (hp.nodup_iff.2 (wavC_nodup links k)) hs) (gridL_sorted links k) (fun c => by rw [hp.mem_iff, mem_wavC, mem_gridL hl hk])
/-- What Reach says. -/
def ReachR (links : List C2) (n : Int) (w' : World) (e : Ending) : Prop :=
  (validL links = false ∧ e = .returned (.tuple #[.slice none 0 0, .int .i64 50])) ∨ (validL links = true ∧ ¬ (0 ≤ n ∧ n ≤ 4) ∧ e = .returned (.tuple #[.slice none 0 0, .int .i64 2])) ∨ (validL links = true ∧ ∃ k : Nat, n = k ∧ k ≤ 4 ∧ ∃ v' g', CRd w' v' g' 0 (gridL links k) ∧ e = .returned (.tuple #[v', .int .i64 0]))
set_option maxHeartbeats 4000000 in
set_option maxRecDepth 100000 in
theorem Reach_l (links : List C2) (hl : links.length ≤ 1000) (n : Int) (w : World) (g off : Nat) (v : Value) (hv : CRd w v g off links) :
    Calls Try.prog 14 #[v, .int .i64 n] w fun e w' => ReachR links n w' e ∧ Below w.heap.size w w' := by
  have HV := Lib.hid hv
  have HVA := Lib.hid (Valid_l links hl w g off v hv)
  cases hval : validL links
  · obtain ⟨a, cap, rfl, -⟩ := hv.at
    clear hv
    have HR := Lib.hid (fun w' => (show ReachR links n w' (.returned (.tuple #[.slice none 0 0, .int .i64 50])) from .inl ⟨hval, rfl⟩))
    have H := Lib.hid hval; clear hval
    go_enter Try.func14, Try.ntmps14
    go_wp2_with (first | (go_at_call 28; refine HVA.out.mono ?_; go_must (rintro e w1 ⟨rfl, hb1⟩; rw [H.out])))
    exact bodyPost_ret (v := .tuple #[.slice none 0 0, .int .i64 50]) (by simp only [results, Try.results14]; first | (go_simp; done) | (go_simp; rfl)) rfl ⟨HR.out _, hb1⟩
  by_cases hn : 0 ≤ n ∧ n ≤ 4
  · obtain ⟨k, rfl⟩ := Int.eq_ofNat_of_zero_le hn.1
    refine (callsIn_wide.1 (Reach_w (Lib.hid sorts_ok) links hval k (by omega) w g off v hv)).mono fun e w' ⟨⟨v', g', l, hc, hp, hs, he⟩, hb⟩ => ⟨.inr (.inr ⟨hval, k, rfl, by omega, v', g', ?_, he⟩), hb⟩
    rwa [reach_eq (fun l hl => (((validL_iff links).1 hval).2 l hl).1) (by omega) hp hs] at hc
  · obtain ⟨a, cap, rfl, -⟩ := hv.at
    clear hv
    have HR := Lib.hid (fun w' => (show ReachR links n w' (.returned (.tuple #[.slice none 0 0, .int .i64 2])) from .inr (.inl ⟨hval, hn, rfl⟩)))
    have hb : (decide (0 ≤ n) && decide (n ≤ 4)) = false := by rw [← Bool.not_eq_true]; simpa using hn
    have HB := Lib.hid hb
    have H := Lib.hid hval; clear hval hb hn
    go_enter Try.func14, Try.ntmps14
    go_wp2_with (first | (go_at_call 28; refine HVA.out.mono ?_; go_must (rintro e w1 ⟨rfl, hb1⟩; rw [H.out])) | (go_at_call 25; refine (between_l _ _ _ _).mono ?_; go_must (rintro e w2 ⟨rfl, rfl⟩; rw [HB.out])))
    exact bodyPost_ret (v := .tuple #[.slice none 0 0, .int .i64 2]) (by simp only [results, Try.results14]; first | (go_simp; done) | (go_simp; rfl)) rfl ⟨HR.out _, hb1⟩
end Go.Proofs.Ytjceppinjeehiaa
