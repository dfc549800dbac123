/- The walks of link.Valid, checked and Hops. -/
import Derived.Test.YtjceppinjeehiaaLinkV
namespace Go.Proofs.Ytjceppinjeehiaa
open Go.RowKit
set_option maxHeartbeats 4000000 in
theorem ContainsFunc_l (links : List C2) (hl : links.length ≤ 1000) (w : World) (g off : Nat) (v : Value) (hv : CRd w v g off links) :
    Calls Try.prog 35 #[v, .func (.func 36) #[] #[]] w fun e w' => e = .returned (.bool (links.any badL)) ∧ Below w.heap.size w w' := by
  have HR := Lib.hid (IndexFunc_l links hl w g off v hv)
  obtain ⟨a, cap, rfl, -⟩ := hv.at
  clear hv
  go_enter Try.func35, Try.ntmps35
  go_wp2_with (go_at_call 44; refine HR.out.mono ?_; go_must (rintro e w1 ⟨⟨z, rfl, hz⟩, hb1⟩; have HZ := Lib.hid hz; clear hz))
  go_ret
  rw [← HZ.out]
  exact ⟨rfl, hb1⟩
def validL (links : List C2) : Bool := decide (links.length ≤ 8) && !links.any badL
theorem validL_iff (links : List C2) : validL links = true ↔ links.length ≤ 8 ∧ ∀ l ∈ links, Near 3 l ∧ l ≠ (0, 0) := by
  simp only [validL, Bool.and_eq_true, decide_eq_true_eq, Bool.not_eq_true', List.any_eq_false]
  refine and_congr_right fun _ => forall_congr' fun l => forall_congr' fun _ => ?_
  rw [badL, ← nearB_iff]
  obtain ⟨x, y⟩ := l
  simp
set_option maxHeartbeats 4000000 in
theorem Valid_l (links : List C2) (hl : links.length ≤ 1000) (w : World) (g off : Nat) (v : Value) (hv : CRd w v g off links) :
    Calls Try.prog 28 #[v] w fun e w' => e = .returned (.bool (validL links)) ∧ Below w.heap.size w w' := by
  have HR := Lib.hid (ContainsFunc_l links hl w g off v hv)
  obtain ⟨a, cap, rfl, -⟩ := hv.at
  clear hv
  unfold validL
  by_cases h8 : links.length ≤ 8
  · have h8i : (links.length : Int) ≤ 8 := by omega
    rw [decide_eq_true h8]
    go_enter Try.func28, Try.ntmps28
    go_wp2_with (go_at_call 35; refine HR.out.mono ?_; go_must (rintro e w1 ⟨rfl, hb1⟩))
    go_ret
    exact ⟨by simp, hb1⟩
  · have h8i : ¬ (links.length : Int) ≤ 8 := by omega
    rw [decide_eq_false h8]
    go_enter Try.func28, Try.ntmps28
    go_wp2
    go_ret
    exact ⟨by simp, Below.refl _ _⟩
/-- What checked says. -/
def chkL (links : List C2) (m : C2) : Int := if validL links then (if nearB 20 m then 0 else 2) else 50
set_option maxHeartbeats 4000000 in
theorem checked_l (links : List C2) (hl : links.length ≤ 1000) (m0 m1 : Int) (w : World) (g off : Nat) (v : Value) (hv : CRd w v g off links) :
    Calls Try.prog 19 #[v, .agg #[.int .i64 (m0), .int .i64 (m1)]] w fun e w' => e = .returned (.int .i64 (chkL links (m0, m1))) ∧ Below w.heap.size w w' := by
  have HV := Lib.hid (fun o => Valid_l links hl (w.alloc o) g off v (hv.below ((Below.refl _ w).alloc (Nat.le_refl _) o)))
  obtain ⟨a, cap, rfl, -⟩ := hv.at
  clear hv
  unfold chkL
  cases h : validL links
  · have H := Lib.hid h; clear h
    go_enter Try.func19, Try.ntmps19
    go_wp2_with (first | (go_at_call 28; refine (HV.out _).mono ?_; go_must (rintro e w1 ⟨rfl, hb1⟩; obtain ⟨hc1, hf1⟩ := bcell hb1; have hz1 := hb1.size; (try simp at hz1); (first | have z := z10 hz1 | have z := z9 hz1 | have z := z8 hz1 | have z := z7 hz1 | have z := z6 hz1 | have z := z5 hz1 | have z := z4 hz1 | have z := z3 hz1 | have z := z2 hz1 | have z := z1 hz1 | skip); rw [H.out])))
    go_ret
    exact ⟨rfl, by repeat (first | exact Below.refl _ _ | assumption | (refine Below.drew ?_) | (refine below_drewN ?_ _) | (refine Below.alloc ?_ (by first | (simp; done) | (simp; omega) | omega) _) | (refine Below.setCell ?_ (by first | (simp; done) | (simp; omega) | omega) _) | (refine Below.trans ?_ (Below.mono (by assumption) (by first | (simp; done) | (simp; omega) | omega))))⟩
  · have H := Lib.hid h; clear h
    cases h2 : nearB 20 (m0, m1)
    · have H2 := Lib.hid h2; clear h2
      go_enter Try.func19, Try.ntmps19
      go_wp2_with (first | (go_at_call 28; refine (HV.out _).mono ?_; go_must (rintro e w1 ⟨rfl, hb1⟩; obtain ⟨hc1, hf1⟩ := bcell hb1; have hz1 := hb1.size; (try simp at hz1); (first | have z := z10 hz1 | have z := z9 hz1 | have z := z8 hz1 | have z := z7 hz1 | have z := z6 hz1 | have z := z5 hz1 | have z := z4 hz1 | have z := z3 hz1 | have z := z2 hz1 | have z := z1 hz1 | skip); rw [H.out])) | (go_at_call 21; refine (ranged_l _ _ _ (by omega) _).mono ?_; go_must (rintro e w2 ⟨rfl, hb2⟩; rw [H2.out])))
      go_ret
      exact ⟨rfl, by repeat (first | exact Below.refl _ _ | assumption | (refine Below.drew ?_) | (refine below_drewN ?_ _) | (refine Below.alloc ?_ (by first | (simp; done) | (simp; omega) | omega) _) | (refine Below.setCell ?_ (by first | (simp; done) | (simp; omega) | omega) _) | (refine Below.trans ?_ (Below.mono (by assumption) (by first | (simp; done) | (simp; omega) | omega))))⟩
    · have H2 := Lib.hid h2; clear h2
      go_enter Try.func19, Try.ntmps19
      go_wp2_with (first | (go_at_call 28; refine (HV.out _).mono ?_; go_must (rintro e w1 ⟨rfl, hb1⟩; obtain ⟨hc1, hf1⟩ := bcell hb1; have hz1 := hb1.size; (try simp at hz1); (first | have z := z10 hz1 | have z := z9 hz1 | have z := z8 hz1 | have z := z7 hz1 | have z := z6 hz1 | have z := z5 hz1 | have z := z4 hz1 | have z := z3 hz1 | have z := z2 hz1 | have z := z1 hz1 | skip); rw [H.out])) | (go_at_call 21; refine (ranged_l _ _ _ (by omega) _).mono ?_; go_must (rintro e w2 ⟨rfl, hb2⟩; rw [H2.out])))
      go_ret
      exact ⟨rfl, by repeat (first | exact Below.refl _ _ | assumption | (refine Below.drew ?_) | (refine below_drewN ?_ _) | (refine Below.alloc ?_ (by first | (simp; done) | (simp; omega) | omega) _) | (refine Below.setCell ?_ (by first | (simp; done) | (simp; omega) | omega) _) | (refine Below.trans ?_ (Below.mono (by assumption) (by first | (simp; done) | (simp; omega) | omega))))⟩
/-- What Hops says. -/
def HopsR (links : List C2) (m : C2) (n e : Int) : Prop :=
  (chkL links m ≠ 0 ∧ n = 0 ∧ e = chkL links m) ∨ (chkL links m = 0 ∧ ((∃ k : Nat, k ≤ 12 ∧ Dist links m k ∧ n = k ∧ e = 0) ∨ ((∀ k, k ≤ 12 → ¬ Dist links m k) ∧ n = 0 ∧ e = 5)))
set_option maxHeartbeats 4000000 in
theorem Hops_l (links : List C2) (hl : links.length ≤ 1000) (m0 m1 : Int) (w : World) (g off : Nat) (v : Value) (hv : CRd w v g off links) :
    Calls Try.prog 8 #[v, .agg #[.int .i64 (m0), .int .i64 (m1)]] w fun e w' => ∃ n er, HopsR links (m0, m1) n er ∧ e = .returned (.tuple #[.int .i64 n, .int .i64 er]) ∧ Below w.heap.size w w' := by
  have HV := Lib.hid hv
  obtain ⟨a, cap, rfl, -⟩ := hv.at
  clear hv
  have HC := Lib.hid (fun o => checked_l links hl m0 m1 (w.alloc o) g off (.slice a links.length cap) (HV.out.below ((Below.refl _ w).alloc (Nat.le_refl _) o)))
  by_cases h : chkL links (m0, m1) = 0
  · have hval : validL links = true := by
      unfold chkL at h
      cases hq : validL links
      · rw [hq] at h; simp at h
      · rfl
    have hv8 := (validL_iff links).1 hval
    have H := Lib.hid h; clear h
    have HO := Lib.hid (fun w' hb => hops_any links hv8.1 (fun l hl => (hv8.2 l hl).1) 12 (Nat.le_refl _) m0 m1 w' g off (.slice a links.length cap) (HV.out.below hb))
    clear hv8 hval
    go_enter Try.func8, Try.ntmps8
    go_wp2_with (first | (go_at_call 19; refine (HC.out _).mono ?_; go_must (rintro e w1 ⟨rfl, hb1⟩; obtain ⟨hc1, hf1⟩ := bcell hb1; have hz1 := hb1.size; (try simp at hz1); (first | have z := z10 hz1 | have z := z9 hz1 | have z := z8 hz1 | have z := z7 hz1 | have z := z6 hz1 | have z := z5 hz1 | have z := z4 hz1 | have z := z3 hz1 | have z := z2 hz1 | have z := z1 hz1 | skip); rw [H.out])) | (go_at_call 20; refine (HO.out _ (by repeat (first | exact Below.refl _ _ | assumption | (refine Below.drew ?_) | (refine below_drewN ?_ _) | (refine Below.alloc ?_ (by first | (simp; done) | (simp; omega) | omega) _) | (refine Below.setCell ?_ (by first | (simp; done) | (simp; omega) | omega) _) | (refine Below.trans ?_ (Below.mono (by assumption) (by first | (simp; done) | (simp; omega) | omega)))))).mono ?_; go_must (rintro e w2 ⟨hr, hb2⟩; rcases hr with ⟨k, hk, hd, rfl⟩ | ⟨hno, rfl⟩)))
    · refine bodyPost_ret (v := .tuple #[.int .i64 (k : Nat), .int .i64 0]) (by simp only [results, Try.results8]; first | (go_simp; done) | (go_simp; rfl)) rfl ⟨_, _, ?_, rfl, by repeat (first | exact Below.refl _ _ | assumption | (refine Below.drew ?_) | (refine below_drewN ?_ _) | (refine Below.alloc ?_ (by first | (simp; done) | (simp; omega) | omega) _) | (refine Below.setCell ?_ (by first | (simp; done) | (simp; omega) | omega) _) | (refine Below.trans ?_ (Below.mono (by assumption) (by first | (simp; done) | (simp; omega) | omega))))⟩
      exact .inr ⟨H.out, .inl ⟨k, hk, hd, rfl, rfl⟩⟩
    · refine bodyPost_ret (v := .tuple #[.int .i64 0, .int .i64 5]) (by simp only [results, Try.results8]; first | (go_simp; done) | (go_simp; rfl)) rfl ⟨_, _, ?_, rfl, by repeat (first | exact Below.refl _ _ | assumption | (refine Below.drew ?_) | (refine below_drewN ?_ _) | (refine Below.alloc ?_ (by first | (simp; done) | (simp; omega) | omega) _) | (refine Below.setCell ?_ (by first | (simp; done) | (simp; omega) | omega) _) | (refine Below.trans ?_ (Below.mono (by assumption) (by first | (simp; done) | (simp; omega) | omega))))⟩
      exact .inr ⟨H.out, .inr ⟨hno, rfl, rfl⟩⟩
  · have HR : HopsR links (m0, m1) 0 (chkL links (m0, m1)) := .inl ⟨h, rfl, rfl⟩
    have HRR := Lib.hid HR; clear HR
    have hne : (chkL links (m0, m1) != 0) = true := by simpa using h
    generalize chkL links (m0, m1) = er at *
    clear h
    go_enter Try.func8, Try.ntmps8
    go_wp2_with (first | (go_at_call 19; refine (HC.out _).mono ?_; go_must (rintro e w1 ⟨rfl, hb1⟩; obtain ⟨hc1, hf1⟩ := bcell hb1; have hz1 := hb1.size; (try simp at hz1); (first | have z := z10 hz1 | have z := z9 hz1 | have z := z8 hz1 | have z := z7 hz1 | have z := z6 hz1 | have z := z5 hz1 | have z := z4 hz1 | have z := z3 hz1 | have z := z2 hz1 | have z := z1 hz1 | skip))))
    refine bodyPost_ret (v := .tuple #[.int .i64 0, .int .i64 er]) (by simp only [results, Try.results8]; first | (go_simp; done) | (go_simp; rfl)) rfl ⟨_, _, HRR.out, rfl, by repeat (first | exact Below.refl _ _ | assumption | (refine Below.drew ?_) | (refine below_drewN ?_ _) | (refine Below.alloc ?_ (by first | (simp; done) | (simp; omega) | omega) _) | (refine Below.setCell ?_ (by first | (simp; done) | (simp; omega) | omega) _) | (refine Below.trans ?_ (Below.mono (by assumption) (by first | (simp; done) | (simp; omega) | omega))))⟩
end Go.Proofs.Ytjceppinjeehiaa
