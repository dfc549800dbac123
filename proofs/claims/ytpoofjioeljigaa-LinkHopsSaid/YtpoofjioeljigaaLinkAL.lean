/- The walks of the reference's Hops and can. -/
import Derived.Test.YtpoofjioeljigaaLinkAK
namespace Go.Proofs.Ytpoofjioeljigaa
open Go.RowKit
set_option maxHeartbeats 4000000 in
theorem HopsR_l (links : List C2) (hl : links.length ≤ 1000) (m0 m1 : Int) (w : World) (g off : Nat) (v : Value) (hv : CRd w v g off links) :
    Calls Try.prog 38 #[v, .agg #[.int .i64 (m0), .int .i64 (m1)]] w fun e w' => ∃ n er, HopsR links (m0, m1) n er ∧ e = .returned (.tuple #[.int .i64 n, .int .i64 er]) ∧ Below w.heap.size w w' := by
  have HV := Lib.hid hv
  obtain ⟨a, cap, rfl, -⟩ := hv.at
  clear hv
  have HC := Lib.hid (fun o => asked_l links hl m0 m1 (w.alloc o) g off (.slice a links.length cap) (HV.out.below ((Below.refl _ w).alloc (Nat.le_refl _) o)))
  by_cases h : chkL links (m0, m1) = 0
  · have hval : validL links = true := by
      unfold chkL at h
      cases hq : validL links
      · rw [hq] at h; simp at h
      · rfl
    have hv8 := (validL_iff links).1 hval
    have hm20 := (chk_ok h).2
    have H := Lib.hid h; clear h
    have HO := Lib.hid (fun w' hb => hopsR_l links hl (fun l hl => (hv8.2 l hl).1) m0 m1 hm20 w' g off (.slice a links.length cap) (HV.out.below hb))
    clear hv8 hval hm20
    go_enter Try.func38, Try.ntmps38
    go_wp2_with (first | (go_at_call 75; refine (HC.out _).mono ?_; go_must (rintro e w1 ⟨rfl, hb1⟩; obtain ⟨hc1, hf1⟩ := bcell hb1; have hz1 := hb1.size; (try simp at hz1); (first | have z := z10 hz1 | have z := z9 hz1 | have z := z8 hz1 | have z := z7 hz1 | have z := z6 hz1 | have z := z5 hz1 | have z := z4 hz1 | have z := z3 hz1 | have z := z2 hz1 | have z := z1 hz1 | skip); rw [H.out])) | (go_at_call 76; refine (HO.out _ (by repeat (first | exact Below.refl _ _ | assumption | (refine Below.drew ?_) | (refine below_drewN ?_ _) | (refine Below.alloc ?_ (by first | (simp; done) | (simp; omega) | omega) _) | (refine Below.setCell ?_ (by first | (simp; done) | (simp; omega) | omega) _) | (refine Below.trans ?_ (Below.mono (by assumption) (by first | (simp; done) | (simp; omega) | omega)))))).mono ?_; go_must (rintro e w2 ⟨hr, hb2⟩; rcases hr with ⟨k, hk, hd, rfl⟩ | ⟨hno, rfl⟩)))
    · refine bodyPost_ret (v := .tuple #[.int .i64 (k : Nat), .int .i64 0]) (by simp only [results, Try.results38]; first | (go_simp; done) | (go_simp; rfl)) rfl ⟨_, _, ?_, rfl, by repeat (first | exact Below.refl _ _ | assumption | (refine Below.drew ?_) | (refine below_drewN ?_ _) | (refine Below.alloc ?_ (by first | (simp; done) | (simp; omega) | omega) _) | (refine Below.setCell ?_ (by first | (simp; done) | (simp; omega) | omega) _) | (refine Below.trans ?_ (Below.mono (by assumption) (by first | (simp; done) | (simp; omega) | omega))))⟩
      exact .inr ⟨H.out, .inl ⟨k, hk, hd, rfl, rfl⟩⟩
    · refine bodyPost_ret (v := .tuple #[.int .i64 0, .int .i64 5]) (by simp only [results, Try.results38]; first | (go_simp; done) | (go_simp; rfl)) rfl ⟨_, _, ?_, rfl, by repeat (first | exact Below.refl _ _ | assumption | (refine Below.drew ?_) | (refine below_drewN ?_ _) | (refine Below.alloc ?_ (by first | (simp; done) | (simp; omega) | omega) _) | (refine Below.setCell ?_ (by first | (simp; done) | (simp; omega) | omega) _) | (refine Below.trans ?_ (Below.mono (by assumption) (by first | (simp; done) | (simp; omega) | omega))))⟩
      exact .inr ⟨H.out, .inr ⟨hno, rfl, rfl⟩⟩
  · have HR : HopsR links (m0, m1) 0 (chkL links (m0, m1)) := .inl ⟨h, rfl, rfl⟩
    have HRR := Lib.hid HR; clear HR
    have hne : (chkL links (m0, m1) != 0) = true := by simpa using h
    generalize chkL links (m0, m1) = er at *
    clear h
    go_enter Try.func38, Try.ntmps38
    go_wp2_with (first | (go_at_call 75; refine (HC.out _).mono ?_; go_must (rintro e w1 ⟨rfl, hb1⟩; obtain ⟨hc1, hf1⟩ := bcell hb1; have hz1 := hb1.size; (try simp at hz1); (first | have z := z10 hz1 | have z := z9 hz1 | have z := z8 hz1 | have z := z7 hz1 | have z := z6 hz1 | have z := z5 hz1 | have z := z4 hz1 | have z := z3 hz1 | have z := z2 hz1 | have z := z1 hz1 | skip))))
    refine bodyPost_ret (v := .tuple #[.int .i64 0, .int .i64 er]) (by simp only [results, Try.results38]; first | (go_simp; done) | (go_simp; rfl)) rfl ⟨_, _, HRR.out, rfl, by repeat (first | exact Below.refl _ _ | assumption | (refine Below.drew ?_) | (refine below_drewN ?_ _) | (refine Below.alloc ?_ (by first | (simp; done) | (simp; omega) | omega) _) | (refine Below.setCell ?_ (by first | (simp; done) | (simp; omega) | omega) _) | (refine Below.trans ?_ (Below.mono (by assumption) (by first | (simp; done) | (simp; omega) | omega))))⟩
set_option maxHeartbeats 4000000 in
set_option maxRecDepth 100000 in
theorem can_l (links : List C2) (hl : links.length ≤ 1000) (hn : ∀ l ∈ links, Near 3 l) (c0 c1 : Int) (hc0 : -1000 ≤ c0 ∧ c0 ≤ 1000) (hc1 : -1000 ≤ c1 ∧ c1 ≤ 1000) (n : Nat) (hn12 : n ≤ 12) (w : World) (g off : Nat) (v : Value) (hv : CRd w v g off links) :
    Calls Try.prog 77 #[v, .agg #[.int .i64 (c0), .int .i64 (c1)], .int .i64 (n : Nat)] w fun e w' => e = .returned (.bool (decide ((c0, c1) ∈ sumsL links n))) ∧ Below w.heap.size w w' := by
  have HV := Lib.hid hv
  obtain ⟨a, cap, rfl, hx⟩ := hv.at
  clear hx hv
  have HF := Lib.hid (fun w' (hb : Below w.heap.size w w') => from_l links hl hn n hn12 w' g off (.slice a links.length cap) (HV.out.below hb))
  have hsum : ∀ {k : Nat}, k ≤ 12 → Sums links k (c0, c1) → nearB 36 (c0, c1) = true := fun hk hs => (nearB_iff _ _).2 ((hs.near hn).mono (by omega))
  have hz : w.heap.size < (w.alloc (.cells #[.int .i64 c0, .int .i64 c1] 23)).heap.size := by simp
  cases h36 : nearB 36 (c0, c1)
  · have HR := Lib.hid (show decide ((c0, c1) ∈ sumsL links n) = false by
      rw [decide_eq_false_iff_not, mem_sumsL]
      intro hs
      rw [hsum hn12 hs] at h36
      cases h36)
    have H36 := Lib.hid h36
    clear hsum h36 hn hl
    go_enter Try.func77, Try.ntmps77
    go_wp2
    (refine wp_region_any (by kernel_rfl) ?_; (try (change wpAny _ _ _ _ _ _ _ (World.drew _))))
    (refine wpAny_ready (rs := [0]) (by kernel_rfl) (by simp) ?_; refine AllReady.cons rfl (fun K hK => ?_) AllReady.nil; go_simp; skip; (try (refine hK _ _ ?_; clear hK K)))
    (refine wpAny_ready (rs := [1]) (by kernel_rfl) (by simp) ?_; refine AllReady.cons rfl (fun K hK => ?_) AllReady.nil; go_simp; go_wp2_with (go_at_call 81; refine (within_l _ _ _ (by omega) _).mono ?_; go_must (rintro e w1 ⟨rfl, hb1⟩; rw [H36.out])); (try (refine hK _ _ ?_; clear hK K)))
    (refine wpAny_ready (rs := [2]) (by kernel_rfl) (by simp) ?_; refine AllReady.cons rfl (fun K hK => ?_) AllReady.nil; go_simp; skip; (try (refine hK _ _ ?_; clear hK K)))
    (refine wpAny_take (i := 3) (v := undef) rfl (by kernel_rfl) (by kernel_rfl) (by kernel_rfl) (fun _ _ _ h => h) (Or.inr ⟨by kernel_rfl, rfl⟩) ?_)
    (refine wpAny_take (i := 4) (v := undef) rfl (by kernel_rfl) (by kernel_rfl) (by kernel_rfl) (fun _ _ _ h => h) (Or.inr ⟨by kernel_rfl, rfl⟩) ?_)
    (refine wpAny_take (i := 5) (v := undef) rfl (by kernel_rfl) (by kernel_rfl) (by kernel_rfl) (fun _ _ _ h => h) (Or.inr ⟨by kernel_rfl, rfl⟩) ?_)
    (refine wpAny_take (i := 6) (v := undef) rfl (by kernel_rfl) (by kernel_rfl) (by kernel_rfl) (fun _ _ _ h => h) (Or.inr ⟨by kernel_rfl, rfl⟩) ?_)
    (refine wpAny_take (i := 7) (v := undef) rfl (by kernel_rfl) (by kernel_rfl) (by kernel_rfl) (fun _ _ _ h => h) (Or.inr ⟨by kernel_rfl, rfl⟩) ?_)
    (refine wpAny_take (i := 8) (v := undef) rfl (by kernel_rfl) (by kernel_rfl) (by kernel_rfl) (fun _ _ _ h => h) (Or.inr ⟨by kernel_rfl, rfl⟩) ?_)
    (refine wpAny_take (i := 9) (v := undef) rfl (by kernel_rfl) (by kernel_rfl) (by kernel_rfl) (fun _ _ _ h => h) (Or.inr ⟨by kernel_rfl, rfl⟩) ?_)
    (refine wpAny_take (i := 10) (v := undef) rfl (by kernel_rfl) (by kernel_rfl) (by kernel_rfl) (fun _ _ _ h => h) (Or.inr ⟨by kernel_rfl, rfl⟩) ?_)
    (refine wpAny_take (i := 11) (v := undef) rfl (by kernel_rfl) (by kernel_rfl) (by kernel_rfl) (fun _ _ _ h => h) (Or.inr ⟨by kernel_rfl, rfl⟩) ?_)
    (refine wpAny_take (i := 12) (v := undef) rfl (by kernel_rfl) (by kernel_rfl) (by kernel_rfl) (fun _ _ _ h => h) (Or.inr ⟨by kernel_rfl, rfl⟩) ?_)
    (refine wpAny_take (i := 13) (v := undef) rfl (by kernel_rfl) (by kernel_rfl) (by kernel_rfl) (fun _ _ _ h => h) (Or.inr ⟨by kernel_rfl, rfl⟩) ?_)
    (refine wpAny_take (i := 14) (v := undef) rfl (by kernel_rfl) (by kernel_rfl) (by kernel_rfl) (fun _ _ _ h => h) (Or.inr ⟨by kernel_rfl, rfl⟩) ?_)
    (refine wpAny_take (i := 15) (v := undef) rfl (by kernel_rfl) (by kernel_rfl) (by kernel_rfl) (fun _ _ _ h => h) (Or.inr ⟨by kernel_rfl, rfl⟩) ?_)
    (refine wpAny_take (i := 16) (v := undef) rfl (by kernel_rfl) (by kernel_rfl) (by kernel_rfl) (fun _ _ _ h => h) (Or.inr ⟨by kernel_rfl, rfl⟩) ?_)
    (refine wpAny_ready (rs := [17]) (by kernel_rfl) (by simp) ?_; refine AllReady.cons rfl (fun K hK => ?_) AllReady.nil; go_simp; skip; (try (refine hK _ _ ?_; clear hK K)))
    (refine wpAny_ready (rs := [18]) (by kernel_rfl) (by simp) ?_; refine AllReady.cons rfl (fun K hK => ?_) AllReady.nil; go_simp; skip; (try (refine hK _ _ ?_; clear hK K)))
    refine wpAny_done (by kernel_rfl) ?_ _
    go_wp2
    go_ret
    exact ⟨ret_bool HR.out.symm, by repeat (first | exact Below.refl _ _ | assumption | (refine Below.drew ?_) | (refine below_drewN ?_ _) | (refine Below.alloc ?_ (by first | (simp; done) | (simp; omega) | omega) _) | (refine Below.setCell ?_ (by first | (simp; done) | (simp; omega) | omega) _) | (refine Below.trans ?_ (Below.mono (by assumption) (by first | (simp; done) | (simp; omega) | omega))))⟩
  · have H36 := Lib.hid h36
    have hnr := (nearB_iff _ _).1 h36
    obtain ⟨X, hX⟩ : ∃ X : Nat, c0 + 36 = X := ⟨(c0 + 36).toNat, by have := hnr.1; simp only at this; omega⟩
    obtain ⟨Y, hY⟩ : ∃ Y : Nat, c1 + 36 = Y := ⟨(c1 + 36).toNat, by have := hnr.2.2.1; simp only at this; omega⟩
    have hX5 : X < 73 := by have := hnr.2.1; simp only at this; omega
    have hY5 : Y < 73 := by have := hnr.2.2.2; simp only at this; omega
    have HP := Lib.hid (show plc X Y = (c0, c1) by simp only [plc]; apply Prod.ext <;> simp <;> omega)
    have e1 : IntKind.i64.wrap (c0 + 36) = X := by rw [IntWalk.i64_in _ (by omega)]; exact hX
    have e2 : IntKind.i64.wrap (c1 + 36) = Y := by rw [IntWalk.i64_in _ (by omega)]; exact hY
    have E1 := Lib.hid e1; have E2 := Lib.hid e2
    clear e1 e2 hX hY hnr hsum h36 hn hl hc0 hc1
    have hz0 : w.heap.size < w.heap.size + 1 := by omega
    have g0 : (w.alloc (.cells #[.int .i64 c0, .int .i64 c1] 23)).cell? ⟨w.heap.size, 0, none⟩ = some (.int .i64 c0) := by go_simp
    have g1 : (w.alloc (.cells #[.int .i64 c0, .int .i64 c1] 23)).cell? ⟨w.heap.size, 1, none⟩ = some (.int .i64 c1) := by go_simp
    have G0 := Lib.hid g0; have G1 := Lib.hid g1; clear g0 g1 hz
    go_enter Try.func77, Try.ntmps77
    go_wp2
    have e1 := E1.out; have e2 := E2.out
    go_region_with (first | (go_at_call 81; refine (within_l _ _ _ (by omega) _).mono ?_; go_must (rintro e w1 ⟨rfl, hb1⟩; have hs1 := hb1.size; (try simp at hs1); obtain ⟨hc, hf⟩ := bcell hb1; have hz := z1 hs1; rw [H36.out])) | (go_at_call 97; refine (HF.out _ (by repeat (first | exact Below.refl _ _ | assumption | (refine Below.drew ?_) | (refine below_drewN ?_ _) | (refine Below.alloc ?_ (by first | (simp; done) | (simp; omega) | omega) _) | (refine Below.setCell ?_ (by first | (simp; done) | (simp; omega) | omega) _) | (refine Below.trans ?_ (Below.mono (by assumption) (by first | (simp; done) | (simp; omega) | omega)))))).mono ?_; go_must (rintro e w2 ⟨rfl, ⟨T, ht, hi⟩, hb2⟩; have hcell := ht.cell (show n < n + 1 by omega) hX5 hY5; have hold := hi.old n (Nat.le_refl _) X Y hX5 hY5; rw [HP.out] at hold; have hs2 := hb2.size; (try simp at hs2); obtain ⟨hc2, hf2⟩ := bcell hb2; have hbt := ht.lt; have j1 := (fun W => idx_tabs w1.heap.size (n + 1) (n : Int) n rfl (by omega) W); have j2 := (fun W => idx_row w1.heap.size (5329 * n) (X : Int) X rfl hX5 W); have j3 := (fun W => idx_col w1.heap.size (5329 * n + 73 * X) (Y : Int) Y rfl hY5 W)))) 
    all_goals
      clear e1 e2
      go_wp2
      go_ret
      refine ⟨ret_bool ?_, by repeat (first | exact Below.refl _ _ | assumption | (refine Below.drew ?_) | (refine below_drewN ?_ _) | (refine Below.alloc ?_ (by first | (simp; done) | (simp; omega) | omega) _) | (refine Below.setCell ?_ (by first | (simp; done) | (simp; omega) | omega) _) | (refine Below.trans ?_ (Below.mono (by assumption) (by first | (simp; done) | (simp; omega) | omega))))⟩
      rw [eq_comm]
      cases hT : T n X Y
      · rw [decide_eq_false_iff_not, mem_sumsL, ← hold, hT]; simp
      · rw [decide_eq_true_eq, mem_sumsL, ← hold, hT]
end Go.Proofs.Ytpoofjioeljigaa
