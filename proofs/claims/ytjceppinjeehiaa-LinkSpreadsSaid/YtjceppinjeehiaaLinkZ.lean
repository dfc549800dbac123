/- The walks of link.minus, link.Back, Awake and many. -/
import Derived.Test.YtjceppinjeehiaaLinkY
namespace Go.Proofs.Ytjceppinjeehiaa
open Go.RowKit
set_option maxHeartbeats 4000000 in
theorem minus_l (a b c d : Int) (ha : -1000 ≤ a ∧ a ≤ 1000) (hb : -1000 ≤ b ∧ b ≤ 1000) (hc : -1000 ≤ c ∧ c ≤ 1000) (hd : -1000 ≤ d ∧ d ≤ 1000) (w : World) :
    Calls Try.prog 24 #[.agg #[.int .i64 (a), .int .i64 (b)], .agg #[.int .i64 (c), .int .i64 (d)]] w fun e w' => e = .returned (.agg #[.int .i64 (a - c), .int .i64 (b - d)]) ∧ Below w.heap.size w w' := by
  go_enter Try.func24, Try.ntmps24
  go_wp2
  refine bodyPost_ret (v := .agg #[.int .i64 (a - c), .int .i64 (b - d)]) (by simp only [results, Try.results24]; first | (go_simp; done) | (go_simp; rfl)) rfl ⟨rfl, by repeat (first | exact Below.refl _ _ | assumption | (refine Below.drew ?_) | (refine below_drewN ?_ _) | (refine Below.alloc ?_ (by first | (simp; done) | (simp; omega) | omega) _) | (refine Below.setCell ?_ (by first | (simp; done) | (simp; omega) | omega) _) | (refine Below.trans ?_ (Below.mono (by assumption) (by first | (simp; done) | (simp; omega) | omega))))⟩
def neg2 (c : C2) : C2 := (-c.1, -c.2)
theorem crd_of_row {w : World} {lo : Nat} {v : Value} {cs : List C2} (h : w.ownsRow lo 24 2 v cs.length (flatC cs)) : ∃ g, CRd w v g 0 cs := by
  rcases id h with ⟨_, ⟨rfl, h0⟩ | ⟨g, cap, cur, rfl, hbg, hg, hc, hm, _⟩⟩
  · exact ⟨0, 0, by omega, by unfold maxLen; omega, .inl ⟨⟨_, _, rfl⟩, List.eq_nil_of_length_eq_zero h0⟩⟩
  · refine ⟨g, cap, hc, hm, .inr ⟨rfl, lt_of_block hg, fun k hk => ?_⟩⟩
    rw [Nat.zero_add]
    exact ⟨by rw [World.ownsRow.cellAt h _ (by omega), (flatC_at cs k hk).1], by rw [World.ownsRow.cellAt h _ (by omega), (flatC_at cs k hk).2]⟩
theorem row_shape {w : World} {lo : Nat} {v : Value} {cs : List C2} (h : w.ownsRow lo 24 2 v cs.length (flatC cs)) : ∃ a c, v = .slice a cs.length c := by
  obtain ⟨_, ⟨rfl, h0⟩ | ⟨g, cap, cur, rfl, _⟩⟩ := h
  · exact ⟨_, _, by rw [h0]⟩
  · exact ⟨_, _, rfl⟩
theorem row_kept {w w1 : World} {base : Nat} {e : TypeId} {size n : Nat} {v : Value} {xs : List Value} (h : w.ownsRow base e size v n xs) (hb : Below w.heap.size w w1) : w1.ownsRow base e size v n xs := by
  refine ⟨h.1, h.2.imp id ?_⟩
  rintro ⟨g, cap, cur, rfl, hbg, hg, r⟩
  exact ⟨g, cap, cur, rfl, hbg, by rw [hb.block g (lt_of_block hg)]; exact hg, r⟩
set_option maxHeartbeats 4000000 in
set_option maxRecDepth 100000 in
theorem Back_l (links : List C2) (hl : links.length ≤ 1000) (w : World) (g off : Nat) (v : Value) (hv : CRd w v g off links) :
    Calls Try.prog 16 #[v] w fun e w' => ((validL links = false ∧ e = .returned (.tuple #[.slice none 0 0, .int .i64 50])) ∨ (validL links = true ∧ ∃ v' g', CRd w' v' g' 0 (links.map neg2) ∧ e = .returned (.tuple #[v', .int .i64 0]))) ∧ Below w.heap.size w w' := by
  have HV := Lib.hid (Valid_l links hl w g off v hv)
  obtain ⟨a, cap, rfl, hx⟩ := hv.at
  have HX := Lib.hid hx; clear hx hv
  cases h : validL links
  · have H := Lib.hid h; clear h
    go_enter Try.func16, Try.ntmps16
    go_wp2_with (first | (go_at_call 28; refine HV.out.mono ?_; go_must (rintro e w1 ⟨rfl, hb1⟩; rw [H.out])))
    refine bodyPost_ret (v := .tuple #[.slice none 0 0, .int .i64 50]) (by simp only [results, Try.results16]; first | (go_simp; done) | (go_simp; rfl)) rfl ⟨.inl ⟨by trivial, rfl⟩, hb1⟩
  · have hvl := (validL_iff links).1 h
    have H := Lib.hid h; clear h
    have HL := Lib.hid hvl.2; clear hvl
    go_enter Try.func16, Try.ntmps16
    go_wp2_with (first | (go_at_call 28; refine HV.out.mono ?_; go_must (rintro e w1 ⟨rfl, hb1⟩; rw [H.out])))
    have hz1 := hb1.size
    go_loopw [4, 12] (fun v4 i wr => ∃ k : Nat, k ≤ links.length ∧ i = .int .i64 (k : Nat) ∧ wr.ownsRow w1.heap.size 24 2 v4 ((links.take k).map neg2).length (flatC ((links.take k).map neg2)) ∧ Below w1.heap.size w1 wr) (fun _ i _ => links.length - (intOf i).toNat)
    case atStart => exact ⟨0, Nat.zero_le _, rfl, World.ownsRow_nil _ _ _ _, Below.refl _ _⟩
    case round =>
      obtain ⟨k, hk, rfl, hown, hb⟩ := hrel
      have hs0 := hb.size
      have hlen : ((links.take k).map neg2).length = k := by simp; omega
      obtain ⟨a4, c4, rfl⟩ := row_shape hown
      by_cases hlt : k < links.length
      rotate_left
      · obtain rfl : k = links.length := by omega
        rw [List.take_length] at *
        go_wp2
        refine bodyPost_ret (v := .tuple #[.slice a4 (links.map neg2).length c4, .int .i64 0]) (by simp only [results, Try.results16]; first | (go_simp; done) | (go_simp; rfl)) rfl ?_
        obtain ⟨g', hg'⟩ := crd_of_row hown
        exact ⟨.inr ⟨by trivial, _, g', hg', rfl⟩, hb1.trans (hb.mono hz1)⟩
      obtain ⟨hi, hg, hc0, hc1⟩ := HX.out k hlt
      have hb2 := hb1.trans (hb.mono hz1)
      have r0 := (hb2.cell (p := ⟨g, off + 2 * k, none⟩) hg).trans hc0
      have r1 := (hb2.cell (p := ⟨g, off + 2 * k + 1, none⟩) hg).trans hc1
      have hn := HL.out _ (List.getElem_mem hlt)
      have HNL := Lib.hid hn.1; clear hn hc0 hc1
      have HT := Lib.hid (show (links.take (k + 1)).map neg2 = (links.take k).map neg2 ++ [neg2 links[k]] by rw [List.take_succ_eq_append_getElem hlt]; simp only [List.map_append, List.map_cons, List.map_nil])
      generalize links[k] = c at *
      have hcb : -3 ≤ c.1 ∧ c.1 ≤ 3 ∧ -3 ≤ c.2 ∧ c.2 ≤ 3 := HNL.out
      generalize hD : (links.take k).map neg2 = D at *
      have HD := Lib.hid hD; clear hD
      rw [hlen] at hown
      have HLN := Lib.hid hlen
      go_wp2_with (first | (go_at_call 24; refine (minus_l 0 0 c.1 c.2 (by omega) (by omega) (by omega) (by omega) _).mono ?_; go_must (rintro e w2 ⟨rfl, hb3⟩; have ho2 := row_kept (hown.alloc _) hb3; have hz2 := hb3.size; simp at hz2; have hs2 : w1.heap.size ≤ w2.heap.size := (by omega))) | (at_builtin; refine wpList_push rfl _ _ _ rfl slCs ho2 rfl rfl (by first | rfl | simp) rfl rfl (by omega) (by omega) hs2 ?_; intro g5 c5 w5 hown5 hg5 hat5))
      go_roundw
      case rel =>
        have hbE := hb.trans (((Below.refl wr.heap.size wr).alloc (Nat.le_refl _) (.cells #[.int .i64 c.1, .int .i64 c.2] 24)).mono hs0 |>.trans (hb3.mono (by simp; omega)))
        refine ⟨k + 1, hlt, by simp, ?_, below_push hbE ho2 (Nat.le_refl _) hs2 hg5⟩
        rw [HT.out, flatC_snoc, List.length_append, HLN.out]
        simpa [neg2] using hown5
      case measure => simp only [intOf]; omega
/-- The cells that just n links lead to. -/
def sumsL (links : List C2) : Nat → List C2
  | 0 => [(0, 0)]
  | n + 1 => (sumsL links n).flatMap fun b => links.map (add2 b)
theorem mem_sumsL (links : List C2) : ∀ (n : Nat) (c : C2), c ∈ sumsL links n ↔ Sums links n c
  | 0, c => by simp [sumsL, Sums]
  | n + 1, c => by
    simp only [sumsL, List.mem_flatMap, List.mem_map, Sums, mem_sumsL links n]
    constructor
    · rintro ⟨b, hb, l, hl, rfl⟩; exact ⟨b, hb, l, hl, rfl⟩
    · rintro ⟨b, hb, l, hl, rfl⟩; exact ⟨b, hb, l, hl, rfl⟩
theorem awake_dist : Dist [(3, 0), (-1, 0)] (1, 0) 3 := by
  refine ⟨(mem_sumsL _ _ _).1 (by decide), fun k hk hs => ?_⟩
  have h := (mem_sumsL _ _ _).2 hs
  rcases (show k = 0 ∨ k = 1 ∨ k = 2 by omega) with rfl | rfl | rfl <;> revert h <;> decide
set_option maxHeartbeats 4000000 in
theorem Awake_l (w : World) : Calls Try.prog 7 #[] w fun e w' => e = .returned (.bool true) ∧ Below w.heap.size w w' := by
  have hrow := fun (w : World) => crd_of_row (lo := 0) (cs := [(3, 0), (-1, 0)]) (row_full (base := 0) (e := 24) (size := 2) w #[.int .i64 3, .int .i64 0, .int .i64 (-1), .int .i64 0] 2 w.heap.size rfl (Nat.zero_le _) (by unfold maxLen; omega) rfl)
  obtain ⟨g, hg⟩ := hrow w
  have HG := Lib.hid (Hops_l [(3, 0), (-1, 0)] (by decide) 1 0 _ g 0 _ hg)
  clear hrow hg
  go_enter Try.func7, Try.ntmps7
  go_wp2_with (go_at_call 8; refine HG.out.mono ?_; go_must (rintro e w1 ⟨n, er, hr, rfl, hb1⟩; obtain ⟨rfl, rfl⟩ : n = 3 ∧ er = 0 := (by
    rcases hr with ⟨h1, -, -⟩ | ⟨-, h2 | h2⟩
    · exact absurd (by decide) h1
    · obtain ⟨k, -, hd, rfl, rfl⟩ := h2
      have := hd.uniq awake_dist
      omega
    · exact absurd awake_dist (h2.1 3 (by omega)))))
  go_ret
  exact ⟨rfl, by repeat (first | exact Below.refl _ _ | assumption | (refine Below.drew ?_) | (refine below_drewN ?_ _) | (refine Below.alloc ?_ (by first | (simp; done) | (simp; omega) | omega) _) | (refine Below.setCell ?_ (by first | (simp; done) | (simp; omega) | omega) _) | (refine Below.trans ?_ (Below.mono (by assumption) (by first | (simp; done) | (simp; omega) | omega))))⟩
theorem many_l (links : List C2) (a : Option Addr) (cap : Nat) (w : World) : Calls Try.prog 6 #[.slice a links.length cap] w fun e w' => e = .returned (.bool (decide (30 < links.length))) ∧ w' = w := by
  go_enter Try.func6, Try.ntmps6
  go_wp2
  go_ret
  exact ⟨by simp; omega, rfl⟩
end Go.Proofs.Ytjceppinjeehiaa
