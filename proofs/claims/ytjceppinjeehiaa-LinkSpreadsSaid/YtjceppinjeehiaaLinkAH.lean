/- The walk of link.Way. -/
import Derived.Test.YtjceppinjeehiaaLinkAG
import Derived.Test.YtjceppinjeehiaaLinkK
import Derived.Test.YtjceppinjeehiaaLinkS
import Derived.Test.YtjceppinjeehiaaKitD
namespace Go.Proofs.Ytjceppinjeehiaa
open Go.RowKit
theorem slI : SlT Try.prog 25 3 (.int .i64 0) 1 8 := ⟨Try.underlying25, by kernel_rfl, rfl, by decide⟩
theorem slice_cs (g off n cap i : Nat) (hi : i < n) (hc : n ≤ cap) (W : World) : (Instr.sliceAt 22 (.slice (some ⟨g, off, none⟩) n cap) (some (.int .i64 (i : Int))) none none).run Try.prog W = .ok (.slice (some ⟨g, off + 2 * i, none⟩) (n - i) (cap - i)) W := by
  rw [run_sliceAt_slice (h := under_cs), run_slice_l (ht := under_cs) (h0 := by omega) (h1 := by omega), size_cs]
  simp only [Result.andThen, sliced, Int.toNat_natCast, Option.map_some, Addr.add]
  rw [if_neg (by omega)]
  simp only [Nat.mul_comm i 2]
  split <;> simp_all
theorem CRd.drop {w : World} {v : Value} {g off : Nat} {l : List C2} (h : CRd w v g off l) {i : Nat} (hi : i < l.length) :
    ∃ cap, v = .slice (some ⟨g, off, none⟩) l.length cap ∧ l.length ≤ cap ∧ CRd w (.slice (some ⟨g, off + 2 * i, none⟩) (l.length - i) (cap - i)) g (off + 2 * i) (l.drop i) := by
  obtain ⟨cap, hc, hm, ⟨-, rfl⟩ | ⟨rfl, hg, hx⟩⟩ := h
  · simp at hi
  · refine ⟨cap, rfl, hc, cap - i, by simp; omega, by omega, .inr ⟨by simp, hg, fun k hk => ?_⟩⟩
    have hk2 : i + k < l.length := by simp at hk; omega
    have := hx (i + k) hk2
    rw [show off + 2 * i + 2 * k = off + 2 * (i + k) by omega]
    simpa using this
theorem ints_snoc (l : List Int) (x : Int) : ints (l ++ [x]) = ints l ++ [.int .i64 x] := by simp [ints]
theorem irow_shape {w : World} {lo n : Nat} {v : Value} {xs : List Value} (h : w.ownsRow lo 3 1 v n xs) : ∃ a c, v = .slice a n c := by
  obtain ⟨_, ⟨rfl, h0⟩ | ⟨g, cap, cur, rfl, _⟩⟩ := h
  · exact ⟨_, _, by rw [h0]⟩
  · exact ⟨_, _, rfl⟩
theorem grown_c {w w' : World} {base : Nat} {e : TypeId} {size n : Nat} {v : Value} {xs : List Value} (h : w.ownsRow base e size v n xs) (hg : w.grownBy w' v.ownBlock) {b : Nat} (hb : b < base) (hw : b < w.heap.size) (o : Nat) :
    w'.cell? ⟨b, o, none⟩ = w.cell? ⟨b, o, none⟩ ∧ w'.frozen? ⟨b, o, none⟩ = w.frozen? ⟨b, o, none⟩ := by
  have e := hg.block b hw (fun he => by have := (h.lt b he.symm).1; omega)
  exact ⟨World.cell?_of_block (w := w) (w' := w') e, World.frozen?_of_block (w := w) (w' := w') e⟩
theorem grown_set (W : World) (b o : Nat) (v : Value) : W.grownBy (W.setCell ⟨b, o, none⟩ v) (some b) :=
  have h := (Below.refl 0 W).setCell (p := ⟨b, o, none⟩) (Nat.zero_le _) v
  ⟨h.os, h.tape, h.output, h.size, fun k _ hne => Below.heap_setCell W ⟨b, o, none⟩ v k (fun e => hne (by rw [e]))⟩
/-- What Way says: the list and the error. -/
def WayR (links : List C2) (m : C2) (out : List Int) (e : Int) : Prop :=
  (chkL links m ≠ 0 ∧ out = [] ∧ e = chkL links m) ∨ (chkL links m = 0 ∧ ((∃ k : Nat, k ≤ 12 ∧ Dist links m k ∧ out = wayG links 0 m k ∧ e = 0) ∨ ((∀ k, k ≤ 12 → ¬ Dist links m k) ∧ out = [] ∧ e = 5)))
theorem wayR_uniq {links : List C2} {m : C2} {o o' : List Int} {e e' : Int} (h : WayR links m o e) (k : WayR links m o' e') : o' = o ∧ e' = e := by
  rcases h with ⟨h1, rfl, rfl⟩ | ⟨h1, ⟨x, hx, hd, rfl, rfl⟩ | ⟨hno, rfl, rfl⟩⟩
  · rcases k with ⟨_, rfl, rfl⟩ | ⟨k1, _⟩
    · exact ⟨rfl, rfl⟩
    · exact absurd k1 h1
  · rcases k with ⟨k1, _, _⟩ | ⟨_, ⟨y, hy, hd2, rfl, rfl⟩ | ⟨hno2, _, _⟩⟩
    · exact absurd h1 k1
    · rw [hd.uniq hd2]; exact ⟨rfl, rfl⟩
    · exact absurd hd (hno2 x hx)
  · rcases k with ⟨k1, _, _⟩ | ⟨_, ⟨y, hy, hd2, _, _⟩ | ⟨_, rfl, rfl⟩⟩
    · exact absurd h1 k1
    · exact absurd hd2 (hno y hy)
    · exact ⟨rfl, rfl⟩
set_option maxHeartbeats 4000000 in
set_option maxRecDepth 100000 in
theorem Way_l (links : List C2) (hl : links.length ≤ 1000) (m0 m1 : Int) (w : World) (g off : Nat) (v : Value) (hv : CRd w v g off links) :
    Calls Try.prog 10 #[v, .agg #[.int .i64 (m0), .int .i64 (m1)]] w fun e w' => ∃ out er v', WayR links (m0, m1) out er ∧ e = .returned (.tuple #[v', .int .i64 er]) ∧ ISl w' w'.heap.size v' out ∧ Below w.heap.size w w' := by
  have HV := Lib.hid hv
  obtain ⟨a, cap, rfl, hx⟩ := hv.at
  have HX := Lib.hid hx
  clear hv hx
  have HO := Lib.hid (fun w' (hb : Below w.heap.size w w') => Hops_l links hl m0 m1 w' g off (.slice a links.length cap) (HV.out.below hb))
  have K := Below.refl (w.heap.size + 1) (w.alloc (.cells #[.int .i64 m0, .int .i64 m1] 24))
  obtain ⟨n, er, hr⟩ := hopsR_ex links (m0, m1)
  have HRR := Lib.hid hr
  by_cases h : er = 0
  rotate_left
  · have hne : (er != 0) = true := by simpa using h
    have HW := Lib.hid (show WayR links (m0, m1) [] er by
      rcases hr with ⟨h1, -, h2⟩ | ⟨h1, ⟨k, -, -, -, h2⟩ | ⟨h2, -, h3⟩⟩
      · exact .inl ⟨h1, rfl, h2⟩
      · exact absurd h2 h
      · exact .inr ⟨h1, .inr ⟨h2, rfl, h3⟩⟩)
    clear hr h
    go_enter Try.func10, Try.ntmps10
    go_wp2_with (go_at_call 8; refine (HO.out _ (by repeat (first | exact Below.refl _ _ | assumption | (refine Below.drew ?_) | (refine below_drewN ?_ _) | (refine Below.alloc ?_ (by first | (simp; done) | (simp; omega) | omega) _) | (refine Below.setCell ?_ (by first | (simp; done) | (simp; omega) | omega) _) | (refine Below.trans ?_ (Below.mono (by assumption) (by first | (simp; done) | (simp; omega) | omega)))))).mono ?_; go_must (rintro e w1 ⟨n1, e1, hr1, rfl, hb1⟩; obtain ⟨rfl, rfl⟩ := hopsR_uniq HRR.out hr1; clear hr1; have K' := K.trans (c := w1) (by repeat (first | exact Below.refl _ _ | assumption | (refine Below.drew ?_) | (refine below_drewN ?_ _) | (refine Below.alloc ?_ (by first | (simp; done) | (simp; omega) | omega) _) | (refine Below.setCell ?_ (by first | (simp; done) | (simp; omega) | omega) _) | (refine Below.trans ?_ (Below.mono (by assumption) (by first | (simp; done) | (simp; omega) | omega))))); clear K; (try clear hc); (try clear hf); (try clear hz); (try clear hz0); have K := K'; clear K'; obtain ⟨hc, hf⟩ := bcellB K; have hz0 := K.size; (try simp at hz0); have hz := z1 hz0; clear hb1))
    exact bodyPost_ret (v := .tuple #[.slice none 0 0, .int .i64 e1]) (by simp only [results, Try.results10]; first | (go_simp; done) | (go_simp; rfl)) rfl ⟨_, _, _, HW.out, rfl, Sl.nil _ _ _, by repeat (first | exact Below.refl _ _ | assumption | (refine Below.drew ?_) | (refine below_drewN ?_ _) | (refine Below.alloc ?_ (by first | (simp; done) | (simp; omega) | omega) _) | (refine Below.setCell ?_ (by first | (simp; done) | (simp; omega) | omega) _) | (refine Below.trans ?_ (Below.mono (by assumption) (by first | (simp; done) | (simp; omega) | omega))))⟩
  subst h
  have hck : chkL links (m0, m1) = 0 ∧ ∃ k : Nat, k ≤ 12 ∧ Dist links (m0, m1) k ∧ n = k := by
    rcases hr with ⟨h1, -, h2⟩ | ⟨h1, ⟨k, h2, h3, h4, -⟩ | ⟨-, -, h3⟩⟩
    · exact absurd h2.symm h1
    · exact ⟨h1, k, h2, h3, h4⟩
    · cases h3
  clear hr
  obtain ⟨hc0, k, hk12, hdist, rfl⟩ := hck
  obtain ⟨⟨h8, hv8⟩, hm20⟩ := chk_ok hc0
  have HN := Lib.hid (fun l hl => (hv8 l hl).1)
  have HD := Lib.hid hdist; have HC0 := Lib.hid hc0
  clear hc0 hdist hv8 hm20
  go_enter Try.func10, Try.ntmps10
  go_wp2_with (go_at_call 8; refine (HO.out _ (by repeat (first | exact Below.refl _ _ | assumption | (refine Below.drew ?_) | (refine below_drewN ?_ _) | (refine Below.alloc ?_ (by first | (simp; done) | (simp; omega) | omega) _) | (refine Below.setCell ?_ (by first | (simp; done) | (simp; omega) | omega) _) | (refine Below.trans ?_ (Below.mono (by assumption) (by first | (simp; done) | (simp; omega) | omega)))))).mono ?_; go_must (rintro e w1 ⟨n1, e1, hr1, rfl, hb1⟩; obtain ⟨rfl, rfl⟩ := hopsR_uniq HRR.out hr1; clear hr1; have K' := K.trans (c := w1) (by repeat (first | exact Below.refl _ _ | assumption | (refine Below.drew ?_) | (refine below_drewN ?_ _) | (refine Below.alloc ?_ (by first | (simp; done) | (simp; omega) | omega) _) | (refine Below.setCell ?_ (by first | (simp; done) | (simp; omega) | omega) _) | (refine Below.trans ?_ (Below.mono (by assumption) (by first | (simp; done) | (simp; omega) | omega))))); clear K; (try clear hc); (try clear hf); (try clear hz); (try clear hz0); have K := K'; clear K'; obtain ⟨hc, hf⟩ := bcellB K; have hz0 := K.size; (try simp at hz0); have hz := z1 hz0; clear hb1))
  have K0 : Below w.heap.size w w1 := (Below.refl _ _).alloc (Nat.le_refl _) _ |>.trans (K.mono (by omega))
  have hk0 := hz0
  go_loopw [6, 8, 9] (fun t6 t8 t9 wr => ∃ (i n : Nat) (m : C2) (out : List Int), t6 = .int .i64 (n : Nat) ∧ t9 = .int .i64 (i : Nat) ∧ n ≤ 12 ∧ i ≤ links.length ∧ Dist (links.drop i) m n ∧ out ++ wayG links i m n = wayG links 0 (m0, m1) k ∧ out.length + n = k ∧ wr.cell? ⟨w.heap.size, 0, none⟩ = some (.int .i64 m.1) ∧ wr.cell? ⟨w.heap.size, 1, none⟩ = some (.int .i64 m.2) ∧ wr.frozen? ⟨w.heap.size, 0, none⟩ = false ∧ wr.frozen? ⟨w.heap.size, 1, none⟩ = false ∧ wr.ownsRow w1.heap.size 3 1 t8 out.length (ints out) ∧ w1.heap.size ≤ wr.heap.size ∧ Below w.heap.size w wr) (fun t6 _ t9 _ => links.length - (intOf t9).toNat + (intOf t6).toNat)
  case atStart => exact ⟨0, k, (m0, m1), [], rfl, rfl, hk12, Nat.zero_le _, HD.out, rfl, by simp, (K.cell (p := ⟨w.heap.size, 0, none⟩) (by simp)).trans (by go_simp), (K.cell (p := ⟨w.heap.size, 1, none⟩) (by simp)).trans (by go_simp), (K.frozen (p := ⟨w.heap.size, 0, none⟩) (by simp)).trans (by go_simp), (K.frozen (p := ⟨w.heap.size, 1, none⟩) (by simp)).trans (by go_simp), World.ownsRow_nil _ _ _ _, Nat.le_refl _, K0⟩
  case round =>
    obtain ⟨i, n, m, out, rfl, rfl, hn12, hil, hdi, hway, hlen, c0, c1, f0, f1, hown, hsz, hb⟩ := hrel
    clear hc hf K
    have HWAY := Lib.hid hway
    obtain ⟨a8, c8, rfl⟩ := irow_shape hown
    rcases Nat.eq_zero_or_pos n with rfl | hpos
    · have HWR := Lib.hid (show WayR links (m0, m1) out 0 from .inr ⟨HC0.out, .inl ⟨k, by omega, HD.out, by have := HWAY.out; rw [wayG_zero, List.append_nil] at this; exact this, rfl⟩⟩)
      have HOWN := Lib.hid hown
      clear hdi hway hlen hown
      go_wp2
      exact bodyPost_ret (v := .tuple #[.slice a8 out.length c8, .int .i64 0]) (by simp only [results, Try.results10]; first | (go_simp; done) | (go_simp; rfl)) rfl ⟨_, _, _, HWR.out, rfl, Sl.of_own HOWN.out, hb⟩
    obtain ⟨n, rfl⟩ : ∃ p, n = p + 1 := ⟨n - 1, by omega⟩
    have hilt := dist_lt hdi
    have HDI := Lib.hid hdi
    have HOWN := Lib.hid hown
    have hout : out.length ≤ 12 := by omega
    have HLEN := Lib.hid hlen
    clear hdi hway hlen hown hpos hil
    have hmn := HDI.out.1.near (fun l hl => HN.out l (List.mem_of_mem_drop hl))
    have hln := HN.out _ (List.getElem_mem hilt)
    obtain ⟨cap', e1, hcap, hcrd⟩ := (HV.out.below hb).drop hilt
    obtain ⟨hi, hg, d0, d1⟩ := HX.out i hilt
    injection e1 with e1 _ e2
    subst e1
    subst e2
    have r0 := (hb.cell (p := ⟨g, off + 2 * i, none⟩) hg).trans d0
    have r1 := (hb.cell (p := ⟨g, off + 2 * i + 1, none⟩) hg).trans d1
    clear d0 d1
    have hsl := fun W => slice_cs g off links.length cap i hilt hcap W
    have HCRD := Lib.hid hcrd; clear hcrd hcap
    have HGD := Lib.hid (show links.getD i (0, 0) = links[i] by simp [hilt])
    have hm1 := hmn.mono (show 3 * ((n + 1 : Nat) : Int) ≤ 36 by omega)
    clear hmn
    obtain ⟨p1, p2, p3, p4⟩ := hm1
    obtain ⟨q1, q2, q3, q4⟩ := hln
    have hho := fun w' (hb' : Below wr.heap.size wr w') => hops_any (links.drop i) (by simp; omega) (fun l hl => HN.out l (List.mem_of_mem_drop hl)) n (by omega) (m.1 - links[i].1) (m.2 - links[i].2) w' g (off + 2 * i) (.slice (some ⟨g, off + 2 * i, none⟩) (links.length - i) (cap - i)) (HCRD.out.below hb')
    have hdc := dist_cnd HDI.out
    rw [HGD.out] at hdc
    have hht : cnd links i m n = true → ∀ w', Below wr.heap.size wr w' → Calls Try.prog 20 #[.slice (some ⟨g, off + 2 * i, none⟩) (links.length - i) (cap - i), .agg #[.int .i64 (m.1 - links[i].1), .int .i64 (m.2 - links[i].2)], .int .i64 (n : Nat)] w' fun e w3 => e = .returned (.tuple #[.int .i64 (n : Nat), .bool true]) ∧ Below w'.heap.size w' w3 := fun hc w' hb' => (hho w' hb').mono fun e w3 ⟨hr, hb3⟩ => ⟨by
      have hd := hdc.2 hc
      rcases hr with ⟨k', hk', hd', rfl⟩ | ⟨hno, -⟩
      · rw [Dist.uniq hd' hd]
      · exact absurd hd (hno n (Nat.le_refl _)), hb3⟩
    have hhf : cnd links i m n = false → ∀ w', Below wr.heap.size wr w' → Calls Try.prog 20 #[.slice (some ⟨g, off + 2 * i, none⟩) (links.length - i) (cap - i), .agg #[.int .i64 (m.1 - links[i].1), .int .i64 (m.2 - links[i].2)], .int .i64 (n : Nat)] w' fun e w3 => ∃ (k' : Nat) (b : Bool), (b = true → k' ≠ n) ∧ e = .returned (.tuple #[.int .i64 (k' : Nat), .bool b]) ∧ Below w'.heap.size w' w3 := fun hc w' hb' => (hho w' hb').mono fun e w3 ⟨hr, hb3⟩ => by
      rcases hr with ⟨k', hk', hd', rfl⟩ | ⟨hno, rfl⟩
      · exact ⟨k', true, (fun _ e => by subst e; rw [hdc.1 hd'] at hc; cases hc), rfl, hb3⟩
      · exact ⟨0, false, (fun h => by cases h), rfl, hb3⟩
    have HHT := Lib.hid hht; have HHF := Lib.hid hhf
    clear hho hdc hht hhf
    generalize links[i] = c at *
    have hz1 : w.heap.size + 1 ≤ wr.heap.size := by omega
    have hz := z1 hz1
    have K := Below.refl wr.heap.size wr
    go_wp2
    have hg9 : g < wr.heap.size := by omega
    have hl9 : w.heap.size < wr.heap.size := by omega
    go_region_held3 (fun w' => Below wr.heap.size wr w' ∧ w'.cell? ⟨w.heap.size, 0, none⟩ = some (.int .i64 m.1) ∧ w'.cell? ⟨w.heap.size, 1, none⟩ = some (.int .i64 m.2) ∧ w'.cell? ⟨g, off + 2 * i, none⟩ = some (.int .i64 c.1) ∧ w'.cell? ⟨g, off + 2 * i + 1, none⟩ = some (.int .i64 c.2)) (((refine (fun kb => ⟨kb, (kb.cell (p := ⟨w.heap.size, 0, none⟩) hl9).trans c0, (kb.cell (p := ⟨w.heap.size, 1, none⟩) hl9).trans c1, (kb.cell (p := ⟨g, off + 2 * i, none⟩) hg9).trans r0, (kb.cell (p := ⟨g, off + 2 * i + 1, none⟩) hg9).trans r1⟩) (?_ : Below wr.heap.size wr _)); exact (by repeat (first | exact Below.refl _ _ | assumption | (refine Below.drew ?_) | (refine below_drewN ?_ _) | (refine Below.alloc ?_ (by first | (simp; done) | (simp; omega) | omega) _) | (refine Below.setCell ?_ (by first | (simp; done) | (simp; omega) | omega) _) | (refine Below.trans ?_ (Below.mono (by assumption) (by first | (simp; done) | (simp; omega) | omega))))))) (first | (go_at_call 24; refine (minus_l m.1 m.2 c.1 c.2 (by omega) (by omega) (by omega) (by omega) _).mono ?_; go_must (rintro e w2 ⟨rfl, hb2⟩; obtain ⟨hc2, hf2⟩ := bcell hb2; have hs2 := hb2.size; simp at hs2; (try have zz2 := z1 hs2))))
    · go_wp2
      refine forgetW (fun W => Below wr.heap.size wr W ∧ W.cell? ⟨w2.heap.size, 0, none⟩ = some (.int .i64 (m.1 - c.1)) ∧ W.cell? ⟨w2.heap.size, 1, none⟩ = some (.int .i64 (m.2 - c.2)) ∧ w2.heap.size < W.heap.size) ⟨by repeat (first | exact Below.refl _ _ | assumption | (refine Below.drew ?_) | (refine below_drewN ?_ _) | (refine Below.alloc ?_ (by first | (simp; done) | (simp; omega) | omega) _) | (refine Below.setCell ?_ (by first | (simp; done) | (simp; omega) | omega) _) | (refine Below.trans ?_ (Below.mono (by assumption) (by first | (simp; done) | (simp; omega) | omega)))), by go_simp, by go_simp, by simp⟩ ?_
      have hbx : wr.heap.size ≤ w2.heap.size := by omega
      generalize w2.heap.size = bx at *
      clear hb2 hc2 hf2 hs2
      rintro W ⟨hW0, x0, x1, hx⟩
      have hW : Below wr.heap.size wr W := by first | exact hW0 | exact hW0.mono hbx
      clear K hW0
      have hWs := hW.size
      have e1 : IntKind.i64.wrap (n : Int) = (n : Int) := IntWalk.i64_in _ (by omega)
      have e2 : IntKind.i64.wrap ((n : Int) + 1 - 1) = (n : Int) := by rw [IntWalk.i64_in _ (by omega)]; omega
      cases hcn : cnd links i m n
      · have HR := Lib.hid (HHF.out hcn)
        have HW2 := Lib.hid (show wayG links i m (n + 1) = wayG links (i + 1) m (n + 1) from wayG_skip hilt hcn)
        have HD2 := Lib.hid (dist_skip HDI.out hcn)
        clear hcn
        go_region_held3 (fun w' => Below W.heap.size W w' ∧ w'.cell? ⟨bx, 0, none⟩ = some (.int .i64 (m.1 - c.1)) ∧ w'.cell? ⟨bx, 1, none⟩ = some (.int .i64 (m.2 - c.2))) (((refine (fun kb => ⟨kb, (kb.cell (p := ⟨bx, 0, none⟩) hx).trans x0, (kb.cell (p := ⟨bx, 1, none⟩) hx).trans x1⟩) (?_ : Below W.heap.size W _)); exact (by repeat (first | exact Below.refl _ _ | assumption | (refine Below.drew ?_) | (refine below_drewN ?_ _) | (refine Below.alloc ?_ (by first | (simp; done) | (simp; omega) | omega) _) | (refine Below.setCell ?_ (by first | (simp; done) | (simp; omega) | omega) _) | (refine Below.trans ?_ (Below.mono (by assumption) (by first | (simp; done) | (simp; omega) | omega))))))) (first | (go_at_call 20; refine (HR.out _ (by repeat (first | exact Below.refl _ _ | assumption | (refine Below.drew ?_) | (refine below_drewN ?_ _) | (refine Below.alloc ?_ (by first | (simp; done) | (simp; omega) | omega) _) | (refine Below.setCell ?_ (by first | (simp; done) | (simp; omega) | omega) _) | (refine Below.trans ?_ (Below.mono (by assumption) (by first | (simp; done) | (simp; omega) | omega)))))).mono ?_; go_must (rintro e w3 ⟨k', b, hkb, rfl, hb3⟩)))
        clear x0 x1 hx e1 e2 hi hsl
        have hbE : Below wr.heap.size wr w3 := hW.trans ((Below.refl _ _).drew.trans hb3 |>.mono hWs)
        cases b
        all_goals
          (try have hne : ¬ (k' = n) := hkb rfl)
          clear hkb
          go_wp2
          go_roundw
          case rel =>
            have hs3 := hbE.size
            exact ⟨i + 1, n + 1, m, out, by simp, by simp, hn12, by omega, HD2.out, by rw [← HW2.out]; exact HWAY.out, HLEN.out, (hbE.cell (p := ⟨w.heap.size, 0, none⟩) hl9).trans c0, (hbE.cell (p := ⟨w.heap.size, 1, none⟩) hl9).trans c1, (hbE.frozen (p := ⟨w.heap.size, 0, none⟩) hl9).trans f0, (hbE.frozen (p := ⟨w.heap.size, 1, none⟩) hl9).trans f1, row_kept HOWN.out hbE, by omega, hb.trans (hbE.mono (by omega))⟩
          case measure => simp only [intOf]; omega
      · have HR := Lib.hid (HHT.out hcn)
        have HW2 := Lib.hid (show wayG links i m (n + 1) = (i : Int) :: wayG links i (sub2 m c) n by rw [← HGD.out]; exact wayG_take hcn)
        have HD2 := Lib.hid (show Dist (links.drop i) (sub2 m c) n by rw [← HGD.out]; exact dist_take HDI.out hcn)
        clear hcn
        go_region_held3 (fun w' => Below W.heap.size W w' ∧ w'.cell? ⟨bx, 0, none⟩ = some (.int .i64 (m.1 - c.1)) ∧ w'.cell? ⟨bx, 1, none⟩ = some (.int .i64 (m.2 - c.2))) (((refine (fun kb => ⟨kb, (kb.cell (p := ⟨bx, 0, none⟩) hx).trans x0, (kb.cell (p := ⟨bx, 1, none⟩) hx).trans x1⟩) (?_ : Below W.heap.size W _)); exact (by repeat (first | exact Below.refl _ _ | assumption | (refine Below.drew ?_) | (refine below_drewN ?_ _) | (refine Below.alloc ?_ (by first | (simp; done) | (simp; omega) | omega) _) | (refine Below.setCell ?_ (by first | (simp; done) | (simp; omega) | omega) _) | (refine Below.trans ?_ (Below.mono (by assumption) (by first | (simp; done) | (simp; omega) | omega))))))) (first | (go_at_call 20; refine (HR.out _ (by repeat (first | exact Below.refl _ _ | assumption | (refine Below.drew ?_) | (refine below_drewN ?_ _) | (refine Below.alloc ?_ (by first | (simp; done) | (simp; omega) | omega) _) | (refine Below.setCell ?_ (by first | (simp; done) | (simp; omega) | omega) _) | (refine Below.trans ?_ (Below.mono (by assumption) (by first | (simp; done) | (simp; omega) | omega)))))).mono ?_; go_must (rintro e w3 ⟨rfl, hb3⟩)))
        have hbE : Below wr.heap.size wr w3 := hW.trans ((Below.refl _ _).drew.trans hb3 |>.mono hWs)
        have y0 := (hb3.cell (p := ⟨bx, 0, none⟩) hx).trans x0
        have y1 := (hb3.cell (p := ⟨bx, 1, none⟩) hx).trans x1
        have hs3 := hbE.size
        have hs4 : bx < w3.heap.size := Nat.lt_of_lt_of_le hx hb3.size
        have d0 := (hbE.cell (p := ⟨w.heap.size, 0, none⟩) hl9).trans c0
        have d1 := (hbE.cell (p := ⟨w.heap.size, 1, none⟩) hl9).trans c1
        have g0 := (hbE.frozen (p := ⟨w.heap.size, 0, none⟩) hl9).trans f0
        have g1 := (hbE.frozen (p := ⟨w.heap.size, 1, none⟩) hl9).trans f1
        have ho3 := row_kept HOWN.out hbE
        have hne : ∀ r, (Value.slice a8 out.length c8).ownBlock = some r → some bx ≠ some r := fun r hr he => by
          have := (HOWN.out.lt r hr).2
          injection he with he
          omega
        have HNE := Lib.hid hne
        have hl3 : w.heap.size < w3.heap.size := by omega
        have hlb : w1.heap.size ≤ w3.heap.size := by omega
        have hbn : ¬ w.heap.size = bx := by omega
        have hbn2 : ¬ bx = w.heap.size := by omega
        have HB3 := Lib.hid hb3; have HW := Lib.hid hW; have HWS := Lib.hid hWs
        clear hne x0 x1 hi hsl hb3 hW c0 c1 f0 f1 r0 r1
        go_wp2
        go_region_held3 (fun w' => w'.cell? ⟨bx, 0, none⟩ = some (.int .i64 (m.1 - c.1)) ∧ w'.cell? ⟨bx, 1, none⟩ = some (.int .i64 (m.2 - c.2))) (first | go_keep | exact ⟨z0, z1⟩) (first | (refine step_push rfl _ _ _ (by rfl) slI ho3 (by rfl) (by rfl) (heap_alloc_new _ _) rfl rfl (by omega) (by omega) hlb (grown_drew (World.grownBy_alloc _ _ _)) ?_; intro g5 c5 w5 hown5 hg5 hat5; have z0 := (hg5.cell_far ⟨bx, 0, none⟩ hs4 (fun he => HNE.out _ he.symm rfl)).trans y0; have z1 := (hg5.cell_far ⟨bx, 1, none⟩ hs4 (fun he => HNE.out _ he.symm rfl)).trans y1; have v0 := (grown_c ho3 hg5 (show w.heap.size < w1.heap.size by omega) hl3 0).1.trans d0; have v1 := (grown_c ho3 hg5 (show w.heap.size < w1.heap.size by omega) hl3 1).1.trans d1; have v2 := (grown_c ho3 hg5 (show w.heap.size < w1.heap.size by omega) hl3 0).2.trans g0; have v3 := (grown_c ho3 hg5 (show w.heap.size < w1.heap.size by omega) hl3 1).2.trans g1))
        go_wp2
        go_roundw
        case rel =>
          have hs5 := hg5.size
          refine ⟨i, n, sub2 m c, out ++ [(i : Int)], by simp, rfl, by omega, by omega, HD2.out, by rw [List.append_assoc, List.singleton_append, ← HW2.out]; exact HWAY.out, by have := HLEN.out; simp; omega, ?_, ?_, by simp [v2], by simp [v3], ?_, ?_, ?_⟩
          · exact (World.cell?_setCell_other _ _ _ _ (by simp)).trans (World.cell?_setCell_same' _ _ _ (by rw [v0]; rfl))
          · exact World.cell?_setCell_same' _ _ _ (by rw [World.cell?_setCell_other _ _ _ _ (by simp), v1]; rfl)
          · have hnr : ∀ r, (Value.slice (some ⟨g5, 0, none⟩) (out.length + 1) c5).ownBlock = some r → (Value.slice (some ⟨g5, 0, none⟩) (out.length + 1) c5).ownBlock ≠ some w.heap.size := fun r hr he => by
              have := (hown5.lt _ he).1
              omega
            rw [ints_snoc, List.length_append]
            refine World.ownsRow.kept (World.ownsRow.kept hown5 (grown_set _ _ _ _) (.inr (hnr g5 rfl))) (grown_set _ _ _ _) (.inr (hnr g5 rfl))
          · simp; omega
          · have hb5 : Below w.heap.size w w5 := below_push (hb.trans (hbE.mono (by omega))) ho3 (by omega) (by omega) hg5
            exact (hb5.setCell (p := ⟨w.heap.size, 0, none⟩) (Nat.le_refl _) _).setCell (p := ⟨w.heap.size, 1, none⟩) (Nat.le_refl _) _
        case measure => simp only [intOf]; omega
    · go_wp2
      refine forgetW (fun W => Below wr.heap.size wr W ∧ W.cell? ⟨wr.heap.size, 0, none⟩ = some (.int .i64 (m.1 - c.1)) ∧ W.cell? ⟨wr.heap.size, 1, none⟩ = some (.int .i64 (m.2 - c.2)) ∧ wr.heap.size < W.heap.size) ⟨by repeat (first | exact Below.refl _ _ | assumption | (refine Below.drew ?_) | (refine below_drewN ?_ _) | (refine Below.alloc ?_ (by first | (simp; done) | (simp; omega) | omega) _) | (refine Below.setCell ?_ (by first | (simp; done) | (simp; omega) | omega) _) | (refine Below.trans ?_ (Below.mono (by assumption) (by first | (simp; done) | (simp; omega) | omega)))), by go_simp, by go_simp, by simp; omega⟩ ?_
      obtain ⟨bx, hbx, hbe⟩ : ∃ b, wr.heap.size ≤ b ∧ wr.heap.size = b := ⟨_, Nat.le_refl _, rfl⟩
      simp only [hbe]
      clear hbe
      clear hb2 hc2 hf2 hs2 zz2
      rintro W ⟨hW0, x0, x1, hx⟩
      have hW : Below wr.heap.size wr W := by first | exact hW0 | exact hW0.mono hbx
      clear K hW0
      have hWs := hW.size
      have e1 : IntKind.i64.wrap (n : Int) = (n : Int) := IntWalk.i64_in _ (by omega)
      have e2 : IntKind.i64.wrap ((n : Int) + 1 - 1) = (n : Int) := by rw [IntWalk.i64_in _ (by omega)]; omega
      cases hcn : cnd links i m n
      · have HR := Lib.hid (HHF.out hcn)
        have HW2 := Lib.hid (show wayG links i m (n + 1) = wayG links (i + 1) m (n + 1) from wayG_skip hilt hcn)
        have HD2 := Lib.hid (dist_skip HDI.out hcn)
        clear hcn
        go_region_held3 (fun w' => Below W.heap.size W w' ∧ w'.cell? ⟨bx, 0, none⟩ = some (.int .i64 (m.1 - c.1)) ∧ w'.cell? ⟨bx, 1, none⟩ = some (.int .i64 (m.2 - c.2))) (((refine (fun kb => ⟨kb, (kb.cell (p := ⟨bx, 0, none⟩) hx).trans x0, (kb.cell (p := ⟨bx, 1, none⟩) hx).trans x1⟩) (?_ : Below W.heap.size W _)); exact (by repeat (first | exact Below.refl _ _ | assumption | (refine Below.drew ?_) | (refine below_drewN ?_ _) | (refine Below.alloc ?_ (by first | (simp; done) | (simp; omega) | omega) _) | (refine Below.setCell ?_ (by first | (simp; done) | (simp; omega) | omega) _) | (refine Below.trans ?_ (Below.mono (by assumption) (by first | (simp; done) | (simp; omega) | omega))))))) (first | (go_at_call 20; refine (HR.out _ (by repeat (first | exact Below.refl _ _ | assumption | (refine Below.drew ?_) | (refine below_drewN ?_ _) | (refine Below.alloc ?_ (by first | (simp; done) | (simp; omega) | omega) _) | (refine Below.setCell ?_ (by first | (simp; done) | (simp; omega) | omega) _) | (refine Below.trans ?_ (Below.mono (by assumption) (by first | (simp; done) | (simp; omega) | omega)))))).mono ?_; go_must (rintro e w3 ⟨k', b, hkb, rfl, hb3⟩)))
        clear x0 x1 hx e1 e2 hi hsl
        have hbE : Below wr.heap.size wr w3 := hW.trans ((Below.refl _ _).drew.trans hb3 |>.mono hWs)
        cases b
        all_goals
          (try have hne : ¬ (k' = n) := hkb rfl)
          clear hkb
          go_wp2
          go_roundw
          case rel =>
            have hs3 := hbE.size
            exact ⟨i + 1, n + 1, m, out, by simp, by simp, hn12, by omega, HD2.out, by rw [← HW2.out]; exact HWAY.out, HLEN.out, (hbE.cell (p := ⟨w.heap.size, 0, none⟩) hl9).trans c0, (hbE.cell (p := ⟨w.heap.size, 1, none⟩) hl9).trans c1, (hbE.frozen (p := ⟨w.heap.size, 0, none⟩) hl9).trans f0, (hbE.frozen (p := ⟨w.heap.size, 1, none⟩) hl9).trans f1, row_kept HOWN.out hbE, by omega, hb.trans (hbE.mono (by omega))⟩
          case measure => simp only [intOf]; omega
      · have HR := Lib.hid (HHT.out hcn)
        have HW2 := Lib.hid (show wayG links i m (n + 1) = (i : Int) :: wayG links i (sub2 m c) n by rw [← HGD.out]; exact wayG_take hcn)
        have HD2 := Lib.hid (show Dist (links.drop i) (sub2 m c) n by rw [← HGD.out]; exact dist_take HDI.out hcn)
        clear hcn
        go_region_held3 (fun w' => Below W.heap.size W w' ∧ w'.cell? ⟨bx, 0, none⟩ = some (.int .i64 (m.1 - c.1)) ∧ w'.cell? ⟨bx, 1, none⟩ = some (.int .i64 (m.2 - c.2))) (((refine (fun kb => ⟨kb, (kb.cell (p := ⟨bx, 0, none⟩) hx).trans x0, (kb.cell (p := ⟨bx, 1, none⟩) hx).trans x1⟩) (?_ : Below W.heap.size W _)); exact (by repeat (first | exact Below.refl _ _ | assumption | (refine Below.drew ?_) | (refine below_drewN ?_ _) | (refine Below.alloc ?_ (by first | (simp; done) | (simp; omega) | omega) _) | (refine Below.setCell ?_ (by first | (simp; done) | (simp; omega) | omega) _) | (refine Below.trans ?_ (Below.mono (by assumption) (by first | (simp; done) | (simp; omega) | omega))))))) (first | (go_at_call 20; refine (HR.out _ (by repeat (first | exact Below.refl _ _ | assumption | (refine Below.drew ?_) | (refine below_drewN ?_ _) | (refine Below.alloc ?_ (by first | (simp; done) | (simp; omega) | omega) _) | (refine Below.setCell ?_ (by first | (simp; done) | (simp; omega) | omega) _) | (refine Below.trans ?_ (Below.mono (by assumption) (by first | (simp; done) | (simp; omega) | omega)))))).mono ?_; go_must (rintro e w3 ⟨rfl, hb3⟩)))
        have hbE : Below wr.heap.size wr w3 := hW.trans ((Below.refl _ _).drew.trans hb3 |>.mono hWs)
        have y0 := (hb3.cell (p := ⟨bx, 0, none⟩) hx).trans x0
        have y1 := (hb3.cell (p := ⟨bx, 1, none⟩) hx).trans x1
        have hs3 := hbE.size
        have hs4 : bx < w3.heap.size := Nat.lt_of_lt_of_le hx hb3.size
        have d0 := (hbE.cell (p := ⟨w.heap.size, 0, none⟩) hl9).trans c0
        have d1 := (hbE.cell (p := ⟨w.heap.size, 1, none⟩) hl9).trans c1
        have g0 := (hbE.frozen (p := ⟨w.heap.size, 0, none⟩) hl9).trans f0
        have g1 := (hbE.frozen (p := ⟨w.heap.size, 1, none⟩) hl9).trans f1
        have ho3 := row_kept HOWN.out hbE
        have hne : ∀ r, (Value.slice a8 out.length c8).ownBlock = some r → some bx ≠ some r := fun r hr he => by
          have := (HOWN.out.lt r hr).2
          injection he with he
          omega
        have HNE := Lib.hid hne
        have hl3 : w.heap.size < w3.heap.size := by omega
        have hlb : w1.heap.size ≤ w3.heap.size := by omega
        have hbn : ¬ w.heap.size = bx := by omega
        have hbn2 : ¬ bx = w.heap.size := by omega
        have HB3 := Lib.hid hb3; have HW := Lib.hid hW; have HWS := Lib.hid hWs
        clear hne x0 x1 hi hsl hb3 hW c0 c1 f0 f1 r0 r1
        go_wp2
        go_region_held3 (fun w' => w'.cell? ⟨bx, 0, none⟩ = some (.int .i64 (m.1 - c.1)) ∧ w'.cell? ⟨bx, 1, none⟩ = some (.int .i64 (m.2 - c.2))) (first | go_keep | exact ⟨z0, z1⟩) (first | (refine step_push rfl _ _ _ (by rfl) slI ho3 (by rfl) (by rfl) (heap_alloc_new _ _) rfl rfl (by omega) (by omega) hlb (grown_drew (World.grownBy_alloc _ _ _)) ?_; intro g5 c5 w5 hown5 hg5 hat5; have z0 := (hg5.cell_far ⟨bx, 0, none⟩ hs4 (fun he => HNE.out _ he.symm rfl)).trans y0; have z1 := (hg5.cell_far ⟨bx, 1, none⟩ hs4 (fun he => HNE.out _ he.symm rfl)).trans y1; have v0 := (grown_c ho3 hg5 (show w.heap.size < w1.heap.size by omega) hl3 0).1.trans d0; have v1 := (grown_c ho3 hg5 (show w.heap.size < w1.heap.size by omega) hl3 1).1.trans d1; have v2 := (grown_c ho3 hg5 (show w.heap.size < w1.heap.size by omega) hl3 0).2.trans g0; have v3 := (grown_c ho3 hg5 (show w.heap.size < w1.heap.size by omega) hl3 1).2.trans g1))
        go_wp2
        go_roundw
        case rel =>
          have hs5 := hg5.size
          refine ⟨i, n, sub2 m c, out ++ [(i : Int)], by simp, rfl, by omega, by omega, HD2.out, by rw [List.append_assoc, List.singleton_append, ← HW2.out]; exact HWAY.out, by have := HLEN.out; simp; omega, ?_, ?_, by simp [v2], by simp [v3], ?_, ?_, ?_⟩
          · exact (World.cell?_setCell_other _ _ _ _ (by simp)).trans (World.cell?_setCell_same' _ _ _ (by rw [v0]; rfl))
          · exact World.cell?_setCell_same' _ _ _ (by rw [World.cell?_setCell_other _ _ _ _ (by simp), v1]; rfl)
          · have hnr : ∀ r, (Value.slice (some ⟨g5, 0, none⟩) (out.length + 1) c5).ownBlock = some r → (Value.slice (some ⟨g5, 0, none⟩) (out.length + 1) c5).ownBlock ≠ some w.heap.size := fun r hr he => by
              have := (hown5.lt _ he).1
              omega
            rw [ints_snoc, List.length_append]
            refine World.ownsRow.kept (World.ownsRow.kept hown5 (grown_set _ _ _ _) (.inr (hnr g5 rfl))) (grown_set _ _ _ _) (.inr (hnr g5 rfl))
          · simp; omega
          · have hb5 : Below w.heap.size w w5 := below_push (hb.trans (hbE.mono (by omega))) ho3 (by omega) (by omega) hg5
            exact (hb5.setCell (p := ⟨w.heap.size, 0, none⟩) (Nat.le_refl _) _).setCell (p := ⟨w.heap.size, 1, none⟩) (Nat.le_refl _) _
        case measure => simp only [intOf]; omega
end Go.Proofs.Ytjceppinjeehiaa
