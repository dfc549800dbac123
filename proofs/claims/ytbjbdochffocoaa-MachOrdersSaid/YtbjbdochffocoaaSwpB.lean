/- The law's Swapped: its walk. -/
import Derived.Test.YtbjbdochffocoaaSwpA
namespace Go.Proofs.Ytbjbdochffocoaa
open Go.RowKit Go.Lib
set_option linter.unusedVariables false
def SwR (p : List OpD) (a b B : Nat) (e : Ending) (w' : World) : Prop := ∃ v' q, e = .returned v' ∧ ProgOwn w' B v' q ∧ Exch a b p q
theorem exS_a {a b : Nat} {s : SrcD} (h : s.op = (a : Int)) : ({ s with op := (b : Int) } : SrcD) = exS a b s := by
  unfold exS exI
  rw [if_neg (by omega), h, Int.toNat_natCast, if_pos rfl]
theorem exS_b {a b : Nat} {s : SrcD} (h : ¬ s.op = (a : Int)) (h2 : s.op = (b : Int)) : ({ s with op := (a : Int) } : SrcD) = exS a b s := by
  unfold exS exI
  rw [if_neg (by omega), if_neg (by omega), if_pos (by omega)]
theorem exS_no {a b : Nat} {s : SrcD} (h : ¬ s.op = (a : Int)) (h2 : ¬ s.op = (b : Int)) : exS a b s = s := by
  unfold exS exI
  by_cases h0 : s.op < 0
  · rw [if_pos h0]
  · rw [if_neg h0, if_neg (by omega), if_neg (by omega)]
    obtain ⟨op, v, hp⟩ := s
    simp only at h0 ⊢
    rw [Int.toNat_of_nonneg (by omega)]
/-- An operation's sources, in a row of their own. -/
theorem own_src {w : World} {B g : Nat} {q : List OpD} (h : RowsO w B g q q.length) {i : Nat} (hi : i < q.length) : ∃ bi ci, q[i].fv = .slice (some ⟨bi, 0, none⟩) q[i].src.length ci ∧ B ≤ bi ∧ bi < w.heap.size ∧ ∀ k (hk : k < q[i].src.length), (∀ W, (Instr.indexAt 35 (.slice (some ⟨bi, 0, none⟩) q[i].src.length ci) (.int .i64 (k : Int))).run Try.prog W = .ok (.pointer (some ⟨bi, 3 * k, none⟩)) W) ∧ w.cell? ⟨bi, 3 * k, none⟩ = some (.int .i64 q[i].src[k].op) ∧ w.frozen? ⟨bi, 3 * k, none⟩ = false := by
  obtain ⟨hown, b, eb, hbg⟩ := h.own i hi hi
  unfold SrcOwn at hown
  rcases ownR_some hown with ⟨e, -⟩ | ⟨bi, ci, e, h1, h2⟩
  · rw [e] at eb; simp [Value.ownBlock] at eb
  · refine ⟨bi, ci, e, h1, h2, fun k hk => ?_⟩
    rw [e] at hown
    refine ⟨fun W => ?_, ?_, World.ownsRow.frozenAt hown _⟩
    · have := idx_of (P := Try.prog) un_src sz_src bi 0 q[i].src.length ci k hk W
      simpa using this
    · have h3 := World.ownsRow.cellAt hown (3 * k) (by omega)
      rw [h3]
      have := flat_at (enc := encSr) (sz := 3) (fun _ => rfl) q[i].src k 0 hk (by omega)
      rw [Nat.add_zero] at this
      rw [this]; rfl
/-- The loops of Swapped: what is known at a round's head. -/
def SwL (w : World) (p : List OpD) (a b g cap i k : Nat) (wr : World) : Prop := ∃ q, ExTo a b p q i k ∧ ProgOwn wr w.heap.size (.slice (some ⟨g, 0, none⟩) p.length cap) q ∧ Below w.heap.size w wr
set_option maxHeartbeats 16000000 in
set_option maxRecDepth 100000 in
theorem Swapped_l (p : List OpD) (hv : validP p = true) (a b : Nat) (ha : a < p.length) (hb : b < p.length) (v : Value) (w : World) (hp : ProgRd w v p) : Calls Try.prog 23 #[v, .int .i64 (a : Int), .int .i64 (b : Int)] w fun e w' => SwR p a b w.heap.size e w' ∧ Below w.heap.size w w' := by
  have HP := Lib.hid hp
  have HCP := Lib.hid (rCopied_l p hv v w hp)
  have hl4 := (small_of hv).len
  have HAB := Lib.hid (⟨ha, hb⟩ : a < p.length ∧ b < p.length)
  have hln : (p.length : Int) ≤ 4000 := by omega
  have haz : (a : Int) < (p.length : Int) := by omega
  have hbz : (b : Int) < (p.length : Int) := by omega
  clear hp hv
  go_enter Try.func23, Try.ntmps23
  go_wp2_with (go_at_call 47; refine HCP.out.mono ?_; go_must (rintro e w3 ⟨⟨v3, q3, rfl, ho3, hs3⟩, hb3⟩; obtain ⟨g, cap, rfl, hg1, hg2⟩ := copy_some ho3 hs3 (by omega); have HO3 := Lib.hid ho3; have HSQ := Lib.hid hs3; have HB3 := Lib.hid hb3; clear ho3 hs3 hb3))
  have haq : a < q3.length := by rw [HSQ.out.len]; exact HAB.out.1
  have hbq : b < q3.length := by rw [HSQ.out.len]; exact HAB.out.2
  obtain ⟨ja, ⟨a0, a1, a2, a3, a4, a5⟩, fz⟩ := ops_own_at HO3.out.1 HSQ.out.len a HAB.out.1 q3[a] (List.getElem?_eq_getElem haq)
  obtain ⟨jb, ⟨b0, b1, b2, b3, b4, b5⟩, -⟩ := ops_own_at HO3.out.1 HSQ.out.len b HAB.out.2 q3[b] (List.getElem?_eq_getElem hbq)
  obtain ⟨ba, ca, hfa, -⟩ := own_src (HO3.out.2 g rfl) haq
  obtain ⟨bb, cb, hfb, -⟩ := own_src (HO3.out.2 g rfl) hbq
  have HST := Lib.hid (ExTo.start HSQ.out haq hbq)
  have HS1 := Lib.hid (HO3.out.swap HSQ.out.len haq hbq)
  have HS2 := Lib.hid (fun hab => HO3.out.swap' HSQ.out.len haq hbq hab)
  have HLP := Lib.hid (show ∀ V, (∃ V', V = V'.drew ∧ ProgOwn V' w.heap.size (.slice (some ⟨g, 0, none⟩) p.length cap) ((q3.set a q3[b]).set b q3[a])) → Below w.heap.size w V → SwL w p a b g cap 0 0 V from fun V hV hb => by
    obtain ⟨V', rfl, h⟩ := hV
    exact ⟨_, HST.out, h.kept (Below.refl _ _).drew, hb⟩)
  clear fz hfa hfb a0 a1 a2 a3 a4 a5 b0 b1 b2 b3 b4 b5 ja jb
  go_cut [7] from 12 to 25 (fun t7 wx => t7 = .slice (some ⟨g, 0, none⟩) p.length cap ∧ Hid (SwL w p a b g cap 0 0 wx))
  case first =>
    clear HST
    by_cases hab : a = b
    · subst hab
      obtain ⟨ja, ⟨a0, a1, a2, a3, a4, a5⟩, fz⟩ := ops_own_at HO3.out.1 HSQ.out.len a HAB.out.1 q3[a] (List.getElem?_eq_getElem haq)
      obtain ⟨ba, ca, hfa, -⟩ := own_src (HO3.out.2 g rfl) haq
      clear HS2
      generalize q3[a] = oa at *
      generalize (q3.set a oa).set a oa = qs at *
      obtain ⟨t, ⟨c0, c1⟩, u, kd, fv, src⟩ := oa
      simp only at a0 a1 a2 a3 a4 a5 hfa HS1
      subst hfa
      generalize 6 * a = AA at *
      have f0 := fz AA; have f1 := fz (AA + 1); have f2 := fz (AA + 2); have f3 := fz (AA + 3); have f4 := fz (AA + 4); have f5 := fz (AA + 5)
      clear fz HSQ haq hbq HAB
      go_big_region
      all_goals (try go_wp2_with fail)
      all_goals go_meet
      all_goals refine ⟨rfl, Lib.hid (HLP.out _ ⟨_, rfl, HS1.out⟩ ?_)⟩
      all_goals exact (by (repeat (first | (with_reducible refine Below.setCell ?_ (by first | (simp; done) | (simp; omega) | omega) _) | (with_reducible refine Below.drew ?_) | (with_reducible refine below_drewN ?_ _))); with_reducible exact HB3.out)
    · obtain ⟨ja, ⟨a0, a1, a2, a3, a4, a5⟩, fz⟩ := ops_own_at HO3.out.1 HSQ.out.len a HAB.out.1 q3[a] (List.getElem?_eq_getElem haq)
      obtain ⟨jb, ⟨b0, b1, b2, b3, b4, b5⟩, -⟩ := ops_own_at HO3.out.1 HSQ.out.len b HAB.out.2 q3[b] (List.getElem?_eq_getElem hbq)
      obtain ⟨ba, ca, hfa, -⟩ := own_src (HO3.out.2 g rfl) haq
      obtain ⟨bb, cb, hfb, -⟩ := own_src (HO3.out.2 g rfl) hbq
      have HS3 := Lib.hid (HS2.out hab)
      generalize q3[a] = oa at *
      generalize q3[b] = ob at *
      generalize (q3.set a ob).set b oa = qs at *
      obtain ⟨t, ⟨c0, c1⟩, u, kd, fv, src⟩ := oa
      obtain ⟨t', ⟨c0', c1'⟩, u', kd', fv', src'⟩ := ob
      simp only at a0 a1 a2 a3 a4 a5 b0 b1 b2 b3 b4 b5 hfa hfb HS1 HS3
      subst hfa hfb
      have hAB : 6 * a + 6 ≤ 6 * b ∨ 6 * b + 6 ≤ 6 * a := by omega
      clear HS2
      generalize 6 * a = AA at *
      generalize 6 * b = BB at *
      have f0 := fz AA; have f1 := fz (AA + 1); have f2 := fz (AA + 2); have f3 := fz (AA + 3); have f4 := fz (AA + 4); have f5 := fz (AA + 5)
      have e0 := fz BB; have e1 := fz (BB + 1); have e2 := fz (BB + 2); have e3 := fz (BB + 3); have e4 := fz (BB + 4); have e5 := fz (BB + 5)
      have z1 : (AA = BB) = False := eq_false (by omega); have z2 : (BB = AA) = False := eq_false (by omega)
      have z3 : (AA = BB + 1) = False := eq_false (by omega); have z4 : (BB = AA + 1) = False := eq_false (by omega)
      have z5 : (AA = BB + 2) = False := eq_false (by omega); have z6 : (BB = AA + 2) = False := eq_false (by omega)
      have z7 : (AA = BB + 3) = False := eq_false (by omega); have z8 : (BB = AA + 3) = False := eq_false (by omega)
      have z9 : (AA = BB + 4) = False := eq_false (by omega); have z10 : (BB = AA + 4) = False := eq_false (by omega)
      have z11 : (AA = BB + 5) = False := eq_false (by omega); have z12 : (BB = AA + 5) = False := eq_false (by omega)
      have y3 : (AA + 1 = BB) = False := eq_false (by omega); have y4 : (BB + 1 = AA) = False := eq_false (by omega)
      have y5 : (AA + 2 = BB) = False := eq_false (by omega); have y6 : (BB + 2 = AA) = False := eq_false (by omega)
      have y7 : (AA + 3 = BB) = False := eq_false (by omega); have y8 : (BB + 3 = AA) = False := eq_false (by omega)
      have y9 : (AA + 4 = BB) = False := eq_false (by omega); have y10 : (BB + 4 = AA) = False := eq_false (by omega)
      have y11 : (AA + 5 = BB) = False := eq_false (by omega); have y12 : (BB + 5 = AA) = False := eq_false (by omega)
      clear fz HSQ haq hbq HAB hab hAB
      go_big_region
      all_goals (try go_wp2_with fail)
      all_goals go_meet
      all_goals first | refine ⟨rfl, Lib.hid (HLP.out _ ⟨_, rfl, HS1.out⟩ ?_)⟩ | refine ⟨rfl, Lib.hid (HLP.out _ ⟨_, rfl, HS3.out⟩ ?_)⟩
      all_goals exact (by (repeat (first | (with_reducible refine Below.setCell ?_ (by first | (simp; done) | (simp; omega) | omega) _) | (with_reducible refine Below.drew ?_) | (with_reducible refine below_drewN ?_ _))); with_reducible exact HB3.out)
  case rest =>
    obtain ⟨rfl, HL⟩ := hcut
    have hg0 : w.heap.size ≤ g := hg1
    have HFN := Lib.hid (fun V q (h : ExTo a b p q p.length 0) (ho : ProgOwn V w.heap.size (.slice (some ⟨g, 0, none⟩) p.length cap) q) => show SwR p a b w.heap.size (.returned (.slice (some ⟨g, 0, none⟩) p.length cap)) V from ⟨_, q, rfl, ho, h.done HAB.out.1 HAB.out.2⟩)
    have hab3 : a < p.length ∧ b < p.length := HAB.out
    clear HO3 HSQ HS1 HS2 HLP HST HB3 haq hbq hg1 hg2
    generalize q3 = q0 at *
    go_wp2_with fail
    go_loopw [8] (fun t8 wr => ∃ i : Nat, i ≤ p.length ∧ t8 = .int .i64 (i : Nat) ∧ Hid (SwL w p a b g cap i 0 wr)) (fun t8 _ => p.length - (intOf t8).toNat)
    case atStart => exact ⟨0, Nat.zero_le _, rfl, HL⟩
    case round =>
      obtain ⟨i, hi, rfl, HR⟩ := hrel
      by_cases hlt : i < p.length
      rotate_left
      · have hie : i = p.length := by omega
        have hlz : ¬ (i : Int) < (p.length : Int) := by omega
        obtain ⟨q, hex, hown, hbr⟩ := HR.out
        rw [hie] at hex
        have HF := Lib.hid (HFN.out wr q hex hown)
        clear hie hex hown hlt
        go_wp2
        go_ret
        exact ⟨HF.out, hbr⟩
      have hlz : (i : Int) < (p.length : Int) := by omega
      have hei : exI a b i < p.length := exI_lt hab3.1 hab3.2 hlt
      have HEI := Lib.hid hei
      obtain ⟨N, hN⟩ : ∃ N, N = p[exI a b i].src.length := ⟨_, rfl⟩
      have HN := Lib.hid hN
      have HLT := Lib.hid hlt
      clear hN hei hlt
      go_wp2_with fail
      obtain ⟨wo, hwo⟩ : ∃ x : World, x = wr := ⟨_, rfl⟩
      subst hwo
      go_loopw [9] (fun t9 wr => ∃ k : Nat, k ≤ N ∧ t9 = .int .i64 (k : Nat) ∧ Hid (SwL w p a b g cap i k wr)) (fun t9 _ => N - (intOf t9).toNat)
      case atStart => exact ⟨0, Nat.zero_le _, rfl, HR⟩
      case round =>
        obtain ⟨k, hk, rfl, HK⟩ := hrel
        obtain ⟨q, hex, hown, hbr⟩ := HK.out
        have hiq : i < q.length := by rw [hex.len]; exact HLT.out
        have hsl : q[i].src.length = N := (hex.slen hiq HEI.out).trans HN.out.symm
        obtain ⟨bi, ci, hfv, hbi, hbw, hsc⟩ := own_src (hown.2 g rfl) hiq
        obtain ⟨ji, ⟨-, -, -, -, -, d5⟩, -⟩ := ops_own_at hown.1 hex.len i HLT.out q[i] (List.getElem?_eq_getElem hiq)
        rw [hfv] at d5
        rw [hsl] at d5
        have hN3 : (N : Int) ≤ 9223372036854775807 := by
          have := (hown.2 g rfl).own i hiq hiq
          have h2 := this.1
          unfold SrcOwn at h2
          obtain ⟨a9, c9, e9, h9⟩ := (OwnOf.sl h2).shape
          omega
        by_cases hkn : k < N
        rotate_left
        · have hkz : ¬ (k : Int) < (N : Int) := by omega
          have HNX := Lib.hid (show SwL w p a b g cap (i + 1) 0 wr from ⟨q, hex.next hiq HEI.out (by omega), hown, hbr⟩)
          clear hex hown hbr hsc hfv hsl hiq hkn
          go_wp2
          go_roundw
          case rel => exact ⟨i + 1, HLT.out, by simp, HNX⟩
          case measure => simp only [intOf]; have := HLT.out; omega
        have hkz : (k : Int) < (N : Int) := by omega
        have hks : k < q[i].src.length := by omega
        obtain ⟨jk, s0, f0⟩ := hsc k hks
        have HPUT := Lib.hid (fun (x : Int) (hx : ({ q[i].src[k] with op := x } : SrcD) = exS a b q[i].src[k]) => show SwL w p a b g cap i (k + 1) (wr.setCell ⟨bi, 3 * k, none⟩ (.int .i64 x)) from
          ⟨_, hex.step hiq hks _ hx, hown.srcput hiq (hfv.trans (by rw [hsl])) hsl k hks x, hbr.setCell (p := ⟨bi, 3 * k, none⟩) hbi _⟩)
        have HSKP := Lib.hid (fun (hx : exS a b q[i].src[k] = q[i].src[k]) => show SwL w p a b g cap i (k + 1) wr from ⟨q, hex.skip hiq hks hx, hown, hbr⟩)
        simp only [hsl] at jk
        have HKN := Lib.hid hkn
        clear hex hown hbr hsc hfv hsl hkn
        generalize q[i].src[k] = s at *
        clear hks hiq
        obtain ⟨op, val, hops⟩ := s
        simp only at s0 HPUT HSKP
        by_cases h1 : op = (a : Int)
        · have hd1 : (op == (a : Int)) = true := beq_iff_eq.2 h1
          have HN1 := Lib.hid (HPUT.out (b : Int) (exS_a (s := ⟨op, val, hops⟩) h1))
          clear h1 HPUT HSKP
          go_wp2
          go_roundw
          case rel => exact ⟨k + 1, HKN.out, by simp, HN1⟩
          case measure => simp only [intOf]; have := HKN.out; omega
        · have hd1 : (op == (a : Int)) = false := beq_eq_false_iff_ne.2 h1
          by_cases h2 : op = (b : Int)
          · have hd2 : (op == (b : Int)) = true := beq_iff_eq.2 h2
            have HN1 := Lib.hid (HPUT.out (a : Int) (exS_b (s := ⟨op, val, hops⟩) h1 h2))
            clear h1 h2 HPUT HSKP
            go_wp2
            go_roundw
            case rel => exact ⟨k + 1, HKN.out, by simp, HN1⟩
            case measure => simp only [intOf]; have := HKN.out; omega
          · have hd2 : (op == (b : Int)) = false := beq_eq_false_iff_ne.2 h2
            have HN1 := Lib.hid (HSKP.out (exS_no h1 h2))
            clear h1 h2 HPUT HSKP
            go_wp2
            go_roundw
            case rel => exact ⟨k + 1, HKN.out, by simp, HN1⟩
            case measure => simp only [intOf]; have := HKN.out; omega
end Go.Proofs.Ytbjbdochffocoaa
