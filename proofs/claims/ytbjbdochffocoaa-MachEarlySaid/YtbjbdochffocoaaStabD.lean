/- slices.symMergeCmpFunc at whole numbers: its walk. -/
import Derived.Test.YtbjbdochffocoaaStabC
namespace Go.Proofs.Ytbjbdochffocoaa
open Go.Shelf Go.RowKit Go.Lib Go.Sort
set_option linter.unusedVariables false
section
variable {α : Type} [Inhabited α] (val : α → Int)
set_option maxHeartbeats 8000000 in
set_option maxRecDepth 100000 in
theorem symLeft_s (lt : α → α → Prop) (ht : ∀ x y z, lt x y → lt y z → lt x z) (cf : α → α → Int) (g : Nat) (cb : Array Value) (eg : ∀ args w, (callFunc g args).run Try.prog w = .ok (.enter g args) w) (blk off cap a m b : Nat) (d0 d : Array α) (w0 w : World) (hcmp : CmpLays1 Try.prog g cb (encX val) cf blk off d0.size w0)
    (R : Row1 (encX val) w0 blk off d0) (hs : d0.size = d.size) (S : SW (encX val) w0 blk off d w) (hma1 : m ≤ a + 1) (hma2 : a + 1 ≤ m) (hmb : m < b) (hb : b ≤ d.size) (hsz : d.size < 2305843009213693952)
    (h2 : SrtF lt (getF d) m b) (h3 : CrsF lt (ltOf cf) (getF d) a m b) :
    Calls Try.prog 79 #[.slice (some ⟨blk, off, none⟩) d.size cap, .int .i64 (a : Int), .int .i64 (m : Int), .int .i64 (b : Int), .func (.func g) #[] cb] w fun e w' => e = .returned (.tuple #[]) ∧ ∃ d' : Array α, d'.size = d.size ∧ Mrg lt (getF d) (getF d') a b ∧ SW (encX val) w0 blk off d' w' := by
  have S0 : Aside (SW (encX val) w0 blk off d w) := S
  clear S
  have HC : Aside _ := hcmp
  clear hcmp
  have mixed : Try.prog.follows .mixedOrders = true := by kernel_rfl
  have H2 := Lib.hid (show SrtF lt (getF d) (a + 1) b by rw [show a + 1 = m by omega]; exact h2); have H3 := Lib.hid (show CrsF lt (ltOf cf) (getF d) a (a + 1) b by rw [show a + 1 = m by omega]; exact h3); have HT := Lib.hid ht
  have hone : ((m : Int) - (a : Int) == 1) = true := by rw [beq_iff_eq]; omega
  clear h2 h3 ht
  go_enter Try.func79, Try.ntmps79
  go_wp2
  go_loopg [10, 11] (b - a) (fun kx s10 s11 wr => ∃ (i j : Nat), s10 = .int .i64 (i : Int) ∧ s11 = .int .i64 (j : Int) ∧ (a + 1 ≤ i ∧ i ≤ j ∧ j ≤ b) ∧ j - i ≤ kx ∧ Aside (SW (encX val) w0 blk off d wr) ∧ Hid ((∀ h, a + 1 ≤ h → h < i → lt (getF d h) (getF d a)) ∧ (∀ h, j ≤ h → h < b → lt (getF d a) (getF d h))))
  case atStart => exact ⟨m, b, rfl, rfl, by omega, by omega, S0, Lib.hid ⟨fun h h1 h2 => by omega, fun h h1 h2 => by omega⟩⟩
  case round =>
    clear S0
    obtain ⟨i, j, rfl, rfl, ⟨hi1, hij, hjb⟩, hkx, S1, HI⟩ := hrel
    by_cases hlt : i < j
    rotate_left
    · have hij2 : i = j := by omega
      subst hij2
      have hz : ¬ (i : Int) < (i : Int) := by omega
      clear hlt
      go_wp2
      go_loopg [13] (i - a) (fun kx s13 wr => ∃ (k : Nat) (dk : Array α), s13 = .int .i64 (k : Int) ∧ (a ≤ k ∧ k + 1 ≤ i) ∧ i - (k + 1) ≤ kx ∧ dk.size = d.size ∧ Aside (SW (encX val) w0 blk off dk wr) ∧ Hid (getF dk = rotF a (a + 1) (k + 1) (getF d)))
      case atStart => exact ⟨a, d, rfl, by omega, by omega, rfl, S1, Lib.hid (rot_start _).symm⟩
      case round =>
        clear S1
        obtain ⟨k, dk, rfl, ⟨hk1, hk2⟩, hkx2, hds, S1, HG⟩ := hrel
        by_cases hk : k + 1 < i
        rotate_left
        · have hki : k + 1 = i := by omega
          have hz2 : ¬ (k : Int) < (i : Int) - 1 := by omega
          go_wp2
          (try simp only [Exit.inBlock, Exit.then])
          refine bodyPost_ret (results_none rfl _ _ _) rfl ?_
          exact ⟨rfl, dk, hds, by rw [HG.out, hki]; exact mrg_left (by omega) (by omega) H2.out HI.out.1 HI.out.2, S1.out⟩
        · have hz2 : (k : Int) < (i : Int) - 1 := by omega
          go_wp2_with fail
          obtain ⟨iN, hiN⟩ : ∃ iQ, iQ = k := ⟨_, rfl⟩
          obtain ⟨jN, hjN⟩ : ∃ iQ, iQ = k + 1 := ⟨_, rfl⟩
          have ia := ix_srt blk off d.size cap iN ((k : Int)) (by omega) (by omega)
          have ja := ix_srt blk off d.size cap jN ((k : Int) + 1) (by omega) (by omega)
          have ra : IntKind.i64.wrap ((k : Int)) = (k : Int) := by rw [IntKind.wrap_i64]; omega
          have rc : IntKind.i64.wrap ((k : Int) + 1) = (k : Int) + 1 := by rw [IntKind.wrap_i64]; omega
          obtain ⟨xe, hxe⟩ : ∃ x, x = dk[k]! := ⟨_, rfl⟩
          obtain ⟨ye, hye⟩ : ∃ x, x = dk[k + 1]! := ⟨_, rfl⟩
          have S2 : Aside (SW (encX val) w0 blk off (swp dk (k) (k + 1)) ((wr.setCell ⟨blk, off + iN, none⟩ (encX val ye)).setCell ⟨blk, off + jN, none⟩ (encX val xe)).drew) := by rw [hiN, hjN, hxe, hye]; exact S1.out.swapped R (k) (k + 1) (by omega) (by omega)
          have ca := S1.out.c1 R (by omega) (k) (by omega)
          have cc := S1.out.c1 R (by omega) (k + 1) (by omega)
          have fa := S1.out.f1 R (by omega) (k) (by omega)
          have fc := S1.out.f1 R (by omega) (k + 1) (by omega)
          obtain ⟨ue, ce⟩ := S1.out.c2 R (by omega) (k) (k + 1) (by omega) (by omega) (encX val ye)
          first | rw [← hjN, ← hiN] at ce | rw [← hiN, ← hjN] at ce
          rw [← hxe, ← hiN] at ca
          rw [← hye, ← hjN] at cc
          rw [← hiN] at fa
          rw [← hjN] at fc
          clear S1 hxe hye hiN hjN
          go_wp2_with fail
          go_big_region
          clear ca cc ce fa fc ia ja ra rc
          generalize ((wr.setCell ⟨blk, off + iN, none⟩ (encX val ye)).setCell ⟨blk, off + jN, none⟩ (encX val xe)).drew = w2 at S2 ⊢
          go_wp2
          go_roundg (i - (k + 1 + 1))
          case measure => omega
          case rel => exact ⟨k + 1, swp dk k (k + 1), by simp, by omega, by omega, by rw [size_swp]; exact hds, S2, Lib.hid (by rw [getF_swp dk (by omega) (by omega), HG.out, rot_up _ (by omega)])⟩
    · have hz : (i : Int) < (j : Int) := by omega
      obtain ⟨c, hc1, hc2, hc3⟩ : ∃ c, c = (i + j) / 2 ∧ i ≤ c ∧ c < j := ⟨_, rfl, by omega, by omega⟩
      have hcr := H3.out a c (by omega) (by omega) (by omega) (by omega)
      have HCR := Lib.hid hcr; clear hcr
      by_cases hcf : cf d[c]! d[a]! < 0
      · have HCV := Lib.hid hcf
        have HCF := Lib.hid (show ltOf cf (getF d c) (getF d a) = true from decide_eq_true hcf)
        clear hcf
        go_wp2_with fail
        obtain ⟨iN, hiN⟩ : ∃ iQ, iQ = c := ⟨_, rfl⟩
        obtain ⟨jN, hjN⟩ : ∃ iQ, iQ = a := ⟨_, rfl⟩
        have ia := ix_srt blk off d.size cap iN (((i : Int) + (j : Int)) / 2) (by omega) (by omega)
        have ja := ix_srt blk off d.size cap jN ((a : Int)) (by omega) (by omega)
        have ra : IntKind.i64.wrap (((i : Int) + (j : Int)) / 2) = ((i : Int) + (j : Int)) / 2 := by rw [IntKind.wrap_i64]; omega
        have rc : IntKind.i64.wrap ((a : Int)) = (a : Int) := by rw [IntKind.wrap_i64]; omega
        obtain ⟨xe, hxe⟩ : ∃ x, x = d[c]! := ⟨_, rfl⟩
        obtain ⟨ye, hye⟩ : ∃ x, x = d[a]! := ⟨_, rfl⟩
        have la := S1.out.cl R (by omega) (c) (by omega)
        have lb := S1.out.cl R (by omega) (a) (by omega)
        rw [← hxe, ← hiN] at la
        rw [← hye, ← hjN] at lb
        have hcc := S1.out.cmp HC.out (by omega) xe ye
        have hv : cf xe ye < 0 := by rw [hxe, hye]; first | exact HCV.out | (have := HCV.out; omega)
        have hd : decide (cf xe ye < 0) = true := by first | exact decide_eq_true hv | exact decide_eq_false hv
        clear hxe hye hiN hjN
        go_wp2_with fail
        go_quiet_grown (first | (go_at_fn g; refine Calls.grown_of (hcc _ _)))
        have S2 : Aside (SW (encX val) w0 blk off d (grow (wr.drewN nq) osq)) := S1.out.grown nq osq
        clear la lb hcc S1 ia ja ra rc
        generalize grow (wr.drewN nq) osq = w2 at S2 ⊢
        clear nq osq
        go_wp2
        go_roundg (j - (c + 1))
        case measure => omega
        case rel =>
          refine ⟨c + 1, j, by congr 1; omega, rfl, by omega, by omega, S2, Lib.hid ⟨fun h g1 g2 => ?_, HI.out.2⟩⟩
          have hca := HCR.out.1 HCF.out
          by_cases hh : h = c
          · rw [hh]; exact hca
          · exact HT.out _ _ _ (H2.out h c g1 (by omega) (by omega)) hca
      · have HCV := Lib.hid hcf
        have HCF := Lib.hid (show ltOf cf (getF d c) (getF d a) = false from decide_eq_false hcf)
        clear hcf
        go_wp2_with fail
        obtain ⟨iN, hiN⟩ : ∃ iQ, iQ = c := ⟨_, rfl⟩
        obtain ⟨jN, hjN⟩ : ∃ iQ, iQ = a := ⟨_, rfl⟩
        have ia := ix_srt blk off d.size cap iN (((i : Int) + (j : Int)) / 2) (by omega) (by omega)
        have ja := ix_srt blk off d.size cap jN ((a : Int)) (by omega) (by omega)
        have ra : IntKind.i64.wrap (((i : Int) + (j : Int)) / 2) = ((i : Int) + (j : Int)) / 2 := by rw [IntKind.wrap_i64]; omega
        have rc : IntKind.i64.wrap ((a : Int)) = (a : Int) := by rw [IntKind.wrap_i64]; omega
        obtain ⟨xe, hxe⟩ : ∃ x, x = d[c]! := ⟨_, rfl⟩
        obtain ⟨ye, hye⟩ : ∃ x, x = d[a]! := ⟨_, rfl⟩
        have la := S1.out.cl R (by omega) (c) (by omega)
        have lb := S1.out.cl R (by omega) (a) (by omega)
        rw [← hxe, ← hiN] at la
        rw [← hye, ← hjN] at lb
        have hcc := S1.out.cmp HC.out (by omega) xe ye
        have hv : ¬ cf xe ye < 0 := by rw [hxe, hye]; first | exact HCV.out | (have := HCV.out; omega)
        have hd : decide (cf xe ye < 0) = false := by first | exact decide_eq_true hv | exact decide_eq_false hv
        clear hxe hye hiN hjN
        go_wp2_with fail
        go_quiet_grown (first | (go_at_fn g; refine Calls.grown_of (hcc _ _)))
        have S2 : Aside (SW (encX val) w0 blk off d (grow (wr.drewN nq) osq)) := S1.out.grown nq osq
        clear la lb hcc S1 ia ja ra rc
        generalize grow (wr.drewN nq) osq = w2 at S2 ⊢
        clear nq osq
        go_wp2
        go_roundg (c - i)
        case measure => omega
        case rel =>
          refine ⟨i, c, rfl, by congr 1; omega, by omega, by omega, S2, Lib.hid ⟨HI.out.1, fun h g1 g2 => ?_⟩⟩
          have hca := HCR.out.2 HCF.out
          by_cases hh : h = c
          · rw [hh]; exact hca
          · exact HT.out _ _ _ hca (H2.out c h (by omega) (by omega) g2)
set_option maxHeartbeats 8000000 in
set_option maxRecDepth 100000 in
theorem symRight_s (lt : α → α → Prop) (ht : ∀ x y z, lt x y → lt y z → lt x z) (cf : α → α → Int) (g : Nat) (cb : Array Value) (eg : ∀ args w, (callFunc g args).run Try.prog w = .ok (.enter g args) w) (blk off cap a m b : Nat) (d0 d : Array α) (w0 w : World) (hcmp : CmpLays1 Try.prog g cb (encX val) cf blk off d0.size w0)
    (R : Row1 (encX val) w0 blk off d0) (hs : d0.size = d.size) (S : SW (encX val) w0 blk off d w) (ham : a + 1 < m) (hbm1 : b ≤ m + 1) (hbm2 : m + 1 ≤ b) (hb : b ≤ d.size) (hsz : d.size < 2305843009213693952)
    (h2 : SrtF lt (getF d) a m) (h3 : CrsF lt (ltOf cf) (getF d) a m b) :
    Calls Try.prog 79 #[.slice (some ⟨blk, off, none⟩) d.size cap, .int .i64 (a : Int), .int .i64 (m : Int), .int .i64 (b : Int), .func (.func g) #[] cb] w fun e w' => e = .returned (.tuple #[]) ∧ ∃ d' : Array α, d'.size = d.size ∧ Mrg lt (getF d) (getF d') a b ∧ SW (encX val) w0 blk off d' w' := by
  have S0 : Aside (SW (encX val) w0 blk off d w) := S
  clear S
  have HC : Aside _ := hcmp
  clear hcmp
  have mixed : Try.prog.follows .mixedOrders = true := by kernel_rfl
  have H2 := Lib.hid h2; have H3 := Lib.hid h3; have HT := Lib.hid ht
  have hone : ((m : Int) - (a : Int) == 1) = false := by rw [beq_eq_false_iff_ne]; omega
  have hone2 : ((b : Int) - (m : Int) == 1) = true := by rw [beq_iff_eq]; omega
  clear h2 h3 ht
  go_enter Try.func79, Try.ntmps79
  go_wp2
  go_loopg [14, 15] (b - a) (fun kx s14 s15 wr => ∃ (i j : Nat), s14 = .int .i64 (i : Int) ∧ s15 = .int .i64 (j : Int) ∧ (a ≤ i ∧ i ≤ j ∧ j ≤ m) ∧ j - i ≤ kx ∧ Aside (SW (encX val) w0 blk off d wr) ∧ Hid ((∀ h, a ≤ h → h < i → lt (getF d h) (getF d m)) ∧ (∀ h, j ≤ h → h < m → lt (getF d m) (getF d h))))
  case atStart => exact ⟨a, m, rfl, rfl, by omega, by omega, S0, Lib.hid ⟨fun h h1 h2 => by omega, fun h h1 h2 => by omega⟩⟩
  case round =>
    clear S0
    obtain ⟨i, j, rfl, rfl, ⟨hi1, hij, hjb⟩, hkx, S1, HI⟩ := hrel
    by_cases hlt : i < j
    rotate_left
    · have hij2 : i = j := by omega
      subst hij2
      have hz : ¬ (i : Int) < (i : Int) := by omega
      clear hlt
      go_wp2
      go_loopg [17] (m - i) (fun kx s17 wr => ∃ (k : Nat) (dk : Array α), s17 = .int .i64 (k : Int) ∧ (i ≤ k ∧ k ≤ m) ∧ k - i ≤ kx ∧ dk.size = d.size ∧ Aside (SW (encX val) w0 blk off dk wr) ∧ Hid (getF dk = rotF k m (m + 1) (getF d)))
      case atStart => exact ⟨m, d, rfl, by omega, by omega, rfl, S1, Lib.hid (rot_end _).symm⟩
      case round =>
        clear S1
        obtain ⟨k, dk, rfl, ⟨hk1, hk2⟩, hkx2, hds, S1, HG⟩ := hrel
        by_cases hk : i < k
        rotate_left
        · have hki : k = i := by omega
          have hz2 : ¬ (i : Int) < (k : Int) := by omega
          go_wp2
          (try simp only [Exit.inBlock, Exit.then])
          refine bodyPost_ret (results_none rfl _ _ _) rfl ?_
          exact ⟨rfl, dk, hds, by rw [HG.out, hki, show b = m + 1 by omega]; exact mrg_right (by omega) (by omega) H2.out HI.out.1 HI.out.2, S1.out⟩
        · obtain ⟨kp, rfl⟩ : ∃ kp, k = kp + 1 := ⟨k - 1, by omega⟩
          have hz2 : (i : Int) < (kp : Int) + 1 := by omega
          have hz3 : ((kp + 1 : Nat) : Int) = (kp : Int) + 1 := by omega
          go_wp2_with fail
          obtain ⟨iN, hiN⟩ : ∃ iQ, iQ = kp + 1 := ⟨_, rfl⟩
          obtain ⟨jN, hjN⟩ : ∃ iQ, iQ = kp := ⟨_, rfl⟩
          have ia := ix_srt blk off d.size cap iN ((kp : Int) + 1) (by omega) (by omega)
          have ja := ix_srt blk off d.size cap jN ((kp : Int)) (by omega) (by omega)
          have ra : IntKind.i64.wrap ((kp : Int) + 1) = (kp : Int) + 1 := by rw [IntKind.wrap_i64]; omega
          have rc : IntKind.i64.wrap ((kp : Int)) = (kp : Int) := by rw [IntKind.wrap_i64]; omega
          obtain ⟨xe, hxe⟩ : ∃ x, x = dk[kp + 1]! := ⟨_, rfl⟩
          obtain ⟨ye, hye⟩ : ∃ x, x = dk[kp]! := ⟨_, rfl⟩
          have S2 : Aside (SW (encX val) w0 blk off (swp dk (kp + 1) (kp)) ((wr.setCell ⟨blk, off + iN, none⟩ (encX val ye)).setCell ⟨blk, off + jN, none⟩ (encX val xe)).drew) := by rw [hiN, hjN, hxe, hye]; exact S1.out.swapped R (kp + 1) (kp) (by omega) (by omega)
          have ca := S1.out.c1 R (by omega) (kp + 1) (by omega)
          have cc := S1.out.c1 R (by omega) (kp) (by omega)
          have fa := S1.out.f1 R (by omega) (kp + 1) (by omega)
          have fc := S1.out.f1 R (by omega) (kp) (by omega)
          obtain ⟨ue, ce⟩ := S1.out.c2 R (by omega) (kp + 1) (kp) (by omega) (by omega) (encX val ye)
          first | rw [← hjN, ← hiN] at ce | rw [← hiN, ← hjN] at ce
          rw [← hxe, ← hiN] at ca
          rw [← hye, ← hjN] at cc
          rw [← hiN] at fa
          rw [← hjN] at fc
          clear S1 hxe hye hiN hjN
          go_wp2_with fail
          go_big_region
          clear ca cc ce fa fc ia ja ra rc
          generalize ((wr.setCell ⟨blk, off + iN, none⟩ (encX val ye)).setCell ⟨blk, off + jN, none⟩ (encX val xe)).drew = w2 at S2 ⊢
          go_wp2
          go_roundg (kp - i)
          case measure => omega
          case rel => exact ⟨kp, swp dk (kp + 1) kp, by first | rfl | simp, by omega, by omega, by rw [size_swp]; exact hds, S2, Lib.hid (by rw [getF_swp dk (by omega) (by omega), HG.out, rot_down _ (by omega)])⟩
    · have hz : (i : Int) < (j : Int) := by omega
      obtain ⟨c, hc1, hc2, hc3⟩ : ∃ c, c = (i + j) / 2 ∧ i ≤ c ∧ c < j := ⟨_, rfl, by omega, by omega⟩
      have hcr := H3.out c m (by omega) (by omega) (by omega) (by omega)
      have HCR := Lib.hid hcr; clear hcr
      by_cases hcf : cf d[m]! d[c]! < 0
      · have HCV := Lib.hid hcf
        have HCF := Lib.hid (show ltOf cf (getF d m) (getF d c) = true from decide_eq_true hcf)
        clear hcf
        go_wp2_with fail
        obtain ⟨iN, hiN⟩ : ∃ iQ, iQ = m := ⟨_, rfl⟩
        obtain ⟨jN, hjN⟩ : ∃ iQ, iQ = c := ⟨_, rfl⟩
        have ia := ix_srt blk off d.size cap iN ((m : Int)) (by omega) (by omega)
        have ja := ix_srt blk off d.size cap jN (((i : Int) + (j : Int)) / 2) (by omega) (by omega)
        have ra : IntKind.i64.wrap ((m : Int)) = (m : Int) := by rw [IntKind.wrap_i64]; omega
        have rc : IntKind.i64.wrap (((i : Int) + (j : Int)) / 2) = ((i : Int) + (j : Int)) / 2 := by rw [IntKind.wrap_i64]; omega
        obtain ⟨xe, hxe⟩ : ∃ x, x = d[m]! := ⟨_, rfl⟩
        obtain ⟨ye, hye⟩ : ∃ x, x = d[c]! := ⟨_, rfl⟩
        have la := S1.out.cl R (by omega) (m) (by omega)
        have lb := S1.out.cl R (by omega) (c) (by omega)
        rw [← hxe, ← hiN] at la
        rw [← hye, ← hjN] at lb
        have hcc := S1.out.cmp HC.out (by omega) xe ye
        have hv : cf xe ye < 0 := by rw [hxe, hye]; first | exact HCV.out | (have := HCV.out; omega)
        have hd : decide (cf xe ye < 0) = true := by first | exact decide_eq_true hv | exact decide_eq_false hv
        clear hxe hye hiN hjN
        go_wp2_with fail
        go_quiet_grown (first | (go_at_fn g; refine Calls.grown_of (hcc _ _)))
        have S2 : Aside (SW (encX val) w0 blk off d (grow (wr.drewN nq) osq)) := S1.out.grown nq osq
        clear la lb hcc S1 ia ja ra rc
        generalize grow (wr.drewN nq) osq = w2 at S2 ⊢
        clear nq osq
        go_wp2
        go_roundg (c - i)
        case measure => omega
        case rel =>
          refine ⟨i, c, rfl, by congr 1; omega, by omega, by omega, S2, Lib.hid ⟨HI.out.1, fun h g1 g2 => ?_⟩⟩
          have hca := HCR.out.1 HCF.out
          by_cases hh : h = c
          · rw [hh]; exact hca
          · exact HT.out _ _ _ hca (H2.out c h (by omega) (by omega) g2)
      · have HCV := Lib.hid hcf
        have HCF := Lib.hid (show ltOf cf (getF d m) (getF d c) = false from decide_eq_false hcf)
        clear hcf
        go_wp2_with fail
        obtain ⟨iN, hiN⟩ : ∃ iQ, iQ = m := ⟨_, rfl⟩
        obtain ⟨jN, hjN⟩ : ∃ iQ, iQ = c := ⟨_, rfl⟩
        have ia := ix_srt blk off d.size cap iN ((m : Int)) (by omega) (by omega)
        have ja := ix_srt blk off d.size cap jN (((i : Int) + (j : Int)) / 2) (by omega) (by omega)
        have ra : IntKind.i64.wrap ((m : Int)) = (m : Int) := by rw [IntKind.wrap_i64]; omega
        have rc : IntKind.i64.wrap (((i : Int) + (j : Int)) / 2) = ((i : Int) + (j : Int)) / 2 := by rw [IntKind.wrap_i64]; omega
        obtain ⟨xe, hxe⟩ : ∃ x, x = d[m]! := ⟨_, rfl⟩
        obtain ⟨ye, hye⟩ : ∃ x, x = d[c]! := ⟨_, rfl⟩
        have la := S1.out.cl R (by omega) (m) (by omega)
        have lb := S1.out.cl R (by omega) (c) (by omega)
        rw [← hxe, ← hiN] at la
        rw [← hye, ← hjN] at lb
        have hcc := S1.out.cmp HC.out (by omega) xe ye
        have hv : ¬ cf xe ye < 0 := by rw [hxe, hye]; first | exact HCV.out | (have := HCV.out; omega)
        have hd : decide (cf xe ye < 0) = false := by first | exact decide_eq_true hv | exact decide_eq_false hv
        clear hxe hye hiN hjN
        go_wp2_with fail
        go_quiet_grown (first | (go_at_fn g; refine Calls.grown_of (hcc _ _)))
        have S2 : Aside (SW (encX val) w0 blk off d (grow (wr.drewN nq) osq)) := S1.out.grown nq osq
        clear la lb hcc S1 ia ja ra rc
        generalize grow (wr.drewN nq) osq = w2 at S2 ⊢
        clear nq osq
        go_wp2
        go_roundg (j - (c + 1))
        case measure => omega
        case rel =>
          refine ⟨c + 1, j, by congr 1; omega, rfl, by omega, by omega, S2, Lib.hid ⟨fun h g1 g2 => ?_, HI.out.2⟩⟩
          have hca := HCR.out.2 HCF.out
          by_cases hh : h = c
          · rw [hh]; exact hca
          · exact HT.out _ _ _ (H2.out h c g1 (by omega) (by omega)) hca
end
end Go.Proofs.Ytbjbdochffocoaa
