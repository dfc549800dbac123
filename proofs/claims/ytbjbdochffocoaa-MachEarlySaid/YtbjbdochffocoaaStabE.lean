/- slices.symMergeCmpFunc, slices.stableCmpFunc and slices.SortStableFunc at whole numbers: their walks. -/
import Derived.Test.YtbjbdochffocoaaStabD
import Derived.Deep.CutRange
namespace Go.Proofs.Ytbjbdochffocoaa
open Go.Shelf Go.RowKit Go.Lib Go.Sort
set_option linter.unusedVariables false
section
variable {α : Type}
/-- The four pieces behind a rotation. -/
theorem rot_halves {lt : α → α → Prop} {cl : α → α → Bool} {f : Nat → α} {a s m e b mid : Nat} (h1 : a ≤ s) (h2 : s ≤ m) (h3 : m ≤ e) (h4 : e ≤ b) (hmid : mid + m = s + e) (ha : SrtF lt f a m) (hb : SrtF lt f m b) (hc : CrsF lt cl f a m b) :
    SrtF lt (rotF s m e f) a s ∧ SrtF lt (rotF s m e f) s mid ∧ SrtF lt (rotF s m e f) mid e ∧ SrtF lt (rotF s m e f) e b ∧ CrsF lt cl (rotF s m e f) a s mid ∧ CrsF lt cl (rotF s m e f) mid e b := by
  refine ⟨fun i j c1 c2 c3 => ?_, fun i j c1 c2 c3 => ?_, fun i j c1 c2 c3 => ?_, fun i j c1 c2 c3 => ?_, fun i j c1 c2 c3 c4 => ?_, fun i j c1 c2 c3 c4 => ?_⟩
  all_goals
    obtain ⟨p, ep, hp⟩ := rot_in f h2 h3 i
    obtain ⟨q, eq, hq⟩ := rot_in f h2 h3 j
    rw [ep, eq]
  · exact ha p q (by omega) (by omega) (by omega)
  · exact hb p q (by omega) (by omega) (by omega)
  · exact ha p q (by omega) (by omega) (by omega)
  · exact hb p q (by omega) (by omega) (by omega)
  · exact hc p q (by omega) (by omega) (by omega) (by omega)
  · exact hc p q (by omega) (by omega) (by omega) (by omega)
theorem SrtF.of_eq {lt : α → α → Prop} {f g : Nat → α} {a b : Nat} (h : SrtF lt f a b) (e : ∀ x, a ≤ x → x < b → g x = f x) : SrtF lt g a b := fun i j c1 c2 c3 => by
  rw [e i (by omega) (by omega), e j (by omega) (by omega)]; exact h i j c1 c2 c3
theorem CrsF.of_eq {lt : α → α → Prop} {cl : α → α → Bool} {f g : Nat → α} {a m b : Nat} (h : CrsF lt cl f a m b) (e : ∀ x, a ≤ x → x < b → g x = f x) : CrsF lt cl g a m b := fun i j c1 c2 c3 c4 => by
  rw [e i (by omega) (by omega), e j (by omega) (by omega)]; exact h i j c1 c2 c3 c4
end
section
variable {α : Type} [Inhabited α] (val : α → Int)
set_option maxHeartbeats 8000000 in
set_option maxRecDepth 100000 in
theorem symMerge_s (lt : α → α → Prop) (ht : ∀ x y z, lt x y → lt y z → lt x z) (cf : α → α → Int) (g : Nat) (cb : Array Value) (eg : ∀ args w, (callFunc g args).run Try.prog w = .ok (.enter g args) w) (blk off cap : Nat) (d0 : Array α) (w0 : World) (hcmp : CmpLays1 Try.prog g cb (encX val) cf blk off d0.size w0)
    (R : Row1 (encX val) w0 blk off d0) (hsz : d0.size < 2305843009213693952) : ∀ (N a m b : Nat) (d : Array α) (w : World), b - a ≤ N → a < m → m < b → b ≤ d.size → d0.size = d.size → SW (encX val) w0 blk off d w →
    SrtF lt (getF d) a m → SrtF lt (getF d) m b → CrsF lt (ltOf cf) (getF d) a m b →
    Calls Try.prog 79 #[.slice (some ⟨blk, off, none⟩) d.size cap, .int .i64 (a : Int), .int .i64 (m : Int), .int .i64 (b : Int), .func (.func g) #[] cb] w fun e w' => e = .returned (.tuple #[]) ∧ ∃ d' : Array α, d'.size = d.size ∧ Mrg lt (getF d) (getF d') a b ∧ SW (encX val) w0 blk off d' w' := by
  intro N
  induction N with
  | zero => intro a m b d w h1 h2 h3; omega
  | succ N ih =>
    intro a m b d w hN ham hmb hb hs S h1 h2 h3
    by_cases hma : m = a + 1
    · exact symLeft_s val lt ht cf g cb eg blk off cap a m b d0 d w0 w hcmp R hs S (by omega) (by omega) hmb hb (by omega) h2 h3
    by_cases hbm : b = m + 1
    · exact symRight_s val lt ht cf g cb eg blk off cap a m b d0 d w0 w hcmp R hs S (by omega) (by omega) (by omega) hb (by omega) h1 h3
    have hone : ((m : Int) - (a : Int) == 1) = false := by rw [beq_eq_false_iff_ne]; omega
    have hone2 : ((b : Int) - (m : Int) == 1) = false := by rw [beq_eq_false_iff_ne]; omega
    have hma2 : a + 1 < m := by omega
    have hbm2 : m + 1 < b := by omega
    clear hma hbm
    have S0 : Aside (SW (encX val) w0 blk off d w) := S
    clear S
    have HC : Aside _ := hcmp
    have mixed : Try.prog.follows .mixedOrders = true := by kernel_rfl
    have H1 := Lib.hid h1; have H2 := Lib.hid h2; have H3 := Lib.hid h3; have HT := Lib.hid ht
    have HIH := Lib.hid (fun (x y z : Nat) (dk : Array α) (W : World) (hk : dk.size = d.size) (c0 : z - x ≤ N) (c1 : x < y) (c2 : y < z) (c3 : z ≤ d.size) (S : SW (encX val) w0 blk off dk W) (q1 : SrtF lt (getF dk) x y) (q2 : SrtF lt (getF dk) y z) (q3 : CrsF lt (ltOf cf) (getF dk) x y z) => show Calls Try.prog 79 #[.slice (some ⟨blk, off, none⟩) d.size cap, .int .i64 (x : Int), .int .i64 (y : Int), .int .i64 (z : Int), .func (.func g) #[] cb] W fun e w' => e = .returned (.tuple #[]) ∧ ∃ d' : Array α, d'.size = d.size ∧ Mrg lt (getF dk) (getF d') x z ∧ SW (encX val) w0 blk off d' w' from by
      have := ih x y z dk W c0 c1 c2 (by omega) (by omega) S q1 q2 q3
      rwa [hk] at this)
    have HRO := Lib.hid (fun (x y z : Nat) (W : World) (S : SW (encX val) w0 blk off d W) (c1 : x < y) (c2 : y < z) (c3 : z ≤ d.size) (Z : Int) (hZ : Z = (z : Int)) => show Calls Try.prog 80 #[.slice (some ⟨blk, off, none⟩) d.size cap, .int .i64 (x : Int), .int .i64 (y : Int), .int .i64 Z, .func (.func g) #[] cb] W fun e w' => e = .returned (.tuple #[]) ∧ ∃ d' : Array α, d'.size = d.size ∧ getF d' = rotF x y z (getF d) ∧ SW (encX val) w0 blk off d' w' from by
      rw [hZ]; exact rotate_s val g cb blk off cap x y z d0 d w0 W R hs S c1 c2 c3 (by omega))
    clear h1 h2 h3 ih hcmp
    obtain ⟨mid, hmd⟩ : ∃ mid : Nat, (a + b) / 2 = mid := ⟨_, rfl⟩
    have hq : ((a : Int) + (b : Int)) / 2 = (mid : Int) := by omega
    have hmi1 : 2 * mid ≤ a + b := by omega
    have hmi2 : a + b ≤ 2 * mid + 1 := by omega
    clear hmd
    by_cases hgm : mid < m
    · obtain ⟨s0, hs0⟩ : ∃ s0 : Nat, s0 + b = mid + m := ⟨mid + m - b, by omega⟩
      have hq2 : (mid : Int) + (m : Int) - (b : Int) = (s0 : Int) := by omega
      have hd1 : (mid : Int) < (m : Int) := by omega
      have HS := Lib.hid (show a ≤ s0 ∧ s0 ≤ mid ∧ mid ≤ mid ∧ mid ≤ m ∧ mid + m ≤ s0 + b ∧ (s0 = a ∨ mid + m = s0 + b) ∧ (mid = m ∨ mid = mid) from ⟨by omega, by omega, by omega, by omega, by omega, .inr (by omega), .inr rfl⟩)
      clear hs0 hgm
      go_enter Try.func79, Try.ntmps79
      go_wp2
      go_loopg [20, 21] (b - a) (fun kx s20 s21 wr => ∃ (st r : Nat), s20 = .int .i64 (st : Int) ∧ s21 = .int .i64 (r : Int) ∧ (s0 ≤ st ∧ st ≤ r ∧ r ≤ mid) ∧ r - st ≤ kx ∧ Aside (SW (encX val) w0 blk off d wr) ∧ Hid ((st = s0 ∨ lt (getF d (st - 1)) (getF d (mid + m - st))) ∧ (r = mid ∨ lt (getF d (mid + m - 1 - r)) (getF d r))))
      case atStart => exact ⟨s0, mid, rfl, rfl, by have := HS.out; omega, by have := HS.out; omega, S0, Lib.hid ⟨.inl rfl, .inl rfl⟩⟩
      case round =>
        clear S0
        obtain ⟨st, r, rfl, rfl, ⟨hst1, hst2, hst3⟩, hkx, S1, HI⟩ := hrel
        obtain ⟨b1, b2, b3, b4, b5, b6, b7⟩ := HS.out
        by_cases hlt : st < r
        rotate_left
        · have hsr : st = r := by omega
          subst hsr
          have hz : ¬ (st : Int) < (st : Int) := by omega
          clear hlt
          obtain ⟨en, hen⟩ : ∃ en : Nat, en + st = mid + m := ⟨mid + m - st, by omega⟩
          have hq5 : (mid : Int) + (m : Int) - (st : Int) = (en : Int) := by omega
          have HSE := Lib.hid (show a < st → en < b → lt (getF d (st - 1)) (getF d en) from fun c1 c2 => by
            rcases HI.out.1 with h | h
            · omega
            · rwa [show mid + m - st = en by omega] at h)
          have HES := Lib.hid (show m < en → st < m → lt (getF d (en - 1)) (getF d st) from fun c1 c2 => by
            rcases HI.out.2 with h | h
            · omega
            · rwa [show mid + m - 1 - st = en - 1 by omega] at h)
          have hsm : st ≤ m := by omega
          have hme : m ≤ en := by omega
          have heb : en ≤ b := by omega
          have has : a ≤ st := by omega
          have hsmd : st ≤ mid := by omega
          have hmde : mid ≤ en := by omega
          have HAL := Lib.hid (rot_halves (cl := ltOf cf) has hsm hme heb (show mid + m = st + en by omega) H1.out H2.out H3.out)
          clear HI HS b1 b2 b3 b4 b5 b6 b7 hst1 hst2 hst3 hkx
          by_cases hA : st < m ∧ m < en
          · obtain ⟨hA1, hA2⟩ := hA
            have hz1 : (st : Int) < (m : Int) := by omega
            have hz2 : (m : Int) < (en : Int) := by omega
            go_upto_region 41 with (go_at_call 80; refine (HRO.out st m en _ S1.out hA1 hA2 (by omega) _ rfl).mono ?_; go_must (rintro e w1 ⟨rfl, d1, hd1s, hg1, S2⟩; have HG1 := Lib.hid hg1; have HD1 := Lib.hid hd1s; clear hg1 hd1s; have SA : Aside _ := S2; clear S2))
            by_cases hB : a < st ∧ st < mid
            · obtain ⟨hB1, hB2⟩ := hB
              have hy1 : (a : Int) < (st : Int) := by omega
              have hy2 : (st : Int) < (mid : Int) := by omega
              go_upto_region 43 with (go_at_call 79; refine ((HIH.out a st mid _ _ HD1.out (by omega) hB1 hB2 (by omega) SA.out (by rw [HG1.out]; exact HAL.out.1) (by rw [HG1.out]; exact HAL.out.2.1) (by rw [HG1.out]; exact HAL.out.2.2.2.2.1))).mono ?_; go_must (rintro e w2 ⟨rfl, d2, hd2s, hm2, S2⟩; have HM2 := Lib.hid hm2; have HD2 := Lib.hid hd2s; clear hm2 hd2s; have SB : Aside _ := S2; clear S2))
              have HO2 := Lib.hid (fun x (h : mid ≤ x) => (HM2.out.out x (.inr h)).trans (congrFun HG1.out x))
              by_cases hC : mid < en ∧ en < b
              · obtain ⟨hC1, hC2⟩ := hC
                have hx1 : (mid : Int) < (en : Int) := by omega
                have hx2 : (en : Int) < (b : Int) := by omega
                go_wp2_with (go_at_call 79; refine ((HIH.out mid en b _ _ HD2.out (by omega) hC1 hC2 hb SB.out (HAL.out.2.2.1.of_eq (fun x h _ => HO2.out x h)) (HAL.out.2.2.2.1.of_eq (fun x h _ => HO2.out x (by omega))) (HAL.out.2.2.2.2.2.of_eq (fun x h _ => HO2.out x h)))).mono ?_; go_must (rintro e w3 ⟨rfl, d3, hd3s, hm3, S3⟩; have HM3 := Lib.hid hm3; clear hm3; have SC : Aside _ := S3; clear S3))
                go_end0
                exact ⟨rfl, d3, hd3s, mrg_parts has hsm hme heb (show mid + m = st + en by omega) H1.out H2.out HT.out HSE.out HES.out (HG1.out ▸ HM2.out) HM3.out, SC.out⟩
              · have HM3 := Lib.hid (Mrg.same (show SrtF lt (getF _) mid b from SrtF.of_eq (f := rotF st m en (getF d)) (by
                  by_cases e : mid = en
                  · rw [e]; exact HAL.out.2.2.2.1
                  · rw [show b = en by omega]; exact HAL.out.2.2.1) (fun x h _ => HO2.out x h)))
                by_cases hC1 : mid < en
                · have hx1 : (mid : Int) < (en : Int) := by omega
                  have hx2 : ¬ (en : Int) < (b : Int) := by omega
                  go_wp2
                  go_end0
                  exact ⟨rfl, _, HD2.out, mrg_parts has hsm hme heb (show mid + m = st + en by omega) H1.out H2.out HT.out HSE.out HES.out (HG1.out ▸ HM2.out) HM3.out, SB.out⟩
                · have hx1 : ¬ (mid : Int) < (en : Int) := by omega
                  go_wp2
                  go_end0
                  exact ⟨rfl, _, HD2.out, mrg_parts has hsm hme heb (show mid + m = st + en by omega) H1.out H2.out HT.out HSE.out HES.out (HG1.out ▸ HM2.out) HM3.out, SB.out⟩
            · have HM2 := Lib.hid (Mrg.same (show SrtF lt (getF _) a mid from (by
                rw [HG1.out]
                by_cases e : a = st
                · rw [e]; exact HAL.out.2.1
                · rw [show mid = st by omega]; exact HAL.out.1)))
              have SB := SA
              by_cases hB1 : a < st
              · have hy1 : (a : Int) < (st : Int) := by omega
                have hy2 : ¬ (st : Int) < (mid : Int) := by omega
                go_upto_region 43 with fail
                have HD2 := HD1
                have HO2 := Lib.hid (fun x (h : mid ≤ x) => (HM2.out.out x (.inr h)).trans (congrFun HG1.out x))
                by_cases hC : mid < en ∧ en < b
                · obtain ⟨hC1, hC2⟩ := hC
                  have hx1 : (mid : Int) < (en : Int) := by omega
                  have hx2 : (en : Int) < (b : Int) := by omega
                  go_wp2_with (go_at_call 79; refine ((HIH.out mid en b _ _ HD2.out (by omega) hC1 hC2 hb SB.out (HAL.out.2.2.1.of_eq (fun x h _ => HO2.out x h)) (HAL.out.2.2.2.1.of_eq (fun x h _ => HO2.out x (by omega))) (HAL.out.2.2.2.2.2.of_eq (fun x h _ => HO2.out x h)))).mono ?_; go_must (rintro e w3 ⟨rfl, d3, hd3s, hm3, S3⟩; have HM3 := Lib.hid hm3; clear hm3; have SC : Aside _ := S3; clear S3))
                  go_end0
                  exact ⟨rfl, d3, hd3s, mrg_parts has hsm hme heb (show mid + m = st + en by omega) H1.out H2.out HT.out HSE.out HES.out (HG1.out ▸ HM2.out) HM3.out, SC.out⟩
                · have HM3 := Lib.hid (Mrg.same (show SrtF lt (getF _) mid b from SrtF.of_eq (f := rotF st m en (getF d)) (by
                    by_cases e : mid = en
                    · rw [e]; exact HAL.out.2.2.2.1
                    · rw [show b = en by omega]; exact HAL.out.2.2.1) (fun x h _ => HO2.out x h)))
                  by_cases hC1 : mid < en
                  · have hx1 : (mid : Int) < (en : Int) := by omega
                    have hx2 : ¬ (en : Int) < (b : Int) := by omega
                    go_wp2
                    go_end0
                    exact ⟨rfl, _, HD2.out, mrg_parts has hsm hme heb (show mid + m = st + en by omega) H1.out H2.out HT.out HSE.out HES.out (HG1.out ▸ HM2.out) HM3.out, SB.out⟩
                  · have hx1 : ¬ (mid : Int) < (en : Int) := by omega
                    go_wp2
                    go_end0
                    exact ⟨rfl, _, HD2.out, mrg_parts has hsm hme heb (show mid + m = st + en by omega) H1.out H2.out HT.out HSE.out HES.out (HG1.out ▸ HM2.out) HM3.out, SB.out⟩
              · have hy1 : ¬ (a : Int) < (st : Int) := by omega
                go_upto_region 43 with fail
                have HD2 := HD1
                have HO2 := Lib.hid (fun x (h : mid ≤ x) => (HM2.out.out x (.inr h)).trans (congrFun HG1.out x))
                by_cases hC : mid < en ∧ en < b
                · obtain ⟨hC1, hC2⟩ := hC
                  have hx1 : (mid : Int) < (en : Int) := by omega
                  have hx2 : (en : Int) < (b : Int) := by omega
                  go_wp2_with (go_at_call 79; refine ((HIH.out mid en b _ _ HD2.out (by omega) hC1 hC2 hb SB.out (HAL.out.2.2.1.of_eq (fun x h _ => HO2.out x h)) (HAL.out.2.2.2.1.of_eq (fun x h _ => HO2.out x (by omega))) (HAL.out.2.2.2.2.2.of_eq (fun x h _ => HO2.out x h)))).mono ?_; go_must (rintro e w3 ⟨rfl, d3, hd3s, hm3, S3⟩; have HM3 := Lib.hid hm3; clear hm3; have SC : Aside _ := S3; clear S3))
                  go_end0
                  exact ⟨rfl, d3, hd3s, mrg_parts has hsm hme heb (show mid + m = st + en by omega) H1.out H2.out HT.out HSE.out HES.out (HG1.out ▸ HM2.out) HM3.out, SC.out⟩
                · have HM3 := Lib.hid (Mrg.same (show SrtF lt (getF _) mid b from SrtF.of_eq (f := rotF st m en (getF d)) (by
                    by_cases e : mid = en
                    · rw [e]; exact HAL.out.2.2.2.1
                    · rw [show b = en by omega]; exact HAL.out.2.2.1) (fun x h _ => HO2.out x h)))
                  by_cases hC1 : mid < en
                  · have hx1 : (mid : Int) < (en : Int) := by omega
                    have hx2 : ¬ (en : Int) < (b : Int) := by omega
                    go_wp2
                    go_end0
                    exact ⟨rfl, _, HD2.out, mrg_parts has hsm hme heb (show mid + m = st + en by omega) H1.out H2.out HT.out HSE.out HES.out (HG1.out ▸ HM2.out) HM3.out, SB.out⟩
                  · have hx1 : ¬ (mid : Int) < (en : Int) := by omega
                    go_wp2
                    go_end0
                    exact ⟨rfl, _, HD2.out, mrg_parts has hsm hme heb (show mid + m = st + en by omega) H1.out H2.out HT.out HSE.out HES.out (HG1.out ▸ HM2.out) HM3.out, SB.out⟩
          · obtain ⟨d1, hg1, hd1s, sa⟩ : ∃ d1 : Array α, getF d1 = rotF st m en (getF d) ∧ d1.size = d.size ∧ SW (encX val) w0 blk off d1 wr := ⟨d, (rot_none _ hsm hme (by omega)).symm, rfl, S1.out⟩
            have HG1 := Lib.hid hg1; have HD1 := Lib.hid hd1s
            have SA : Aside _ := sa
            clear S1 hg1 hd1s sa
            by_cases hA1 : st < m
            · have hz1 : (st : Int) < (m : Int) := by omega
              have hz2 : ¬ (m : Int) < (en : Int) := by omega
              go_upto_region 41 with fail
              by_cases hB : a < st ∧ st < mid
              · obtain ⟨hB1, hB2⟩ := hB
                have hy1 : (a : Int) < (st : Int) := by omega
                have hy2 : (st : Int) < (mid : Int) := by omega
                go_upto_region 43 with (go_at_call 79; refine ((HIH.out a st mid _ _ HD1.out (by omega) hB1 hB2 (by omega) SA.out (by rw [HG1.out]; exact HAL.out.1) (by rw [HG1.out]; exact HAL.out.2.1) (by rw [HG1.out]; exact HAL.out.2.2.2.2.1))).mono ?_; go_must (rintro e w2 ⟨rfl, d2, hd2s, hm2, S2⟩; have HM2 := Lib.hid hm2; have HD2 := Lib.hid hd2s; clear hm2 hd2s; have SB : Aside _ := S2; clear S2))
                have HO2 := Lib.hid (fun x (h : mid ≤ x) => (HM2.out.out x (.inr h)).trans (congrFun HG1.out x))
                by_cases hC : mid < en ∧ en < b
                · obtain ⟨hC1, hC2⟩ := hC
                  have hx1 : (mid : Int) < (en : Int) := by omega
                  have hx2 : (en : Int) < (b : Int) := by omega
                  go_wp2_with (go_at_call 79; refine ((HIH.out mid en b _ _ HD2.out (by omega) hC1 hC2 hb SB.out (HAL.out.2.2.1.of_eq (fun x h _ => HO2.out x h)) (HAL.out.2.2.2.1.of_eq (fun x h _ => HO2.out x (by omega))) (HAL.out.2.2.2.2.2.of_eq (fun x h _ => HO2.out x h)))).mono ?_; go_must (rintro e w3 ⟨rfl, d3, hd3s, hm3, S3⟩; have HM3 := Lib.hid hm3; clear hm3; have SC : Aside _ := S3; clear S3))
                  go_end0
                  exact ⟨rfl, d3, hd3s, mrg_parts has hsm hme heb (show mid + m = st + en by omega) H1.out H2.out HT.out HSE.out HES.out (HG1.out ▸ HM2.out) HM3.out, SC.out⟩
                · have HM3 := Lib.hid (Mrg.same (show SrtF lt (getF _) mid b from SrtF.of_eq (f := rotF st m en (getF d)) (by
                    by_cases e : mid = en
                    · rw [e]; exact HAL.out.2.2.2.1
                    · rw [show b = en by omega]; exact HAL.out.2.2.1) (fun x h _ => HO2.out x h)))
                  by_cases hC1 : mid < en
                  · have hx1 : (mid : Int) < (en : Int) := by omega
                    have hx2 : ¬ (en : Int) < (b : Int) := by omega
                    go_wp2
                    go_end0
                    exact ⟨rfl, _, HD2.out, mrg_parts has hsm hme heb (show mid + m = st + en by omega) H1.out H2.out HT.out HSE.out HES.out (HG1.out ▸ HM2.out) HM3.out, SB.out⟩
                  · have hx1 : ¬ (mid : Int) < (en : Int) := by omega
                    go_wp2
                    go_end0
                    exact ⟨rfl, _, HD2.out, mrg_parts has hsm hme heb (show mid + m = st + en by omega) H1.out H2.out HT.out HSE.out HES.out (HG1.out ▸ HM2.out) HM3.out, SB.out⟩
              · have HM2 := Lib.hid (Mrg.same (show SrtF lt (getF _) a mid from (by
                  rw [HG1.out]
                  by_cases e : a = st
                  · rw [e]; exact HAL.out.2.1
                  · rw [show mid = st by omega]; exact HAL.out.1)))
                have SB := SA
                by_cases hB1 : a < st
                · have hy1 : (a : Int) < (st : Int) := by omega
                  have hy2 : ¬ (st : Int) < (mid : Int) := by omega
                  go_upto_region 43 with fail
                  have HD2 := HD1
                  have HO2 := Lib.hid (fun x (h : mid ≤ x) => (HM2.out.out x (.inr h)).trans (congrFun HG1.out x))
                  by_cases hC : mid < en ∧ en < b
                  · obtain ⟨hC1, hC2⟩ := hC
                    have hx1 : (mid : Int) < (en : Int) := by omega
                    have hx2 : (en : Int) < (b : Int) := by omega
                    go_wp2_with (go_at_call 79; refine ((HIH.out mid en b _ _ HD2.out (by omega) hC1 hC2 hb SB.out (HAL.out.2.2.1.of_eq (fun x h _ => HO2.out x h)) (HAL.out.2.2.2.1.of_eq (fun x h _ => HO2.out x (by omega))) (HAL.out.2.2.2.2.2.of_eq (fun x h _ => HO2.out x h)))).mono ?_; go_must (rintro e w3 ⟨rfl, d3, hd3s, hm3, S3⟩; have HM3 := Lib.hid hm3; clear hm3; have SC : Aside _ := S3; clear S3))
                    go_end0
                    exact ⟨rfl, d3, hd3s, mrg_parts has hsm hme heb (show mid + m = st + en by omega) H1.out H2.out HT.out HSE.out HES.out (HG1.out ▸ HM2.out) HM3.out, SC.out⟩
                  · have HM3 := Lib.hid (Mrg.same (show SrtF lt (getF _) mid b from SrtF.of_eq (f := rotF st m en (getF d)) (by
                      by_cases e : mid = en
                      · rw [e]; exact HAL.out.2.2.2.1
                      · rw [show b = en by omega]; exact HAL.out.2.2.1) (fun x h _ => HO2.out x h)))
                    by_cases hC1 : mid < en
                    · have hx1 : (mid : Int) < (en : Int) := by omega
                      have hx2 : ¬ (en : Int) < (b : Int) := by omega
                      go_wp2
                      go_end0
                      exact ⟨rfl, _, HD2.out, mrg_parts has hsm hme heb (show mid + m = st + en by omega) H1.out H2.out HT.out HSE.out HES.out (HG1.out ▸ HM2.out) HM3.out, SB.out⟩
                    · have hx1 : ¬ (mid : Int) < (en : Int) := by omega
                      go_wp2
                      go_end0
                      exact ⟨rfl, _, HD2.out, mrg_parts has hsm hme heb (show mid + m = st + en by omega) H1.out H2.out HT.out HSE.out HES.out (HG1.out ▸ HM2.out) HM3.out, SB.out⟩
                · have hy1 : ¬ (a : Int) < (st : Int) := by omega
                  go_upto_region 43 with fail
                  have HD2 := HD1
                  have HO2 := Lib.hid (fun x (h : mid ≤ x) => (HM2.out.out x (.inr h)).trans (congrFun HG1.out x))
                  by_cases hC : mid < en ∧ en < b
                  · obtain ⟨hC1, hC2⟩ := hC
                    have hx1 : (mid : Int) < (en : Int) := by omega
                    have hx2 : (en : Int) < (b : Int) := by omega
                    go_wp2_with (go_at_call 79; refine ((HIH.out mid en b _ _ HD2.out (by omega) hC1 hC2 hb SB.out (HAL.out.2.2.1.of_eq (fun x h _ => HO2.out x h)) (HAL.out.2.2.2.1.of_eq (fun x h _ => HO2.out x (by omega))) (HAL.out.2.2.2.2.2.of_eq (fun x h _ => HO2.out x h)))).mono ?_; go_must (rintro e w3 ⟨rfl, d3, hd3s, hm3, S3⟩; have HM3 := Lib.hid hm3; clear hm3; have SC : Aside _ := S3; clear S3))
                    go_end0
                    exact ⟨rfl, d3, hd3s, mrg_parts has hsm hme heb (show mid + m = st + en by omega) H1.out H2.out HT.out HSE.out HES.out (HG1.out ▸ HM2.out) HM3.out, SC.out⟩
                  · have HM3 := Lib.hid (Mrg.same (show SrtF lt (getF _) mid b from SrtF.of_eq (f := rotF st m en (getF d)) (by
                      by_cases e : mid = en
                      · rw [e]; exact HAL.out.2.2.2.1
                      · rw [show b = en by omega]; exact HAL.out.2.2.1) (fun x h _ => HO2.out x h)))
                    by_cases hC1 : mid < en
                    · have hx1 : (mid : Int) < (en : Int) := by omega
                      have hx2 : ¬ (en : Int) < (b : Int) := by omega
                      go_wp2
                      go_end0
                      exact ⟨rfl, _, HD2.out, mrg_parts has hsm hme heb (show mid + m = st + en by omega) H1.out H2.out HT.out HSE.out HES.out (HG1.out ▸ HM2.out) HM3.out, SB.out⟩
                    · have hx1 : ¬ (mid : Int) < (en : Int) := by omega
                      go_wp2
                      go_end0
                      exact ⟨rfl, _, HD2.out, mrg_parts has hsm hme heb (show mid + m = st + en by omega) H1.out H2.out HT.out HSE.out HES.out (HG1.out ▸ HM2.out) HM3.out, SB.out⟩
            · have hz1 : ¬ (st : Int) < (m : Int) := by omega
              go_upto_region 41 with fail
              by_cases hB : a < st ∧ st < mid
              · obtain ⟨hB1, hB2⟩ := hB
                have hy1 : (a : Int) < (st : Int) := by omega
                have hy2 : (st : Int) < (mid : Int) := by omega
                go_upto_region 43 with (go_at_call 79; refine ((HIH.out a st mid _ _ HD1.out (by omega) hB1 hB2 (by omega) SA.out (by rw [HG1.out]; exact HAL.out.1) (by rw [HG1.out]; exact HAL.out.2.1) (by rw [HG1.out]; exact HAL.out.2.2.2.2.1))).mono ?_; go_must (rintro e w2 ⟨rfl, d2, hd2s, hm2, S2⟩; have HM2 := Lib.hid hm2; have HD2 := Lib.hid hd2s; clear hm2 hd2s; have SB : Aside _ := S2; clear S2))
                have HO2 := Lib.hid (fun x (h : mid ≤ x) => (HM2.out.out x (.inr h)).trans (congrFun HG1.out x))
                by_cases hC : mid < en ∧ en < b
                · obtain ⟨hC1, hC2⟩ := hC
                  have hx1 : (mid : Int) < (en : Int) := by omega
                  have hx2 : (en : Int) < (b : Int) := by omega
                  go_wp2_with (go_at_call 79; refine ((HIH.out mid en b _ _ HD2.out (by omega) hC1 hC2 hb SB.out (HAL.out.2.2.1.of_eq (fun x h _ => HO2.out x h)) (HAL.out.2.2.2.1.of_eq (fun x h _ => HO2.out x (by omega))) (HAL.out.2.2.2.2.2.of_eq (fun x h _ => HO2.out x h)))).mono ?_; go_must (rintro e w3 ⟨rfl, d3, hd3s, hm3, S3⟩; have HM3 := Lib.hid hm3; clear hm3; have SC : Aside _ := S3; clear S3))
                  go_end0
                  exact ⟨rfl, d3, hd3s, mrg_parts has hsm hme heb (show mid + m = st + en by omega) H1.out H2.out HT.out HSE.out HES.out (HG1.out ▸ HM2.out) HM3.out, SC.out⟩
                · have HM3 := Lib.hid (Mrg.same (show SrtF lt (getF _) mid b from SrtF.of_eq (f := rotF st m en (getF d)) (by
                    by_cases e : mid = en
                    · rw [e]; exact HAL.out.2.2.2.1
                    · rw [show b = en by omega]; exact HAL.out.2.2.1) (fun x h _ => HO2.out x h)))
                  by_cases hC1 : mid < en
                  · have hx1 : (mid : Int) < (en : Int) := by omega
                    have hx2 : ¬ (en : Int) < (b : Int) := by omega
                    go_wp2
                    go_end0
                    exact ⟨rfl, _, HD2.out, mrg_parts has hsm hme heb (show mid + m = st + en by omega) H1.out H2.out HT.out HSE.out HES.out (HG1.out ▸ HM2.out) HM3.out, SB.out⟩
                  · have hx1 : ¬ (mid : Int) < (en : Int) := by omega
                    go_wp2
                    go_end0
                    exact ⟨rfl, _, HD2.out, mrg_parts has hsm hme heb (show mid + m = st + en by omega) H1.out H2.out HT.out HSE.out HES.out (HG1.out ▸ HM2.out) HM3.out, SB.out⟩
              · have HM2 := Lib.hid (Mrg.same (show SrtF lt (getF _) a mid from (by
                  rw [HG1.out]
                  by_cases e : a = st
                  · rw [e]; exact HAL.out.2.1
                  · rw [show mid = st by omega]; exact HAL.out.1)))
                have SB := SA
                by_cases hB1 : a < st
                · have hy1 : (a : Int) < (st : Int) := by omega
                  have hy2 : ¬ (st : Int) < (mid : Int) := by omega
                  go_upto_region 43 with fail
                  have HD2 := HD1
                  have HO2 := Lib.hid (fun x (h : mid ≤ x) => (HM2.out.out x (.inr h)).trans (congrFun HG1.out x))
                  by_cases hC : mid < en ∧ en < b
                  · obtain ⟨hC1, hC2⟩ := hC
                    have hx1 : (mid : Int) < (en : Int) := by omega
                    have hx2 : (en : Int) < (b : Int) := by omega
                    go_wp2_with (go_at_call 79; refine ((HIH.out mid en b _ _ HD2.out (by omega) hC1 hC2 hb SB.out (HAL.out.2.2.1.of_eq (fun x h _ => HO2.out x h)) (HAL.out.2.2.2.1.of_eq (fun x h _ => HO2.out x (by omega))) (HAL.out.2.2.2.2.2.of_eq (fun x h _ => HO2.out x h)))).mono ?_; go_must (rintro e w3 ⟨rfl, d3, hd3s, hm3, S3⟩; have HM3 := Lib.hid hm3; clear hm3; have SC : Aside _ := S3; clear S3))
                    go_end0
                    exact ⟨rfl, d3, hd3s, mrg_parts has hsm hme heb (show mid + m = st + en by omega) H1.out H2.out HT.out HSE.out HES.out (HG1.out ▸ HM2.out) HM3.out, SC.out⟩
                  · have HM3 := Lib.hid (Mrg.same (show SrtF lt (getF _) mid b from SrtF.of_eq (f := rotF st m en (getF d)) (by
                      by_cases e : mid = en
                      · rw [e]; exact HAL.out.2.2.2.1
                      · rw [show b = en by omega]; exact HAL.out.2.2.1) (fun x h _ => HO2.out x h)))
                    by_cases hC1 : mid < en
                    · have hx1 : (mid : Int) < (en : Int) := by omega
                      have hx2 : ¬ (en : Int) < (b : Int) := by omega
                      go_wp2
                      go_end0
                      exact ⟨rfl, _, HD2.out, mrg_parts has hsm hme heb (show mid + m = st + en by omega) H1.out H2.out HT.out HSE.out HES.out (HG1.out ▸ HM2.out) HM3.out, SB.out⟩
                    · have hx1 : ¬ (mid : Int) < (en : Int) := by omega
                      go_wp2
                      go_end0
                      exact ⟨rfl, _, HD2.out, mrg_parts has hsm hme heb (show mid + m = st + en by omega) H1.out H2.out HT.out HSE.out HES.out (HG1.out ▸ HM2.out) HM3.out, SB.out⟩
                · have hy1 : ¬ (a : Int) < (st : Int) := by omega
                  go_upto_region 43 with fail
                  have HD2 := HD1
                  have HO2 := Lib.hid (fun x (h : mid ≤ x) => (HM2.out.out x (.inr h)).trans (congrFun HG1.out x))
                  by_cases hC : mid < en ∧ en < b
                  · obtain ⟨hC1, hC2⟩ := hC
                    have hx1 : (mid : Int) < (en : Int) := by omega
                    have hx2 : (en : Int) < (b : Int) := by omega
                    go_wp2_with (go_at_call 79; refine ((HIH.out mid en b _ _ HD2.out (by omega) hC1 hC2 hb SB.out (HAL.out.2.2.1.of_eq (fun x h _ => HO2.out x h)) (HAL.out.2.2.2.1.of_eq (fun x h _ => HO2.out x (by omega))) (HAL.out.2.2.2.2.2.of_eq (fun x h _ => HO2.out x h)))).mono ?_; go_must (rintro e w3 ⟨rfl, d3, hd3s, hm3, S3⟩; have HM3 := Lib.hid hm3; clear hm3; have SC : Aside _ := S3; clear S3))
                    go_end0
                    exact ⟨rfl, d3, hd3s, mrg_parts has hsm hme heb (show mid + m = st + en by omega) H1.out H2.out HT.out HSE.out HES.out (HG1.out ▸ HM2.out) HM3.out, SC.out⟩
                  · have HM3 := Lib.hid (Mrg.same (show SrtF lt (getF _) mid b from SrtF.of_eq (f := rotF st m en (getF d)) (by
                      by_cases e : mid = en
                      · rw [e]; exact HAL.out.2.2.2.1
                      · rw [show b = en by omega]; exact HAL.out.2.2.1) (fun x h _ => HO2.out x h)))
                    by_cases hC1 : mid < en
                    · have hx1 : (mid : Int) < (en : Int) := by omega
                      have hx2 : ¬ (en : Int) < (b : Int) := by omega
                      go_wp2
                      go_end0
                      exact ⟨rfl, _, HD2.out, mrg_parts has hsm hme heb (show mid + m = st + en by omega) H1.out H2.out HT.out HSE.out HES.out (HG1.out ▸ HM2.out) HM3.out, SB.out⟩
                    · have hx1 : ¬ (mid : Int) < (en : Int) := by omega
                      go_wp2
                      go_end0
                      exact ⟨rfl, _, HD2.out, mrg_parts has hsm hme heb (show mid + m = st + en by omega) H1.out H2.out HT.out HSE.out HES.out (HG1.out ▸ HM2.out) HM3.out, SB.out⟩
        · have hz : (st : Int) < (r : Int) := by omega
          obtain ⟨c, hc1, hc2, hc3⟩ : ∃ c, c = (st + r) / 2 ∧ st ≤ c ∧ c < r := ⟨_, rfl, by omega, by omega⟩
          obtain ⟨q, hqn⟩ : ∃ q : Nat, q + c + 1 = mid + m := ⟨mid + m - 1 - c, by omega⟩
          have hcr := H3.out c q (by omega) (by omega) (by omega) (by omega)
          have HCR := Lib.hid hcr; clear hcr
          by_cases hcf : cf d[q]! d[c]! < 0
          · have HCV := Lib.hid hcf
            have HCF := Lib.hid (show ltOf cf (getF d q) (getF d c) = true from decide_eq_true hcf)
            clear hcf
            go_wp2_with fail
            obtain ⟨iN, hiN⟩ : ∃ iQ, iQ = q := ⟨_, rfl⟩
            obtain ⟨jN, hjN⟩ : ∃ iQ, iQ = c := ⟨_, rfl⟩
            have ia := ix_srt blk off d.size cap iN ((mid : Int) + (m : Int) - 1 - ((st : Int) + (r : Int)) / 2) (by omega) (by omega)
            have ja := ix_srt blk off d.size cap jN (((st : Int) + (r : Int)) / 2) (by omega) (by omega)
            have ra : IntKind.i64.wrap ((mid : Int) + (m : Int) - 1 - ((st : Int) + (r : Int)) / 2) = (mid : Int) + (m : Int) - 1 - ((st : Int) + (r : Int)) / 2 := by rw [IntKind.wrap_i64]; omega
            have rc : IntKind.i64.wrap (((st : Int) + (r : Int)) / 2) = ((st : Int) + (r : Int)) / 2 := by rw [IntKind.wrap_i64]; omega
            obtain ⟨xe, hxe⟩ : ∃ x, x = d[q]! := ⟨_, rfl⟩
            obtain ⟨ye, hye⟩ : ∃ x, x = d[c]! := ⟨_, rfl⟩
            have la := S1.out.cl R (by omega) (q) (by omega)
            have lb := S1.out.cl R (by omega) (c) (by omega)
            rw [← hxe, ← hiN] at la
            rw [← hye, ← hjN] at lb
            have hcc := S1.out.cmp HC.out (by omega) xe ye
            have hv : cf xe ye < 0 := by rw [hxe, hye]; first | exact HCV.out | (have := HCV.out; omega)
            have hd : decide (cf xe ye < 0) = true := by first | exact decide_eq_true hv | exact decide_eq_false hv
            clear hxe hye hiN hjN
            go_wp2_with fail
            go_quiet_grown (first | (go_at_fn g; refine Calls.grown_of (hcc _ _)))
            have S2 : Aside (SW (encX val) w0 blk off d (grow (wr.drewN nq) osq)) := S1.out.grown nq osq
            clear la lb hcc S1 ia ja ra rc
            generalize grow (wr.drewN nq) osq = w2 at S2 ⊢
            clear nq osq
            go_wp2
            go_roundg (c - st)
            case measure => omega
            case rel => exact ⟨st, c, rfl, by congr 1; omega, by omega, by omega, S2, Lib.hid ⟨HI.out.1, .inr (by rw [show mid + m - 1 - c = q by omega]; exact HCR.out.1 HCF.out)⟩⟩
          · have HCV := Lib.hid hcf
            have HCF := Lib.hid (show ltOf cf (getF d q) (getF d c) = false from decide_eq_false hcf)
            clear hcf
            go_wp2_with fail
            obtain ⟨iN, hiN⟩ : ∃ iQ, iQ = q := ⟨_, rfl⟩
            obtain ⟨jN, hjN⟩ : ∃ iQ, iQ = c := ⟨_, rfl⟩
            have ia := ix_srt blk off d.size cap iN ((mid : Int) + (m : Int) - 1 - ((st : Int) + (r : Int)) / 2) (by omega) (by omega)
            have ja := ix_srt blk off d.size cap jN (((st : Int) + (r : Int)) / 2) (by omega) (by omega)
            have ra : IntKind.i64.wrap ((mid : Int) + (m : Int) - 1 - ((st : Int) + (r : Int)) / 2) = (mid : Int) + (m : Int) - 1 - ((st : Int) + (r : Int)) / 2 := by rw [IntKind.wrap_i64]; omega
            have rc : IntKind.i64.wrap (((st : Int) + (r : Int)) / 2) = ((st : Int) + (r : Int)) / 2 := by rw [IntKind.wrap_i64]; omega
            obtain ⟨xe, hxe⟩ : ∃ x, x = d[q]! := ⟨_, rfl⟩
            obtain ⟨ye, hye⟩ : ∃ x, x = d[c]! := ⟨_, rfl⟩
            have la := S1.out.cl R (by omega) (q) (by omega)
            have lb := S1.out.cl R (by omega) (c) (by omega)
            rw [← hxe, ← hiN] at la
            rw [← hye, ← hjN] at lb
            have hcc := S1.out.cmp HC.out (by omega) xe ye
            have hv : ¬ cf xe ye < 0 := by rw [hxe, hye]; first | exact HCV.out | (have := HCV.out; omega)
            have hd : decide (cf xe ye < 0) = false := by first | exact decide_eq_true hv | exact decide_eq_false hv
            clear hxe hye hiN hjN
            go_wp2_with fail
            go_quiet_grown (first | (go_at_fn g; refine Calls.grown_of (hcc _ _)))
            have S2 : Aside (SW (encX val) w0 blk off d (grow (wr.drewN nq) osq)) := S1.out.grown nq osq
            clear la lb hcc S1 ia ja ra rc
            generalize grow (wr.drewN nq) osq = w2 at S2 ⊢
            clear nq osq
            go_wp2
            go_roundg (r - (c + 1))
            case measure => omega
            case rel => exact ⟨c + 1, r, by congr 1; omega, rfl, by omega, by omega, S2, Lib.hid ⟨.inr (by rw [show c + 1 - 1 = c from rfl, show mid + m - (c + 1) = q by omega]; exact HCR.out.2 HCF.out), HI.out.2⟩⟩
    · have hd1 : ¬ (mid : Int) < (m : Int) := by omega
      have HS := Lib.hid (show a ≤ a ∧ a ≤ m ∧ m ≤ mid ∧ m ≤ m ∧ mid + m ≤ a + b ∧ (a = a ∨ mid + m = a + b) ∧ (m = m ∨ m = mid) from ⟨by omega, by omega, by omega, by omega, by omega, .inl rfl, .inl rfl⟩)
      clear hgm
      go_enter Try.func79, Try.ntmps79
      go_wp2
      go_loopg [20, 21] (b - a) (fun kx s20 s21 wr => ∃ (st r : Nat), s20 = .int .i64 (st : Int) ∧ s21 = .int .i64 (r : Int) ∧ (a ≤ st ∧ st ≤ r ∧ r ≤ m) ∧ r - st ≤ kx ∧ Aside (SW (encX val) w0 blk off d wr) ∧ Hid ((st = a ∨ lt (getF d (st - 1)) (getF d (mid + m - st))) ∧ (r = m ∨ lt (getF d (mid + m - 1 - r)) (getF d r))))
      case atStart => exact ⟨a, m, rfl, rfl, by have := HS.out; omega, by have := HS.out; omega, S0, Lib.hid ⟨.inl rfl, .inl rfl⟩⟩
      case round =>
        clear S0
        obtain ⟨st, r, rfl, rfl, ⟨hst1, hst2, hst3⟩, hkx, S1, HI⟩ := hrel
        obtain ⟨b1, b2, b3, b4, b5, b6, b7⟩ := HS.out
        by_cases hlt : st < r
        rotate_left
        · have hsr : st = r := by omega
          subst hsr
          have hz : ¬ (st : Int) < (st : Int) := by omega
          clear hlt
          obtain ⟨en, hen⟩ : ∃ en : Nat, en + st = mid + m := ⟨mid + m - st, by omega⟩
          have hq5 : (mid : Int) + (m : Int) - (st : Int) = (en : Int) := by omega
          have HSE := Lib.hid (show a < st → en < b → lt (getF d (st - 1)) (getF d en) from fun c1 c2 => by
            rcases HI.out.1 with h | h
            · omega
            · rwa [show mid + m - st = en by omega] at h)
          have HES := Lib.hid (show m < en → st < m → lt (getF d (en - 1)) (getF d st) from fun c1 c2 => by
            rcases HI.out.2 with h | h
            · omega
            · rwa [show mid + m - 1 - st = en - 1 by omega] at h)
          have hsm : st ≤ m := by omega
          have hme : m ≤ en := by omega
          have heb : en ≤ b := by omega
          have has : a ≤ st := by omega
          have hsmd : st ≤ mid := by omega
          have hmde : mid ≤ en := by omega
          have HAL := Lib.hid (rot_halves (cl := ltOf cf) has hsm hme heb (show mid + m = st + en by omega) H1.out H2.out H3.out)
          clear HI HS b1 b2 b3 b4 b5 b6 b7 hst1 hst2 hst3 hkx
          by_cases hA : st < m ∧ m < en
          · obtain ⟨hA1, hA2⟩ := hA
            have hz1 : (st : Int) < (m : Int) := by omega
            have hz2 : (m : Int) < (en : Int) := by omega
            go_upto_region 41 with (go_at_call 80; refine (HRO.out st m en _ S1.out hA1 hA2 (by omega) _ rfl).mono ?_; go_must (rintro e w1 ⟨rfl, d1, hd1s, hg1, S2⟩; have HG1 := Lib.hid hg1; have HD1 := Lib.hid hd1s; clear hg1 hd1s; have SA : Aside _ := S2; clear S2))
            by_cases hB : a < st ∧ st < mid
            · obtain ⟨hB1, hB2⟩ := hB
              have hy1 : (a : Int) < (st : Int) := by omega
              have hy2 : (st : Int) < (mid : Int) := by omega
              go_upto_region 43 with (go_at_call 79; refine ((HIH.out a st mid _ _ HD1.out (by omega) hB1 hB2 (by omega) SA.out (by rw [HG1.out]; exact HAL.out.1) (by rw [HG1.out]; exact HAL.out.2.1) (by rw [HG1.out]; exact HAL.out.2.2.2.2.1))).mono ?_; go_must (rintro e w2 ⟨rfl, d2, hd2s, hm2, S2⟩; have HM2 := Lib.hid hm2; have HD2 := Lib.hid hd2s; clear hm2 hd2s; have SB : Aside _ := S2; clear S2))
              have HO2 := Lib.hid (fun x (h : mid ≤ x) => (HM2.out.out x (.inr h)).trans (congrFun HG1.out x))
              by_cases hC : mid < en ∧ en < b
              · obtain ⟨hC1, hC2⟩ := hC
                have hx1 : (mid : Int) < (en : Int) := by omega
                have hx2 : (en : Int) < (b : Int) := by omega
                go_wp2_with (go_at_call 79; refine ((HIH.out mid en b _ _ HD2.out (by omega) hC1 hC2 hb SB.out (HAL.out.2.2.1.of_eq (fun x h _ => HO2.out x h)) (HAL.out.2.2.2.1.of_eq (fun x h _ => HO2.out x (by omega))) (HAL.out.2.2.2.2.2.of_eq (fun x h _ => HO2.out x h)))).mono ?_; go_must (rintro e w3 ⟨rfl, d3, hd3s, hm3, S3⟩; have HM3 := Lib.hid hm3; clear hm3; have SC : Aside _ := S3; clear S3))
                go_end0
                exact ⟨rfl, d3, hd3s, mrg_parts has hsm hme heb (show mid + m = st + en by omega) H1.out H2.out HT.out HSE.out HES.out (HG1.out ▸ HM2.out) HM3.out, SC.out⟩
              · have HM3 := Lib.hid (Mrg.same (show SrtF lt (getF _) mid b from SrtF.of_eq (f := rotF st m en (getF d)) (by
                  by_cases e : mid = en
                  · rw [e]; exact HAL.out.2.2.2.1
                  · rw [show b = en by omega]; exact HAL.out.2.2.1) (fun x h _ => HO2.out x h)))
                by_cases hC1 : mid < en
                · have hx1 : (mid : Int) < (en : Int) := by omega
                  have hx2 : ¬ (en : Int) < (b : Int) := by omega
                  go_wp2
                  go_end0
                  exact ⟨rfl, _, HD2.out, mrg_parts has hsm hme heb (show mid + m = st + en by omega) H1.out H2.out HT.out HSE.out HES.out (HG1.out ▸ HM2.out) HM3.out, SB.out⟩
                · have hx1 : ¬ (mid : Int) < (en : Int) := by omega
                  go_wp2
                  go_end0
                  exact ⟨rfl, _, HD2.out, mrg_parts has hsm hme heb (show mid + m = st + en by omega) H1.out H2.out HT.out HSE.out HES.out (HG1.out ▸ HM2.out) HM3.out, SB.out⟩
            · have HM2 := Lib.hid (Mrg.same (show SrtF lt (getF _) a mid from (by
                rw [HG1.out]
                by_cases e : a = st
                · rw [e]; exact HAL.out.2.1
                · rw [show mid = st by omega]; exact HAL.out.1)))
              have SB := SA
              by_cases hB1 : a < st
              · have hy1 : (a : Int) < (st : Int) := by omega
                have hy2 : ¬ (st : Int) < (mid : Int) := by omega
                go_upto_region 43 with fail
                have HD2 := HD1
                have HO2 := Lib.hid (fun x (h : mid ≤ x) => (HM2.out.out x (.inr h)).trans (congrFun HG1.out x))
                by_cases hC : mid < en ∧ en < b
                · obtain ⟨hC1, hC2⟩ := hC
                  have hx1 : (mid : Int) < (en : Int) := by omega
                  have hx2 : (en : Int) < (b : Int) := by omega
                  go_wp2_with (go_at_call 79; refine ((HIH.out mid en b _ _ HD2.out (by omega) hC1 hC2 hb SB.out (HAL.out.2.2.1.of_eq (fun x h _ => HO2.out x h)) (HAL.out.2.2.2.1.of_eq (fun x h _ => HO2.out x (by omega))) (HAL.out.2.2.2.2.2.of_eq (fun x h _ => HO2.out x h)))).mono ?_; go_must (rintro e w3 ⟨rfl, d3, hd3s, hm3, S3⟩; have HM3 := Lib.hid hm3; clear hm3; have SC : Aside _ := S3; clear S3))
                  go_end0
                  exact ⟨rfl, d3, hd3s, mrg_parts has hsm hme heb (show mid + m = st + en by omega) H1.out H2.out HT.out HSE.out HES.out (HG1.out ▸ HM2.out) HM3.out, SC.out⟩
                · have HM3 := Lib.hid (Mrg.same (show SrtF lt (getF _) mid b from SrtF.of_eq (f := rotF st m en (getF d)) (by
                    by_cases e : mid = en
                    · rw [e]; exact HAL.out.2.2.2.1
                    · rw [show b = en by omega]; exact HAL.out.2.2.1) (fun x h _ => HO2.out x h)))
                  by_cases hC1 : mid < en
                  · have hx1 : (mid : Int) < (en : Int) := by omega
                    have hx2 : ¬ (en : Int) < (b : Int) := by omega
                    go_wp2
                    go_end0
                    exact ⟨rfl, _, HD2.out, mrg_parts has hsm hme heb (show mid + m = st + en by omega) H1.out H2.out HT.out HSE.out HES.out (HG1.out ▸ HM2.out) HM3.out, SB.out⟩
                  · have hx1 : ¬ (mid : Int) < (en : Int) := by omega
                    go_wp2
                    go_end0
                    exact ⟨rfl, _, HD2.out, mrg_parts has hsm hme heb (show mid + m = st + en by omega) H1.out H2.out HT.out HSE.out HES.out (HG1.out ▸ HM2.out) HM3.out, SB.out⟩
              · have hy1 : ¬ (a : Int) < (st : Int) := by omega
                go_upto_region 43 with fail
                have HD2 := HD1
                have HO2 := Lib.hid (fun x (h : mid ≤ x) => (HM2.out.out x (.inr h)).trans (congrFun HG1.out x))
                by_cases hC : mid < en ∧ en < b
                · obtain ⟨hC1, hC2⟩ := hC
                  have hx1 : (mid : Int) < (en : Int) := by omega
                  have hx2 : (en : Int) < (b : Int) := by omega
                  go_wp2_with (go_at_call 79; refine ((HIH.out mid en b _ _ HD2.out (by omega) hC1 hC2 hb SB.out (HAL.out.2.2.1.of_eq (fun x h _ => HO2.out x h)) (HAL.out.2.2.2.1.of_eq (fun x h _ => HO2.out x (by omega))) (HAL.out.2.2.2.2.2.of_eq (fun x h _ => HO2.out x h)))).mono ?_; go_must (rintro e w3 ⟨rfl, d3, hd3s, hm3, S3⟩; have HM3 := Lib.hid hm3; clear hm3; have SC : Aside _ := S3; clear S3))
                  go_end0
                  exact ⟨rfl, d3, hd3s, mrg_parts has hsm hme heb (show mid + m = st + en by omega) H1.out H2.out HT.out HSE.out HES.out (HG1.out ▸ HM2.out) HM3.out, SC.out⟩
                · have HM3 := Lib.hid (Mrg.same (show SrtF lt (getF _) mid b from SrtF.of_eq (f := rotF st m en (getF d)) (by
                    by_cases e : mid = en
                    · rw [e]; exact HAL.out.2.2.2.1
                    · rw [show b = en by omega]; exact HAL.out.2.2.1) (fun x h _ => HO2.out x h)))
                  by_cases hC1 : mid < en
                  · have hx1 : (mid : Int) < (en : Int) := by omega
                    have hx2 : ¬ (en : Int) < (b : Int) := by omega
                    go_wp2
                    go_end0
                    exact ⟨rfl, _, HD2.out, mrg_parts has hsm hme heb (show mid + m = st + en by omega) H1.out H2.out HT.out HSE.out HES.out (HG1.out ▸ HM2.out) HM3.out, SB.out⟩
                  · have hx1 : ¬ (mid : Int) < (en : Int) := by omega
                    go_wp2
                    go_end0
                    exact ⟨rfl, _, HD2.out, mrg_parts has hsm hme heb (show mid + m = st + en by omega) H1.out H2.out HT.out HSE.out HES.out (HG1.out ▸ HM2.out) HM3.out, SB.out⟩
          · obtain ⟨d1, hg1, hd1s, sa⟩ : ∃ d1 : Array α, getF d1 = rotF st m en (getF d) ∧ d1.size = d.size ∧ SW (encX val) w0 blk off d1 wr := ⟨d, (rot_none _ hsm hme (by omega)).symm, rfl, S1.out⟩
            have HG1 := Lib.hid hg1; have HD1 := Lib.hid hd1s
            have SA : Aside _ := sa
            clear S1 hg1 hd1s sa
            by_cases hA1 : st < m
            · have hz1 : (st : Int) < (m : Int) := by omega
              have hz2 : ¬ (m : Int) < (en : Int) := by omega
              go_upto_region 41 with fail
              by_cases hB : a < st ∧ st < mid
              · obtain ⟨hB1, hB2⟩ := hB
                have hy1 : (a : Int) < (st : Int) := by omega
                have hy2 : (st : Int) < (mid : Int) := by omega
                go_upto_region 43 with (go_at_call 79; refine ((HIH.out a st mid _ _ HD1.out (by omega) hB1 hB2 (by omega) SA.out (by rw [HG1.out]; exact HAL.out.1) (by rw [HG1.out]; exact HAL.out.2.1) (by rw [HG1.out]; exact HAL.out.2.2.2.2.1))).mono ?_; go_must (rintro e w2 ⟨rfl, d2, hd2s, hm2, S2⟩; have HM2 := Lib.hid hm2; have HD2 := Lib.hid hd2s; clear hm2 hd2s; have SB : Aside _ := S2; clear S2))
                have HO2 := Lib.hid (fun x (h : mid ≤ x) => (HM2.out.out x (.inr h)).trans (congrFun HG1.out x))
                by_cases hC : mid < en ∧ en < b
                · obtain ⟨hC1, hC2⟩ := hC
                  have hx1 : (mid : Int) < (en : Int) := by omega
                  have hx2 : (en : Int) < (b : Int) := by omega
                  go_wp2_with (go_at_call 79; refine ((HIH.out mid en b _ _ HD2.out (by omega) hC1 hC2 hb SB.out (HAL.out.2.2.1.of_eq (fun x h _ => HO2.out x h)) (HAL.out.2.2.2.1.of_eq (fun x h _ => HO2.out x (by omega))) (HAL.out.2.2.2.2.2.of_eq (fun x h _ => HO2.out x h)))).mono ?_; go_must (rintro e w3 ⟨rfl, d3, hd3s, hm3, S3⟩; have HM3 := Lib.hid hm3; clear hm3; have SC : Aside _ := S3; clear S3))
                  go_end0
                  exact ⟨rfl, d3, hd3s, mrg_parts has hsm hme heb (show mid + m = st + en by omega) H1.out H2.out HT.out HSE.out HES.out (HG1.out ▸ HM2.out) HM3.out, SC.out⟩
                · have HM3 := Lib.hid (Mrg.same (show SrtF lt (getF _) mid b from SrtF.of_eq (f := rotF st m en (getF d)) (by
                    by_cases e : mid = en
                    · rw [e]; exact HAL.out.2.2.2.1
                    · rw [show b = en by omega]; exact HAL.out.2.2.1) (fun x h _ => HO2.out x h)))
                  by_cases hC1 : mid < en
                  · have hx1 : (mid : Int) < (en : Int) := by omega
                    have hx2 : ¬ (en : Int) < (b : Int) := by omega
                    go_wp2
                    go_end0
                    exact ⟨rfl, _, HD2.out, mrg_parts has hsm hme heb (show mid + m = st + en by omega) H1.out H2.out HT.out HSE.out HES.out (HG1.out ▸ HM2.out) HM3.out, SB.out⟩
                  · have hx1 : ¬ (mid : Int) < (en : Int) := by omega
                    go_wp2
                    go_end0
                    exact ⟨rfl, _, HD2.out, mrg_parts has hsm hme heb (show mid + m = st + en by omega) H1.out H2.out HT.out HSE.out HES.out (HG1.out ▸ HM2.out) HM3.out, SB.out⟩
              · have HM2 := Lib.hid (Mrg.same (show SrtF lt (getF _) a mid from (by
                  rw [HG1.out]
                  by_cases e : a = st
                  · rw [e]; exact HAL.out.2.1
                  · rw [show mid = st by omega]; exact HAL.out.1)))
                have SB := SA
                by_cases hB1 : a < st
                · have hy1 : (a : Int) < (st : Int) := by omega
                  have hy2 : ¬ (st : Int) < (mid : Int) := by omega
                  go_upto_region 43 with fail
                  have HD2 := HD1
                  have HO2 := Lib.hid (fun x (h : mid ≤ x) => (HM2.out.out x (.inr h)).trans (congrFun HG1.out x))
                  by_cases hC : mid < en ∧ en < b
                  · obtain ⟨hC1, hC2⟩ := hC
                    have hx1 : (mid : Int) < (en : Int) := by omega
                    have hx2 : (en : Int) < (b : Int) := by omega
                    go_wp2_with (go_at_call 79; refine ((HIH.out mid en b _ _ HD2.out (by omega) hC1 hC2 hb SB.out (HAL.out.2.2.1.of_eq (fun x h _ => HO2.out x h)) (HAL.out.2.2.2.1.of_eq (fun x h _ => HO2.out x (by omega))) (HAL.out.2.2.2.2.2.of_eq (fun x h _ => HO2.out x h)))).mono ?_; go_must (rintro e w3 ⟨rfl, d3, hd3s, hm3, S3⟩; have HM3 := Lib.hid hm3; clear hm3; have SC : Aside _ := S3; clear S3))
                    go_end0
                    exact ⟨rfl, d3, hd3s, mrg_parts has hsm hme heb (show mid + m = st + en by omega) H1.out H2.out HT.out HSE.out HES.out (HG1.out ▸ HM2.out) HM3.out, SC.out⟩
                  · have HM3 := Lib.hid (Mrg.same (show SrtF lt (getF _) mid b from SrtF.of_eq (f := rotF st m en (getF d)) (by
                      by_cases e : mid = en
                      · rw [e]; exact HAL.out.2.2.2.1
                      · rw [show b = en by omega]; exact HAL.out.2.2.1) (fun x h _ => HO2.out x h)))
                    by_cases hC1 : mid < en
                    · have hx1 : (mid : Int) < (en : Int) := by omega
                      have hx2 : ¬ (en : Int) < (b : Int) := by omega
                      go_wp2
                      go_end0
                      exact ⟨rfl, _, HD2.out, mrg_parts has hsm hme heb (show mid + m = st + en by omega) H1.out H2.out HT.out HSE.out HES.out (HG1.out ▸ HM2.out) HM3.out, SB.out⟩
                    · have hx1 : ¬ (mid : Int) < (en : Int) := by omega
                      go_wp2
                      go_end0
                      exact ⟨rfl, _, HD2.out, mrg_parts has hsm hme heb (show mid + m = st + en by omega) H1.out H2.out HT.out HSE.out HES.out (HG1.out ▸ HM2.out) HM3.out, SB.out⟩
                · have hy1 : ¬ (a : Int) < (st : Int) := by omega
                  go_upto_region 43 with fail
                  have HD2 := HD1
                  have HO2 := Lib.hid (fun x (h : mid ≤ x) => (HM2.out.out x (.inr h)).trans (congrFun HG1.out x))
                  by_cases hC : mid < en ∧ en < b
                  · obtain ⟨hC1, hC2⟩ := hC
                    have hx1 : (mid : Int) < (en : Int) := by omega
                    have hx2 : (en : Int) < (b : Int) := by omega
                    go_wp2_with (go_at_call 79; refine ((HIH.out mid en b _ _ HD2.out (by omega) hC1 hC2 hb SB.out (HAL.out.2.2.1.of_eq (fun x h _ => HO2.out x h)) (HAL.out.2.2.2.1.of_eq (fun x h _ => HO2.out x (by omega))) (HAL.out.2.2.2.2.2.of_eq (fun x h _ => HO2.out x h)))).mono ?_; go_must (rintro e w3 ⟨rfl, d3, hd3s, hm3, S3⟩; have HM3 := Lib.hid hm3; clear hm3; have SC : Aside _ := S3; clear S3))
                    go_end0
                    exact ⟨rfl, d3, hd3s, mrg_parts has hsm hme heb (show mid + m = st + en by omega) H1.out H2.out HT.out HSE.out HES.out (HG1.out ▸ HM2.out) HM3.out, SC.out⟩
                  · have HM3 := Lib.hid (Mrg.same (show SrtF lt (getF _) mid b from SrtF.of_eq (f := rotF st m en (getF d)) (by
                      by_cases e : mid = en
                      · rw [e]; exact HAL.out.2.2.2.1
                      · rw [show b = en by omega]; exact HAL.out.2.2.1) (fun x h _ => HO2.out x h)))
                    by_cases hC1 : mid < en
                    · have hx1 : (mid : Int) < (en : Int) := by omega
                      have hx2 : ¬ (en : Int) < (b : Int) := by omega
                      go_wp2
                      go_end0
                      exact ⟨rfl, _, HD2.out, mrg_parts has hsm hme heb (show mid + m = st + en by omega) H1.out H2.out HT.out HSE.out HES.out (HG1.out ▸ HM2.out) HM3.out, SB.out⟩
                    · have hx1 : ¬ (mid : Int) < (en : Int) := by omega
                      go_wp2
                      go_end0
                      exact ⟨rfl, _, HD2.out, mrg_parts has hsm hme heb (show mid + m = st + en by omega) H1.out H2.out HT.out HSE.out HES.out (HG1.out ▸ HM2.out) HM3.out, SB.out⟩
            · have hz1 : ¬ (st : Int) < (m : Int) := by omega
              go_upto_region 41 with fail
              by_cases hB : a < st ∧ st < mid
              · obtain ⟨hB1, hB2⟩ := hB
                have hy1 : (a : Int) < (st : Int) := by omega
                have hy2 : (st : Int) < (mid : Int) := by omega
                go_upto_region 43 with (go_at_call 79; refine ((HIH.out a st mid _ _ HD1.out (by omega) hB1 hB2 (by omega) SA.out (by rw [HG1.out]; exact HAL.out.1) (by rw [HG1.out]; exact HAL.out.2.1) (by rw [HG1.out]; exact HAL.out.2.2.2.2.1))).mono ?_; go_must (rintro e w2 ⟨rfl, d2, hd2s, hm2, S2⟩; have HM2 := Lib.hid hm2; have HD2 := Lib.hid hd2s; clear hm2 hd2s; have SB : Aside _ := S2; clear S2))
                have HO2 := Lib.hid (fun x (h : mid ≤ x) => (HM2.out.out x (.inr h)).trans (congrFun HG1.out x))
                by_cases hC : mid < en ∧ en < b
                · obtain ⟨hC1, hC2⟩ := hC
                  have hx1 : (mid : Int) < (en : Int) := by omega
                  have hx2 : (en : Int) < (b : Int) := by omega
                  go_wp2_with (go_at_call 79; refine ((HIH.out mid en b _ _ HD2.out (by omega) hC1 hC2 hb SB.out (HAL.out.2.2.1.of_eq (fun x h _ => HO2.out x h)) (HAL.out.2.2.2.1.of_eq (fun x h _ => HO2.out x (by omega))) (HAL.out.2.2.2.2.2.of_eq (fun x h _ => HO2.out x h)))).mono ?_; go_must (rintro e w3 ⟨rfl, d3, hd3s, hm3, S3⟩; have HM3 := Lib.hid hm3; clear hm3; have SC : Aside _ := S3; clear S3))
                  go_end0
                  exact ⟨rfl, d3, hd3s, mrg_parts has hsm hme heb (show mid + m = st + en by omega) H1.out H2.out HT.out HSE.out HES.out (HG1.out ▸ HM2.out) HM3.out, SC.out⟩
                · have HM3 := Lib.hid (Mrg.same (show SrtF lt (getF _) mid b from SrtF.of_eq (f := rotF st m en (getF d)) (by
                    by_cases e : mid = en
                    · rw [e]; exact HAL.out.2.2.2.1
                    · rw [show b = en by omega]; exact HAL.out.2.2.1) (fun x h _ => HO2.out x h)))
                  by_cases hC1 : mid < en
                  · have hx1 : (mid : Int) < (en : Int) := by omega
                    have hx2 : ¬ (en : Int) < (b : Int) := by omega
                    go_wp2
                    go_end0
                    exact ⟨rfl, _, HD2.out, mrg_parts has hsm hme heb (show mid + m = st + en by omega) H1.out H2.out HT.out HSE.out HES.out (HG1.out ▸ HM2.out) HM3.out, SB.out⟩
                  · have hx1 : ¬ (mid : Int) < (en : Int) := by omega
                    go_wp2
                    go_end0
                    exact ⟨rfl, _, HD2.out, mrg_parts has hsm hme heb (show mid + m = st + en by omega) H1.out H2.out HT.out HSE.out HES.out (HG1.out ▸ HM2.out) HM3.out, SB.out⟩
              · have HM2 := Lib.hid (Mrg.same (show SrtF lt (getF _) a mid from (by
                  rw [HG1.out]
                  by_cases e : a = st
                  · rw [e]; exact HAL.out.2.1
                  · rw [show mid = st by omega]; exact HAL.out.1)))
                have SB := SA
                by_cases hB1 : a < st
                · have hy1 : (a : Int) < (st : Int) := by omega
                  have hy2 : ¬ (st : Int) < (mid : Int) := by omega
                  go_upto_region 43 with fail
                  have HD2 := HD1
                  have HO2 := Lib.hid (fun x (h : mid ≤ x) => (HM2.out.out x (.inr h)).trans (congrFun HG1.out x))
                  by_cases hC : mid < en ∧ en < b
                  · obtain ⟨hC1, hC2⟩ := hC
                    have hx1 : (mid : Int) < (en : Int) := by omega
                    have hx2 : (en : Int) < (b : Int) := by omega
                    go_wp2_with (go_at_call 79; refine ((HIH.out mid en b _ _ HD2.out (by omega) hC1 hC2 hb SB.out (HAL.out.2.2.1.of_eq (fun x h _ => HO2.out x h)) (HAL.out.2.2.2.1.of_eq (fun x h _ => HO2.out x (by omega))) (HAL.out.2.2.2.2.2.of_eq (fun x h _ => HO2.out x h)))).mono ?_; go_must (rintro e w3 ⟨rfl, d3, hd3s, hm3, S3⟩; have HM3 := Lib.hid hm3; clear hm3; have SC : Aside _ := S3; clear S3))
                    go_end0
                    exact ⟨rfl, d3, hd3s, mrg_parts has hsm hme heb (show mid + m = st + en by omega) H1.out H2.out HT.out HSE.out HES.out (HG1.out ▸ HM2.out) HM3.out, SC.out⟩
                  · have HM3 := Lib.hid (Mrg.same (show SrtF lt (getF _) mid b from SrtF.of_eq (f := rotF st m en (getF d)) (by
                      by_cases e : mid = en
                      · rw [e]; exact HAL.out.2.2.2.1
                      · rw [show b = en by omega]; exact HAL.out.2.2.1) (fun x h _ => HO2.out x h)))
                    by_cases hC1 : mid < en
                    · have hx1 : (mid : Int) < (en : Int) := by omega
                      have hx2 : ¬ (en : Int) < (b : Int) := by omega
                      go_wp2
                      go_end0
                      exact ⟨rfl, _, HD2.out, mrg_parts has hsm hme heb (show mid + m = st + en by omega) H1.out H2.out HT.out HSE.out HES.out (HG1.out ▸ HM2.out) HM3.out, SB.out⟩
                    · have hx1 : ¬ (mid : Int) < (en : Int) := by omega
                      go_wp2
                      go_end0
                      exact ⟨rfl, _, HD2.out, mrg_parts has hsm hme heb (show mid + m = st + en by omega) H1.out H2.out HT.out HSE.out HES.out (HG1.out ▸ HM2.out) HM3.out, SB.out⟩
                · have hy1 : ¬ (a : Int) < (st : Int) := by omega
                  go_upto_region 43 with fail
                  have HD2 := HD1
                  have HO2 := Lib.hid (fun x (h : mid ≤ x) => (HM2.out.out x (.inr h)).trans (congrFun HG1.out x))
                  by_cases hC : mid < en ∧ en < b
                  · obtain ⟨hC1, hC2⟩ := hC
                    have hx1 : (mid : Int) < (en : Int) := by omega
                    have hx2 : (en : Int) < (b : Int) := by omega
                    go_wp2_with (go_at_call 79; refine ((HIH.out mid en b _ _ HD2.out (by omega) hC1 hC2 hb SB.out (HAL.out.2.2.1.of_eq (fun x h _ => HO2.out x h)) (HAL.out.2.2.2.1.of_eq (fun x h _ => HO2.out x (by omega))) (HAL.out.2.2.2.2.2.of_eq (fun x h _ => HO2.out x h)))).mono ?_; go_must (rintro e w3 ⟨rfl, d3, hd3s, hm3, S3⟩; have HM3 := Lib.hid hm3; clear hm3; have SC : Aside _ := S3; clear S3))
                    go_end0
                    exact ⟨rfl, d3, hd3s, mrg_parts has hsm hme heb (show mid + m = st + en by omega) H1.out H2.out HT.out HSE.out HES.out (HG1.out ▸ HM2.out) HM3.out, SC.out⟩
                  · have HM3 := Lib.hid (Mrg.same (show SrtF lt (getF _) mid b from SrtF.of_eq (f := rotF st m en (getF d)) (by
                      by_cases e : mid = en
                      · rw [e]; exact HAL.out.2.2.2.1
                      · rw [show b = en by omega]; exact HAL.out.2.2.1) (fun x h _ => HO2.out x h)))
                    by_cases hC1 : mid < en
                    · have hx1 : (mid : Int) < (en : Int) := by omega
                      have hx2 : ¬ (en : Int) < (b : Int) := by omega
                      go_wp2
                      go_end0
                      exact ⟨rfl, _, HD2.out, mrg_parts has hsm hme heb (show mid + m = st + en by omega) H1.out H2.out HT.out HSE.out HES.out (HG1.out ▸ HM2.out) HM3.out, SB.out⟩
                    · have hx1 : ¬ (mid : Int) < (en : Int) := by omega
                      go_wp2
                      go_end0
                      exact ⟨rfl, _, HD2.out, mrg_parts has hsm hme heb (show mid + m = st + en by omega) H1.out H2.out HT.out HSE.out HES.out (HG1.out ▸ HM2.out) HM3.out, SB.out⟩
        · have hz : (st : Int) < (r : Int) := by omega
          obtain ⟨c, hc1, hc2, hc3⟩ : ∃ c, c = (st + r) / 2 ∧ st ≤ c ∧ c < r := ⟨_, rfl, by omega, by omega⟩
          obtain ⟨q, hqn⟩ : ∃ q : Nat, q + c + 1 = mid + m := ⟨mid + m - 1 - c, by omega⟩
          have hcr := H3.out c q (by omega) (by omega) (by omega) (by omega)
          have HCR := Lib.hid hcr; clear hcr
          by_cases hcf : cf d[q]! d[c]! < 0
          · have HCV := Lib.hid hcf
            have HCF := Lib.hid (show ltOf cf (getF d q) (getF d c) = true from decide_eq_true hcf)
            clear hcf
            go_wp2_with fail
            obtain ⟨iN, hiN⟩ : ∃ iQ, iQ = q := ⟨_, rfl⟩
            obtain ⟨jN, hjN⟩ : ∃ iQ, iQ = c := ⟨_, rfl⟩
            have ia := ix_srt blk off d.size cap iN ((mid : Int) + (m : Int) - 1 - ((st : Int) + (r : Int)) / 2) (by omega) (by omega)
            have ja := ix_srt blk off d.size cap jN (((st : Int) + (r : Int)) / 2) (by omega) (by omega)
            have ra : IntKind.i64.wrap ((mid : Int) + (m : Int) - 1 - ((st : Int) + (r : Int)) / 2) = (mid : Int) + (m : Int) - 1 - ((st : Int) + (r : Int)) / 2 := by rw [IntKind.wrap_i64]; omega
            have rc : IntKind.i64.wrap (((st : Int) + (r : Int)) / 2) = ((st : Int) + (r : Int)) / 2 := by rw [IntKind.wrap_i64]; omega
            obtain ⟨xe, hxe⟩ : ∃ x, x = d[q]! := ⟨_, rfl⟩
            obtain ⟨ye, hye⟩ : ∃ x, x = d[c]! := ⟨_, rfl⟩
            have la := S1.out.cl R (by omega) (q) (by omega)
            have lb := S1.out.cl R (by omega) (c) (by omega)
            rw [← hxe, ← hiN] at la
            rw [← hye, ← hjN] at lb
            have hcc := S1.out.cmp HC.out (by omega) xe ye
            have hv : cf xe ye < 0 := by rw [hxe, hye]; first | exact HCV.out | (have := HCV.out; omega)
            have hd : decide (cf xe ye < 0) = true := by first | exact decide_eq_true hv | exact decide_eq_false hv
            clear hxe hye hiN hjN
            go_wp2_with fail
            go_quiet_grown (first | (go_at_fn g; refine Calls.grown_of (hcc _ _)))
            have S2 : Aside (SW (encX val) w0 blk off d (grow (wr.drewN nq) osq)) := S1.out.grown nq osq
            clear la lb hcc S1 ia ja ra rc
            generalize grow (wr.drewN nq) osq = w2 at S2 ⊢
            clear nq osq
            go_wp2
            go_roundg (c - st)
            case measure => omega
            case rel => exact ⟨st, c, rfl, by congr 1; omega, by omega, by omega, S2, Lib.hid ⟨HI.out.1, .inr (by rw [show mid + m - 1 - c = q by omega]; exact HCR.out.1 HCF.out)⟩⟩
          · have HCV := Lib.hid hcf
            have HCF := Lib.hid (show ltOf cf (getF d q) (getF d c) = false from decide_eq_false hcf)
            clear hcf
            go_wp2_with fail
            obtain ⟨iN, hiN⟩ : ∃ iQ, iQ = q := ⟨_, rfl⟩
            obtain ⟨jN, hjN⟩ : ∃ iQ, iQ = c := ⟨_, rfl⟩
            have ia := ix_srt blk off d.size cap iN ((mid : Int) + (m : Int) - 1 - ((st : Int) + (r : Int)) / 2) (by omega) (by omega)
            have ja := ix_srt blk off d.size cap jN (((st : Int) + (r : Int)) / 2) (by omega) (by omega)
            have ra : IntKind.i64.wrap ((mid : Int) + (m : Int) - 1 - ((st : Int) + (r : Int)) / 2) = (mid : Int) + (m : Int) - 1 - ((st : Int) + (r : Int)) / 2 := by rw [IntKind.wrap_i64]; omega
            have rc : IntKind.i64.wrap (((st : Int) + (r : Int)) / 2) = ((st : Int) + (r : Int)) / 2 := by rw [IntKind.wrap_i64]; omega
            obtain ⟨xe, hxe⟩ : ∃ x, x = d[q]! := ⟨_, rfl⟩
            obtain ⟨ye, hye⟩ : ∃ x, x = d[c]! := ⟨_, rfl⟩
            have la := S1.out.cl R (by omega) (q) (by omega)
            have lb := S1.out.cl R (by omega) (c) (by omega)
            rw [← hxe, ← hiN] at la
            rw [← hye, ← hjN] at lb
            have hcc := S1.out.cmp HC.out (by omega) xe ye
            have hv : ¬ cf xe ye < 0 := by rw [hxe, hye]; first | exact HCV.out | (have := HCV.out; omega)
            have hd : decide (cf xe ye < 0) = false := by first | exact decide_eq_true hv | exact decide_eq_false hv
            clear hxe hye hiN hjN
            go_wp2_with fail
            go_quiet_grown (first | (go_at_fn g; refine Calls.grown_of (hcc _ _)))
            have S2 : Aside (SW (encX val) w0 blk off d (grow (wr.drewN nq) osq)) := S1.out.grown nq osq
            clear la lb hcc S1 ia ja ra rc
            generalize grow (wr.drewN nq) osq = w2 at S2 ⊢
            clear nq osq
            go_wp2
            go_roundg (r - (c + 1))
            case measure => omega
            case rel => exact ⟨c + 1, r, by congr 1; omega, rfl, by omega, by omega, S2, Lib.hid ⟨.inr (by rw [show c + 1 - 1 = c from rfl, show mid + m - (c + 1) = q by omega]; exact HCR.out.2 HCF.out), HI.out.2⟩⟩
end
end Go.Proofs.Ytbjbdochffocoaa
