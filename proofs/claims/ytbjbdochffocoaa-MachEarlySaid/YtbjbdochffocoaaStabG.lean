/- slices.stableCmpFunc and slices.SortStableFunc at whole numbers: their walks. -/
import Derived.Test.YtbjbdochffocoaaStabE
import Derived.Test.YtbjbdochffocoaaSortIns
namespace Go.Proofs.Ytbjbdochffocoaa
open Go.Shelf Go.RowKit Go.Lib Go.Sort
set_option linter.unusedVariables false
section
variable {α : Type} [Inhabited α] (val : α → Int)
theorem ins_s (lt : α → α → Prop) (ht : ∀ x y z, lt x y → lt y z → lt x z) (cf : α → α → Int) (g : Nat) (cb : Array Value) (eg : ∀ args w, (callFunc g args).run Try.prog w = .ok (.enter g args) w) (blk off cap a b : Nat) (d0 d : Array α) (w0 w : World) (hcmp : CmpLays1 Try.prog g cb (encX val) cf blk off d0.size w0)
    (R : Row1 (encX val) w0 blk off d0) (hs : d0.size = d.size) (S : SW (encX val) w0 blk off d w) (hab : a ≤ b) (hb : b ≤ d.size) (hsz : d.size ≤ 1000000)
    (hc : ∀ p q, a ≤ p → p < q → q < b → (ltOf cf (getF d q) (getF d p) = true → lt (getF d q) (getF d p)) ∧ (ltOf cf (getF d q) (getF d p) = false → lt (getF d p) (getF d q))) :
    Calls Try.prog 78 #[.slice (some ⟨blk, off, none⟩) d.size cap, .int .i64 (a : Int), .int .i64 (b : Int), .func (.func g) #[] cb] w fun e w' => e = .returned (.tuple #[]) ∧ ∃ d' : Array α, d'.size = d.size ∧ Mrg lt (getF d) (getF d') a b ∧ SW (encX val) w0 blk off d' w' := by
  have h := Any.insertionSortCmpFunc_s LySort.ins (encX val) cf g cb blk off cap a b d0 d w0 w eg hcmp R hs S hab hb (by omega)
  obtain ⟨h1, h2⟩ := ins_sorted (cl := ltOf cf) d ht hab hb hc
  exact h.mono fun e w' ⟨he, hS⟩ => ⟨he, _, h1, h2, hS⟩
set_option maxHeartbeats 8000000 in
set_option maxRecDepth 100000 in
theorem stable_s (lt : α → α → Prop) (ht : ∀ x y z, lt x y → lt y z → lt x z) (cf : α → α → Int) (g : Nat) (cb : Array Value) (eg : ∀ args w, (callFunc g args).run Try.prog w = .ok (.enter g args) w) (blk off cap n : Nat) (d0 : Array α) (w0 : World) (hn : d0.size = n) (hcmp : CmpLays1 Try.prog g cb (encX val) cf blk off d0.size w0)
    (R : Row1 (encX val) w0 blk off d0) (hn0 : 0 < n) (hsz : n ≤ 1000000) (hap : Apart lt (ltOf cf) (getF d0) n) :
    Calls Try.prog 76 #[.slice (some ⟨blk, off, none⟩) n cap, .int .i64 (n : Int), .func (.func g) #[] cb] w0 (fun e w' => e = .returned (.tuple #[]) ∧ ∃ d' : Array α, d'.size = n ∧ Blk lt (getF d0) (getF d') 0 n ∧ SW (encX val) w0 blk off d' w') := by
  have S0 : Aside (SW (encX val) w0 blk off d0 w0) := SW.start R.hH
  have HAP := Lib.hid hap
  have HIN := Lib.hid (fun (a b : Nat) (d : Array α) (W : World) (hd : d.size = n) (S : SW (encX val) w0 blk off d W) (hab : a ≤ b) (hb : b ≤ n) (hc : ∀ p q, a ≤ p → p < q → q < b → (ltOf cf (getF d q) (getF d p) = true → lt (getF d q) (getF d p)) ∧ (ltOf cf (getF d q) (getF d p) = false → lt (getF d p) (getF d q))) (zb : Int) (hzb : zb = (b : Int)) => show Calls Try.prog 78 #[.slice (some ⟨blk, off, none⟩) n cap, .int .i64 (a : Int), .int .i64 zb, .func (.func g) #[] cb] W fun e w' => e = .returned (.tuple #[]) ∧ ∃ d' : Array α, d'.size = n ∧ Mrg lt (getF d) (getF d') a b ∧ SW (encX val) w0 blk off d' w' from by
    have := ins_s val lt ht cf g cb eg blk off cap a b d0 d w0 W hcmp R (by omega) S hab (by omega) (by omega) hc
    rw [hzb]
    rwa [hd] at this)
  have HSM := Lib.hid (fun (x y z : Nat) (dk : Array α) (W : World) (hk : dk.size = n) (c1 : x < y) (c2 : y < z) (c3 : z ≤ n) (S : SW (encX val) w0 blk off dk W) (q1 : SrtF lt (getF dk) x y) (q2 : SrtF lt (getF dk) y z) (q3 : CrsF lt (ltOf cf) (getF dk) x y z) (zy zz : Int) (hzy : zy = (y : Int)) (hzz : zz = (z : Int)) => show Calls Try.prog 79 #[.slice (some ⟨blk, off, none⟩) n cap, .int .i64 (x : Int), .int .i64 zy, .int .i64 zz, .func (.func g) #[] cb] W fun e w' => e = .returned (.tuple #[]) ∧ ∃ d' : Array α, d'.size = n ∧ Mrg lt (getF dk) (getF d') x z ∧ SW (encX val) w0 blk off d' w' from by
    have := symMerge_s val lt ht cf g cb eg blk off cap d0 w0 hcmp R (by omega) (z - x) x y z dk W (Nat.le_refl _) c1 c2 (by omega) (by omega) S q1 q2 q3
    rw [hzy, hzz]
    rwa [hk] at this)
  clear hcmp hap ht
  go_enter Try.func76, Try.ntmps76
  go_wp2
  go_loopg [7, 8] n (fun kx s7 s8 wr => ∃ (a : Nat) (d : Array α), s7 = .int .i64 (a : Int) ∧ s8 = .int .i64 ((a : Int) + 20) ∧ (a ≤ n ∧ n - a ≤ kx) ∧ 20 ∣ a ∧ d.size = n ∧ Aside (SW (encX val) w0 blk off d wr) ∧ Hid (Full lt (getF d0) (getF d) 20 a ∧ ∀ x, a ≤ x → getF d x = getF d0 x))
  case atStart => exact ⟨0, d0, rfl, rfl, by omega, ⟨0, rfl⟩, hn, S0, Lib.hid ⟨fun s h1 h2 => by omega, fun x _ => rfl⟩⟩
  case round =>
    clear S0
    obtain ⟨a, d, rfl, rfl, ⟨han, hkx⟩, hdv, hdn, S1, HF⟩ := hrel
    have HDV := Lib.hid hdv; have HDN := Lib.hid hdn
    clear hdv hdn
    by_cases hle : a + 20 ≤ n
    · have hz : (a : Int) + 20 ≤ (n : Int) := by omega
      go_wp2_with (go_at_call 78; refine (HIN.out a (a + 20) d _ HDN.out S1.out (by omega) hle (fun p q h1 h2 h3 => by rw [HF.out.2 p h1, HF.out.2 q (by omega)]; exact HAP.out p q h2 (by omega)) _ (by omega)).mono ?_; go_must (rintro e w1 ⟨rfl, d1, hd1, hm1, S2⟩; have HD1 := Lib.hid hd1; have HM1 := Lib.hid hm1; clear hd1 hm1; have SN : Aside _ := S2; clear S2))
      go_roundg (n - (a + 20))
      case measure => omega
      case rel => exact ⟨a + 20, d1, by first | rfl | simp, by first | rfl | (congr 1; omega), by omega, Nat.dvd_add HDV.out (Nat.dvd_refl 20), HD1.out, SN, Lib.hid (full_ins HDV.out HF.out.1 HF.out.2 HM1.out)⟩
    · have hz : ¬ (a : Int) + 20 ≤ (n : Int) := by omega
      go_wp2_with (go_at_call 78; refine (HIN.out a n d _ HDN.out S1.out han (Nat.le_refl _) (fun p q h1 h2 h3 => by rw [HF.out.2 p h1, HF.out.2 q (by omega)]; exact HAP.out p q h2 (by omega)) _ rfl).mono ?_; go_must (rintro e w1 ⟨rfl, d1, hd1, hm1, S2⟩; have HD1 := Lib.hid hd1; have HM1 := Lib.hid hm1; clear hd1 hm1; have SN : Aside _ := S2; clear S2))
      have HB0 := Lib.hid (full_last HDV.out HF.out.1 han (by omega) HF.out.2 HM1.out)
      clear HF HM1 HDV HDN S1
      go_loopg [6] (n + 1) (fun kx s6 wr => ∃ (bs : Nat) (d : Array α), s6 = .int .i64 (bs : Int) ∧ (1 ≤ bs ∧ bs ≤ 2 * n + 20 ∧ n - bs + 1 ≤ kx) ∧ Hid (d.size = n) ∧ Aside (SW (encX val) w0 blk off d wr) ∧ Hid (Blks lt (getF d0) (getF d) n bs 0))
      case atStart => exact ⟨20, d1, rfl, by omega, HD1, SN, HB0⟩
      case round =>
        clear SN HB0 HD1
        obtain ⟨bs, d, rfl, ⟨hb1, hb2, hkx2⟩, HDN, S1, HB⟩ := hrel
        by_cases hlt : bs < n
        rotate_left
        · have hz2 : ¬ (bs : Int) < (n : Int) := by omega
          have hfin := HB.out 0 ⟨0, rfl⟩ (Nat.le_refl _) hn0
          rw [Nat.min_eq_right (by omega)] at hfin
          have HFN := Lib.hid hfin; clear hfin
          go_wp2
          go_end0
          exact ⟨rfl, d, HDN.out, HFN.out, S1.out⟩
        have hz2 : (bs : Int) < (n : Int) := by omega
        go_wp2_with fail
        go_loopg [7, 8] n (fun kx s7 s8 wr => ∃ (a : Nat) (d : Array α), s7 = .int .i64 (a : Int) ∧ s8 = .int .i64 ((a : Int) + 2 * (bs : Int)) ∧ (a ≤ n ∧ n - a ≤ kx) ∧ Hid (2 * bs ∣ a) ∧ Hid (d.size = n) ∧ Aside (SW (encX val) w0 blk off d wr) ∧ Hid (Full lt (getF d0) (getF d) (2 * bs) a ∧ Blks lt (getF d0) (getF d) n bs a))
        case atStart => exact ⟨0, d, rfl, by first | rfl | (congr 1; omega), by omega, Lib.hid ⟨0, rfl⟩, HDN, S1, Lib.hid ⟨fun s h1 h2 => by omega, HB.out⟩⟩
        case round =>
          clear S1 HB HDN
          obtain ⟨a, d, rfl, rfl, ⟨han2, hkx3⟩, HDV, HDN, S1, HB⟩ := hrel
          by_cases hle2 : a + 2 * bs ≤ n
          · have hz3 : (a : Int) + 2 * (bs : Int) ≤ (n : Int) := by omega
            obtain ⟨p1, p2⟩ := pair_two HDV.out HB.out.2 hle2 (by omega)
            have HP1 := Lib.hid p1; have HP2 := Lib.hid p2
            have HCX := Lib.hid (Blk.cross p1 p2 hle2 HAP.out)
            clear p1 p2
            go_wp2_with (go_at_call 79; refine (HSM.out a (a + bs) (a + 2 * bs) d _ HDN.out (by omega) (by omega) hle2 S1.out HP1.out.srt HP2.out.srt HCX.out _ _ (by omega) (by omega)).mono ?_; go_must (rintro e w1 ⟨rfl, d1, hd1, hm1, S2⟩; have HD1 := Lib.hid hd1; have HM1 := Lib.hid hm1; clear hd1 hm1; have SN : Aside _ := S2; clear S2))
            go_roundg (n - (a + 2 * bs))
            case measure => omega
            case rel => exact ⟨a + 2 * bs, d1, by first | rfl | (congr 1; omega), by first | rfl | (congr 1; omega), by omega, Lib.hid (Nat.dvd_add HDV.out (Nat.dvd_refl _)), HD1, SN, Lib.hid (pair_step (by omega) HDV.out HB.out.1 HB.out.2 hle2 HM1.out)⟩
          · have hz3 : ¬ (a : Int) + 2 * (bs : Int) ≤ (n : Int) := by omega
            by_cases hml : a + bs < n
            · have hz4 : (a : Int) + (bs : Int) < (n : Int) := by omega
              obtain ⟨p1, p2⟩ := pair_last HDV.out HB.out.2 hml (by omega) (by omega)
              have HP1 := Lib.hid p1; have HP2 := Lib.hid p2
              have HCX := Lib.hid (Blk.cross p1 p2 (Nat.le_refl _) HAP.out)
              clear p1 p2
              go_wp2_with (go_at_call 79; refine (HSM.out a (a + bs) n d _ HDN.out (by omega) (by omega) (Nat.le_refl _) S1.out HP1.out.srt HP2.out.srt HCX.out _ _ (by omega) rfl).mono ?_; go_must (rintro e w1 ⟨rfl, d1, hd1, hm1, S2⟩; have HD1 := Lib.hid hd1; have HM1 := Lib.hid hm1; clear hd1 hm1; have SN : Aside _ := S2; clear S2))
              go_roundg (n - 2 * bs + 1)
              case measure => omega
              case rel => exact ⟨2 * bs, d1, by first | rfl | (congr 1; omega), by omega, HD1, SN, Lib.hid (pair_end han2 (by omega) HDV.out HB.out.1 HB.out.2 (by omega) (.inl ⟨hml, HM1.out⟩))⟩
            · have hz4 : ¬ (a : Int) + (bs : Int) < (n : Int) := by omega
              go_wp2_with fail
              go_roundg (n - 2 * bs + 1)
              case measure => omega
              case rel => exact ⟨2 * bs, d, by first | rfl | (congr 1; omega), by omega, HDN, S1, Lib.hid (pair_end han2 (by omega) HDV.out HB.out.1 HB.out.2 (by omega) (.inr ⟨by omega, rfl⟩))⟩
set_option maxRecDepth 100000 in
theorem sortStable_s (lt : α → α → Prop) (ht : ∀ x y z, lt x y → lt y z → lt x z) (cf : α → α → Int) (g : Nat) (cb : Array Value) (eg : ∀ args w, (callFunc g args).run Try.prog w = .ok (.enter g args) w) (blk off cap n : Nat) (d0 : Array α) (w0 : World) (hn : d0.size = n) (hcmp : CmpLays1 Try.prog g cb (encX val) cf blk off d0.size w0)
    (R : Row1 (encX val) w0 blk off d0) (hn0 : 0 < n) (hsz : n ≤ 1000000) (hap : Apart lt (ltOf cf) (getF d0) n) :
    Calls Try.prog 64 #[.slice (some ⟨blk, off, none⟩) n cap, .func (.func g) #[] cb] w0 (fun e w' => e = .returned (.tuple #[]) ∧ ∃ d' : Array α, d'.size = n ∧ Blk lt (getF d0) (getF d') 0 n ∧ SW (encX val) w0 blk off d' w') := by
  have H := Lib.hid (stable_s val lt ht cf g cb eg blk off cap n d0 w0 hn hcmp R hn0 hsz hap)
  clear hcmp R hap
  go_enter Try.func64, Try.ntmps64
  go_wp2_with (go_at_call 76; refine H.out.mono ?_; go_must (rintro e w1 ⟨rfl, hd⟩; have HD := Lib.hid hd; clear hd))
  go_end0
  exact ⟨rfl, HD.out⟩
end
end Go.Proofs.Ytbjbdochffocoaa
