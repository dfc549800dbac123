/- slices.swapRangeCmpFunc and slices.rotateCmpFunc at whole numbers: their walks. -/
import Derived.Test.YtbjbdochffocoaaStabB
import Derived.Test.YtbjbdochffocoaaKitA
import Derived.Shelf.SlSortCmp.Insertion1
namespace Go.Proofs.Ytbjbdochffocoaa
open Go.Shelf Go.RowKit Go.Lib Go.Sort
set_option linter.unusedVariables false
theorem un_srt : Try.prog.underlying 25 = some (.slice (Try.prog.elem 25)) := by kernel_rfl
theorem sz_srt (W : World) : (sizeOf (Try.prog.elem 25)).run Try.prog W = .ok 1 W := by kernel_rfl
theorem ix_srt (blk off n cap k : Nat) (z : Int) (hz : z = (k : Int)) (hk : k < n) (W : World) : (Instr.indexAt 25 (.slice (some ⟨blk, off, none⟩) n cap) (.int .i64 z)).run Try.prog W = .ok (.pointer (some ⟨blk, off + k, none⟩)) W := by
  rw [hz]
  have := idx_of un_srt sz_srt blk off n cap k hk W
  simpa using this
section
variable {α : Type} [Inhabited α] (val : α → Int)
abbrev encX (x : α) : Value := .int .i64 (val x)
set_option maxHeartbeats 4000000 in
set_option maxRecDepth 100000 in
theorem swapRange_s (g : Nat) (cb : Array Value) (blk off cap a b n : Nat) (d0 d : Array α) (w0 w : World) (R : Row1 (encX val) w0 blk off d0) (hs : d0.size = d.size) (S : SW (encX val) w0 blk off d w) (han : a + n ≤ b) (hbn : b + n ≤ d.size) (hsz : d.size < 4611686018427387904) :
    Calls Try.prog 81 #[.slice (some ⟨blk, off, none⟩) d.size cap, .int .i64 (a : Int), .int .i64 (b : Int), .int .i64 (n : Int), .func (.func g) #[] cb] w fun e w' => e = .returned (.tuple #[]) ∧ ∃ d' : Array α, d'.size = d.size ∧ getF d' = rngF a b n (getF d) ∧ SW (encX val) w0 blk off d' w' := by
  have S0 : Aside (SW (encX val) w0 blk off d w) := S
  clear S
  go_enter Try.func81, Try.ntmps81
  go_wp2
  go_loopg [10] n (fun kx s10 wr => ∃ (i : Nat) (dk : Array α), s10 = .int .i64 (i : Int) ∧ i ≤ n ∧ n - i ≤ kx ∧ dk.size = d.size ∧ Aside (SW (encX val) w0 blk off dk wr) ∧ Hid (getF dk = rngF a b i (getF d)))
  case atStart => exact ⟨0, d, rfl, by omega, by omega, rfl, S0, Lib.hid (rng_none _).symm⟩
  case round =>
    clear S0
    obtain ⟨i, dk, rfl, hi, hkx, hds, S1, HG⟩ := hrel
    by_cases hlt : i < n
    rotate_left
    · have hz : ¬ (i : Int) < (n : Int) := by omega
      have hie : i = n := by omega
      go_wp2
      go_end0
      exact ⟨rfl, dk, hds, by rw [← hie]; exact HG.out, S1.out⟩
    · have hz : (i : Int) < (n : Int) := by omega
      go_wp2_with fail
      obtain ⟨iN, hiN⟩ : ∃ iQ, iQ = a + i := ⟨_, rfl⟩
      obtain ⟨jN, hjN⟩ : ∃ iQ, iQ = b + i := ⟨_, rfl⟩
      have ia := ix_srt blk off d.size cap iN ((a : Int) + (i : Int)) (by omega) (by omega)
      have ja := ix_srt blk off d.size cap jN ((b : Int) + (i : Int)) (by omega) (by omega)
      have ra : IntKind.i64.wrap ((a : Int) + (i : Int)) = (a : Int) + (i : Int) := by rw [IntKind.wrap_i64]; omega
      have rc : IntKind.i64.wrap ((b : Int) + (i : Int)) = (b : Int) + (i : Int) := by rw [IntKind.wrap_i64]; omega
      obtain ⟨xe, hxe⟩ : ∃ x, x = dk[a + i]! := ⟨_, rfl⟩
      obtain ⟨ye, hye⟩ : ∃ x, x = dk[b + i]! := ⟨_, rfl⟩
      have S2 : Aside (SW (encX val) w0 blk off (swp dk (a + i) (b + i)) ((wr.setCell ⟨blk, off + iN, none⟩ (encX val ye)).setCell ⟨blk, off + jN, none⟩ (encX val xe)).drew) := by rw [hiN, hjN, hxe, hye]; exact S1.out.swapped R (a + i) (b + i) (by omega) (by omega)
      have ca := S1.out.c1 R (by omega) (a + i) (by omega)
      have cc := S1.out.c1 R (by omega) (b + i) (by omega)
      have fa := S1.out.f1 R (by omega) (a + i) (by omega)
      have fc := S1.out.f1 R (by omega) (b + i) (by omega)
      obtain ⟨ue, ce⟩ := S1.out.c2 R (by omega) (a + i) (b + i) (by omega) (by omega) (encX val ye)
      first | rw [← hjN, ← hiN] at ce | rw [← hiN, ← hjN] at ce
      rw [← hxe, ← hiN] at ca
      rw [← hye, ← hjN] at cc
      rw [← hiN] at fa
      rw [← hjN] at fc
      clear S1 hxe hye hiN hjN
      go_wp2_with fail
      go_big_region
      clear ca cc ce fa fc ia ja ra rc
      generalize ((wr.setCell ⟨blk, off + iN, none⟩ (encX val ye)).setCell ⟨blk, off + jN, none⟩ (encX val xe)).drew = w2 at S2 ⊢
      go_wp2
      go_roundg (n - (i + 1))
      case measure => omega
      case rel => exact ⟨i + 1, swp dk (a + i) (b + i), by simp, by omega, by omega, by rw [size_swp]; exact hds, S2, Lib.hid (by rw [getF_swp dk (by omega) (by omega), HG.out, rng_step _ (by omega)])⟩
set_option maxHeartbeats 4000000 in
set_option maxRecDepth 100000 in
theorem rotate_s (g : Nat) (cb : Array Value) (blk off cap a m b : Nat) (d0 d : Array α) (w0 w : World) (R : Row1 (encX val) w0 blk off d0) (hs : d0.size = d.size) (S : SW (encX val) w0 blk off d w) (ham : a < m) (hmb : m < b) (hb : b ≤ d.size) (hsz : d.size < 4611686018427387904) :
    Calls Try.prog 80 #[.slice (some ⟨blk, off, none⟩) d.size cap, .int .i64 (a : Int), .int .i64 (m : Int), .int .i64 (b : Int), .func (.func g) #[] cb] w fun e w' => e = .returned (.tuple #[]) ∧ ∃ d' : Array α, d'.size = d.size ∧ getF d' = rotF a m b (getF d) ∧ SW (encX val) w0 blk off d' w' := by
  have S0 : Aside (SW (encX val) w0 blk off d w) := S
  clear S
  have HSW := Lib.hid (fun (x y n : Nat) (z : Int) (dk : Array α) (W : World) (hk : dk.size = d.size) (S : SW (encX val) w0 blk off dk W) (h1 : x + n ≤ y) (h2 : y + n ≤ d.size) (hz : z = (x : Int)) (z2 : Int) (hz2 : z2 = (y : Int)) => show Calls Try.prog 81 #[.slice (some ⟨blk, off, none⟩) d.size cap, .int .i64 z, .int .i64 z2, .int .i64 (n : Int), .func (.func g) #[] cb] W fun e w' => e = .returned (.tuple #[]) ∧ ∃ d' : Array α, d'.size = d.size ∧ getF d' = rngF x y n (getF dk) ∧ SW (encX val) w0 blk off d' w' from by
    have := swapRange_s val g cb blk off cap x y n d0 dk w0 W R (by omega) S h1 (by omega) (by omega)
    rw [hk] at this
    rw [hz, hz2]
    exact this)
  go_enter Try.func80, Try.ntmps80
  go_wp2
  go_loopg [10, 11] (m + b) (fun kx s10 s11 wr => ∃ (i j : Nat) (dk : Array α), s10 = .int .i64 (i : Int) ∧ s11 = .int .i64 (j : Int) ∧ (1 ≤ i ∧ i ≤ m ∧ 1 ≤ j ∧ m + j ≤ d.size) ∧ i + j ≤ kx ∧ dk.size = d.size ∧ Aside (SW (encX val) w0 blk off dk wr) ∧ Hid (rotF (m - i) m (m + j) (getF dk) = rotF a m b (getF d)))
  case atStart => exact ⟨m - a, b - m, d, by congr 1; omega, by congr 1; omega, by omega, by omega, rfl, S0, Lib.hid (by rw [show m - (m - a) = a by omega, show m + (b - m) = b by omega])⟩
  case round =>
    clear S0
    obtain ⟨i, j, dk, rfl, rfl, ⟨hi1, him, hj1, hjm⟩, hkx, hds, S1, HG⟩ := hrel
    by_cases hne : i = j
    · subst hne
      have hz : ((i : Int) != (i : Int)) = false := by simp
      go_wp2_with (go_at_call 81; refine (HSW.out (m - i) m i _ dk _ hds S1.out (by omega) (by omega) (by omega) _ rfl).mono ?_; go_must (rintro e w1 ⟨rfl, dn, hdn, hg, S2⟩; have HGN := Lib.hid hg; clear hg))
      go_end0
      exact ⟨rfl, dn, hdn, by rw [HGN.out, rot_even _ him, HG.out], S2⟩
    · have hz : ((i : Int) != (j : Int)) = true := by simp; omega
      by_cases hgt : j < i
      · have hz2 : (j : Int) < (i : Int) := by omega
        go_wp2_with (go_at_call 81; refine (HSW.out (m - i) m j _ dk _ hds S1.out (by omega) (by omega) (by omega) _ rfl).mono ?_; go_must (rintro e w1 ⟨rfl, dn, hdn, hg, S2⟩; have HGN := Lib.hid hg; clear hg; have SN : Aside _ := S2; clear S2))
        go_roundg (i - j + j)
        case measure => omega
        case rel => exact ⟨i - j, j, dn, by congr 1; omega, rfl, by omega, by omega, hdn, SN, Lib.hid (by rw [HGN.out, rot_long _ hgt him, HG.out])⟩
      · have hz2 : ¬ (j : Int) < (i : Int) := by omega
        have hlt : i < j := by omega
        go_wp2_with (go_at_call 81; refine (HSW.out (m - i) (m + j - i) i _ dk _ hds S1.out (by omega) (by omega) (by omega) _ (by omega)).mono ?_; go_must (rintro e w1 ⟨rfl, dn, hdn, hg, S2⟩; have HGN := Lib.hid hg; clear hg; have SN : Aside _ := S2; clear S2))
        go_roundg (i + (j - i))
        case measure => omega
        case rel => exact ⟨i, j - i, dn, rfl, by congr 1; omega, by omega, by omega, hdn, SN, Lib.hid (by rw [HGN.out, rot_short _ hlt him, HG.out])⟩
end
end Go.Proofs.Ytbjbdochffocoaa
