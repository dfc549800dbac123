/- The exclusive or of lists of bytes; the walk of forge.mixed. -/
import Derived.Test.YtlljfbakpljenaaByteA
import Derived.Test.YtlljfbakpljenaaKitA
namespace Go.Proofs.Ytlljfbakpljenaa
open Go.RowKit
/-- All are bytes. -/
def Byts (l : List Int) : Prop := ∀ z ∈ l, 0 ≤ z ∧ z < 256
/-- The exclusive or of two bytes. -/
def xb (x y : Int) : Int := ((x.toNat ^^^ y.toNat : Nat) : Int)
theorem xb_bits {x y : Int} (hx : 0 ≤ x ∧ x < 256) (hy : 0 ≤ y ∧ y < 256) : bits .xor .u8 x y = xb x y := u8_xor x y hx.1 hx.2 hy.1 hy.2
theorem xb_zero {x : Int} (hx : 0 ≤ x) : xb x 0 = x := by simp [xb]; omega
theorem zero_xb {x : Int} (hx : 0 ≤ x) : xb 0 x = x := by simp [xb]; omega
theorem xb_byte {x y : Int} (hx : x < 256) (hy : y < 256) : 0 ≤ xb x y ∧ xb x y < 256 := by
  have := Nat.xor_lt_two_pow (x := x.toNat) (y := y.toNat) (n := 8) (by omega) (by omega)
  simp only [xb]; omega
theorem xb_back {x y : Int} (hx : 0 ≤ x) : xb (xb x y) y = x := by
  simp only [xb, Int.toNat_natCast, Nat.xor_assoc, Nat.xor_self, Nat.xor_zero]; omega
theorem xb_comm (x y : Int) : xb x y = xb y x := by simp only [xb, Nat.xor_comm]
theorem Byts.at {l : List Int} (h : Byts l) (i : Nat) : 0 ≤ l.getD i 0 ∧ l.getD i 0 < 256 := by
  rw [List.getD_eq_getElem?_getD]
  rcases hi : l[i]? with _ | z
  · simp
  · exact h z (List.mem_of_getElem? hi)
/-- The exclusive or of two lists, with zeros behind their ends. -/
def mixL (l1 l2 : List Int) (n : Nat) : List Int := (List.range n).map fun i => xb (l1.getD i 0) (l2.getD i 0)
def vals (l : List Int) : List Value := l.map (Value.int .u8)
theorem vals_snoc {l : List Int} {z : Int} : vals l ++ [.int .u8 z] = vals (l ++ [z]) := by simp [vals]
theorem mixL_succ (l1 l2 : List Int) (n : Nat) : mixL l1 l2 (n + 1) = mixL l1 l2 n ++ [xb (l1.getD n 0) (l2.getD n 0)] := by simp [mixL, List.range_succ]
theorem mixL_len (l1 l2 : List Int) (n : Nat) : (mixL l1 l2 n).length = n := by simp [mixL]
theorem mixL_byts {l1 l2 : List Int} (h1 : Byts l1) (h2 : Byts l2) (n : Nat) : Byts (mixL l1 l2 n) := by
  intro z hz
  simp only [mixL, List.mem_map] at hz
  obtain ⟨i, _, rfl⟩ := hz
  exact xb_byte (h1.at i).2 (h2.at i).2
theorem slU8 : SlT Try.prog 27 5 (.int .u8 0) 1 1 := ⟨Try.underlying27, by kernel_rfl, rfl, by decide⟩
theorem oneCell_vals (l : List Int) : (vals l).all Value.oneCell' = true := by simp [vals, List.all_map]; intro x _; rfl
theorem mix_cases {l1 l2 : List Int} (h1 : Byts l1) (h2 : Byts l2) (k : Nat) :
    (k < l1.length → k < l2.length → xb (l1.getD k 0) (l2.getD k 0) = bits .xor .u8 (bits .xor .u8 0 (l1.getD k 0)) (l2.getD k 0)) ∧ (k < l1.length → ¬ k < l2.length → xb (l1.getD k 0) (l2.getD k 0) = bits .xor .u8 0 (l1.getD k 0)) ∧
    (¬ k < l1.length → k < l2.length → xb (l1.getD k 0) (l2.getD k 0) = bits .xor .u8 0 (l2.getD k 0)) ∧ (¬ k < l1.length → ¬ k < l2.length → xb (l1.getD k 0) (l2.getD k 0) = 0) := by
  have a1 := h1.at k
  have a2 := h2.at k
  refine ⟨fun _ _ => ?_, fun _ g => ?_, fun g _ => ?_, fun g g' => ?_⟩
  · rw [xb_bits (x := 0) (by omega) a1, zero_xb a1.1, xb_bits a1 a2]
  · rw [xb_bits (x := 0) (by omega) a1, zero_xb a1.1, show l2.getD k 0 = 0 by simp [List.getElem?_eq_none (show l2.length ≤ k by omega)], xb_zero a1.1]
  · rw [xb_bits (x := 0) (by omega) a2, zero_xb a2.1, show l1.getD k 0 = 0 by simp [List.getElem?_eq_none (show l1.length ≤ k by omega)], zero_xb a2.1]
  · rw [show l1.getD k 0 = 0 by simp [List.getElem?_eq_none (show l1.length ≤ k by omega)], show l2.getD k 0 = 0 by simp [List.getElem?_eq_none (show l2.length ≤ k by omega)]]; rfl
set_option maxHeartbeats 4000000 in
set_option maxRecDepth 100000 in
theorem mixed_any (a1 a2 : Option Addr) (c1 c2 : Nat) (l1 l2 : List Int) (y1 : Byts l1) (y2 : Byts l2) (n : Nat) (hn : n ≤ 1000) (w : World) (B : Nat) (hB : B ≤ w.heap.size) (h1 : Rd w B a1 l1) (h2 : Rd w B a2 l2) :
    Calls Try.prog 106 #[.slice a1 l1.length c1, .slice a2 l2.length c2, .int .i64 (n : Int)] w fun e w' => ∃ v, e = .returned v ∧ Below w.heap.size w w' ∧ w'.ownsRow w.heap.size 5 1 v n (vals (mixL l1 l2 n)) := by
  obtain ⟨p1, hx1, hp1⟩ := h1.reads
  obtain ⟨p2, hx2, hp2⟩ := h2.reads
  go_enter Try.func106, Try.ntmps106
  go_wp2
  go_loopw [7, 13] (fun v i wr => ∃ k : Nat, k ≤ n ∧ i = .int .i64 k ∧ wr.ownsRow w.heap.size 5 1 v k (vals (mixL l1 l2 k)) ∧ Below w.heap.size w wr)
    (fun _ i _ => n - (intOf i).toNat)
  case atStart => exact ⟨0, Nat.zero_le _, rfl, World.ownsRow_nil _ _ _ _, Below.refl _ _⟩
  case round =>
    obtain ⟨k, hk, rfl, hown, hb⟩ := hrel
    have hq1 := fun o : Obj => hp1 (wr.alloc o) ((hb.alloc hb.size o).mono hB)
    have hq2 := fun o : Obj => hp2 (wr.alloc o) ((hb.alloc hb.size o).mono hB)
    have hsz := hb.size
    by_cases hlt : k < n
    rotate_left
    · obtain rfl : k = n := by omega
      go_wp2
      go_ret
      exact ⟨_, rfl, hb, hown⟩
    by_cases g1 : k < l1.length <;> by_cases g2 : k < l2.length
    all_goals
      try have r1 := hx1 k g1
      try have r2 := hx2 k g2
      try have s1 := fun o => hq1 o k g1
      try have s2 := fun o => hq2 o k g2
      clear hq1 hq2 hp1 hp2 hx1 hx2
      go_wp2
      refine wp_loop_rounds 3 ?_
      iterate 3 (rw [rounds_succ]; go_wp2_with (at_builtin; refine wpList_push rfl _ _ _ rfl slU8 (hown.alloc _) rfl rfl (by simp) rfl rfl (by omega) (by omega) (by simp; omega) ?_; intro g c' w1 hown' hg _))
      go_roundw
      case rel =>
        obtain ⟨m1, m2, m3, m4⟩ := mix_cases y1 y2 k
        refine ⟨k + 1, by omega, by go_num, ?_, below_push (hb.alloc hb.size _) (hown.alloc _) (Nat.le_refl _) (by simp; omega) hg⟩
        rw [mixL_succ, ← vals_snoc]
        first | rw [m1 g1 g2] | rw [m2 g1 g2] | rw [m3 g1 g2] | rw [m4 g1 g2]
        simpa [g1, g2] using hown'
      case measure => simp [intOf]; omega
end Go.Proofs.Ytlljfbakpljenaa
