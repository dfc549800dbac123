/- The walks of the greatest product: the program's and the reference's; and of the reference's Valid and asked. -/
import Derived.Test.YtjceppinjeehiaaLinkF
namespace Go.Proofs.Ytjceppinjeehiaa
open Go.RowKit
set_option maxHeartbeats 4000000 in
set_option maxRecDepth 100000 in
theorem most_l (links : List C2) (hl : links.length ≤ 1000) (hn : ∀ l ∈ links, Near 3 l) (x y m : Int) (hxy : Near 100 (x, y)) (hm : -1000 ≤ m ∧ m ≤ 1000) (w : World) (g off : Nat) (v : Value) (hv : CRd w v g off links) :
    Calls Try.prog 22 #[v, .agg #[.int .i64 (x), .int .i64 (y)], .int .i64 m] w fun e w' => e = .returned (.int .i64 (mostL links (x, y) m)) ∧ Below w.heap.size w w' := by
  obtain ⟨a, cap, rfl, hx⟩ := hv.at
  have HX := Lib.hid hx; clear hx hv
  have HN := Lib.hid hn; clear hn
  have HM := Lib.hid hm; clear hm
  have HXY := Lib.hid hxy; clear hxy
  go_enter Try.func22, Try.ntmps22
  go_wp2
  go_loopw [2, 11] (fun t i wr => ∃ k : Nat, k ≤ links.length ∧ i = .int .i64 (k : Nat) ∧ t = .int .i64 (mostL (links.take k) (x, y) m) ∧ Below (w.heap.size + 1) (w.alloc (.cells #[.int .i64 x, .int .i64 y] 24)) wr) (fun _ i _ => links.length - (intOf i).toNat)
  case atStart => exact ⟨0, Nat.zero_le _, rfl, rfl, Below.refl _ _⟩
  case round =>
    obtain ⟨k, hk, rfl, rfl, hb⟩ := hrel
    have hsz := hb.size
    simp at hsz
    have hz := z1 hsz
    by_cases hlt : k < links.length
    rotate_left
    · obtain rfl : k = links.length := by omega
      rw [List.take_length]
      go_wp2
      go_ret
      exact ⟨rfl, ((Below.refl _ _).alloc (Nat.le_refl _) _).trans (hb.mono (by omega))⟩
    obtain ⟨hi, hg, hc0, hc1⟩ := HX.out k hlt
    have hb0 : Below w.heap.size w wr := ((Below.refl _ _).alloc (Nat.le_refl _) _).trans (hb.mono (by omega))
    have r0 := (hb0.cell (p := ⟨g, off + 2 * k, none⟩) hg).trans hc0
    have r1 := (hb0.cell (p := ⟨g, off + 2 * k + 1, none⟩) hg).trans hc1
    have b0 := (hb.cell (p := ⟨w.heap.size, 0, none⟩) (by simp)).trans (show _ = some (.int .i64 x) by go_simp)
    have b1 := (hb.cell (p := ⟨w.heap.size, 1, none⟩) (by simp)).trans (show _ = some (.int .i64 y) by go_simp)
    clear hc0 hc1
    have hnl := HN.out _ (List.getElem_mem hlt)
    have HT := Lib.hid (show mostL (links.take (k + 1)) (x, y) m = max (mostL (links.take k) (x, y) m) (dotL (x, y) links[k]) by rw [List.take_succ_eq_append_getElem hlt, mostL_snoc])
    have HB := Lib.hid (mostL_bd (links := links.take k) (fun l hl => HN.out l (List.mem_of_mem_take hl)) HXY.out HM.out)
    have hmul := mul_bd ⟨HXY.out.1, HXY.out.2.1⟩ ⟨hnl.1, hnl.2.1⟩
    have hmul2 := mul_bd ⟨HXY.out.2.2.1, HXY.out.2.2.2⟩ ⟨hnl.2.2.1, hnl.2.2.2⟩
    simp only at hmul hmul2
    generalize links[k] = c at *
    obtain ⟨c0, c1⟩ := c
    simp only at r0 r1 hmul hmul2
    have HU := Lib.hid hmul; have HU2 := Lib.hid hmul2; clear hmul hmul2 hnl
    generalize mostL (links.take k) (x, y) m = z at *
    go_wp2_with (go_at_call 23; refine (times_l _ _ _ _ (by have := HU.out; omega) (by have := HU2.out; omega) _).mono ?_; go_must (rintro e w2 ⟨rfl, hb2⟩))
    go_roundw
    case rel => exact ⟨k + 1, hlt, by simp, by rw [HT.out]; congr 1; split <;> omega, (hb.alloc (by omega) _).trans (hb2.mono (by simp; omega))⟩
    case measure => simp only [intOf]; omega
end Go.Proofs.Ytjceppinjeehiaa
