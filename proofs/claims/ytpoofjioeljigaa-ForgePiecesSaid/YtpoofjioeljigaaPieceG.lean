/- The walk of forge.written. -/
import Derived.Test.YtpoofjioeljigaaPieceF
namespace Go.Proofs.Ytpoofjioeljigaa
open Go.RowKit
theorem BB.shape {w : World} {v : Value} {l : List Int} (h : BB w v l) : ∃ a cap, v = .slice a l.length cap := by
  obtain ⟨_, a, cap, rfl, _⟩ := h; exact ⟨a, cap, rfl⟩
set_option maxHeartbeats 4000000 in
set_option maxRecDepth 100000 in
theorem written_any (v : Value) (ps : List (Int × List Int)) (hl : ps.length ≤ 100000) (ht : totalP ps ≤ 100000) (hp : ∀ p ∈ ps, 0 ≤ p.1 ∧ p.1 ≤ 200) (w : World) (lo : Nat) (ho : OwnPs w lo v ps) :
    Calls Try.prog 74 #[v] w fun e w' => ∃ v', e = .returned v' ∧ Below w.heap.size w w' ∧ BOwn w' w.heap.size v' (wrL ps) := by
  obtain ⟨a, cap, rfl, hx⟩ := ho.idx
  have HX := Lib.hid hx; clear hx ho
  go_enter Try.func74, Try.ntmps74
  go_wp2
  go_loopw [3, 8] (fun vb i wr => ∃ k : Nat, k ≤ ps.length ∧ i = .int .i64 k ∧ BOwn wr w.heap.size vb (wrL (ps.take k)) ∧ Below w.heap.size w wr) (fun _ i _ => ps.length - (intOf i).toNat)
  case atStart => exact ⟨0, Nat.zero_le _, rfl, own_nil' _ _, Below.refl _ _⟩
  case round =>
    obtain ⟨k, hk, rfl, hown, hb⟩ := hrel
    by_cases hlt : k < ps.length
    rotate_left
    · obtain rfl : k = ps.length := by omega
      go_wp2
      go_ret
      rw [List.take_length] at hown
      exact ⟨_, rfl, hb, hown⟩
    obtain ⟨g, x, hi, hgl, hc0, hc1, hbb⟩ := HX.out k hlt
    have hr0 := (hb.cell (p := ⟨g, 2 * k, none⟩) hgl).trans hc0
    have hr1 := (hb.cell (p := ⟨g, 2 * k + 1, none⟩) hgl).trans hc1
    have hp0 := hp _ (List.getElem_mem hlt)
    have htk := totalP_take ps k hlt
    have htl := totalP_take_le ps (k + 1)
    have HUL := Lib.hid (wrL_len (ps.take k))
    have HW := Lib.hid (wrL_take ps k hlt)
    have hbr := fun o => ((hbb.kept (KU.of_below hb)).kept (KU.of_below ((Below.refl _ wr).alloc (Nat.le_refl _) o))).sl
    obtain ⟨ax, cx, rfl⟩ := hbb.shape
    generalize hL : ps[k].1 :: ps[k].2 ++ [165] = L at HW
    have HLL := Lib.hid (show L.length = ps[k].2.length + 2 by rw [← hL]; simp)
    have HL := Lib.hid hL; clear hL
    generalize wrL (ps.take k) = U at hown HUL HW
    obtain ⟨a3, c3, rfl⟩ := hown.rd
    generalize ps[k].1 = n at *
    generalize ps[k].2 = part at *
    clear hc0 hc1 hbb
    go_wp2_with (first | (go_at_call 73; refine (bytes_any n hp0.1 hp0.2 _ part (by omega) _ (hbr _)).mono ?_; go_must (rintro e w1 ⟨v', rfl, hb1, hown1⟩; rw [HL.out] at hown1; obtain ⟨b1, e1, rfl⟩ := hown1.rd; have hoo := own_kept (hown.1.alloc _) hb1 (Nat.le_refl _); have hs1 := hb1.size; simp at hs1; have hs0 := hb.size; have hs2 : w.heap.size ≤ w1.heap.size := by omega)) | (at_builtin; refine wpList_concat rfl _ _ _ rfl slU8 hoo rfl hown1.sl.1 rfl (oneCell_vals _) (by have := HUL.out; have := HLL.out; omega) (by omega) hs2 ?_; intro b2 e2 w2 hown2 hg2 hat2))
    go_roundw
    case rel =>
      have hbb := below_push (hb.trans (((Below.refl wr.heap.size wr).alloc (Nat.le_refl _) (.cells #[.int .i64 n, .slice ax part.length cx] 97)).mono hb.size |>.trans (hb1.mono (by simp; omega)))) hoo (Nat.le_refl _) hs2 hg2
      refine ⟨k + 1, hlt, by simp, ?_, hbb⟩
      rw [HW.out]
      exact BOwn.mk' (n := U.length + L.length) (by simpa [vals] using hown2) (fun z hz => (List.mem_append.1 hz).elim (hown.2 z) (hown1.2 z))
    case measure => simp only [intOf]; omega
end Go.Proofs.Ytpoofjioeljigaa
