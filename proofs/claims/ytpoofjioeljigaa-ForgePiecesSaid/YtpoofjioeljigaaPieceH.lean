/- The walk of forge.Pieces. -/
import Derived.Test.YtpoofjioeljigaaPieceG
namespace Go.Proofs.Ytpoofjioeljigaa
open Go.RowKit
theorem BB.take {w : World} {a : Option Addr} {n cap : Nat} {l : List Int} (h : BB w (.slice a n cap) l) (z : Int) (y : Nat) (hz : z = (y : Int)) (hy : y ≤ l.length) :
    (∀ W, (Instr.slice 34 (.slice a n cap) none (some (.int .i64 z)) none).run Try.prog W = .ok (.slice a y cap) W) ∧ BB w (.slice a y cap) (l.take y) := by
  subst hz
  obtain ⟨hb, a', cap', he, hc, hm, hn, hr⟩ := h
  cases he
  refine ⟨fun W => ?_, fun z hz => hb z (List.mem_of_mem_take hz), a, cap, by rw [List.length_take]; congr 1; omega, by rw [List.length_take]; omega, hm, hn, ?_⟩
  · rw [run_slice_h (P := Try.prog) (w := W) 34 a l.length cap under_u8s .i64 _ (by omega) (by omega), size_u8s]
    simp only [Result.andThen, sliced]
    by_cases hq : cap = 0
    · simp [hq]
    · rcases hr with rfl | ⟨b, off, cur, fr, rfl, -⟩
      · cases a with
        | none => simp
        | some ad => simp [hq, Addr.add]
      · simp [Addr.add]
  · rcases hr with rfl | ⟨b, off, cur, fr, rfl, hg, hx⟩
    · exact .inl (by simp)
    · refine .inr ⟨b, off, cur, fr, rfl, hg, fun i hi => ?_⟩
      simp only [List.length_take] at hi
      rw [hx i (by omega)]
      have : i < y := by omega
      simp [this]
/-- What Pieces gives out. -/
def outP (ps : List (Int × List Int)) : List (List Int) := ps.map fun p => p.1 :: p.2
theorem outP_take (ps : List (Int × List Int)) (k : Nat) (h : k < ps.length) : outP (ps.take (k + 1)) = outP (ps.take k) ++ [ps[k].1 :: ps[k].2] := by
  rw [List.take_succ_eq_append_getElem h]
  simp only [outP, List.map_append, List.map_cons, List.map_nil]
theorem OwnBs.mono {w : World} {lo lo' : Nat} {v : Value} {ls : List (List Int)} (h : OwnBs w lo v ls) (hl : lo' ≤ lo) : OwnBs w lo' v ls := by
  obtain ⟨xs, ho, hf⟩ := h
  exact ⟨xs, own_mono ho hl, hf⟩
set_option maxHeartbeats 4000000 in
set_option maxRecDepth 100000 in
theorem Pieces_good (disk : Nat) (hd : disk ≤ 2) (v : Value) (l : List Int) (hl : l.length ≤ 100000) (w : World) (hv : BSl w w.heap.size v l) :
    Calls Try.prog 36 #[.int .i64 (disk : Int), v] w fun e w' => ∃ v', e = .returned (.tuple #[v', .int .i64 (totalP (piecesL disk l) : Nat), .int .i64 0]) ∧ Below w.heap.size w w' ∧ OwnBs w' w.heap.size v' (outP (piecesL disk l)) := by
  have ht := totalP_le disk _ l (Nat.le_refl _)
  have hp := piecesL_pos disk _ l (Nat.le_refl _) hv.2
  have HV := Lib.hid hv; clear hv
  have HT := Lib.hid (show ∀ p ∈ piecesL disk l, 0 ≤ p.1 ∧ p.1 ≤ 200 from fun p hq => ⟨hp p hq, ht.2.2 p hq⟩)
  have ht1 := ht.1
  have ht2 := ht.2.1
  clear ht hp
  go_enter Try.func36, Try.ntmps36
  go_wp2_with (go_at_call 72; refine (pieces_any disk v l hl _ HV.out).mono ?_; go_must (rintro e w1 ⟨vp, rfl, hb1, hown1⟩; obtain ⟨a, cap, rfl, hx⟩ := hown1.idx; have HX := Lib.hid hx; clear hx))
  have E1 := HV.out.lenV
  clear E1
  have hq1 := hb1.size
  go_loopw [8, 23] (fun vb i wr => ∃ k : Nat, k ≤ (piecesL disk l).length ∧ i = .int .i64 k ∧ OwnBs wr w1.heap.size vb (outP ((piecesL disk l).take k)) ∧ Below w1.heap.size w1 wr) (fun _ i _ => (piecesL disk l).length - (intOf i).toNat)
  case atStart => exact ⟨0, Nat.zero_le _, rfl, OwnBs.nil _ _, Below.refl _ _⟩
  case round =>
    obtain ⟨k, hk, rfl, hown, hb⟩ := hrel
    by_cases hlt : k < (piecesL disk l).length
    rotate_left
    · obtain rfl : k = (piecesL disk l).length := by omega
      rw [List.take_length] at hown
      obtain ⟨a3, c3, rfl⟩ := hown.shape
      have HR := Lib.hid (written_any _ _ (by omega) (by omega) HT.out wr _ (hown1.kept hb))
      clear HT
      go_wp2_with (go_at_call 74; refine HR.out.mono ?_; go_must (rintro e w2 ⟨v2, rfl, hb2, hown2⟩; obtain ⟨b2, e2, rfl⟩ := hown2.rd))
      refine bodyPost_ret (v := .tuple #[.slice a3 (outP (piecesL disk l)).length c3, .int .i64 ((wrL (piecesL disk l)).length : Nat), .int .i64 0]) (by simp only [results, Try.results36]; first | (go_simp; done) | (go_simp; rfl)) rfl ?_
      rw [wrL_len]
      exact ⟨_, rfl, (hb1.trans (hb.mono hq1)).trans (hb2.mono (Nat.le_trans hq1 hb.size)), (hown.kept hb2).mono hq1⟩
    have hko := HX.out k hlt
    have hp0 := HT.out _ (List.getElem_mem hlt)
    have htk := totalP_take (piecesL disk l) k hlt
    have htl := totalP_take_le (piecesL disk l) (k + 1)
    have HO := Lib.hid (outP_take (piecesL disk l) k hlt)
    have hol : (outP ((piecesL disk l).take k)).length = k := by simp [outP]; omega
    generalize (piecesL disk l)[k].1 = n at *
    generalize (piecesL disk l)[k].2 = part at *
    obtain ⟨g, x, hi, hgl, hc0, hc1, hbb⟩ := hko
    have hr0 := (hb.cell (p := ⟨g, 2 * k, none⟩) hgl).trans hc0
    have hr1 := (hb.cell (p := ⟨g, 2 * k + 1, none⟩) hgl).trans hc1
    have HB := Lib.hid (fun o => ((hbb.kept (KU.of_below hb)).kept (KU.of_below ((Below.refl _ wr).alloc (Nat.le_refl _) o))).sl)
    obtain ⟨ax, cx, rfl⟩ := hbb.shape
    clear hc0 hc1 hbb
    generalize hD : outP ((piecesL disk l).take k) = D at hown HO hol
    generalize hL : n :: part ++ [165] = L
    have HLT := Lib.hid (show L.take (part.length + 1) = n :: part by rw [← hL]; simp)
    have hLl : L.length = part.length + 2 := by rw [← hL]; simp
    have HLL := Lib.hid hLl
    have HL := Lib.hid hL; clear hL hLl
    obtain ⟨xs, ho, hf⟩ := hown
    have hs9 := hb.size
    rw [hol] at ho
    go_wp2_with (first | (go_at_call 73; refine (bytes_any n hp0.1 hp0.2 _ part (by omega) _ (HB.out _)).mono ?_; go_must (rintro e w2 ⟨v', rfl, hb2, hown2⟩; rw [HL.out] at hown2; obtain ⟨b2, e2, rfl⟩ := hown2.rd; rw [HLL.out] at hown2 ⊢; have htake := (hown2.bb).take ((part.length : Int) + 2 - 1) (part.length + 1) (by omega) (by have := HLL.out; omega); obtain ⟨hrun, hbt⟩ := htake; rw [HLT.out] at hbt; have hoo := own_kept (ho.alloc _) hb2 (Nat.le_refl _); have hs1 := hb2.size; simp at hs1; have hs2 : w1.heap.size ≤ w2.heap.size := (by omega))) | (at_builtin; refine wpList_push rfl _ _ _ rfl slBs hoo rfl rfl (by first | rfl | simp) rfl rfl (by omega) (by omega) hs2 ?_; intro g4 c4 w4 hown4 hg4 hat4))
    go_roundw
    case rel =>
      have hbb := below_push (hb.trans (((Below.refl wr.heap.size wr).alloc (Nat.le_refl _) (.cells #[.int .i64 n, .slice ax part.length cx] 97)).mono hb.size |>.trans (hb2.mono (by simp; omega)))) hoo (Nat.le_refl _) hs2 hg4
      refine ⟨k + 1, hlt, by simp, ?_, hbb⟩
      rw [HO.out]
      subst hol
      refine OwnBs.push hoo (all2_mono (fun _ _ hx => (hx.kept (KU.of_below ((Below.refl _ wr).alloc (Nat.le_refl _) _))).kept (KU.of_below hb2)) hf) ?_ hown4 hg4
      exact hbt
    case measure => simp only [intOf]; omega
end Go.Proofs.Ytpoofjioeljigaa
