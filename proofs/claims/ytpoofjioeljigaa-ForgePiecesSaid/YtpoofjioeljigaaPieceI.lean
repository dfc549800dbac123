/- The walks of forge.Pieces and of ref.Pieces at no disk; of ref.Pieces. -/
import Derived.Test.YtpoofjioeljigaaPieceH
namespace Go.Proofs.Ytpoofjioeljigaa
open Go.RowKit
set_option maxHeartbeats 4000000 in
set_option maxRecDepth 100000 in
theorem Pieces_bad (d : Int) (hd : d < 0 ∨ 2 < d) (v : Value) (w : World) :
    Calls Try.prog 36 #[.int .i64 d, v] w fun e w' => e = .returned (.tuple #[.slice none 0 0, .int .i64 0, .int .i64 2]) ∧ w' = w := by
  go_enter Try.func36, Try.ntmps36
  rcases hd with hd | hd
  · go_wp2
    refine bodyPost_ret (v := .tuple #[.slice none 0 0, .int .i64 0, .int .i64 2]) (by simp only [results, Try.results36]; first | (go_simp; done) | (go_simp; rfl)) rfl ⟨rfl, rfl⟩
  · have hd3 : 3 ≤ d := by omega
    have hd4 : ¬ d < 0 := by omega
    go_wp2
    refine bodyPost_ret (v := .tuple #[.slice none 0 0, .int .i64 0, .int .i64 2]) (by simp only [results, Try.results36]; first | (go_simp; done) | (go_simp; rfl)) rfl ⟨rfl, rfl⟩
set_option maxHeartbeats 4000000 in
set_option maxRecDepth 100000 in
theorem RPieces_bad (d : Int) (hd : d < 0 ∨ 2 < d) (v : Value) (w : World) :
    Calls Try.prog 37 #[.int .i64 d, v] w fun e w' => e = .returned (.tuple #[.slice none 0 0, .int .i64 0, .int .i64 2]) ∧ w' = w := by
  go_enter Try.func37, Try.ntmps37
  rcases hd with hd | hd
  · go_wp2
    refine bodyPost_ret (v := .tuple #[.slice none 0 0, .int .i64 0, .int .i64 2]) (by simp only [results, Try.results37]; first | (go_simp; done) | (go_simp; rfl)) rfl ⟨rfl, rfl⟩
  · have hd4 : ¬ d < 0 := by omega
    go_wp2
    refine bodyPost_ret (v := .tuple #[.slice none 0 0, .int .i64 0, .int .i64 2]) (by simp only [results, Try.results37]; first | (go_simp; done) | (go_simp; rfl)) rfl ⟨rfl, rfl⟩
theorem getD_drop (l : List Int) (a i : Nat) : (l.drop a).getD i 0 = l.getD (a + i) 0 := by simp [List.getD]
theorem head_cons : ∀ (r : List Int) (m : Nat) (y : Int), 0 < r.length → r.getD 0 0 = y → y :: (r.take (m + 1)).drop 1 = r.take (m + 1)
  | [], _, _, h, _ => by simp at h
  | z :: r, m, y, _, h => by simp at h; simp [h]
theorem totalP_snoc (ps : List (Int × List Int)) (p : Int × List Int) : totalP (ps ++ [p]) = totalP ps + (p.2.length + 2) := by simp [totalP]
set_option maxHeartbeats 4000000 in
set_option maxRecDepth 100000 in
theorem RPieces_good (disk : Nat) (hd : disk ≤ 2) (v : Value) (l : List Int) (hl : l.length ≤ 100000) (w : World) (hv : BSl w w.heap.size v l) :
    Calls Try.prog 37 #[.int .i64 (disk : Int), v] w fun e w' => ∃ v', e = .returned (.tuple #[v', .int .i64 (totalP (piecesL disk l) : Nat), .int .i64 0]) ∧ Below w.heap.size w w' ∧ OwnBs w' w.heap.size v' (outP (piecesL disk l)) := by
  have HV := Lib.hid hv
  obtain ⟨a, cap, rfl, -, -, hr⟩ := hv.rd
  have HR := Lib.hid hr
  clear hv hr
  have HIDX := Lib.hid (show ∀ (ny : Nat) (W : World), (Instr.index 42 (.agg #[.int .i64 (partLen 0 ny : Nat), .int .i64 (partLen 1 ny : Nat), .int .i64 (partLen 2 ny : Nat)]) (.int .i64 (disk : Int))).run Try.prog W = .ok (.int .i64 (partLen disk ny : Nat)) W by
    intro ny W
    rcases (show disk = 0 ∨ disk = 1 ∨ disk = 2 by omega) with rfl | rfl | rfl
    · generalize partLen 0 ny = x0
      generalize partLen 1 ny = x1
      generalize partLen 2 ny = x2
      kernel_rfl
    · generalize partLen 0 ny = x0
      generalize partLen 1 ny = x1
      generalize partLen 2 ny = x2
      kernel_rfl
    · generalize partLen 0 ny = x0
      generalize partLen 1 ny = x1
      generalize partLen 2 ny = x2
      kernel_rfl)
  go_enter Try.func37, Try.ntmps37
  go_wp2
  go_loopw [7, 8] (fun vo i wr => ∃ (done : List (Int × List Int)) (at' : Nat), at' ≤ l.length ∧ i = .int .i64 at' ∧ at' = totalP done ∧ done.length ≤ at' ∧ Hid (piecesL disk l = done ++ piecesL disk (l.drop at')) ∧ OwnBs wr w.heap.size vo (outP done) ∧ Below w.heap.size w wr) (fun _ i _ => l.length - (intOf i).toNat)
  case atStart => exact ⟨[], 0, Nat.zero_le _, rfl, rfl, Nat.le_refl _, Lib.hid rfl, OwnBs.nil _ _, Below.refl _ _⟩
  case round =>
    obtain ⟨done, at', hat, rfl, htot, hdl, HE, hown, hb⟩ := hrel
    have hin : nextP disk (l.drop at') = none → piecesL disk l = done := fun h => by rw [HE.out, piecesL_none h, List.append_nil]
    have hdr : (l.drop at').length = l.length - at' := by simp
    obtain ⟨a3, c3, rfl⟩ := hown.shape
    have HTT := Lib.hid htot; clear htot
    by_cases h0 : at' = l.length
    · have HX := Lib.hid (hin (by unfold nextP; rw [if_pos (.inl (by omega))]))
      subst h0
      clear hin
      go_wp2
      refine bodyPost_ret (v := .tuple #[.slice a3 (outP done).length c3, .int .i64 (l.length : Nat), .int .i64 0]) (by simp only [results, Try.results37]; first | (go_simp; done) | (go_simp; rfl)) rfl ?_
      exact ⟨_, by rw [HX.out, ← HTT.out], hb, by rw [HX.out]; exact hown⟩
    obtain ⟨p, hx, hpb, hpc⟩ := rd_idx HR.out (z := (at' : Int)) (by omega) (by omega)
    have hc0 := (hb.cell (p := p) hpb).trans hpc
    rw [Int.toNat_natCast] at hc0
    have hy := HV.out.2.at at'
    have hgd : (l.drop at').getD 0 0 = l.getD at' 0 := getD_drop l at' 0
    by_cases h1 : 200 < l.getD at' 0
    · have HX := Lib.hid (hin (by unfold nextP; rw [if_pos (.inr (by omega))]))
      clear hin hgd
      generalize l.getD at' 0 = y at *
      go_wp2
      refine bodyPost_ret (v := .tuple #[.slice a3 (outP done).length c3, .int .i64 (at' : Nat), .int .i64 0]) (by simp only [results, Try.results37]; first | (go_simp; done) | (go_simp; rfl)) rfl ?_
      exact ⟨_, by rw [HX.out, ← HTT.out], hb, by rw [HX.out]; exact hown⟩
    obtain ⟨ny, hny⟩ : ∃ ny : Nat, l.getD at' 0 = ny := ⟨(l.getD at' 0).toNat, by omega⟩
    have hidx := HIDX.out ny
    have hq : partLen disk ny ≤ 101 := by unfold partLen; split <;> omega
    have hgm : (l.drop at').getD (partLen disk ny + 1) 0 = l.getD (at' + (partLen disk ny + 1)) 0 := getD_drop l at' _
    rw [hny] at hc0 h1 hgd hy
    clear hpc
    have hnx : nextP disk (l.drop at') = if l.length - at' < partLen disk ny + 2 ∨ l.getD (at' + (partLen disk ny + 1)) 0 ≠ 165 then none else some (((ny : Int), ((l.drop at').take (partLen disk ny + 1)).drop 1), l.drop (at' + (partLen disk ny + 2))) := by
      unfold nextP
      rw [hgd, if_neg (by omega), Int.toNat_natCast, hgm, hdr, List.drop_drop]
    have HNX := Lib.hid hnx
    clear hgm hnx
    generalize hm : partLen disk ny = m at *
    by_cases h2 : l.length - at' < m + 2
    · have HX := Lib.hid (hin (by rw [HNX.out, if_pos (.inl h2)]))
      clear hin HNX
      go_wp2_with (go_at_call 61; refine (sizes_any ny (by omega) _).mono ?_; go_must (rintro e w1 ⟨rfl, hb1⟩))
      refine bodyPost_ret (v := .tuple #[.slice a3 (outP done).length c3, .int .i64 (at' : Nat), .int .i64 0]) (by simp only [results, Try.results37]; first | (go_simp; done) | (go_simp; rfl)) rfl ?_
      exact ⟨_, by rw [HX.out, ← HTT.out], (hb.trans (hb1.mono hb.size)), by rw [HX.out]; exact hown.kept hb1⟩
    have hgd2 : ¬ (l.length : Int) < (at' : Int) + m + 2 := by omega
    obtain ⟨p2, hx2, hpb2, hpc2⟩ := rd_idx HR.out (z := (at' : Int) + m + 1) (by omega) (by omega)
    have hc2 := (hb.cell (p := p2) hpb2).trans hpc2
    rw [show ((at' : Int) + m + 1).toNat = at' + (m + 1) by omega] at hc2
    clear hpc2
    by_cases h3 : l.getD (at' + (m + 1)) 0 ≠ 165
    · have HX := Lib.hid (hin (by rw [HNX.out, if_pos (.inr h3)]))
      clear hin HNX
      generalize l.getD (at' + (m + 1)) 0 = y2 at *
      have h5 : (y2 != 165) = true := by simpa using h3
      go_wp2_with (go_at_call 61; refine (sizes_any ny (by omega) _).mono ?_; go_must (rintro e w1 ⟨rfl, hb1⟩; have hcc2 := (hb1.cell (p := p2) (Nat.lt_of_lt_of_le hpb2 hb.size)).trans hc2))
      refine bodyPost_ret (v := .tuple #[.slice a3 (outP done).length c3, .int .i64 (at' : Nat), .int .i64 0]) (by simp only [results, Try.results37]; first | (go_simp; done) | (go_simp; rfl)) rfl ?_
      exact ⟨_, by rw [HX.out, ← HTT.out], (hb.trans (hb1.mono hb.size)), by rw [HX.out]; exact hown.kept hb1⟩
    have hnx : nextP disk (l.drop at') = some (((ny : Int), ((l.drop at').take (m + 1)).drop 1), l.drop (at' + (m + 2))) := by rw [HNX.out, if_neg (by omega)]
    have hE2 := HE.out
    rw [piecesL_some hnx, List.append_cons] at hE2
    have HE2 := Lib.hid hE2
    have HTP := Lib.hid (show at' + m + 2 = totalP (done ++ [((ny : Int), ((l.drop at').take (m + 1)).drop 1)]) by rw [totalP_snoc, ← HTT.out, List.length_drop, List.length_take, List.length_drop]; omega)
    have hoP : outP (done ++ [((ny : Int), ((l.drop at').take (m + 1)).drop 1)]) = outP done ++ [(l.drop at').take (m + 1)] := by
      simp only [outP, List.map_append, List.map_cons, List.map_nil]
      rw [head_cons _ m _ (by omega) hgd]
    have HO := Lib.hid hoP
    clear hE2 hnx hin HNX hoP
    have h3' : l.getD (at' + (m + 1)) 0 = 165 := Classical.not_not.1 h3
    rw [h3'] at hc2
    obtain ⟨sa, sn, sc, hs1, hsb⟩ := bsl_slice HV.out (x := (at' : Int)) (y := (at' : Int) + m + 1) (by omega) (by omega) (by omega)
    rw [show ((at' : Int) + m + 1).toNat = at' + (m + 1) by omega, Int.toNat_natCast] at hsb
    have heq : (l.take (at' + (m + 1))).drop at' = (l.drop at').take (m + 1) := by rw [List.drop_take]; congr 1; omega
    rw [heq] at hsb
    generalize hP : (l.drop at').take (m + 1) = part at *
    have hpl : part.length = m + 1 := by rw [← hP]; simp; omega
    have HPL := Lib.hid hpl
    have HSB := Lib.hid hsb
    clear hP heq hpl hsb
    obtain ⟨xs, ho, hf⟩ := hown
    have hol : (outP done).length = done.length := by simp [outP]
    rw [hol] at ho
    clear hgd
    have hs9 := hb.size
    go_wp2_with (first | (go_at_call 61; refine (sizes_any ny (by omega) _).mono ?_; go_must (rintro e w1 ⟨rfl, hb1⟩; have hcc2 := (hb1.cell (p := p2) (Nat.lt_of_lt_of_le hpb2 hb.size)).trans hc2; have hs1 := hb1.size; have ho1 := own_kept ho hb1 (Nat.le_refl _))) | (at_builtin; refine wpList_concat rfl _ _ _ rfl slU8 (World.ownsRow_made (base := w1.heap.size) w1 #[] 0 (Nat.le_refl _) (by unfold maxLen; omega) rfl) rfl ((HSB.out.1.kept (hb.trans (hb1.mono hb.size))).kept ((Below.refl _ w1).alloc (Nat.le_trans hs9 hs1) _)) rfl (oneCell_vals _) (by have := HPL.out; omega) (by omega) (by simp) ?_; intro b2 e2 w2 hown2 hg hat; have hb2 := below_push ((Below.refl w1.heap.size w1).alloc (Nat.le_refl _) _) (World.ownsRow_made (base := w1.heap.size) (e := 5) (size := 1) w1 #[] 0 (Nat.le_refl _) (by unfold maxLen; omega) rfl) (Nat.le_refl _) (by simp) hg; have hs2 := Nat.le_trans (Nat.le_trans hs9 hs1) hb2.size; have ho2 := own_kept ho1 hb2 (Nat.le_refl _)) | (at_builtin; refine wpList_push rfl _ _ _ rfl slBs ho2 rfl rfl (by first | rfl | simp) rfl rfl (by omega) (by omega) hs2 ?_; intro g4 c4 w4 hown4 hg4 hat4))
    go_roundw
    case rel =>
      have hbb := below_push (hb.trans ((hb1.mono hb.size).trans (hb2.mono (Nat.le_trans hs9 hs1)))) ho2 (Nat.le_refl _) hs2 hg4
      refine ⟨done ++ [((ny : Int), part.drop 1)], at' + m + 2, by omega, by simp, HTP.out, by simp; omega, ?_, ?_, hbb⟩
      · rw [Nat.add_assoc]; exact HE2
      · rw [HO.out]
        rw [← hol] at ho2 hown4 hg4 ⊢
        have hown5 : BOwn w2 w1.heap.size (.slice b2 part.length e2) part := BOwn.mk' (n := 0 + part.length) (by simpa using hown2) HSB.out.2
        refine OwnBs.push ho2 (all2_mono (fun _ _ hx => (hx.kept (KU.of_below hb1)).kept (KU.of_below hb2)) hf) hown5.bb ?_ hg4
        simpa using hown4
    case measure => simp only [intOf]; omega
end Go.Proofs.Ytpoofjioeljigaa
