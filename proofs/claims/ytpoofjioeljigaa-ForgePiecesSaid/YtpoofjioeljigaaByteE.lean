/- The walk of the reference's Parts, for entries that are not too long. -/
import Derived.Test.YtpoofjioeljigaaByteD
import Derived.Test.YtpoofjioeljigaaKitD
import Derived.Deep.RegionLaw
namespace Go.Proofs.Ytpoofjioeljigaa
open Go.RowKit
/-- The first k bytes of e, each with that of o. -/
def xorT (e o : List Int) (k : Nat) : List Int := (List.range e.length).map fun i => if i < k then xb (e.getD i 0) (o.getD i 0) else e.getD i 0
theorem xorT_zero (e o : List Int) : xorT e o 0 = e := by
  refine List.ext_getElem (by simp [xorT]) fun i h1 h2 => ?_
  simp [xorT, h2]
theorem xorT_all {e o : List Int} (he : Byts e) : xorT e o o.length = mixL e o e.length := by
  refine List.ext_getElem (by simp [xorT, mixL]) fun i h1 h2 => ?_
  simp only [xorT, mixL, List.getElem_map, List.getElem_range]
  split
  · rfl
  · rename_i g
    rw [show o.getD i 0 = 0 by simp [List.getElem?_eq_none (show o.length ≤ i by omega)], xb_zero (he.at i).1]
theorem xorT_len (e o : List Int) (k : Nat) : (xorT e o k).length = e.length := by simp [xorT]
theorem xorT_set (e o : List Int) (k : Nat) : (vals (xorT e o k)).set k (.int .u8 (xb (e.getD k 0) (o.getD k 0))) = vals (xorT e o (k + 1)) := by
  refine List.ext_getElem (by simp [xorT, vals]) fun i h1 h2 => ?_
  simp only [vals, xorT, List.getElem_set, List.getElem_map, List.getElem_range]
  by_cases hik : k = i
  · subst hik; simp
  · rw [if_neg hik]; congr 1
    by_cases h : i < k
    · simp [h, show i < k + 1 by omega]
    · simp [h, show ¬ i < k + 1 by omega]
theorem xorT_byts {e o : List Int} (he : Byts e) (ho : Byts o) (k : Nat) : Byts (xorT e o k) := by
  intro z hz
  simp only [xorT, List.mem_map] at hz
  obtain ⟨i, _, rfl⟩ := hz
  split
  · exact xb_byte (he.at i).2 (ho.at i).2
  · exact he.at i
theorem xorT_at (e o : List Int) (k : Nat) (hk : k < e.length) : (xorT e o k).getD k 0 = e.getD k 0 := by
  simp [xorT, hk]
set_option maxHeartbeats 4000000 in
set_option maxRecDepth 100000 in
theorem rParts_any (v : Value) (l : List Int) (hl : l.length ≤ 200) (w : World) (hv : BSl w w.heap.size v l) :
    Calls Try.prog 24 #[v] w fun e w' => ∃ v0 v1 v2, e = .returned (.tuple #[.agg #[v0, v1, v2], .int .i64 0]) ∧ Below w.heap.size w w' ∧ BOwn w' w.heap.size v0 (evs l l.length) ∧ BOwn w' w.heap.size v1 (ods l l.length) ∧ BOwn w' w.heap.size v2 (mixL (evs l l.length) (ods l l.length) (evs l l.length).length) := by
  have hy := hv.2
  have ye := evs_byts hy
  have yo := ods_byts hy
  obtain ⟨a, cap, rfl, hc, hm, hrd⟩ := hv.rd
  obtain ⟨p, hx, hp⟩ := reads2 hrd
  have hg : ¬ (200 : Int) < l.length := by omega
  go_enter Try.func24, Try.ntmps24
  go_wp2
  go_loopw [5] (fun i wr => ∃ k : Nat, k ≤ l.length ∧ i = .int .i64 k ∧ ∃ v0 v1, Two w.heap.size w wr l k v0 v1) (fun i _ => l.length - (intOf i).toNat)
  case atStart =>
    refine ⟨0, Nat.zero_le _, rfl, .slice none 0 0, .slice none 0 0, ?_⟩
    refine ⟨by repeat (first | exact Below.refl _ _ | assumption | (refine Below.drew ?_) | (refine below_drewN ?_ _) | (refine Below.alloc ?_ (by first | (simp; done) | (simp; omega) | omega) _) | (refine Below.setCell ?_ (by first | (simp; done) | (simp; omega) | omega) _) | (refine Below.trans ?_ (Below.mono (by assumption) (by first | (simp; done) | (simp; omega) | omega)))), by simp, ?_, ?_, ?_, ?_, ?_, ?_, ?_, ?_, by simpa [evs, vals] using World.ownsRow_nil _ _ _ _, by simpa [ods, vals] using World.ownsRow_nil _ _ _ _, by simp [Value.ownBlock]⟩
    all_goals first | (intro o; go_simp; done) | (go_simp; done)
  case round =>
    obtain ⟨k, hk, rfl, v0, v1, H⟩ := hrel
    by_cases hlt : k < l.length
    · obtain ⟨bk, hpk⟩ := hp k hlt
      have s1 := (H.below.cell (p := p k) bk).trans hpk
      have r1 := hx k hlt
      clear hx hp hpk hrd hv
      obtain ⟨b0, e0, rfl, -⟩ := (BSl.of_own H.o0 (ye _)).rd
      obtain ⟨b1, e1, rfl, -⟩ := (BSl.of_own H.o1 (yo _)).rd
      have lt1 : w.heap.size + 1 < wr.heap.size := H.size
      have c0 := H.c0
      have c1 := H.c1
      have ff := H.f
      have o0 := H.o0
      have o1 := H.o1
      have hsz := H.below.size
      have hj : k = 2 * (k / 2) ∨ k = 2 * (k / 2) + 1 := by omega
      generalize k / 2 = j at hj
      clear hy
      rcases hj with hj | hj
      · have hpar : (k : Int) % 2 = 0 := by omega
        have hpt : (k : Int).tmod 2 = 0 := by rw [Int.tmod_eq_emod_of_nonneg (by omega)]; omega
        have HJ := Lib.hid hj; clear hj
        go_wp2
        go_region_law (first | (refine step_push rfl _ _ _ (by rfl) slU8 o0 (by rfl) (by rfl) (heap_alloc_new _ _) rfl rfl (by have := evs_len l k; omega) (by omega) (by omega) (grown_drew (World.grownBy_alloc _ _ _)) ?_; intro g c' w1 hown' hg hat; have q0 := (grown_cell o0 hg (show w.heap.size + 1 < w.heap.size + 2 by omega) lt1 0).1.trans c0; have q2 := (grown_cell o0 hg (show w.heap.size + 1 < w.heap.size + 2 by omega) lt1 0).2.trans (ff 0)))
        all_goals go_wp2
        all_goals go_roundw
        all_goals first | (obtain rfl := HJ.out; exact ⟨2 * j + 1, by omega, by go_num, _, _, two_even H (by simpa [hlt] using hown') hg hat⟩) | (simp [intOf]; omega)
      · have hpar : (k : Int) % 2 = 1 := by omega
        have hpt : (k : Int).tmod 2 = 1 := by rw [Int.tmod_eq_emod_of_nonneg (by omega)]; omega
        have HJ := Lib.hid hj; clear hj
        go_wp2
        go_region_law (first | (refine step_push rfl _ _ _ (by rfl) slU8 o1 (by rfl) (by rfl) (heap_alloc_new _ _) rfl rfl (by have := ods_len l k; omega) (by omega) (by omega) (grown_drew (World.grownBy_alloc _ _ _)) ?_; intro g c' w1 hown' hg hat; have q0 := (grown_cell o1 hg (show w.heap.size + 1 < w.heap.size + 2 by omega) lt1 1).1.trans c1; have q2 := (grown_cell o1 hg (show w.heap.size + 1 < w.heap.size + 2 by omega) lt1 1).2.trans (ff 1)))
        all_goals go_wp2
        all_goals go_roundw
        all_goals first | (obtain rfl := HJ.out; exact ⟨2 * j + 1 + 1, by omega, by go_num, _, _, two_odd H (by simpa [hlt] using hown') hg hat⟩) | (simp [intOf]; omega)
    · obtain rfl : k = l.length := by omega
      obtain ⟨w0, rfl⟩ : ∃ x : World, x = wr := ⟨_, rfl⟩
      obtain ⟨b0, e0, rfl, -, -, d0⟩ := (BSl.of_own H.o0 (ye _)).rd
      obtain ⟨b1, e1, rfl, -, -, d1⟩ := (BSl.of_own H.o1 (yo _)).rd
      have c0 := H.c0
      have c1 := H.c1
      have c2 := H.c2
      have f2 := H.f 2
      have lt1 : w.heap.size + 1 < w0.heap.size := H.size
      have lt0 : w.heap.size < w0.heap.size := by omega
      have el : (evs l l.length).length ≤ 1000 := by rw [evs_len]; omega
      have ol : (ods l l.length).length ≤ (evs l l.length).length := by rw [evs_len, ods_len]; omega
      have sl0 := (BSl.of_own H.o0 (ye _)).1
      have hgo0 : ∀ g, (Value.slice b0 (evs l l.length).length e0).ownBlock = some g → g < w0.heap.size := fun g hg => (own_ge H.o0 hg).2
      have hgo1 : ∀ g, (Value.slice b1 (ods l l.length).length e1).ownBlock = some g → g < w0.heap.size := fun g hg => (own_ge H.o1 hg).2
      clear hx hp hrd hv hk hlt hy hg
      go_wp2_with (at_builtin; refine wpList_concat rfl _ _ _ rfl slU8 (World.ownsRow_made (base := w0.heap.size) w0 #[] 0 (Nat.le_refl _) (by unfold maxLen; omega) rfl) rfl (sl0.kept ((Below.refl _ _).alloc (Nat.le_refl _) _)) rfl (oneCell_vals _) (by omega) (by omega) (by simp) ?_; intro b2 e2 w1 hown hg hat; have hb1 := below_push ((Below.refl w0.heap.size w0).alloc (Nat.le_refl _) _) (World.ownsRow_made (base := w0.heap.size) (e := 5) (size := 1) w0 #[] 0 (Nat.le_refl _) (by unfold maxLen; omega) rfl) (Nat.le_refl _) (by simp) hg; obtain ⟨hc1, hf1⟩ := bcell hb1; simp only [Nat.zero_add, List.nil_append] at hown)
      have hbw : Below w.heap.size w w1 := H.below.trans (hb1.mono (by omega))
      have hsz1 := hb1.size
      have o0 := own_kept H.o0 hb1 (Nat.le_refl _)
      have o1 := own_kept H.o1 hb1 (Nat.le_refl _)
      have r0 := (hc1 w.heap.size 0 lt0).trans H.r0
      have r1 := (hc1 w.heap.size 1 lt0).trans H.r1
      have r2 := (hc1 w.heap.size 2 lt0).trans H.r2
      have q0 := (hf1 w.heap.size 0 lt0).trans (H.rf 0)
      have q1 := (hf1 w.heap.size 1 lt0).trans (H.rf 1)
      have q2 := (hf1 w.heap.size 2 lt0).trans (H.rf 2)
      have k0 := (hc1 (w.heap.size + 1) 0 lt1).trans c0
      have k1 := (hc1 (w.heap.size + 1) 1 lt1).trans c1
      have k2 := (hc1 (w.heap.size + 1) 2 lt1).trans c2
      refine forgetW (fun W => Below w.heap.size w W ∧ w0.heap.size ≤ W.heap.size ∧ (W.cell? ⟨w.heap.size + 1, 0, none⟩ = some (.slice b0 (evs l l.length).length e0) ∧ W.cell? ⟨w.heap.size + 1, 1, none⟩ = some (.slice b1 (ods l l.length).length e1) ∧ W.cell? ⟨w.heap.size + 1, 2, none⟩ = some (.slice b2 (evs l l.length).length e2)) ∧
        (W.cell? ⟨w.heap.size, 0, none⟩ = some (.slice none 0 0) ∧ W.cell? ⟨w.heap.size, 1, none⟩ = some (.slice none 0 0) ∧ W.cell? ⟨w.heap.size, 2, none⟩ = some (.slice none 0 0)) ∧ (W.frozen? ⟨w.heap.size, 0, none⟩ = false ∧ W.frozen? ⟨w.heap.size, 1, none⟩ = false ∧ W.frozen? ⟨w.heap.size, 2, none⟩ = false) ∧
        W.ownsRow (w.heap.size + 2) 5 1 (.slice b0 (evs l l.length).length e0) (evs l l.length).length (vals (evs l l.length)) ∧ W.ownsRow (w.heap.size + 2) 5 1 (.slice b1 (ods l l.length).length e1) (ods l l.length).length (vals (ods l l.length)) ∧ W.ownsRow w0.heap.size 5 1 (.slice b2 (evs l l.length).length e2) (evs l l.length).length (vals (evs l l.length))) ?_ ?_
      · refine ⟨hbw.setCell (by simp) _, by simpa using hsz1, ⟨?_, ?_, World.cell?_setCell_same _ _ _ k2⟩, ⟨?_, ?_, ?_⟩, ⟨by simpa using q0, by simpa using q1, by simpa using q2⟩, ownsRow_setCell_below o0 (by simp) _, ownsRow_setCell_below o1 (by simp) _, ownsRow_setCell_below hown (by simpa using lt1) _⟩
        · exact (World.cell?_setCell_other _ _ _ _ (by simp)).trans k0
        · exact (World.cell?_setCell_other _ _ _ _ (by simp)).trans k1
        · exact (World.cell?_setCell_other _ _ _ _ (by simp)).trans r0
        · exact (World.cell?_setCell_other _ _ _ _ (by simp)).trans r1
        · exact (World.cell?_setCell_other _ _ _ _ (by simp)).trans r2
      clear r0 r1 r2 q0 q1 q2 k0 k1 k2 o0 o1 hbw hc1 hf1 hb1 hg hat hown c0 c1 c2 f2 sl0 d0 d1 hsz1
      rintro W2 ⟨hbw, hsW, ⟨k0, k1, k2⟩, ⟨r0, r1, r2⟩, ⟨q0, q1, q2⟩, o0, o1, o2⟩
      go_loopw [6] (fun i wr => ∃ k : Nat, k ≤ (ods l l.length).length ∧ i = .int .i64 k ∧ Below w0.heap.size W2 wr ∧ wr.ownsRow w0.heap.size 5 1 (.slice b2 (evs l l.length).length e2) (evs l l.length).length (vals (xorT (evs l l.length) (ods l l.length) k))) (fun i _ => (ods l l.length).length - (intOf i).toNat)
      case atStart => exact ⟨0, Nat.zero_le _, rfl, Below.refl _ _, by rw [xorT_zero]; exact o2⟩
      case round =>
        obtain ⟨k, hk, rfl, hbx, ox⟩ := hrel
        have k0' := (hbx.cell (p := ⟨w.heap.size + 1, 0, none⟩) lt1).trans k0
        have k1' := (hbx.cell (p := ⟨w.heap.size + 1, 1, none⟩) lt1).trans k1
        have k2' := (hbx.cell (p := ⟨w.heap.size + 1, 2, none⟩) lt1).trans k2
        by_cases hlt : k < (ods l l.length).length
        · have o1' : wr.ownsRow (w.heap.size + 2) 5 1 (.slice b1 (ods l l.length).length e1) (ods l l.length).length (vals (ods l l.length)) := own_kept2 o1 hbx hgo1
          obtain ⟨g1, rfl⟩ : ∃ g, b1 = some ⟨g, 0, none⟩ := by
            rcases o1'.2 with ⟨_, hn⟩ | ⟨g, cap, cur, he, _⟩
            · omega
            · simp only [Value.slice.injEq] at he; exact ⟨g, he.1⟩
          obtain ⟨g2, rfl⟩ : ∃ g, b2 = some ⟨g, 0, none⟩ := by
            rcases ox.2 with ⟨_, hn⟩ | ⟨g, cap, cur, he, _⟩
            · omega
            · simp only [Value.slice.injEq] at he; exact ⟨g, he.1⟩
          have hg2 := own_ge ox (g := g2) rfl
          have x1 := o1'.cellAt k (by omega)
          have x2 := ox.cellAt k (by omega)
          have f2 := ox.frozenAt k
          rw [show (vals (ods l l.length))[k]? = some (.int .u8 ((ods l l.length).getD k 0)) by simp [vals, hlt]] at x1
          rw [show (vals (xorT (evs l l.length) (ods l l.length) k))[k]? = some (.int .u8 ((evs l l.length).getD k 0)) by rw [← xorT_at _ (ods l l.length) k (by omega)]; simp [vals, xorT_len, show k < (evs l l.length).length by omega]] at x2
          have hke : k < (evs l l.length).length := by omega
          have hs2 := (ox.stored k (.int .u8 (xb ((evs l l.length).getD k 0) ((ods l l.length).getD k 0)))).1
          rw [xorT_set] at hs2
          rw [← xb_bits ((ye _).at k) ((yo _).at k)] at hs2
          have HS := Lib.hid hs2; clear hs2
          clear k0 k1 k2 r0 r1 r2 q0 q1 q2 o0 o1 o2 k0' o1' ox lt0 hgo0 hgo1 H
          have p0 := hbx.size
          go_wp2
          (refine stilld 15 (by kernel_rfl) (by kernel_rfl) ?_; simp only [List.take_succ_cons, List.take_zero, List.drop_succ_cons, List.drop_zero]; repeat (first | still_step | (refine wpStill_step (fun K hK => ?_); go_simp; refine ⟨_, fail, hK _ ?_⟩; clear hK K)); (try refine wpStill_nil ?_))
          go_wp2
          go_roundw
          case rel => exact ⟨k + 1, by omega, by go_num, (hbx.setCell (by exact hg2.1) _).drew, World.ownsRow.drew (by simpa [hlt, hke] using HS.out)⟩
          case measure => simp [intOf]; omega
        · obtain rfl : k = (ods l l.length).length := by omega
          rw [xorT_all (ye _)] at ox
          have r0' := (hbx.cell (p := ⟨w.heap.size, 0, none⟩) lt0).trans r0
          have r1' := (hbx.cell (p := ⟨w.heap.size, 1, none⟩) lt0).trans r1
          have r2' := (hbx.cell (p := ⟨w.heap.size, 2, none⟩) lt0).trans r2
          have q0' := (hbx.frozen (p := ⟨w.heap.size, 0, none⟩) lt0).trans q0
          have q1' := (hbx.frozen (p := ⟨w.heap.size, 1, none⟩) lt0).trans q1
          have q2' := (hbx.frozen (p := ⟨w.heap.size, 2, none⟩) lt0).trans q2
          have o0' := own_kept2 o0 hbx hgo0
          have o1' := own_kept2 o1 hbx hgo1
          have hbb := hbw.trans (hbx.mono (by omega))
          clear k0 k1 k2 r0 r1 r2 q0 q1 q2 o0 o1 o2 hgo0 hgo1 H hbw hbx hlt hk
          go_wp2
          refine bodyPost_ret (v := .tuple #[.agg #[.slice b0 (evs l l.length).length e0, .slice b1 (ods l l.length).length e1, .slice b2 (evs l l.length).length e2], .int .i64 0]) ?h rfl ⟨_, _, _, rfl, ?b, ?s0, ?s1, ?s2⟩
          case h => (simp only [results, Try.results24]; first | (go_simp; done) | (go_simp; rfl))
          case b => exact ((hbb.setCell (by simp) _).setCell (by simp) _).setCell (by simp) _
          case s0 => exact (BOwn.mk' (ownsRow_setCell_below (ownsRow_setCell_below (ownsRow_setCell_below o0' (by simp) _) (by simp) _) (by simp) _) (ye _)).mono (by omega)
          case s1 => exact (BOwn.mk' (ownsRow_setCell_below (ownsRow_setCell_below (ownsRow_setCell_below o1' (by simp) _) (by simp) _) (by simp) _) (yo _)).mono (by omega)
          case s2 => exact (BOwn.mk' (ownsRow_setCell_below (ownsRow_setCell_below (ownsRow_setCell_below ox (by simpa using lt0) _) (by simpa using lt0) _) (by simpa using lt0) _) (mixL_byts (ye _) (yo _) _)).mono (by omega)
end Go.Proofs.Ytpoofjioeljigaa
