/- The least and the greatest time, and the latency: plainly; slices.Min, slices.Max; the program's span, Span, Latency: their walks. -/
import Derived.Test.YtndfdgdahinkpaaGreatSchedJ
namespace Go.Proofs.YtndfdgdahinkpaaGreat
open Go.RowKit
set_option linter.unusedVariables false
def minI : List Int → Int
  | [] => 0
  | x :: t => t.foldl min x
def maxI : List Int → Int
  | [] => 0
  | x :: t => t.foldl max x
theorem minI_snoc {l : List Int} (h : l ≠ []) (x : Int) : minI (l ++ [x]) = min (minI l) x := by
  cases l with
  | nil => exact absurd rfl h
  | cons a t => simp [minI]
theorem maxI_snoc {l : List Int} (h : l ≠ []) (x : Int) : maxI (l ++ [x]) = max (maxI l) x := by
  cases l with
  | nil => exact absurd rfl h
  | cons a t => simp [maxI]
theorem fold_min (t : List Int) : ∀ a : Int, t.foldl min a ≤ a ∧ (∀ x ∈ t, t.foldl min a ≤ x) ∧ (t.foldl min a = a ∨ t.foldl min a ∈ t) := by
  induction t with
  | nil => intro a; exact ⟨Int.le_refl _, fun x h => by simp at h, .inl rfl⟩
  | cons y t ih =>
    intro a
    obtain ⟨h1, h2, h3⟩ := ih (min a y)
    simp only [List.foldl_cons]
    refine ⟨by omega, fun x hx => ?_, ?_⟩
    · rcases List.mem_cons.1 hx with rfl | hx
      · omega
      · exact h2 x hx
    · rcases h3 with h3 | h3
      · rcases Int.le_total a y with k | k
        · left; omega
        · right; rw [h3, Int.min_eq_right k]; simp
      · right; exact List.mem_cons_of_mem _ h3
theorem fold_max (t : List Int) : ∀ a : Int, a ≤ t.foldl max a ∧ (∀ x ∈ t, x ≤ t.foldl max a) ∧ (t.foldl max a = a ∨ t.foldl max a ∈ t) := by
  induction t with
  | nil => intro a; exact ⟨Int.le_refl _, fun x h => by simp at h, .inl rfl⟩
  | cons y t ih =>
    intro a
    obtain ⟨h1, h2, h3⟩ := ih (max a y)
    simp only [List.foldl_cons]
    refine ⟨by omega, fun x hx => ?_, ?_⟩
    · rcases List.mem_cons.1 hx with rfl | hx
      · omega
      · exact h2 x hx
    · rcases h3 with h3 | h3
      · rcases Int.le_total a y with k | k
        · right; rw [h3, Int.max_eq_right k]; simp
        · left; omega
      · right; exact List.mem_cons_of_mem _ h3
theorem minI_mem {l : List Int} (h : l ≠ []) : minI l ∈ l := by
  cases l with
  | nil => exact absurd rfl h
  | cons a t =>
    rcases (fold_min t a).2.2 with k | k
    · exact List.mem_cons.2 (.inl k)
    · exact List.mem_cons_of_mem _ k
theorem maxI_mem {l : List Int} (h : l ≠ []) : maxI l ∈ l := by
  cases l with
  | nil => exact absurd rfl h
  | cons a t =>
    rcases (fold_max t a).2.2 with k | k
    · exact List.mem_cons.2 (.inl k)
    · exact List.mem_cons_of_mem _ k
theorem minI_le {l : List Int} {x : Int} (h : x ∈ l) : minI l ≤ x := by
  cases l with
  | nil => simp at h
  | cons a t =>
    rcases List.mem_cons.1 h with rfl | h
    · exact (fold_min t x).1
    · exact (fold_min t a).2.1 x h
theorem le_maxI {l : List Int} {x : Int} (h : x ∈ l) : x ≤ maxI l := by
  cases l with
  | nil => simp at h
  | cons a t =>
    rcases List.mem_cons.1 h with rfl | h
    · exact (fold_max t x).1
    · exact (fold_max t a).2.1 x h
theorem minI_uniq {l : List Int} {m : Int} (h1 : m ∈ l) (h2 : ∀ x ∈ l, m ≤ x) : minI l = m := by
  have a := minI_le h1
  have b := h2 _ (minI_mem (List.ne_nil_of_mem h1))
  omega
theorem maxI_uniq {l : List Int} {m : Int} (h1 : m ∈ l) (h2 : ∀ x ∈ l, x ≤ m) : maxI l = m := by
  have a := le_maxI h1
  have b := h2 _ (maxI_mem (List.ne_nil_of_mem h1))
  omega
theorem minI_again {l : List Int} {a : Int} (h : a ∈ l) : minI (a :: l) = minI l :=
  minI_uniq (List.mem_cons_of_mem _ (minI_mem (List.ne_nil_of_mem h))) (fun x hx => by
    rcases List.mem_cons.1 hx with rfl | hx
    · exact minI_le h
    · exact minI_le hx)
theorem maxI_again {l : List Int} {a : Int} (h : a ∈ l) : maxI (a :: l) = maxI l :=
  maxI_uniq (List.mem_cons_of_mem _ (maxI_mem (List.ne_nil_of_mem h))) (fun x hx => by
    rcases List.mem_cons.1 hx with rfl | hx
    · exact le_maxI h
    · exact le_maxI hx)
/-- The times of all points, but for the offsets. -/
def dotsL (r : RecD) (s : SchedD) : List Int := (ptsL r.n r.l).map (dot3 s.f)
def loT (r : RecD) (s : SchedD) : Int := minI (dotsL r s) + minI s.off
def hiT (r : RecD) (s : SchedD) : Int := maxI (dotsL r s) + maxI s.off
/-- The times of all elements, by variable and then by point. -/
def timesL (r : RecD) (s : SchedD) : List Int := (List.range r.vars.length).flatMap fun v => (ptsL r.n r.l).map fun p => dot3 s.f p + s.off.getD v 0
theorem mem_timesL {r : RecD} {s : SchedD} (hl : s.off.length = r.vars.length) {t : Int} : t ∈ timesL r s ↔ ∃ d ∈ dotsL r s, ∃ o ∈ s.off, t = d + o := by
  unfold timesL dotsL
  simp only [List.mem_flatMap, List.mem_range, List.mem_map]
  constructor
  · rintro ⟨v, hv, p, hp, rfl⟩
    refine ⟨_, ⟨p, hp, rfl⟩, s.off.getD v 0, ?_, rfl⟩
    have : v < s.off.length := by omega
    rw [List.getD_eq_getElem?_getD, List.getElem?_eq_getElem this]
    exact List.getElem_mem this
  · rintro ⟨d, ⟨p, hp, rfl⟩, o, ho, rfl⟩
    obtain ⟨v, hv, rfl⟩ := List.getElem_of_mem ho
    refine ⟨v, by omega, p, hp, ?_⟩
    rw [List.getD_eq_getElem?_getD, List.getElem?_eq_getElem hv]
    rfl
theorem loT_eq {r : RecD} {s : SchedD} (hl : s.off.length = r.vars.length) (h1 : dotsL r s ≠ []) (h2 : s.off ≠ []) : minI (timesL r s) = loT r s :=
  minI_uniq ((mem_timesL hl).2 ⟨_, minI_mem h1, _, minI_mem h2, rfl⟩) (fun x hx => by
    obtain ⟨d, hd, o, ho, rfl⟩ := (mem_timesL hl).1 hx
    have a := minI_le hd
    have b := minI_le ho
    unfold loT; omega)
theorem hiT_eq {r : RecD} {s : SchedD} (hl : s.off.length = r.vars.length) (h1 : dotsL r s ≠ []) (h2 : s.off ≠ []) : maxI (timesL r s) = hiT r s :=
  maxI_uniq ((mem_timesL hl).2 ⟨_, maxI_mem h1, _, maxI_mem h2, rfl⟩) (fun x hx => by
    obtain ⟨d, hd, o, ho, rfl⟩ := (mem_timesL hl).1 hx
    have a := le_maxI hd
    have b := le_maxI ho
    unfold hiT; omega)
theorem dots_bd {r : RecD} {s : SchedD} (hv : validR r.n r.l r.vars = true) (hsb : schedB r s = true) {p : P3} (hp : p ∈ ptsL r.n r.l) : -540 ≤ dot3 s.f p ∧ dot3 s.f p ≤ 540 := by
  obtain ⟨f0, f1, f2⟩ := form_sm hsb
  obtain ⟨p0, p1, p2⟩ := pts_sm hv hp
  have := sm_mul f0 p0; have := sm_mul f1 p1; have := sm_mul f2 p2
  unfold dot3; omega
theorem dots_bd2 {r : RecD} {s : SchedD} (hv : validR r.n r.l r.vars = true) (hsb : schedB r s = true) {d : Int} (hd : d ∈ dotsL r s) : -540 ≤ d ∧ d ≤ 540 := by
  obtain ⟨p, hp, rfl⟩ := List.mem_map.1 hd
  exact dots_bd hv hsb hp
set_option maxHeartbeats 4000000 in
set_option maxRecDepth 100000 in
theorem Min_l (l : List Int) (hpos : 0 < l.length) (w : World) (v : Value) (hv : SlOf w w.heap.size 1 encInt v l) :
    Calls Tryz.prog 152 #[v] w fun e w' => e = .returned (.int .i64 (minI l)) ∧ w' = w := by
  obtain ⟨a, cap, g, off, rfl, hlc, hcm, hx⟩ := SlOf.at (enc := encInt) (fun _ => rfl) un_sf1 sz_sf1 hv
  have HX := Lib.hid (show ∀ k, (hk : k < l.length) → (∀ W, (Instr.indexAt 30 (.slice a l.length cap) (.int .i64 (k : Int))).run Tryz.prog W = .ok (.pointer (some ⟨g, off + k, none⟩)) W) ∧ w.cell? ⟨g, off + k, none⟩ = some (.int .i64 l[k]) from fun k hk => by
    obtain ⟨-, h1, h2, h3⟩ := hx k hk
    refine ⟨fun W => by simpa using h1 W, ?_⟩
    have := h3 0 (Nat.lt_succ_self 0)
    simpa [encInt] using this)
  unfold maxLen at hcm
  clear hx hv
  obtain ⟨hi0, hc0⟩ := HX.out 0 hpos
  have hi00 : ∀ W, (Instr.indexAt 30 (.slice a l.length cap) (.int .i64 0)).run Tryz.prog W = .ok (.pointer (some ⟨g, off, none⟩)) W := fun W => by simpa using hi0 W
  have hc00 : w.cell? ⟨g, off, none⟩ = some (.int .i64 l[0]) := by simpa using hc0
  clear hi0 hc0
  have hlt1 : ((l.length : Int) < 1) = False := by simp; omega
  have HT1 := Lib.hid (show minI (l.take 1) = l[0] by
    have := List.take_succ_eq_append_getElem hpos
    simp at this; rw [this]; rfl)
  go_enter Tryz.func152, Tryz.ntmps152
  go_wp2
  clear hi00 hc00
  go_loopw [3, 4] (fun t3 t4 wr => ∃ k : Nat, 1 ≤ k ∧ k ≤ l.length ∧ t4 = .int .i64 (k : Nat) ∧ t3 = .int .i64 (minI (l.take k)) ∧ wr = w) (fun _ t4 _ => l.length - (intOf t4).toNat)
  case atStart => exact ⟨1, Nat.le_refl _, hpos, rfl, by rw [HT1.out], rfl⟩
  case round =>
    obtain ⟨k, hk1, hk, rfl, rfl, rfl⟩ := hrel
    by_cases hlt : k < l.length
    · obtain ⟨hi, hc⟩ := HX.out k hlt
      have HS := Lib.hid (show minI (l.take (k + 1)) = min (minI (l.take k)) l[k] by rw [List.take_succ_eq_append_getElem hlt]; exact minI_snoc (List.ne_nil_of_length_pos (by rw [List.length_take]; omega)) _)
      generalize minI (l.take k) = m at *
      generalize l[k] = x at *
      go_wp2
      go_roundw
      case rel => exact ⟨k + 1, by omega, hlt, by simp, by rw [HS.out]; try (congr 1; (first | omega | (split <;> omega))), by first | rfl | trivial⟩
      case measure => simp only [intOf]; omega
    · have HE := Lib.hid (show l.take k = l from List.take_of_length_le (by omega))
      rw [HE.out]
      go_wp2
      go_ret
      exact ⟨rfl, rfl⟩
set_option maxHeartbeats 4000000 in
set_option maxRecDepth 100000 in
theorem Max_l (l : List Int) (hpos : 0 < l.length) (w : World) (v : Value) (hv : SlOf w w.heap.size 1 encInt v l) :
    Calls Tryz.prog 153 #[v] w fun e w' => e = .returned (.int .i64 (maxI l)) ∧ w' = w := by
  obtain ⟨a, cap, g, off, rfl, hlc, hcm, hx⟩ := SlOf.at (enc := encInt) (fun _ => rfl) un_sf1 sz_sf1 hv
  have HX := Lib.hid (show ∀ k, (hk : k < l.length) → (∀ W, (Instr.indexAt 30 (.slice a l.length cap) (.int .i64 (k : Int))).run Tryz.prog W = .ok (.pointer (some ⟨g, off + k, none⟩)) W) ∧ w.cell? ⟨g, off + k, none⟩ = some (.int .i64 l[k]) from fun k hk => by
    obtain ⟨-, h1, h2, h3⟩ := hx k hk
    refine ⟨fun W => by simpa using h1 W, ?_⟩
    have := h3 0 (Nat.lt_succ_self 0)
    simpa [encInt] using this)
  unfold maxLen at hcm
  clear hx hv
  obtain ⟨hi0, hc0⟩ := HX.out 0 hpos
  have hi00 : ∀ W, (Instr.indexAt 30 (.slice a l.length cap) (.int .i64 0)).run Tryz.prog W = .ok (.pointer (some ⟨g, off, none⟩)) W := fun W => by simpa using hi0 W
  have hc00 : w.cell? ⟨g, off, none⟩ = some (.int .i64 l[0]) := by simpa using hc0
  clear hi0 hc0
  have hlt1 : ((l.length : Int) < 1) = False := by simp; omega
  have HT1 := Lib.hid (show maxI (l.take 1) = l[0] by
    have := List.take_succ_eq_append_getElem hpos
    simp at this; rw [this]; rfl)
  go_enter Tryz.func153, Tryz.ntmps153
  go_wp2
  clear hi00 hc00
  go_loopw [3, 4] (fun t3 t4 wr => ∃ k : Nat, 1 ≤ k ∧ k ≤ l.length ∧ t4 = .int .i64 (k : Nat) ∧ t3 = .int .i64 (maxI (l.take k)) ∧ wr = w) (fun _ t4 _ => l.length - (intOf t4).toNat)
  case atStart => exact ⟨1, Nat.le_refl _, hpos, rfl, by rw [HT1.out], rfl⟩
  case round =>
    obtain ⟨k, hk1, hk, rfl, rfl, rfl⟩ := hrel
    by_cases hlt : k < l.length
    · obtain ⟨hi, hc⟩ := HX.out k hlt
      have HS := Lib.hid (show maxI (l.take (k + 1)) = max (maxI (l.take k)) l[k] by rw [List.take_succ_eq_append_getElem hlt]; exact maxI_snoc (List.ne_nil_of_length_pos (by rw [List.length_take]; omega)) _)
      generalize maxI (l.take k) = m at *
      generalize l[k] = x at *
      go_wp2
      go_roundw
      case rel => exact ⟨k + 1, by omega, hlt, by simp, by rw [HS.out]; try (congr 1; (first | omega | (split <;> omega))), by first | rfl | trivial⟩
      case measure => simp only [intOf]; omega
    · have HE := Lib.hid (show l.take k = l from List.take_of_length_le (by omega))
      rw [HE.out]
      go_wp2
      go_ret
      exact ⟨rfl, rfl⟩
set_option maxHeartbeats 4000000 in
set_option maxRecDepth 100000 in
theorem span_l (r : RecD) (s : SchedD) (hv : validR r.n r.l r.vars = true) (hsb : schedB r s = true) (hne : 0 < (ptsL r.n r.l).length) (w : World) (pv : Value) (hp : SlOf w w.heap.size 3 encP pv (ptsL r.n r.l)) (hs : SchedRd w s) :
    Calls Tryz.prog 128 #[pv, .agg #[.int .i64 s.f.1, .int .i64 s.f.2.1, .int .i64 s.f.2.2, s.ov]] w fun e w' => e = .returned (.tuple #[.int .i64 (loT r s), .int .i64 (hiT r s)]) ∧ Below w.heap.size w w' := by
  have hL1 : (ptsL r.n r.l).length ≤ 1000 := (validR_out hv).2.1
  have hso := off_bd hsb
  have hnv := (validR_out hv).2.2.1
  have hfm := form_sm hsb
  have hoff : 0 < s.off.length := by omega
  have HDB := Lib.hid (fun (d : Int) (hd : d ∈ dotsL r s) => dots_bd2 hv hsb hd)
  have HTM := Lib.hid (fun (p : P3) (hp : p ∈ ptsL r.n r.l) (W : World) => show Calls Tryz.prog 82 #[.agg #[.int .i64 s.f.1, .int .i64 s.f.2.1, .int .i64 s.f.2.2], .agg #[.int .i64 p.1, .int .i64 p.2.1, .int .i64 p.2.2]] W fun e w' => e = .returned (.int .i64 (dot3 s.f p)) ∧ Below W.heap.size W w' from by
    have hq := pts_sm hv hp
    exact times_l _ _ _ _ _ _ (by have := sm_mul hfm.1 hq.1; omega) (by have := sm_mul hfm.2.1 hq.2.1; omega) (by have := sm_mul hfm.2.2 hq.2.2; omega) W)
  have HMI := Lib.hid (fun (W : World) (h : SchedRd W s) => Min_l s.off hoff W s.ov h)
  have HMA := Lib.hid (fun (W : World) (h : SchedRd W s) => Max_l s.off hoff W s.ov h)
  have hob : (0 ≤ minI s.off ∧ minI s.off ≤ 1000) ∧ (0 ≤ maxI s.off ∧ maxI s.off ≤ 1000) := ⟨hso.2 _ (minI_mem (List.ne_nil_of_length_pos hoff)), hso.2 _ (maxI_mem (List.ne_nil_of_length_pos hoff))⟩
  have hdl : dotsL r s = (ptsL r.n r.l).map (dot3 s.f) := rfl
  have HLO := Lib.hid (show loT r s = minI ((ptsL r.n r.l).map (dot3 s.f)) + minI s.off from rfl)
  have HHI := Lib.hid (show hiT r s = maxI ((ptsL r.n r.l).map (dot3 s.f)) + maxI s.off from rfl)
  rw [hdl] at HDB
  clear hdl hso hnv hfm hoff
  obtain ⟨qa, qc, g, off, rfl, hlc, hcm, hx⟩ := SlOf.at (enc := encP) (fun _ => rfl) un_pts sz_pts hp
  unfold maxLen at hcm
  have HX := Lib.hid hx; clear hx hp
  have HS := Lib.hid hs; clear hs hsb hv
  generalize loT r s = lo at *
  generalize hiT r s = hi at *
  generalize ptsL r.n r.l = L at *
  generalize dot3 s.f = F at *
  generalize minI s.off = om at *
  generalize maxI s.off = oM at *
  obtain ⟨-, hi0, hg, hc0⟩ := HX.out 0 hne
  have hi00 : ∀ W, (Instr.indexAt 75 (.slice qa L.length qc) (.int .i64 0)).run Tryz.prog W = .ok (.pointer (some ⟨g, off, none⟩)) W := fun W => by simpa using hi0 W
  have PC0 := Lib.hid (show ∀ V, Below w.heap.size w V → V.cell? ⟨g, off, none⟩ = some (.int .i64 L[0].1) ∧ V.cell? ⟨g, off + 1, none⟩ = some (.int .i64 L[0].2.1) ∧ V.cell? ⟨g, off + 2, none⟩ = some (.int .i64 L[0].2.2) from fun V h => ⟨(h.cell (p := ⟨g, off, none⟩) hg).trans (hc0 0 (by omega)), (h.cell (p := ⟨g, off + 1, none⟩) hg).trans (hc0 1 (by omega)), (h.cell (p := ⟨g, off + 2, none⟩) hg).trans (hc0 2 (by omega))⟩)
  have HT0 := Lib.hid (HTM.out L[0] (List.getElem_mem hne))
  have hd0 : F L[0] ∈ L.map F := List.mem_map_of_mem (List.getElem_mem hne)
  have HD0 := Lib.hid hd0
  have hd0b := HDB.out _ hd0
  clear hc0 hi0 hd0
  have hne0 : (0 : Int) < (L.length : Int) := by omega
  generalize L[0] = p0 at *
  obtain ⟨p0a, p0b, p0c⟩ := p0
  simp only at PC0 HT0
  generalize hF0 : F (p0a, p0b, p0c) = d0 at *
  clear hF0
  obtain ⟨W0, hW0⟩ : ∃ W : World, w.alloc (Obj.cells #[.int .i64 s.f.1, .int .i64 s.f.2.1, .int .i64 s.f.2.2, s.ov] 32) = W := ⟨_, rfl⟩
  have kw0 : Below w.heap.size w W0 := by rw [← hW0]; exact (by repeat (first | exact Below.refl _ _ | assumption | (refine Below.drew ?_) | (refine below_drewN ?_ _) | (refine Below.alloc ?_ (by first | (simp; done) | (simp; omega) | omega) _) | (refine Below.setCell ?_ (by first | (simp; done) | (simp; omega) | omega) _) | (refine Below.trans ?_ (Below.mono (by assumption) (by first | (simp; done) | (simp; omega) | omega)))))
  have ks0 : W0.heap.size = w.heap.size + 1 := by rw [← hW0]; simp
  have RD0 := Lib.hid (show ∀ V, Below W0.heap.size W0 V → V.cell? ⟨w.heap.size, 0, none⟩ = some (.int .i64 s.f.1) ∧ V.cell? ⟨w.heap.size, 1, none⟩ = some (.int .i64 s.f.2.1) ∧ V.cell? ⟨w.heap.size, 2, none⟩ = some (.int .i64 s.f.2.2) ∧ V.cell? ⟨w.heap.size, 3, none⟩ = some (s.ov) from fun V h => by
      refine ⟨(h.cell (p := ⟨w.heap.size, 0, none⟩) (by simp; omega)).trans ?_, (h.cell (p := ⟨w.heap.size, 1, none⟩) (by simp; omega)).trans ?_, (h.cell (p := ⟨w.heap.size, 2, none⟩) (by simp; omega)).trans ?_, (h.cell (p := ⟨w.heap.size, 3, none⟩) (by simp; omega)).trans ?_⟩ <;> (subst hW0; go_simp))
  have HW0 := Lib.hid hW0; have KW0 := Lib.hid kw0; clear hW0 kw0
  have hsW : w.heap.size ≤ W0.heap.size := by omega
  have S1 := Lib.hid (show ∀ V, Below W0.heap.size W0 V → Below W0.heap.size W0 V ∧ (V.cell? ⟨w.heap.size, 0, none⟩ = some (.int .i64 s.f.1) ∧ V.cell? ⟨w.heap.size, 1, none⟩ = some (.int .i64 s.f.2.1) ∧ V.cell? ⟨w.heap.size, 2, none⟩ = some (.int .i64 s.f.2.2) ∧ V.cell? ⟨w.heap.size, 3, none⟩ = some (s.ov)) ∧ V.cell? ⟨g, off, none⟩ = some (.int .i64 p0a) ∧ V.cell? ⟨g, off + 1, none⟩ = some (.int .i64 p0b) ∧ V.cell? ⟨g, off + 2, none⟩ = some (.int .i64 p0c) from fun V h => ⟨h, RD0.out V h, PC0.out V (below_at KW0.out hsW h)⟩)
  go_enter Tryz.func128, Tryz.ntmps128
  go_wp2
  rw [HW0.out]
  go_region_held3 (fun w' => Below W0.heap.size W0 w' ∧ (w'.cell? ⟨w.heap.size, 0, none⟩ = some (.int .i64 s.f.1) ∧ w'.cell? ⟨w.heap.size, 1, none⟩ = some (.int .i64 s.f.2.1) ∧ w'.cell? ⟨w.heap.size, 2, none⟩ = some (.int .i64 s.f.2.2) ∧ w'.cell? ⟨w.heap.size, 3, none⟩ = some (s.ov)) ∧ w'.cell? ⟨g, off, none⟩ = some (.int .i64 p0a) ∧ w'.cell? ⟨g, off + 1, none⟩ = some (.int .i64 p0b) ∧ w'.cell? ⟨g, off + 2, none⟩ = some (.int .i64 p0c)) ((refine S1.out _ ?_; exact (by repeat (first | (with_reducible exact Below.refl _ _) | (with_reducible assumption) | (with_reducible refine Below.drew ?_) | (with_reducible refine Below.setCell ?_ (by first | (simp; done) | (simp; omega) | omega) _) | (with_reducible refine Below.alloc ?_ (by first | (simp; done) | (simp; omega) | omega) _) | (with_reducible refine below_drewN ?_ _) | (refine Below.trans ?_ (Below.mono (by with_reducible assumption) (by first | (simp; done) | (simp; omega) | omega))))))) (first | (go_at_call 82; refine (HT0.out _).mono ?_; go_must (rintro e w5 ⟨rfl, hb5⟩; have hs5 := hb5.size; (try simp at hs5))))
  all_goals
    go_wp2
    refine forgetW (fun V => Below W0.heap.size W0 V) (by first | exact (by repeat (first | (with_reducible exact Below.refl _ _) | (with_reducible assumption) | (with_reducible refine Below.drew ?_) | (with_reducible refine Below.setCell ?_ (by first | (simp; done) | (simp; omega) | omega) _) | (with_reducible refine Below.alloc ?_ (by first | (simp; done) | (simp; omega) | omega) _) | (with_reducible refine below_drewN ?_ _) | (refine Below.trans ?_ (Below.mono (by with_reducible assumption) (by first | (simp; done) | (simp; omega) | omega)))))) ?_
    intro w1 hb1
    have hs1 := hb1.size
    go_loopw [6, 7, 25] (fun t6 t7 t25 wr => ∃ k : Nat, k ≤ L.length ∧ t25 = .int .i64 (k : Nat) ∧ t6 = .int .i64 (minI (d0 :: (L.take k).map F)) ∧ t7 = .int .i64 (maxI (d0 :: (L.take k).map F)) ∧ Below w1.heap.size w1 wr) (fun _ _ t25 _ => L.length - (intOf t25).toNat)
    case atStart => exact ⟨0, Nat.zero_le _, rfl, rfl, rfl, Below.refl _ _⟩
    case round =>
      obtain ⟨k, hk, rfl, rfl, rfl, hb⟩ := hrel
      have hs2 := hb.size
      have K0 := below_at hb1 hs1 hb
      by_cases hlt : k < L.length
      rotate_left
      · have hke : L.take k = L := List.take_of_length_le (by omega)
        have hm1 := HDB.out _ (minI_mem (List.ne_nil_of_mem HD0.out))
        have hm2 := HDB.out _ (maxI_mem (List.ne_nil_of_mem HD0.out))
        rw [hke, minI_again HD0.out, maxI_again HD0.out]
        clear hke
        have HL2 := Lib.hid HLO.out; have HH2 := Lib.hid HHI.out
        generalize minI (L.map F) = m1 at *
        generalize maxI (L.map F) = m2 at *
        obtain ⟨k0_0, k0_1, k0_2, k0_3⟩ := RD0.out _ K0
        have HSW := Lib.hid (fun (V : World) (h : Below wr.heap.size wr V) => HS.out.below (below_at (below_at KW0.out hsW K0) (by have := K0.size; omega) h))
        go_wp2
        go_quiet ((first | (go_at_call 152; exact Calls.quiet_of_same (HMI.out _ (HSW.out _ (by exact (by repeat (first | (with_reducible exact Below.refl _ _) | (with_reducible assumption) | (with_reducible refine Below.drew ?_) | (with_reducible refine Below.setCell ?_ (by first | (simp; done) | (simp; omega) | omega) _) | (with_reducible refine Below.alloc ?_ (by first | (simp; done) | (simp; omega) | omega) _) | (with_reducible refine below_drewN ?_ _) | (refine Below.trans ?_ (Below.mono (by with_reducible assumption) (by first | (simp; done) | (simp; omega) | omega))))))))) | (go_at_call 153; exact Calls.quiet_of_same (HMA.out _ (HSW.out _ (by exact (by repeat (first | (with_reducible exact Below.refl _ _) | (with_reducible assumption) | (with_reducible refine Below.drew ?_) | (with_reducible refine Below.setCell ?_ (by first | (simp; done) | (simp; omega) | omega) _) | (with_reducible refine Below.alloc ?_ (by first | (simp; done) | (simp; omega) | omega) _) | (with_reducible refine below_drewN ?_ _) | (refine Below.trans ?_ (Below.mono (by with_reducible assumption) (by first | (simp; done) | (simp; omega) | omega)))))))))))
        go_wp2
        go_ret2
        exact ⟨by rw [HL2.out, HH2.out]; rfl, below_drewN (KW0.out.trans (K0.mono hsW)) _⟩
      obtain ⟨-, hii, hg2, hc⟩ := HX.out k hlt
      have rd := fun j hj => ((below_at KW0.out hsW K0).cell (p := ⟨g, off + 3 * k + j, none⟩) hg2).trans (hc j hj)
      clear hc
      have HTK := Lib.hid (HTM.out L[k] (List.getElem_mem hlt))
      have hdb := HDB.out (F L[k]) (List.mem_map_of_mem (List.getElem_mem hlt))
      have HM1 := Lib.hid (show minI (d0 :: (L.take (k + 1)).map F) = min (minI (d0 :: (L.take k).map F)) (F L[k]) by
        rw [List.take_succ_eq_append_getElem hlt, List.map_append, ← List.cons_append]; exact minI_snoc (by simp) _)
      have HM2 := Lib.hid (show maxI (d0 :: (L.take (k + 1)).map F) = max (maxI (d0 :: (L.take k).map F)) (F L[k]) by
        rw [List.take_succ_eq_append_getElem hlt, List.map_append, ← List.cons_append]; exact maxI_snoc (by simp) _)
      have HLT := Lib.hid hlt
      generalize minI (d0 :: (L.take k).map F) = m1 at *
      generalize maxI (d0 :: (L.take k).map F) = m2 at *
      generalize F L[k] = dk at *
      generalize L[k] = p at *
      obtain ⟨pa, pb, pc⟩ := p
      simp only at HTK
      have r0 : wr.cell? ⟨g, off + 3 * k, none⟩ = some (.int .i64 pa) := rd 0 (by omega)
      have r1 : wr.cell? ⟨g, off + 3 * k + 1, none⟩ = some (.int .i64 pb) := rd 1 (by omega)
      have r2 : wr.cell? ⟨g, off + 3 * k + 2, none⟩ = some (.int .i64 pc) := rd 2 (by omega)
      clear rd
      have hzw : w.heap.size + 1 ≤ wr.heap.size := by omega
      have zz := z1 hzw
      obtain ⟨k0_0, k0_1, k0_2, k0_3⟩ := RD0.out _ K0
      go_wp2_with (go_at_call 82; refine (HTK.out _).mono ?_; go_must (rintro e w6 ⟨rfl, hb6⟩))
      go_roundw
      case rel => exact ⟨k + 1, HLT.out, by simp, by rw [HM1.out]; try (congr 1; (first | omega | (split <;> omega))), by rw [HM2.out]; try (congr 1; (first | omega | (split <;> omega))), below_at hb hs2 (((Below.refl _ _).alloc (Nat.le_refl _) _).trans (hb6.mono (by simp)))⟩
      case measure => simp only [intOf]; have := HLT.out; omega
/-- The error of a latency. -/
def latErr (r : RecD) (s : SchedD) : Int := if askD r s = 0 then (if (ptsL r.n r.l).length = 0 then 5 else 0) else askD r s
def latI (r : RecD) (s : SchedD) : Int := if latErr r s = 0 then hiT r s - loT r s + 1 else 0
def spanV (r : RecD) (s : SchedD) : Value := if latErr r s = 0 then .tuple #[.int .i64 (loT r s), .int .i64 (hiT r s), .int .i64 0] else .tuple #[.int .i64 0, .int .i64 0, .int .i64 (latErr r s)]
def latV (r : RecD) (s : SchedD) : Value := .tuple #[.int .i64 (latI r s), .int .i64 (latErr r s)]
theorem lat_bd {r : RecD} {s : SchedD} (h : latErr r s = 0) : (-540 ≤ loT r s ∧ loT r s ≤ 1540) ∧ (-540 ≤ hiT r s ∧ hiT r s ≤ 1540) ∧ loT r s ≤ hiT r s := by
  have ha : askD r s = 0 := by
    unfold latErr at h; split at h
    · assumption
    · exact h
  obtain ⟨hv, hsb⟩ := askD_out ha
  have hne : (ptsL r.n r.l).length ≠ 0 := by
    intro e; unfold latErr at h; rw [if_pos ha, if_pos e] at h; omega
  have hd : dotsL r s ≠ [] := by
    intro e; have := congrArg List.length e; unfold dotsL at this; simp at this; exact hne (by rw [this]; rfl)
  have hso := off_bd hsb
  have hnv := (validR_out hv).2.2.1
  have ho : s.off ≠ [] := List.ne_nil_of_length_pos (by omega)
  have a1 := dots_bd2 hv hsb (minI_mem hd)
  have a2 := dots_bd2 hv hsb (maxI_mem hd)
  have b1 := hso.2 _ (minI_mem ho)
  have b2 := hso.2 _ (maxI_mem ho)
  have c1 := minI_le (maxI_mem hd)
  have c2 := minI_le (maxI_mem ho)
  unfold loT hiT
  exact ⟨by omega, by omega, by omega⟩
set_option maxHeartbeats 4000000 in
set_option maxRecDepth 100000 in
theorem Span_l (r : RecD) (s : SchedD) (w : World) (hr : RecRd w r) (hs : SchedRd w s) :
    Calls Tryz.prog 85 #[.agg #[.int .i64 r.n, r.lv, r.vv], .agg #[.int .i64 s.f.1, .int .i64 s.f.2.1, .int .i64 s.f.2.2, s.ov]] w fun e w' => e = .returned (spanV r s) ∧ Below w.heap.size w w' := by
  have HR := Lib.hid hr
  have HS := Lib.hid hs
  clear hr hs
  have HCK := Lib.hid (fun (W : World) (v : Value) (h1 : RecRd W r) (h2 : SchedRd W s) (h3 : SlOf W W.heap.size 4 encS v [s]) => checked_l r s v W h1 h2 h3)
  obtain ⟨W0, hW0⟩ : ∃ W : World, (w.alloc (Obj.cells #[.int .i64 r.n, r.lv, r.vv] 27)).alloc (Obj.cells #[.int .i64 s.f.1, .int .i64 s.f.2.1, .int .i64 s.f.2.2, s.ov] 32) = W := ⟨_, rfl⟩
  have kw0 : Below w.heap.size w W0 := by rw [← hW0]; exact (by repeat (first | exact Below.refl _ _ | assumption | (refine Below.drew ?_) | (refine below_drewN ?_ _) | (refine Below.alloc ?_ (by first | (simp; done) | (simp; omega) | omega) _) | (refine Below.setCell ?_ (by first | (simp; done) | (simp; omega) | omega) _) | (refine Below.trans ?_ (Below.mono (by assumption) (by first | (simp; done) | (simp; omega) | omega)))))
  have ks0 : W0.heap.size = w.heap.size + 2 := by rw [← hW0]; simp
  have RD0 := Lib.hid (show ∀ V, Below W0.heap.size W0 V → V.cell? ⟨w.heap.size, 0, none⟩ = some (.int .i64 r.n) ∧ V.cell? ⟨w.heap.size, 1, none⟩ = some (r.lv) ∧ V.cell? ⟨w.heap.size, 2, none⟩ = some (r.vv) ∧ V.cell? ⟨w.heap.size + 1, 0, none⟩ = some (.int .i64 s.f.1) ∧ V.cell? ⟨w.heap.size + 1, 1, none⟩ = some (.int .i64 s.f.2.1) ∧ V.cell? ⟨w.heap.size + 1, 2, none⟩ = some (.int .i64 s.f.2.2) ∧ V.cell? ⟨w.heap.size + 1, 3, none⟩ = some (s.ov) from fun V h => by
      refine ⟨(h.cell (p := ⟨w.heap.size, 0, none⟩) (by simp; omega)).trans ?_, (h.cell (p := ⟨w.heap.size, 1, none⟩) (by simp; omega)).trans ?_, (h.cell (p := ⟨w.heap.size, 2, none⟩) (by simp; omega)).trans ?_, (h.cell (p := ⟨w.heap.size + 1, 0, none⟩) (by simp; omega)).trans ?_, (h.cell (p := ⟨w.heap.size + 1, 1, none⟩) (by simp; omega)).trans ?_, (h.cell (p := ⟨w.heap.size + 1, 2, none⟩) (by simp; omega)).trans ?_, (h.cell (p := ⟨w.heap.size + 1, 3, none⟩) (by simp; omega)).trans ?_⟩ <;> (subst hW0; go_simp))
  have HW0 := Lib.hid hW0; have KW0 := Lib.hid kw0; clear hW0 kw0
  have KS := Lib.hid (show Below w.heap.size w (W0.alloc (Obj.cells #[.int .i64 s.f.1, .int .i64 s.f.2.1, .int .i64 s.f.2.2, s.ov] 32)) from KW0.out.alloc (by omega) _)
  have KS0 := Lib.hid (show Below W0.heap.size W0 (W0.alloc (Obj.cells #[.int .i64 s.f.1, .int .i64 s.f.2.1, .int .i64 s.f.2.2, s.ov] 32)) from (Below.refl _ _).alloc (Nat.le_refl _) _)
  have HO := Lib.hid (one_sched W0 s (w.heap.size + 1 + 1) (by omega))
  by_cases ha : askD r s = 0
  rotate_left
  · have hnz : (askD r s != 0) = true := by simpa using ha
    have HV := Lib.hid (show spanV r s = .tuple #[.int .i64 0, .int .i64 0, .int .i64 (askD r s)] by unfold spanV latErr; rw [if_neg ha, if_neg ha])
    clear ha
    rw [HV.out]
    generalize askD r s = A at *
    go_enter Tryz.func85, Tryz.ntmps85
    go_wp2_with (go_at_call 45; rw [HW0.out]; refine (HCK.out _ _ (HR.out.below KS.out) (HS.out.below KS.out) HO.out).mono ?_; go_must (rintro e w1 ⟨rfl, hb1⟩))
    go_ret3
    exact ⟨rfl, below_at KS.out (by simp; omega) hb1⟩
  have hao := askD_out ha
  have hvo := validR_out hao.1
  rw [ha] at HCK
  have HP := Lib.hid (fun (W : World) (hw : SlOf W W.heap.size 4 encI r.lv r.l) => Points_l r.n r.l W r.lv hw hvo.1 hvo.2.1)
  by_cases hn : (ptsL r.n r.l).length = 0
  · have HV := Lib.hid (show spanV r s = .tuple #[.int .i64 0, .int .i64 0, .int .i64 5] by unfold spanV latErr; rw [if_pos ha, if_pos hn]; rfl)
    rw [HV.out]
    clear ha hao hvo
    generalize ptsL r.n r.l = L at *
    obtain rfl : L = [] := List.eq_nil_of_length_eq_zero hn
    clear hn
    go_enter Tryz.func85, Tryz.ntmps85
    go_wp2_with (first | (go_at_call 45; rw [HW0.out]; refine (HCK.out _ _ (HR.out.below KS.out) (HS.out.below KS.out) HO.out).mono ?_; go_must (rintro e w1 ⟨rfl, hb1⟩; have K0 := below_at KS0.out (by simp) hb1; have HB1 := Lib.hid hb1; clear hb1; obtain ⟨k0_0, k0_1, k0_2, k0_3, k0_4, k0_5, k0_6⟩ := RD0.out _ K0)) | (go_at_call 83; refine (HP.out _ (HR.out.l.below (KW0.out.trans (K0.mono (by omega))))).mono ?_; go_must (rintro e w2 ⟨⟨pv, rfl, hpv⟩, hb2⟩; obtain ⟨pa, pc, hpe, -⟩ := hpv.shape; subst hpe; have HB2 := Lib.hid hb2; clear hb2 hpv)))
    go_ret3
    exact ⟨rfl, below_at (KW0.out.trans (K0.mono (by omega))) (by have := K0.size; omega) HB2.out⟩
  have HV := Lib.hid (show spanV r s = .tuple #[.int .i64 (loT r s), .int .i64 (hiT r s), .int .i64 0] by unfold spanV latErr; rw [if_pos ha, if_neg hn]; rfl)
  rw [HV.out]
  have HSP := Lib.hid (fun (W : World) (pv : Value) (h1 : SlOf W W.heap.size 3 encP pv (ptsL r.n r.l)) (h2 : SchedRd W s) => span_l r s hao.1 hao.2 (by omega) W pv h1 h2)
  clear ha hao hvo
  generalize loT r s = lo at *
  generalize hiT r s = hi at *
  generalize ptsL r.n r.l = L at *
  have hn2 : ((L.length : Int) == 0) = false := by rw [beq_eq_false_iff_ne]; omega
  have hn3 : (L.length == 0) = false := by rw [beq_eq_false_iff_ne]; omega
  go_enter Tryz.func85, Tryz.ntmps85
  go_wp2_with (first | (go_at_call 45; rw [HW0.out]; refine (HCK.out _ _ (HR.out.below KS.out) (HS.out.below KS.out) HO.out).mono ?_; go_must (rintro e w1 ⟨rfl, hb1⟩; have K0 := below_at KS0.out (by simp) hb1; have HB1 := Lib.hid hb1; clear hb1; obtain ⟨k0_0, k0_1, k0_2, k0_3, k0_4, k0_5, k0_6⟩ := RD0.out _ K0)) | (go_at_call 83; refine (HP.out _ (HR.out.l.below (KW0.out.trans (K0.mono (by omega))))).mono ?_; go_must (rintro e w2 ⟨⟨pv, rfl, hpv⟩, hb2⟩; have K' := (by first | exact below_at K0 (by have := K0.size; omega) hb2 | exact below_at K0 (by have := K0.size; omega) (by repeat (first | exact Below.refl _ _ | assumption | (refine Below.drew ?_) | (refine below_drewN ?_ _) | (refine Below.alloc ?_ (by first | (simp; done) | (simp; omega) | omega) _) | (refine Below.setCell ?_ (by first | (simp; done) | (simp; omega) | omega) _) | (refine Below.trans ?_ (Below.mono (by assumption) (by first | (simp; done) | (simp; omega) | omega))))) : Below W0.heap.size W0 w2); have HB2 := Lib.hid hb2; clear K0 hb2; (try clear k0_0); (try clear k0_1); (try clear k0_2); (try clear k0_3); (try clear k0_4); (try clear k0_5); (try clear k0_6); have K0 := K'; clear K'; obtain ⟨k0_0, k0_1, k0_2, k0_3, k0_4, k0_5, k0_6⟩ := RD0.out _ K0; have HPV := Lib.hid hpv; obtain ⟨pa, pc, hpe, -⟩ := hpv.shape; subst hpe; clear hpv)) | (go_at_call 128; refine (HSP.out _ _ HPV.out (HS.out.below (KW0.out.trans (K0.mono (by omega))))).mono ?_; go_must (rintro e w3 ⟨rfl, hb3⟩; have K' := (by first | exact below_at K0 (by have := K0.size; omega) hb3 | exact below_at K0 (by have := K0.size; omega) (by repeat (first | exact Below.refl _ _ | assumption | (refine Below.drew ?_) | (refine below_drewN ?_ _) | (refine Below.alloc ?_ (by first | (simp; done) | (simp; omega) | omega) _) | (refine Below.setCell ?_ (by first | (simp; done) | (simp; omega) | omega) _) | (refine Below.trans ?_ (Below.mono (by assumption) (by first | (simp; done) | (simp; omega) | omega))))) : Below W0.heap.size W0 w3); have HB3 := Lib.hid hb3; clear K0 hb3; (try clear k0_0); (try clear k0_1); (try clear k0_2); (try clear k0_3); (try clear k0_4); (try clear k0_5); (try clear k0_6); have K0 := K'; clear K'; obtain ⟨k0_0, k0_1, k0_2, k0_3, k0_4, k0_5, k0_6⟩ := RD0.out _ K0; skip)))
  go_ret3
  exact ⟨rfl, (KW0.out.trans (K0.mono (by omega)))⟩
set_option maxHeartbeats 4000000 in
set_option maxRecDepth 100000 in
theorem Latency_l (r : RecD) (s : SchedD) (w : World) (hr : RecRd w r) (hs : SchedRd w s) :
    Calls Tryz.prog 52 #[.agg #[.int .i64 r.n, r.lv, r.vv], .agg #[.int .i64 s.f.1, .int .i64 s.f.2.1, .int .i64 s.f.2.2, s.ov]] w fun e w' => e = .returned (latV r s) ∧ Below w.heap.size w w' := by
  have HR := Lib.hid hr
  have HS := Lib.hid hs
  clear hr hs
  have HSP := Lib.hid (fun (W : World) (h1 : RecRd W r) (h2 : SchedRd W s) => Span_l r s W h1 h2)
  obtain ⟨W0, hW0⟩ : ∃ W : World, (w.alloc (Obj.cells #[.int .i64 r.n, r.lv, r.vv] 27)).alloc (Obj.cells #[.int .i64 s.f.1, .int .i64 s.f.2.1, .int .i64 s.f.2.2, s.ov] 32) = W := ⟨_, rfl⟩
  have kw0 : Below w.heap.size w W0 := by rw [← hW0]; exact (by repeat (first | exact Below.refl _ _ | assumption | (refine Below.drew ?_) | (refine below_drewN ?_ _) | (refine Below.alloc ?_ (by first | (simp; done) | (simp; omega) | omega) _) | (refine Below.setCell ?_ (by first | (simp; done) | (simp; omega) | omega) _) | (refine Below.trans ?_ (Below.mono (by assumption) (by first | (simp; done) | (simp; omega) | omega)))))
  have ks0 : W0.heap.size = w.heap.size + 2 := by rw [← hW0]; simp
  have RD0 := Lib.hid (show ∀ V, Below W0.heap.size W0 V → V.cell? ⟨w.heap.size, 0, none⟩ = some (.int .i64 r.n) ∧ V.cell? ⟨w.heap.size, 1, none⟩ = some (r.lv) ∧ V.cell? ⟨w.heap.size, 2, none⟩ = some (r.vv) ∧ V.cell? ⟨w.heap.size + 1, 0, none⟩ = some (.int .i64 s.f.1) ∧ V.cell? ⟨w.heap.size + 1, 1, none⟩ = some (.int .i64 s.f.2.1) ∧ V.cell? ⟨w.heap.size + 1, 2, none⟩ = some (.int .i64 s.f.2.2) ∧ V.cell? ⟨w.heap.size + 1, 3, none⟩ = some (s.ov) from fun V h => by
      refine ⟨(h.cell (p := ⟨w.heap.size, 0, none⟩) (by simp; omega)).trans ?_, (h.cell (p := ⟨w.heap.size, 1, none⟩) (by simp; omega)).trans ?_, (h.cell (p := ⟨w.heap.size, 2, none⟩) (by simp; omega)).trans ?_, (h.cell (p := ⟨w.heap.size + 1, 0, none⟩) (by simp; omega)).trans ?_, (h.cell (p := ⟨w.heap.size + 1, 1, none⟩) (by simp; omega)).trans ?_, (h.cell (p := ⟨w.heap.size + 1, 2, none⟩) (by simp; omega)).trans ?_, (h.cell (p := ⟨w.heap.size + 1, 3, none⟩) (by simp; omega)).trans ?_⟩ <;> (subst hW0; go_simp))
  have HW0 := Lib.hid hW0; have KW0 := Lib.hid kw0; clear hW0 kw0
  by_cases h0 : latErr r s = 0
  · have HB := Lib.hid (lat_bd h0)
    have HV := Lib.hid (show spanV r s = .tuple #[.int .i64 (loT r s), .int .i64 (hiT r s), .int .i64 0] by unfold spanV; rw [if_pos h0])
    have HL := Lib.hid (show latV r s = .tuple #[.int .i64 (hiT r s - loT r s + 1), .int .i64 0] by unfold latV latI; rw [if_pos h0, h0])
    rw [HL.out]
    rw [HV.out] at HSP
    clear h0
    generalize loT r s = lo at *
    generalize hiT r s = hi at *
    obtain ⟨⟨b1, b2⟩, ⟨b3, b4⟩, b5⟩ := HB.out
    go_enter Tryz.func52, Tryz.ntmps52
    go_wp2_with (go_at_call 85; rw [HW0.out]; refine (HSP.out _ (HR.out.below KW0.out) (HS.out.below KW0.out)).mono ?_; go_must (rintro e w1 ⟨rfl, hb1⟩; have K0 := hb1; have HB1 := Lib.hid hb1; clear hb1; obtain ⟨k0_0, k0_1, k0_2, k0_3, k0_4, k0_5, k0_6⟩ := RD0.out _ K0; skip))
    go_ret2
    exact ⟨rfl, (KW0.out.trans (K0.mono (by omega)))⟩
  · have HV := Lib.hid (show spanV r s = .tuple #[.int .i64 0, .int .i64 0, .int .i64 (latErr r s)] by unfold spanV; rw [if_neg h0])
    have HL := Lib.hid (show latV r s = .tuple #[.int .i64 0, .int .i64 (latErr r s)] by unfold latV latI; rw [if_neg h0])
    have hnz : (latErr r s != 0) = true := by simpa using h0
    rw [HL.out]
    rw [HV.out] at HSP
    clear h0
    generalize latErr r s = A at *
    go_enter Tryz.func52, Tryz.ntmps52
    go_wp2_with (go_at_call 85; rw [HW0.out]; refine (HSP.out _ (HR.out.below KW0.out) (HS.out.below KW0.out)).mono ?_; go_must (rintro e w1 ⟨rfl, hb1⟩; have K0 := hb1; have HB1 := Lib.hid hb1; clear hb1; obtain ⟨k0_0, k0_1, k0_2, k0_3, k0_4, k0_5, k0_6⟩ := RD0.out _ K0; skip))
    go_ret2
    exact ⟨rfl, (KW0.out.trans (K0.mono (by omega)))⟩
end Go.Proofs.YtndfdgdahinkpaaGreat
