/- Racks: NewRack, Down, Copy of the program: walks. -/
import Derived.Test.YtlljfbakpljenaaRackH
import Derived.Test.YtlljfbakpljenaaRackF
namespace Go.Proofs.Ytlljfbakpljenaa
open Go.RowKit Go.Lib
set_option linter.unusedVariables false
def rack0 : RackD := { d := fun _ => ([], []), armed := 0, off := false }
theorem alloc_two (w : World) (o1 o2 : Obj) : ((w.alloc o1).alloc o2).heap[w.heap.size]? = some o1 ∧ ((w.alloc o1).alloc o2).heap[w.heap.size + 1]? = some o2 := by
  have hs : (w.alloc o1).heap.size = w.heap.size + 1 := by simp
  have h2 := alloc_at (w.alloc o1) o2
  rw [hs] at h2
  exact ⟨(((Below.refl _ (w.alloc o1)).alloc (Nat.le_refl _) o2).block w.heap.size (by omega)).trans (alloc_at w o1), h2⟩
theorem NewRack_l (w : World) : Calls Try.prog 7 #[] w fun e w' => (∃ rb db, e = .returned (.pointer (some ⟨rb, 0, none⟩)) ∧ w.heap.size ≤ rb ∧ w.heap.size ≤ db ∧ RackS w' rb db rack0) ∧ Below w.heap.size w w' := by
  go_enter Try.func7, Try.ntmps7
  go_wp2
  go_ret
  exact ⟨⟨w.heap.size + 1, w.heap.size, rfl, by omega, Nat.le_refl _, fun _ => .slice none 0 0, fun _ => .slice none 0 0, 0, (alloc_two w _ _).2, (alloc_two w _ _).1, fun i hi => bb_nil _, fun i hi => bb_nil _⟩, by exact (by repeat (first | exact Below.refl _ _ | assumption | (refine Below.drew ?_) | (refine below_drewN ?_ _) | (refine Below.alloc ?_ (by first | (simp; done) | (simp; omega) | omega) _) | (refine Below.setCell ?_ (by first | (simp; done) | (simp; omega) | omega) _) | (refine Below.trans ?_ (Below.mono (by assumption) (by first | (simp; done) | (simp; omega) | omega)))))⟩
def partD (D : RackD) (k : Nat) : RackD := { d := fun i => if i < k then D.d i else ([], []), armed := D.armed, off := D.off }
theorem part_end {w : World} {rb db : Nat} {sv lv : Nat → Value} {life : Int} {D : RackD} (h : RackP w rb db sv lv life (partD D 3)) : RackS w rb db D :=
  ⟨sv, lv, life, h.rblk, h.dblk, fun i hi => by have := h.safe i hi; unfold partD at this; simpa [hi] using this, fun i hi => by have := h.loose i hi; unfold partD at this; simpa [hi] using this⟩
theorem part_step (D : RackD) (k : Nat) : (partD D k).set k ((D.d k).1, (D.d k).2) = partD D (k + 1) := by
  unfold partD RackD.set
  congr 1
  funext j
  simp only
  by_cases h : j = k
  · subst h; simp
  · by_cases h2 : j < k
    · rw [if_neg h, if_pos h2, if_pos (by omega)]
    · rw [if_neg h, if_neg h2, if_neg (by omega)]
theorem Down_l (D : RackD) (rb db : Nat) (w : World) (hr : RackS w rb db D) :
    Calls Try.prog 22 #[.pointer (some ⟨rb, 0, none⟩)] w fun e w' => e = .returned (.bool D.off) ∧ w = w' := by
  obtain ⟨sv, lv, life, hp⟩ := hr
  obtain ⟨c0, c1, c2, c3⟩ := hp.cells
  have HN := Lib.hid (none_l rb db w c0)
  clear hp
  go_enter Try.func22, Try.ntmps22
  go_wp2_with (go_at_call 50; refine HN.out.mono ?_; go_must (rintro e w1 ⟨rfl, hw1⟩; subst hw1))
  go_ret
  exact ⟨rfl, rfl⟩
set_option maxHeartbeats 16000000 in
set_option maxRecDepth 100000 in
theorem Copy_l (D : RackD) (hm : D.upto 4000) (rb db : Nat) (w : World) (hr : RackS w rb db D) :
    Calls Try.prog 20 #[.pointer (some ⟨rb, 0, none⟩)] w fun e w' => (∃ r2 d2, e = .returned (.pointer (some ⟨r2, 0, none⟩)) ∧ w.heap.size ≤ r2 ∧ w.heap.size ≤ d2 ∧ RackS w' r2 d2 D) ∧ Below w.heap.size w w' := by
  obtain ⟨sv, lv, life, hp⟩ := hr
  have HP := Lib.hid hp
  obtain ⟨hm1, hm2, hm3⟩ := hm
  have HMU := Lib.hid hm1
  obtain ⟨c0, c1, c2, c3⟩ := hp.cells
  have hrb := hp.lt.1
  have hdb := hp.lt.2
  have HN := Lib.hid (none_l rb db w c0)
  clear hp hm1
  go_enter Try.func20, Try.ntmps20
  go_wp2_with (go_at_call 50; refine HN.out.mono ?_; go_must (rintro e w1 ⟨rfl, hw1⟩; subst hw1))
  refine forgetW (fun V => RackP V w.heap.size (w.heap.size + 1) (fun _ => .slice none 0 0) (fun _ => .slice none 0 0) life (partD D 0) ∧ Below w.heap.size w V) ⟨⟨(alloc_two w _ _).1, (alloc_two w _ _).2, fun i hi => by unfold partD; exact bb_nil _, fun i hi => by unfold partD; exact bb_nil _⟩, by exact (by repeat (first | exact Below.refl _ _ | assumption | (refine Below.drew ?_) | (refine below_drewN ?_ _) | (refine Below.alloc ?_ (by first | (simp; done) | (simp; omega) | omega) _) | (refine Below.setCell ?_ (by first | (simp; done) | (simp; omega) | omega) _) | (refine Below.trans ?_ (Below.mono (by assumption) (by first | (simp; done) | (simp; omega) | omega)))))⟩ ?_
  rintro V0 ⟨hp0, hb0⟩
  have HP0 := Lib.hid hp0
  have e0 := (hb0.cell (p := ⟨rb, 0, none⟩) hrb).trans c0
  clear hp0 c1 c2 c3
  go_wp2_with fail
  have HMD := Lib.hid (show ∀ k, k < 3 → (partD D k).d k = ([], []) from fun k hk => by unfold partD; simp)
  have hss : V0.heap.size ≥ w.heap.size := hb0.size
  go_loopw [4, 5, 18] (fun t4 t5 t18 wr => ∃ k : Nat, k ≤ 3 ∧ t18 = .int .i64 (k : Int) ∧ (∃ sv2 lv2, RackP wr w.heap.size (w.heap.size + 1) sv2 lv2 life (partD D k)) ∧ Hid (Below w.heap.size w wr)) (fun _ _ t18 _ => 3 - (intOf t18).toNat)
  case atStart => exact ⟨0, by omega, rfl, ⟨_, _, HP0.out⟩, Lib.hid hb0⟩
  case round =>
    obtain ⟨k, hk, rfl, ⟨sv2, lv2, hp2⟩, HB2⟩ := hrel
    by_cases hlt : k < 3
    rotate_left
    · have hke : k = 3 := by omega
      subst hke
      have HE := Lib.hid (show RackS wr w.heap.size (w.heap.size + 1) D from part_end hp2)
      clear hp2 hk hlt HP0
      go_wp2_with fail
      go_ret
      exact ⟨⟨_, _, rfl, Nat.le_refl _, by omega, HE.out⟩, HB2.out⟩
    have hz : (k : Int) < 3 := by omega
    have hz0 : (0 : Int) ≤ (k : Int) := by omega
    have hid3 := fun W => ixd db k hlt W
    have hid4 := fun W => ixd (w.heap.size + 1) k hlt W
    obtain ⟨y0, y1, y2, y3⟩ := hp2.cells
    obtain ⟨x0, x1⟩ := hp2.dcell hlt
    have f0 := (hp2.free (2 * k)).2
    have f1 := (hp2.free (2 * k + 1)).2
    obtain ⟨hl1, hl2⟩ := hp2.lt
    obtain ⟨g0, g1⟩ := HP.out.dcell hlt
    have v0 := (HB2.out.cell (p := ⟨db, 2 * k, none⟩) hdb).trans g0
    have v1 := (HB2.out.cell (p := ⟨db, 2 * k + 1, none⟩) hdb).trans g1
    obtain ⟨sa, sc, hsv, -⟩ := (HP.out.safe k hlt).sl.rd
    obtain ⟨la, lc, hlv, -⟩ := (HP.out.loose k hlt).sl.rd
    rw [hsv] at v0
    rw [hlv] at v1
    have HC := Lib.hid (fun (W : World) (kb : Below wr.heap.size wr W) (v : Value) (l : List Int) (hv : (v = .slice sa (D.d k).1.length sc ∧ l = (D.d k).1) ∨ (v = .slice la (D.d k).2.length lc ∧ l = (D.d k).2)) => (show Calls Try.prog 51 #[v] W (fun e w' => (∃ v', e = .returned v' ∧ BOwn w' W.heap.size v' l) ∧ Below W.heap.size W w') from by
      have hwb : Below w.heap.size w W := HB2.out.trans (kb.mono HB2.out.size)
      have hlo := HMU.out k hlt
      rcases hv with ⟨e1, e2⟩ | ⟨e1, e2⟩
      · subst e2; rw [e1, ← hsv]
        exact bclone_l _ _ W (((HP.out.safe k hlt).sl.kept hwb).mono hwb.size) (by omega)
      · subst e2; rw [e1, ← hlv]
        exact bclone_l _ _ W (((HP.out.loose k hlt).sl.kept hwb).mono hwb.size) (by omega)))
    have HC1 := Lib.hid (fun (W : World) (kb : Below wr.heap.size wr W) => HC.out W kb (.slice sa (D.d k).1.length sc) (D.d k).1 (.inl ⟨rfl, rfl⟩))
    have HC2 := Lib.hid (fun (W : World) (kb : Below wr.heap.size wr W) => HC.out W kb (.slice la (D.d k).2.length lc) (D.d k).2 (.inr ⟨rfl, rfl⟩))
    have HSTEP := Lib.hid (show ∀ (W : World) (v u : Value), Below wr.heap.size wr W → BB W v (D.d k).1 → BB W u (D.d k).2 → ∃ sv3 lv3, RackP ((W.setCell ⟨w.heap.size + 1, 2 * k, none⟩ v).setCell ⟨w.heap.size + 1, 2 * k + 1, none⟩ u) w.heap.size (w.heap.size + 1) sv3 lv3 life (partD D (k + 1)) from fun W v u hb hv hu => by
      have h1 := (hp2.below hb).setSafe hlt hv
      have h2 := h1.setLoose (v := u) (l := (D.d k).2) hlt (hu.kept ((hp2.below hb).ku2 _ _).ku)
      rw [RackD.set_set] at h2
      have e9 : (((partD D k).set k ((D.d k).1, ((partD D k).d k).2)).d k).1 = (D.d k).1 := by simp [RackD.set]
      rw [e9, part_step] at h2
      exact ⟨_, _, h2⟩)
    have HP2 := Lib.hid hp2
    clear hp2 HP0 g0 g1 hsv hlv HC
    have HV := Lib.hid (fun (W : World) (kb : Below wr.heap.size wr W) => And.intro ((kb.cell (p := ⟨w.heap.size, 0, none⟩) hl1).trans y0) (And.intro ((kb.cell (p := ⟨w.heap.size + 1, 2 * k, none⟩) hl2).trans x0) (And.intro ((kb.cell (p := ⟨w.heap.size + 1, 2 * k + 1, none⟩) hl2).trans x1) (And.intro ((kb.frozen (p := ⟨w.heap.size + 1, 2 * k, none⟩) hl2).trans f0) ((kb.frozen (p := ⟨w.heap.size + 1, 2 * k + 1, none⟩) hl2).trans f1)))))
    go_wp2_with fail
    have zd := z1 (show db + 1 ≤ wr.heap.size by have := HB2.out.size; omega)
    go_region
    go_wp2_with fail
    refine forgetW (fun V => Below wr.heap.size wr V ∧ wr.heap.size < V.heap.size ∧ V.cell? ⟨wr.heap.size, 0, none⟩ = some (.slice sa (D.d k).1.length sc) ∧ V.cell? ⟨wr.heap.size, 1, none⟩ = some (.slice la (D.d k).2.length lc)) ⟨by exact (by repeat (first | (with_reducible exact Below.refl _ _) | (with_reducible assumption) | (with_reducible refine Below.drew ?_) | (with_reducible refine Below.setCell ?_ (by first | (simp; done) | (simp; omega) | omega) _) | (with_reducible refine Below.alloc ?_ (by first | (simp; done) | (simp; omega) | omega) _) | (with_reducible refine below_drewN ?_ _) | (refine Below.trans ?_ (Below.mono (by with_reducible assumption) (by first | (simp; done) | (simp; omega) | omega))))), by simp, by go_simp, by go_simp⟩ ?_
    rintro V ⟨hbV, hsV, b0, b1⟩
    obtain ⟨j0, j1, j2, j3, j4⟩ := HV.out V hbV
    have HBV := Lib.hid hbV
    have hs1 := hbV.size
    have HX := Lib.hid (fun (W : World) (kb : Below V.heap.size V W) => And.intro (kb.cell (p := ⟨wr.heap.size, 0, none⟩) hsV |>.trans b0) (And.intro (kb.cell (p := ⟨wr.heap.size, 1, none⟩) hsV |>.trans b1) (HV.out W (hbV.trans (kb.mono hs1)))))
    clear HV HN HP x0 x1 f0 f1 y0 y1 y2 y3 e0 hid3 zd hbV HP2 HMU HMD v0 v1
    have KV := Below.refl V.heap.size V
    go_region_with (first
      | (go_at_call 51; (with_reducible refine (HC1.out _ ?h1).mono ?_); (case h1 => exact (HBV.out.trans (Below.mono (by exact (by repeat (first | (with_reducible exact Below.refl _ _) | (with_reducible assumption) | (with_reducible refine Below.drew ?_) | (with_reducible refine Below.setCell ?_ (by first | (simp; done) | (simp; omega) | omega) _) | (with_reducible refine Below.alloc ?_ (by first | (simp; done) | (simp; omega) | omega) _) | (with_reducible refine below_drewN ?_ _) | (refine Below.trans ?_ (Below.mono (by with_reducible assumption) (by first | (simp; done) | (simp; omega) | omega)))))) hs1))); go_must (rintro e w1 ⟨⟨v, rfl, hown⟩, hb1⟩; have hk1 : Below V.heap.size V w1 := (by exact (by repeat (first | (with_reducible exact Below.refl _ _) | (with_reducible assumption) | (with_reducible refine Below.drew ?_) | (with_reducible refine Below.setCell ?_ (by first | (simp; done) | (simp; omega) | omega) _) | (with_reducible refine Below.alloc ?_ (by first | (simp; done) | (simp; omega) | omega) _) | (with_reducible refine below_drewN ?_ _) | (refine Below.trans ?_ (Below.mono (by with_reducible assumption) (by first | (simp; done) | (simp; omega) | omega)))))); have HK1 := Lib.hid hk1; have HO := Lib.hid hown; have hsh : ∃ a n c, v = .slice a n c := (by obtain ⟨-, a, c, e, -⟩ := hown.bb; exact ⟨a, _, c, e⟩); obtain ⟨va, vn, vc, rfl⟩ := hsh; obtain ⟨b0, b1, j0, j1, j2, j3, j4⟩ := HX.out _ hk1; clear hown hb1 HC1 KV))
      | (go_at_call 51; (with_reducible refine (HC2.out _ ?h1).mono ?_); (case h1 => exact (HBV.out.trans (Below.mono HK1.out hs1))); go_must (rintro e w2 ⟨⟨u, rfl, hown⟩, hb1⟩; have hk2 : Below V.heap.size V w2 := HK1.out.trans (hb1.mono HK1.out.size); have HK2 := Lib.hid hk2; have HO2 := Lib.hid hown; have HBK := Lib.hid hb1; have hsh : ∃ a n c, u = .slice a n c := (by obtain ⟨-, a, c, e, -⟩ := hown.bb; exact ⟨a, _, c, e⟩); obtain ⟨ua, un, uc, rfl⟩ := hsh; obtain ⟨b0, b1, j0, j1, j2, j3, j4⟩ := HX.out _ hk2; clear hown hb1 HC2)))
    all_goals (try go_wp2)
    all_goals go_roundw
    all_goals first
      | (case measure => simp only [intOf]; omega)
      | (case measure => simp [intOf]; omega)
      | (case rel => exact ⟨k + 1, by omega, by simp, HSTEP.out _ _ _ (HBV.out.trans (HK2.out.mono hs1)) (HO.out.bb.kept (KU.of_below HBK.out)) HO2.out.bb, Lib.hid (((HB2.out.trans (HBV.out.mono (by omega))).trans (HK2.out.mono (by omega))).setCell (by first | omega | (simp; done) | (simp; omega)) _ |>.setCell (by first | omega | (simp; done) | (simp; omega)) _)⟩)
end Go.Proofs.Ytlljfbakpljenaa
