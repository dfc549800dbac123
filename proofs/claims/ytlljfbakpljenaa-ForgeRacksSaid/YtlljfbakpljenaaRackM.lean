/- Racks: the law's walk. -/
import Derived.Test.YtlljfbakpljenaaRackL
import Derived.Deep.CutRange
import Derived.Deep.CutBlock
namespace Go.Proofs.Ytlljfbakpljenaa
open Go.RowKit Go.Lib
set_option linter.unusedVariables false
theorem sz_mv (W : World) : (sizeOf (Try.prog.elem 22)).run Try.prog W = .ok 7 W := by kernel_rfl
theorem un_mv : Try.prog.underlying 22 = some (.slice (Try.prog.elem 22)) := by kernel_rfl
theorem FrS.drew {S : Nat → Prop} {V W : World} (h : FrS S V W) : FrS S V W.drew := h.trans (FrS.of_below ((Below.refl _ _).drew))
theorem FrS.drewN {S : Nat → Prop} {V W : World} (h : FrS S V W) (n : Nat) : FrS S V (W.drewN n) := h.trans (FrS.of_below (below_drewN (Below.refl _ _) _))
structure RkFin (w W : World) (rb db mb : Nat) (D : RackD) (n : Nat) : Prop where
  le : w.heap.size ≤ rb ∧ w.heap.size ≤ db ∧ w.heap.size ≤ mb
  s : RackS W rb db D
  q : RackQ W mb D
  u : D.upto n
  b : Below w.heap.size w W
theorem RkFin.below {w W W' : World} {rb db mb n : Nat} {D : RackD} (h : RkFin w W rb db mb D n) (hb : Below W.heap.size W W') : RkFin w W' rb db mb D n :=
  ⟨h.le, h.s.kept (FrS.of_below (S := fun _ => False) hb) id id, h.q.kept (FrS.of_below (S := fun _ => False) hb) id, h.u, h.b.trans (hb.mono h.b.size)⟩
theorem RkFin.both {w V W : World} {rb db mb n m : Nat} {D D2 : RackD} (h : RkFin w V rb db mb D n) (k : Both V W rb db mb D2 D2) (hu : D2.upto m) : RkFin w W rb db mb D2 m :=
  ⟨h.le, k.s, k.q, hu, h.b.trans (k.f.below h.b.size (fun b hb => by obtain ⟨h1, h2, h3⟩ := h.le; rcases hb with rfl | rfl | rfl <;> assumption))⟩
def keep3 (a b c : Int) (i : Nat) : Int := if i = 0 then a else if i = 1 then b else c
theorem upto0 : rack0.upto 0 := ⟨fun i hi => by simp [rack0], by simp [rack0], by simp [rack0]⟩
set_option maxHeartbeats 16000000 in
set_option maxRecDepth 100000 in
theorem ForgeRacks_any (l : List MoveD) (v : Value) (w : World) (hv : SlOf w w.heap.size 7 encMv v l) (hg : ∀ m ∈ l, MoveOk w m) :
    Calls Try.prog 3 #[v] w fun e w' => e = .returned (.bool true) ∧ Below w.heap.size w w' := by
  obtain ⟨a, cap, g, off, rfl, hlc, hcm, hx⟩ := SlOf.at (enc := encMv) (fun _ => rfl) un_mv sz_mv hv
  have HX := Lib.hid hx
  have HG := Lib.hid hg
  clear hx hg hv
  unfold maxLen at hcm
  by_cases h40 : 40 < l.length
  · go_enter Try.func3, Try.ntmps3
    go_wp2_with (go_at_call 6; refine (sane10 _).mono ?_; go_must (rintro e w1 ⟨rfl, hb1⟩))
    go_ret
    exact ⟨rfl, hb1⟩
  have h40' : decide ((40 : Int) < (l.length : Int)) = false := decide_eq_false (by omega)
  go_enter Try.func3, Try.ntmps3
  go_wp2_with (go_at_call 7; refine (NewRack_l _).mono ?_; go_must (rintro e w1 ⟨⟨rb0, db0, rfl, hr1, hr2, hrs⟩, hb1⟩; have HRS := Lib.hid hrs; have HB1 := Lib.hid hb1; clear hrs hb1))
  have hs1 := HB1.out.size
  refine forgetW (fun V => RackS V rb0 db0 rack0 ∧ RackQ V w1.heap.size rack0 ∧ Below w.heap.size w V) ⟨HRS.out.kept (FrS.of_below (S := fun _ => False) ((Below.refl _ w1).alloc (Nat.le_refl _) _)) id id, ⟨fun _ => .slice none 0 0, alloc_at w1 _, fun i hi => bb_nil _⟩, HB1.out.trans (((Below.refl _ w1).alloc (Nat.le_refl _) _).mono hs1)⟩ ?_
  rintro V0 ⟨hv1, hv2, hv3⟩
  go_loopw [3, 4, 5, 6, 7, 8] (fun t3 t4 t5 t6 t7 t8 wr => ∃ (k rb db mb : Nat) (D : RackD), k ≤ l.length ∧ t3 = .pointer (some ⟨rb, 0, none⟩) ∧ t4 = .pointer (some ⟨mb, 0, none⟩) ∧ t5 = .int .i64 (k : Int) ∧ Hid (RkFin w wr rb db mb D (100 * k))) (fun _ _ t5 _ _ _ _ => l.length - (intOf t5).toNat)
  case atStart => exact ⟨0, rb0, db0, w1.heap.size, rack0, Nat.zero_le _, rfl, rfl, rfl, Lib.hid ⟨⟨hr1, hr2, hs1⟩, hv1, hv2, upto0, hv3⟩⟩
  case round =>
    clear hv1 hv2 hv3 HRS HB1 hr1 hr2 hs1
    obtain ⟨k, rb, db, mb, D, hk, rfl, rfl, rfl, HF⟩ := hrel
    have HB := Lib.hid HF.out.b
    by_cases hlt : k < l.length
    rotate_left
    · have hke : k = l.length := by omega
      subst hke
      go_wp2_with (go_at_call 6; refine (sane10 _).mono ?_; go_must (rintro e w2 ⟨rfl, hb2⟩))
      go_ret
      exact ⟨rfl, HB.out.trans (hb2.mono HB.out.size)⟩
    have hkl : (k : Int) < (l.length : Int) := by omega
    have hk0 : (0 : Int) ≤ (k : Int) := by omega
    obtain ⟨-, hi, hgw, hc⟩ := HX.out k hlt
    have c0 := (HB.out.cell (p := ⟨g, off + 7 * k + 0, none⟩) hgw).trans (hc 0 (by omega))
    have c1 := (HB.out.cell (p := ⟨g, off + 7 * k + 1, none⟩) hgw).trans (hc 1 (by omega))
    have c2 := (HB.out.cell (p := ⟨g, off + 7 * k + 2, none⟩) hgw).trans (hc 2 (by omega))
    have c3 := (HB.out.cell (p := ⟨g, off + 7 * k + 3, none⟩) hgw).trans (hc 3 (by omega))
    have c4 := (HB.out.cell (p := ⟨g, off + 7 * k + 4, none⟩) hgw).trans (hc 4 (by omega))
    have c5 := (HB.out.cell (p := ⟨g, off + 7 * k + 5, none⟩) hgw).trans (hc 5 (by omega))
    have c6 := (HB.out.cell (p := ⟨g, off + 7 * k + 6, none⟩) hgw).trans (hc 6 (by omega))
    have hmo := HG.out l[k] (List.getElem_mem hlt)
    generalize l[k] = m at *
    clear hc
    obtain ⟨mw, md, mn, mbv, mbl, m0, m1, m2⟩ := m
    obtain ⟨hw, hn, hbs⟩ := hmo
    simp only at hw hn hbs
    obtain ⟨ba, bc, rfl, -⟩ := hbs.rd
    have HBS := Lib.hid hbs
    clear hbs
    simp [encMv] at c0 c1 c2 c3 c4 c5 c6
    have HN := Lib.hid hn
    clear hn
    by_cases h100 : 100 < mbl.length
    · go_wp2_with (go_at_call 6; refine (sane10 _).mono ?_; go_must (rintro e w2 ⟨rfl, hb2⟩; have HB2 := Lib.hid hb2; clear hb2))
      go_ret
      exact ⟨rfl, (HB.out.alloc (by have := HB.out.size; omega) _).trans (HB2.out.mono (by have := HB.out.size; simp; omega))⟩
    have h100' : decide ((100 : Int) < (mbl.length : Int)) = false := decide_eq_false (by omega)
    go_upto_block 2 with fail
    refine forgetW (fun V => RkFin w V rb db mb D (100 * k) ∧ wr.heap.size < V.heap.size ∧ V.cell? ⟨wr.heap.size, 1, none⟩ = some (.int .i64 md) ∧ V.cell? ⟨wr.heap.size, 2, none⟩ = some (.int .i64 mn) ∧ V.cell? ⟨wr.heap.size, 3, none⟩ = some (.slice ba mbl.length bc) ∧ V.cell? ⟨wr.heap.size, 4, none⟩ = some (.int .i64 m0) ∧ V.cell? ⟨wr.heap.size, 5, none⟩ = some (.int .i64 m1) ∧ V.cell? ⟨wr.heap.size, 6, none⟩ = some (.int .i64 m2)) ⟨HF.out.below ((Below.refl _ wr).alloc (Nat.le_refl _) _), by simp, by go_simp, by go_simp, by go_simp, by go_simp, by go_simp, by go_simp⟩ ?_
    rintro V ⟨hfv, hxl, x1, x2, x3, x4, x5, x6⟩
    have HFV := Lib.hid hfv
    have HNX := Lib.hid (show ¬ S3 rb db mb wr.heap.size from fun h => by
      obtain ⟨a1, a2, a3, q1⟩ := HF.out.s
      obtain ⟨a4, q2⟩ := HF.out.q
      have := q1.lt; have := q2.lt
      rcases h with h | h | h <;> omega)
    have HBO := Lib.hid (show Both V V rb db mb D D from ⟨hfv.s, hfv.q, FrS.refl _ _⟩)
    have HU4 := Lib.hid (show D.upto 4000 from upto_mono hfv.u (by omega))
    have HBW := Lib.hid (show ∀ W, FrS (S3 rb db mb) V W → BSl W w.heap.size (.slice ba mbl.length bc) mbl from fun W hW => HBS.out.kept (HFV.out.b.trans (hW.below HFV.out.b.size (fun b hb => by obtain ⟨h1, h2, h3⟩ := HFV.out.le; rcases hb with rfl | rfl | rfl <;> assumption))))
    have HXC := Lib.hid (fun (W : World) (kf : FrS (S3 rb db mb) V W) => And.intro ((kf.cell (o := 1) hxl HNX.out).trans x1) (And.intro ((kf.cell (o := 2) hxl HNX.out).trans x2) (And.intro ((kf.cell (o := 3) hxl HNX.out).trans x3) (And.intro ((kf.cell (o := 4) hxl HNX.out).trans x4) (And.intro ((kf.cell (o := 5) hxl HNX.out).trans x5) ((kf.cell (o := 6) hxl HNX.out).trans x6))))))
    clear hfv HF HB c0 c1 c2 c3 c4 c5 c6 HX HG hi hgw
    have hl100 : mbl.length ≤ 100 := by omega
    go_cut [3, 4, 7, 8] from 16 to 123 (fun t3 t4 t7 t8 wx => ∃ (rb db mb : Nat) (D : RackD) (z : Int), t3 = .pointer (some ⟨rb, 0, none⟩) ∧ t4 = .pointer (some ⟨mb, 0, none⟩) ∧ t7 = .int .i64 z ∧ t8 = .int .i64 z ∧ Hid (RkFin w wx rb db mb D (100 * (k + 1))))
    case first =>
      have h7 : mw % 7 = 0 ∨ mw % 7 = 1 ∨ mw % 7 = 2 ∨ mw % 7 = 3 ∨ mw % 7 = 4 ∨ mw % 7 = 5 ∨ mw % 7 = 6 := by omega
      rcases h7 with h7 | h7 | h7 | h7 | h7 | h7 | h7
      · have HP := Lib.hid (fun (W : World) (hW : Below V.heap.size V W) => both_p (HBO.out.below hW) (Append_l D HU4.out md mbl hl100 (.slice ba mbl.length bc) rb db W (HBO.out.below hW).s w.heap.size HFV.out.le.1 HFV.out.le.2.1 (HBW.out W (FrS.of_below hW))))
        have HR := Lib.hid (fun (W : World) (h : Both V W rb db mb (appendD D md mbl).2 D) => both_q h (rAppend_l D HU4.out md mbl hl100 (.slice ba mbl.length bc) mb W h.q w.heap.size (Nat.le_trans HFV.out.b.size h.f.size) HFV.out.le.2.2 (HBW.out W h.f)))
        have HFI := Lib.hid (fun (W : World) (h : Both V W rb db mb (appendD D md mbl).2 (appendD D md mbl).2) => HFV.out.both h (upto_append (n := 100 * (k + 1)) HFV.out.u md mbl (by omega)))
        generalize (appendD D md mbl).1 = z at *
        generalize (appendD D md mbl).2 = D2 at *
        clear HFV HU4 HBW HN HBS
        have hf0 := FrS.refl (S3 rb db mb) V
        go_wp2_with fail
        go_region_held3 (fun w' => FrS (S3 rb db mb) V w' ∧ w'.cell? ⟨wr.heap.size, 1, none⟩ = some (.int .i64 md) ∧ w'.cell? ⟨wr.heap.size, 2, none⟩ = some (.int .i64 mn) ∧ w'.cell? ⟨wr.heap.size, 3, none⟩ = some (.slice ba mbl.length bc)) (((refine (fun kf => ⟨kf, (HXC.out _ kf).1, (HXC.out _ kf).2.1, (HXC.out _ kf).2.2.1⟩) (?_ : FrS (S3 rb db mb) V _); exact (by repeat (first | (with_reducible exact FrS.refl _ _) | (with_reducible assumption) | (with_reducible refine FrS.drew ?_) | (with_reducible refine FrS.drewN ?_ _)))))) (first | (go_at_call 8; refine (HP.out _ (by exact (by repeat (first | (with_reducible exact Below.refl _ _) | (with_reducible assumption) | (with_reducible refine Below.drew ?_) | (with_reducible refine Below.setCell ?_ (by first | (simp; done) | (simp; omega) | omega) _) | (with_reducible refine Below.alloc ?_ (by first | (simp; done) | (simp; omega) | omega) _) | (with_reducible refine below_drewN ?_ _) | (refine Below.trans ?_ (Below.mono (by with_reducible assumption) (by first | (simp; done) | (simp; omega) | omega))))))).mono ?_; clear HP; go_must (rintro e w2 ⟨rfl, hbo⟩; have HO1 := Lib.hid hbo; have hf1 := hbo.f; clear hbo)) | (go_at_call 9; refine (HR.out _ (HO1.out.below (by exact (by repeat (first | (with_reducible exact Below.refl _ _) | (with_reducible assumption) | (with_reducible refine Below.drew ?_) | (with_reducible refine Below.setCell ?_ (by first | (simp; done) | (simp; omega) | omega) _) | (with_reducible refine Below.alloc ?_ (by first | (simp; done) | (simp; omega) | omega) _) | (with_reducible refine below_drewN ?_ _) | (refine Below.trans ?_ (Below.mono (by with_reducible assumption) (by first | (simp; done) | (simp; omega) | omega)))))))).mono ?_; clear HR; go_must (rintro e w3 ⟨rfl, hbo⟩; have HO2 := Lib.hid hbo; have hf2 := hbo.f; clear hbo)))
        all_goals (try go_wp2_with fail)
        all_goals go_meet
        all_goals exact ⟨rb, db, mb, D2, z, rfl, rfl, rfl, rfl, Lib.hid (HFI.out _ (HO2.out.below (by exact (by repeat (first | (with_reducible exact Below.refl _ _) | (with_reducible assumption) | (with_reducible refine Below.drew ?_) | (with_reducible refine Below.setCell ?_ (by first | (simp; done) | (simp; omega) | omega) _) | (with_reducible refine Below.alloc ?_ (by first | (simp; done) | (simp; omega) | omega) _) | (with_reducible refine below_drewN ?_ _) | (refine Below.trans ?_ (Below.mono (by with_reducible assumption) (by first | (simp; done) | (simp; omega) | omega))))))))⟩
      · have HP := Lib.hid (fun (W : World) (hW : Below V.heap.size V W) => both_p (HBO.out.below hW) (Sync_l D HU4.out md rb db W (HBO.out.below hW).s))
        have HR := Lib.hid (fun (W : World) (h : Both V W rb db mb (syncD D md).2 D) => both_q h (rSync_l D HU4.out md mb W h.q))
        have HFI := Lib.hid (fun (W : World) (h : Both V W rb db mb (syncD D md).2 (syncD D md).2) => HFV.out.both h (upto_mono (n := 100 * (k + 1)) (upto_sync HFV.out.u md) (by omega)))
        generalize (syncD D md).1 = z at *
        generalize (syncD D md).2 = D2 at *
        clear HFV HU4 HBW HN HBS
        have hf0 := FrS.refl (S3 rb db mb) V
        go_wp2_with fail
        go_region_held3 (fun w' => FrS (S3 rb db mb) V w' ∧ w'.cell? ⟨wr.heap.size, 1, none⟩ = some (.int .i64 md) ∧ w'.cell? ⟨wr.heap.size, 2, none⟩ = some (.int .i64 mn) ∧ w'.cell? ⟨wr.heap.size, 3, none⟩ = some (.slice ba mbl.length bc)) (((refine (fun kf => ⟨kf, (HXC.out _ kf).1, (HXC.out _ kf).2.1, (HXC.out _ kf).2.2.1⟩) (?_ : FrS (S3 rb db mb) V _); exact (by repeat (first | (with_reducible exact FrS.refl _ _) | (with_reducible assumption) | (with_reducible refine FrS.drew ?_) | (with_reducible refine FrS.drewN ?_ _)))))) (first | (go_at_call 10; refine (HP.out _ (by exact (by repeat (first | (with_reducible exact Below.refl _ _) | (with_reducible assumption) | (with_reducible refine Below.drew ?_) | (with_reducible refine Below.setCell ?_ (by first | (simp; done) | (simp; omega) | omega) _) | (with_reducible refine Below.alloc ?_ (by first | (simp; done) | (simp; omega) | omega) _) | (with_reducible refine below_drewN ?_ _) | (refine Below.trans ?_ (Below.mono (by with_reducible assumption) (by first | (simp; done) | (simp; omega) | omega))))))).mono ?_; clear HP; go_must (rintro e w2 ⟨rfl, hbo⟩; have HO1 := Lib.hid hbo; have hf1 := hbo.f; clear hbo)) | (go_at_call 11; refine (HR.out _ (HO1.out.below (by exact (by repeat (first | (with_reducible exact Below.refl _ _) | (with_reducible assumption) | (with_reducible refine Below.drew ?_) | (with_reducible refine Below.setCell ?_ (by first | (simp; done) | (simp; omega) | omega) _) | (with_reducible refine Below.alloc ?_ (by first | (simp; done) | (simp; omega) | omega) _) | (with_reducible refine below_drewN ?_ _) | (refine Below.trans ?_ (Below.mono (by with_reducible assumption) (by first | (simp; done) | (simp; omega) | omega)))))))).mono ?_; clear HR; go_must (rintro e w3 ⟨rfl, hbo⟩; have HO2 := Lib.hid hbo; have hf2 := hbo.f; clear hbo)))
        all_goals (try go_wp2_with fail)
        all_goals go_meet
        all_goals exact ⟨rb, db, mb, D2, z, rfl, rfl, rfl, rfl, Lib.hid (HFI.out _ (HO2.out.below (by exact (by repeat (first | (with_reducible exact Below.refl _ _) | (with_reducible assumption) | (with_reducible refine Below.drew ?_) | (with_reducible refine Below.setCell ?_ (by first | (simp; done) | (simp; omega) | omega) _) | (with_reducible refine Below.alloc ?_ (by first | (simp; done) | (simp; omega) | omega) _) | (with_reducible refine below_drewN ?_ _) | (refine Below.trans ?_ (Below.mono (by with_reducible assumption) (by first | (simp; done) | (simp; omega) | omega))))))))⟩
      · have HP := Lib.hid (fun (W : World) (hW : Below V.heap.size V W) => both_p (HBO.out.below hW) (Trim_l D HU4.out md mn rb db W (HBO.out.below hW).s))
        have HR := Lib.hid (fun (W : World) (h : Both V W rb db mb (trimD D md mn).2 D) => both_q h (rTrim_l D HU4.out md mn mb W h.q))
        have HFI := Lib.hid (fun (W : World) (h : Both V W rb db mb (trimD D md mn).2 (trimD D md mn).2) => HFV.out.both h (upto_mono (n := 100 * (k + 1)) (upto_trim HFV.out.u md mn) (by omega)))
        generalize (trimD D md mn).1 = z at *
        generalize (trimD D md mn).2 = D2 at *
        clear HFV HU4 HBW HN HBS
        have hf0 := FrS.refl (S3 rb db mb) V
        go_wp2_with fail
        go_region_held3 (fun w' => FrS (S3 rb db mb) V w' ∧ w'.cell? ⟨wr.heap.size, 1, none⟩ = some (.int .i64 md) ∧ w'.cell? ⟨wr.heap.size, 2, none⟩ = some (.int .i64 mn) ∧ w'.cell? ⟨wr.heap.size, 3, none⟩ = some (.slice ba mbl.length bc)) (((refine (fun kf => ⟨kf, (HXC.out _ kf).1, (HXC.out _ kf).2.1, (HXC.out _ kf).2.2.1⟩) (?_ : FrS (S3 rb db mb) V _); exact (by repeat (first | (with_reducible exact FrS.refl _ _) | (with_reducible assumption) | (with_reducible refine FrS.drew ?_) | (with_reducible refine FrS.drewN ?_ _)))))) (first | (go_at_call 12; refine (HP.out _ (by exact (by repeat (first | (with_reducible exact Below.refl _ _) | (with_reducible assumption) | (with_reducible refine Below.drew ?_) | (with_reducible refine Below.setCell ?_ (by first | (simp; done) | (simp; omega) | omega) _) | (with_reducible refine Below.alloc ?_ (by first | (simp; done) | (simp; omega) | omega) _) | (with_reducible refine below_drewN ?_ _) | (refine Below.trans ?_ (Below.mono (by with_reducible assumption) (by first | (simp; done) | (simp; omega) | omega))))))).mono ?_; clear HP; go_must (rintro e w2 ⟨rfl, hbo⟩; have HO1 := Lib.hid hbo; have hf1 := hbo.f; clear hbo)) | (go_at_call 13; refine (HR.out _ (HO1.out.below (by exact (by repeat (first | (with_reducible exact Below.refl _ _) | (with_reducible assumption) | (with_reducible refine Below.drew ?_) | (with_reducible refine Below.setCell ?_ (by first | (simp; done) | (simp; omega) | omega) _) | (with_reducible refine Below.alloc ?_ (by first | (simp; done) | (simp; omega) | omega) _) | (with_reducible refine below_drewN ?_ _) | (refine Below.trans ?_ (Below.mono (by with_reducible assumption) (by first | (simp; done) | (simp; omega) | omega)))))))).mono ?_; clear HR; go_must (rintro e w3 ⟨rfl, hbo⟩; have HO2 := Lib.hid hbo; have hf2 := hbo.f; clear hbo)))
        all_goals (try go_wp2_with fail)
        all_goals go_meet
        all_goals exact ⟨rb, db, mb, D2, z, rfl, rfl, rfl, rfl, Lib.hid (HFI.out _ (HO2.out.below (by exact (by repeat (first | (with_reducible exact Below.refl _ _) | (with_reducible assumption) | (with_reducible refine Below.drew ?_) | (with_reducible refine Below.setCell ?_ (by first | (simp; done) | (simp; omega) | omega) _) | (with_reducible refine Below.alloc ?_ (by first | (simp; done) | (simp; omega) | omega) _) | (with_reducible refine below_drewN ?_ _) | (refine Below.trans ?_ (Below.mono (by with_reducible assumption) (by first | (simp; done) | (simp; omega) | omega))))))))⟩
      · have HP := Lib.hid (fun (W : World) (hW : Below V.heap.size V W) => both_pv (HBO.out.below hW) (Arm_l D mn HN.out rb db W (HBO.out.below hW).s))
        have HR := Lib.hid (fun (W : World) (h : Both V W rb db mb (armD D mn) D) => both_qv h (rArm_l D mn HN.out mb W h.q))
        have HFI := Lib.hid (fun (W : World) (h : Both V W rb db mb (armD D mn) (armD D mn)) => HFV.out.both h (upto_mono (n := 100 * (k + 1)) (upto_arm HFV.out.u mn HN.out.2) (by omega)))
        generalize armD D mn = D2 at *
        clear HFV HU4 HBW HN HBS
        go_wp2_with (first | (go_at_call 14; refine (HP.out _ (by exact (by repeat (first | (with_reducible exact Below.refl _ _) | (with_reducible assumption) | (with_reducible refine Below.drew ?_) | (with_reducible refine Below.setCell ?_ (by first | (simp; done) | (simp; omega) | omega) _) | (with_reducible refine Below.alloc ?_ (by first | (simp; done) | (simp; omega) | omega) _) | (with_reducible refine below_drewN ?_ _) | (refine Below.trans ?_ (Below.mono (by with_reducible assumption) (by first | (simp; done) | (simp; omega) | omega))))))).mono ?_; clear HP; go_must (rintro e w2 ⟨rfl, hbo⟩; have HO1 := Lib.hid hbo; obtain ⟨x1, x2, x3, x4, x5, x6⟩ := HXC.out _ hbo.f; clear hbo)) | (go_at_call 15; refine (HR.out _ (HO1.out.below (by exact (by repeat (first | (with_reducible exact Below.refl _ _) | (with_reducible assumption) | (with_reducible refine Below.drew ?_) | (with_reducible refine Below.setCell ?_ (by first | (simp; done) | (simp; omega) | omega) _) | (with_reducible refine Below.alloc ?_ (by first | (simp; done) | (simp; omega) | omega) _) | (with_reducible refine below_drewN ?_ _) | (refine Below.trans ?_ (Below.mono (by with_reducible assumption) (by first | (simp; done) | (simp; omega) | omega)))))))).mono ?_; clear HR; go_must (rintro e w3 ⟨rfl, hbo⟩; have HO2 := Lib.hid hbo; clear hbo)))
        all_goals go_meet
        all_goals exact ⟨rb, db, mb, D2, 0, rfl, rfl, rfl, rfl, Lib.hid (HFI.out _ (HO2.out.below (by exact (by repeat (first | (with_reducible exact Below.refl _ _) | (with_reducible assumption) | (with_reducible refine Below.drew ?_) | (with_reducible refine Below.setCell ?_ (by first | (simp; done) | (simp; omega) | omega) _) | (with_reducible refine Below.alloc ?_ (by first | (simp; done) | (simp; omega) | omega) _) | (with_reducible refine below_drewN ?_ _) | (refine Below.trans ?_ (Below.mono (by with_reducible assumption) (by first | (simp; done) | (simp; omega) | omega))))))))⟩
      · have HP := Lib.hid (fun (W : World) (hW : Below V.heap.size V W) => both_pv (HBO.out.below hW) (Crash_l D HU4.out (keep3 m0 m1 m2) m0 m1 m2 rfl rfl rfl rb db W (HBO.out.below hW).s))
        have HR := Lib.hid (fun (W : World) (h : Both V W rb db mb (crashD D (keep3 m0 m1 m2)) D) => both_qv h (rCrash_l D HU4.out (keep3 m0 m1 m2) m0 m1 m2 rfl rfl rfl mb W h.q))
        have HFI := Lib.hid (fun (W : World) (h : Both V W rb db mb (crashD D (keep3 m0 m1 m2)) (crashD D (keep3 m0 m1 m2))) => HFV.out.both h (upto_mono (n := 100 * (k + 1)) (upto_crash HFV.out.u _) (by omega)))
        generalize crashD D (keep3 m0 m1 m2) = D2 at *
        clear HFV HU4 HBW HN HBS
        go_wp2_with (first | (go_at_call 16; refine (HP.out _ (by exact (by repeat (first | (with_reducible exact Below.refl _ _) | (with_reducible assumption) | (with_reducible refine Below.drew ?_) | (with_reducible refine Below.setCell ?_ (by first | (simp; done) | (simp; omega) | omega) _) | (with_reducible refine Below.alloc ?_ (by first | (simp; done) | (simp; omega) | omega) _) | (with_reducible refine below_drewN ?_ _) | (refine Below.trans ?_ (Below.mono (by with_reducible assumption) (by first | (simp; done) | (simp; omega) | omega))))))).mono ?_; clear HP; go_must (rintro e w2 ⟨rfl, hbo⟩; have HO1 := Lib.hid hbo; obtain ⟨x1, x2, x3, x4, x5, x6⟩ := HXC.out _ hbo.f; clear hbo)) | (go_at_call 17; refine (HR.out _ (HO1.out.below (by exact (by repeat (first | (with_reducible exact Below.refl _ _) | (with_reducible assumption) | (with_reducible refine Below.drew ?_) | (with_reducible refine Below.setCell ?_ (by first | (simp; done) | (simp; omega) | omega) _) | (with_reducible refine Below.alloc ?_ (by first | (simp; done) | (simp; omega) | omega) _) | (with_reducible refine below_drewN ?_ _) | (refine Below.trans ?_ (Below.mono (by with_reducible assumption) (by first | (simp; done) | (simp; omega) | omega)))))))).mono ?_; clear HR; go_must (rintro e w3 ⟨rfl, hbo⟩; have HO2 := Lib.hid hbo; clear hbo)))
        all_goals go_meet
        all_goals exact ⟨rb, db, mb, D2, 0, rfl, rfl, rfl, rfl, Lib.hid (HFI.out _ (HO2.out.below (by exact (by repeat (first | (with_reducible exact Below.refl _ _) | (with_reducible assumption) | (with_reducible refine Below.drew ?_) | (with_reducible refine Below.setCell ?_ (by first | (simp; done) | (simp; omega) | omega) _) | (with_reducible refine Below.alloc ?_ (by first | (simp; done) | (simp; omega) | omega) _) | (with_reducible refine below_drewN ?_ _) | (refine Below.trans ?_ (Below.mono (by with_reducible assumption) (by first | (simp; done) | (simp; omega) | omega))))))))⟩
      · have HP := Lib.hid (fun (W : World) (hW : Below V.heap.size V W) => both_pv (HBO.out.below hW) (Lose_l D md rb db W (HBO.out.below hW).s))
        have HR := Lib.hid (fun (W : World) (h : Both V W rb db mb (loseD D md) D) => both_qv h (rLose_l D md mb W h.q))
        have HFI := Lib.hid (fun (W : World) (h : Both V W rb db mb (loseD D md) (loseD D md)) => HFV.out.both h (upto_mono (n := 100 * (k + 1)) (upto_lose HFV.out.u md) (by omega)))
        generalize loseD D md = D2 at *
        clear HFV HU4 HBW HN HBS
        go_wp2_with (first | (go_at_call 18; refine (HP.out _ (by exact (by repeat (first | (with_reducible exact Below.refl _ _) | (with_reducible assumption) | (with_reducible refine Below.drew ?_) | (with_reducible refine Below.setCell ?_ (by first | (simp; done) | (simp; omega) | omega) _) | (with_reducible refine Below.alloc ?_ (by first | (simp; done) | (simp; omega) | omega) _) | (with_reducible refine below_drewN ?_ _) | (refine Below.trans ?_ (Below.mono (by with_reducible assumption) (by first | (simp; done) | (simp; omega) | omega))))))).mono ?_; clear HP; go_must (rintro e w2 ⟨rfl, hbo⟩; have HO1 := Lib.hid hbo; obtain ⟨x1, x2, x3, x4, x5, x6⟩ := HXC.out _ hbo.f; clear hbo)) | (go_at_call 19; refine (HR.out _ (HO1.out.below (by exact (by repeat (first | (with_reducible exact Below.refl _ _) | (with_reducible assumption) | (with_reducible refine Below.drew ?_) | (with_reducible refine Below.setCell ?_ (by first | (simp; done) | (simp; omega) | omega) _) | (with_reducible refine Below.alloc ?_ (by first | (simp; done) | (simp; omega) | omega) _) | (with_reducible refine below_drewN ?_ _) | (refine Below.trans ?_ (Below.mono (by with_reducible assumption) (by first | (simp; done) | (simp; omega) | omega)))))))).mono ?_; clear HR; go_must (rintro e w3 ⟨rfl, hbo⟩; have HO2 := Lib.hid hbo; clear hbo)))
        all_goals go_meet
        all_goals exact ⟨rb, db, mb, D2, 0, rfl, rfl, rfl, rfl, Lib.hid (HFI.out _ (HO2.out.below (by exact (by repeat (first | (with_reducible exact Below.refl _ _) | (with_reducible assumption) | (with_reducible refine Below.drew ?_) | (with_reducible refine Below.setCell ?_ (by first | (simp; done) | (simp; omega) | omega) _) | (with_reducible refine Below.alloc ?_ (by first | (simp; done) | (simp; omega) | omega) _) | (with_reducible refine below_drewN ?_ _) | (refine Below.trans ?_ (Below.mono (by with_reducible assumption) (by first | (simp; done) | (simp; omega) | omega))))))))⟩
      · have HP := Lib.hid (Copy_l D HU4.out rb db V HBO.out.s)
        have HR := Lib.hid (fun (W : World) (h : Below V.heap.size V W) => rCopy_l D mb W (HBO.out.below h).q)
        have HFI := Lib.hid (fun (w2 w3 : World) (r2 d2 m2 : Nat) (h1 : V.heap.size ≤ r2) (h2 : V.heap.size ≤ d2) (h3 : w2.heap.size ≤ m2) (hs : RackS w2 r2 d2 D) (hb2 : Below V.heap.size V w2) (hq : RackQ w3 m2 D) (hb3 : Below w2.heap.size w2 w3) => (show RkFin w w3 r2 d2 m2 D (100 * (k + 1)) from by
          have := HFV.out.b.size
          have := hb2.size
          exact ⟨⟨by omega, by omega, by omega⟩, hs.kept (FrS.of_below (S := fun _ => False) hb3) id id, hq, upto_mono HFV.out.u (by omega), (HFV.out.b.trans (hb2.mono HFV.out.b.size)).trans (hb3.mono (by omega))⟩))
        clear HBO HFV HU4 HBW HXC HN HBS
        go_wp2_with (first
          | (go_at_call 20; refine HP.out.mono ?_; clear HP; go_must (rintro e w2 ⟨⟨r2, d2, rfl, h1, h2, hs⟩, hb2⟩; have HS2 := Lib.hid hs; have HB2 := Lib.hid hb2; clear hs hb2))
          | (go_at_call 21; refine (HR.out _ HB2.out).mono ?_; clear HR; go_must (rintro e w3 ⟨m2, rfl, h3, hq, hb3⟩; have HQ3 := Lib.hid hq; have HB3 := Lib.hid hb3; clear hq hb3)))
        all_goals go_meet
        all_goals exact ⟨r2, d2, m2, D, 0, rfl, rfl, rfl, rfl, Lib.hid (HFI.out _ _ _ _ _ h1 h2 h3 HS2.out HB2.out HQ3.out HB3.out)⟩
    case rest =>
      clear HBO HFV HU4 HBW HXC HN HBS
      obtain ⟨rb', db', mb', D', z, rfl, rfl, rfl, rfl, HF⟩ := hcut
      have HU4 := Lib.hid (show D'.upto 4000 from upto_mono HF.out.u (by omega))
      have HDP := Lib.hid (Down_l D' rb' db' wc HF.out.s)
      have HDQ := Lib.hid (rDown_l D' mb' wc HF.out.q)
      have HDD := Lib.hid (disks_l D' HU4.out rb' db' mb' wc HF.out.s HF.out.q)
      go_wp2_with (first
        | (go_at_call 22; refine HDP.out.mono ?_; clear HDP; go_must (rintro e w4 ⟨rfl, hw⟩; subst hw))
        | (go_at_call 23; refine HDQ.out.mono ?_; clear HDQ; go_must (rintro e w5 ⟨rfl, hw⟩; subst hw))
        | (go_at_call 24; refine HDD.out.mono ?_; clear HDD; go_must (rintro e w6 ⟨rfl, hb6⟩; have HB6 := Lib.hid hb6; clear hb6)))
      go_roundw
      case rel => exact ⟨k + 1, rb', db', mb', D', hlt, rfl, rfl, by simp, Lib.hid (HF.out.below HB6.out)⟩
      case measure => simp only [intOf]; omega
end Go.Proofs.Ytlljfbakpljenaa
