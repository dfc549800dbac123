/- The walks of link.waves and of link.hops. -/
import Derived.Test.YtjceppinjeehiaaLinkW
import Derived.Test.YtjceppinjeehiaaEqs
import Derived.RangeFuncFrom
import Derived.RangeFuncBox
namespace Go.Proofs.Ytjceppinjeehiaa
open Go.RowKit Go.Shelf
attribute [local go_sem] Oper.semAt_some
set_option maxHeartbeats 4000000 in
set_option maxRecDepth 100000 in
theorem waves_in (F : Fence) (n : Nat) (h95 : F.fn 29) (hro : F.round = none) (a : Option Addr) (ln cap : Nat) (most : Int) (w : World) :
    CallsIn F n Try.prog 29 #[.slice a ln cap, .int .i64 most] w fun e w' => e = .returned (.func (.func 37) #[] #[.pointer (some ⟨w.heap.size, 0, none⟩), .pointer (some ⟨w.heap.size + 1, 0, none⟩)]) ∧ w' = (w.alloc (.cells #[.slice a ln cap] 22)).alloc (.cells #[.int .i64 most] 3) := by
  refine callsIn_of_wp Try.func29 rfl h95 ?_ hro
  simp only [Try.ntmps29, List.size_toArray, List.length_cons, List.length_nil, Nat.reduceAdd, Nat.reduceSub, Array.replicate_succ, Array.replicate_zero, List.push_toArray, List.append_toArray, List.nil_append, List.cons_append]
  gi_wp2
  go_ret
  exact ⟨rfl, rfl⟩
theorem CRd.below {w w' : World} {v : Value} {g off : Nat} {cs : List C2} (h : CRd w v g off cs) (hb : Below w.heap.size w w') : CRd w' v g off cs := by
  obtain ⟨cap, h1, h2, h3 | ⟨h3, h4, h5⟩⟩ := h
  · exact ⟨cap, h1, h2, .inl h3⟩
  · exact ⟨cap, h1, h2, .inr ⟨h3, Nat.lt_of_lt_of_le h4 hb.size, fun k hk => ⟨(hb.cell (p := ⟨g, off + 2 * k, none⟩) h4).trans (h5 k hk).1, (hb.cell (p := ⟨g, off + 2 * k + 1, none⟩) h4).trans (h5 k hk).2⟩⟩⟩
theorem kpM_none {W W' : World} (h : Below W.heap.size W W') : KpM (fun _ _ => False) W W' :=
  ⟨h.size, fun b _ ho _ _ => (h.block b (lt_of_block ho)).trans ho, fun _ h => h.elim, fun _ _ h => h.elim⟩
theorem mineOk_none (B : Nat) : MineOk B (fun _ _ => False) := ⟨fun _ _ _ _ => Iff.rfl, trivial⟩
set_option maxHeartbeats 4000000 in
set_option maxRecDepth 100000 in
theorem hops_in (F : Fence) (n : Nat) (h70 : F.fn 20) (h95 : F.fn 29) (h101 : F.fn 37) (h87 : F.fn 26) (hro : F.round = none) (hn : 5 ≤ n) (links : List C2) (hl8 : links.length ≤ 8) (hln : ∀ l ∈ links, Near 3 l) (most : Nat) (hmo : most ≤ 12)
    (m0 m1 : Int) (w : World) (g off : Nat) (v : Value) (hv : CRd w v g off links) :
    CallsIn F n Try.prog 20 #[v, .agg #[.int .i64 m0, .int .i64 m1], .int .i64 (most : Nat)] w fun e W' => ((∃ k, k ≤ most ∧ Dist links (m0, m1) k ∧ e = .returned (.tuple #[.int .i64 (k : Nat), .bool true])) ∨ ((∀ k, k ≤ most → ¬ Dist links (m0, m1) k) ∧ e = .returned (.tuple #[.int .i64 0, .bool false]))) ∧ Below w.heap.size w W' := by
  have h1 : 1 ≤ n := by omega
  obtain ⟨a, cap, rfl, -⟩ := hv.at
  have HV := Lib.hid hv; clear hv
  refine callsIn_of_wp_marks Try.func20 rfl h70 ?_ hro
  simp only [Try.ntmps20, List.size_toArray, List.length_cons, List.length_nil, Nat.reduceAdd, Nat.reduceSub, Array.replicate_succ, Array.replicate_zero, List.push_toArray, List.append_toArray, List.nil_append, List.cons_append]
  gi_wp2_with (gi_at_call 29; refine (waves_in F _ h95 hro _ _ _ _ _).mono ?_; rintro e w' ⟨rfl, rfl⟩)
  obtain ⟨Z, hZ⟩ : ∃ Z : World, (((((w.alloc (.cells #[.int .i64 m0, .int .i64 m1] 24)).alloc (.cells #[.int .i64 0] 3)).alloc (.cells #[.bool false] 4)).alloc (.cells #[.slice a links.length cap] 22)).alloc (.cells #[.int .i64 (most : Nat)] 3)) = Z := ⟨_, rfl⟩
  have hzs : Z.heap.size = w.heap.size + 5 := by rw [← hZ]; simp
  have hzb : Below w.heap.size w Z := by rw [← hZ]; exact (by repeat (first | exact Below.refl _ _ | assumption | (refine Below.drew ?_) | (refine below_drewN ?_ _) | (refine Below.alloc ?_ (by first | (simp; done) | (simp; omega) | omega) _) | (refine Below.setCell ?_ (by first | (simp; done) | (simp; omega) | omega) _) | (refine Below.trans ?_ (Below.mono (by assumption) (by first | (simp; done) | (simp; omega) | omega)))))
  have z0 : Z.cell? ⟨w.heap.size, 0, none⟩ = some (.int .i64 m0) := by subst hZ; go_simp
  have z1 : Z.cell? ⟨w.heap.size, 1, none⟩ = some (.int .i64 m1) := by subst hZ; go_simp
  have z2 : Z.cell? ⟨w.heap.size + 1, 0, none⟩ = some (.int .i64 0) := by subst hZ; go_simp
  have z3 : Z.cell? ⟨w.heap.size + 1 + 1, 0, none⟩ = some (.bool false) := by subst hZ; go_simp
  have z4 : Z.cell? ⟨w.heap.size + 1 + 1 + 1, 0, none⟩ = some (.slice a links.length cap) := by subst hZ; go_simp
  have z5 : Z.cell? ⟨w.heap.size + 1 + 1 + 1 + 1, 0, none⟩ = some (.int .i64 (most : Nat)) := by subst hZ; go_simp
  have f2 : Z.frozen? ⟨w.heap.size + 1, 0, none⟩ = false := by subst hZ; go_simp
  have f3 : Z.frozen? ⟨w.heap.size + 1 + 1, 0, none⟩ = false := by subst hZ; go_simp
  have hvz := HV.out.below hzb
  rw [hZ]
  clear hZ
  refine wpIn_range_mine hro h1 (gf := 37) (lb := #[.pointer (some ⟨w.heap.size + 1 + 1 + 1, 0, none⟩), .pointer (some ⟨w.heap.size + 1 + 1 + 1 + 1, 0, none⟩)]) rfl h101 (enters_of Try.func37 (by kernel_rfl) rfl)
    (waves_stops F (n - 1) h101 h87 hro (by omega) (fun _ _ => False) links hl8 hln most hmo Z (fun B _ => mineOk_none B) _ _ g off _ z4 z5 hvz (fun _ _ h => h.elim))
    (fun _ _ _ _ _ _ _ _ _ h => h) (fun _ _ _ h => h.elim) (Below.refl _ _) (fun _ => rfl)
    (fun pre W => (∀ y ∈ pre, y.1 ≠ (m0, m1)) ∧ Below Z.heap.size Z W)
    (fun c pre W => (c = .ret ∧ ∃ k, ((m0, m1), k) ∈ pre ∧ W.cell? ⟨w.heap.size + 1, 0, none⟩ = some (.int .i64 (k : Nat)) ∧ W.cell? ⟨w.heap.size + 1 + 1, 0, none⟩ = some (.bool true)) ∧ Below w.heap.size w W)
    ?hI ?hIx ?hIq ?hIxq ⟨by simp, Below.refl _ _⟩
    (fun x a' W => ∃ Bx, Z.heap.size ≤ Bx ∧ W.cell? ⟨Bx, 0, none⟩ = some (.int .i64 x.1.1) ∧ W.cell? ⟨Bx, 1, none⟩ = some (.int .i64 x.1.2) ∧ a' = { tmps := #[.slice a links.length cap, .agg #[.int .i64 m0, .int .i64 m1], .int .i64 (most : Nat), undef, .pointer (some ⟨w.heap.size, 0, none⟩), undef, .pointer (some ⟨w.heap.size + 1, 0, none⟩), .pointer (some ⟨w.heap.size + 1 + 1, 0, none⟩), .pointer (some ⟨Bx, 0, none⟩), .int .i64 (x.2 : Nat), .slice a links.length cap, .int .i64 (most : Nat), .func (.func 37) #[] #[.pointer (some ⟨w.heap.size + 1 + 1 + 1, 0, none⟩), .pointer (some ⟨w.heap.size + 1 + 1 + 1 + 1, 0, none⟩)], .agg #[.int .i64 x.1.1, .int .i64 x.1.2], .int .i64 (x.2 : Nat), undef, undef, undef, undef], defers := [] })
    ?hAx ?assign ?body ?done ?stop
  case hI => exact OwnFrom.and (ownFrom_pure _ _) (ownFrom_below (Nat.le_refl _) (Nat.le_refl _))
  case hIx =>
    rintro c pre A A' row ⟨⟨rfl, k, hk, c6, c7⟩, hb⟩ hg hr
    exact ⟨⟨rfl, k, hk, cell_kept c6 hg (fun r e => (hr r e).2), cell_kept c7 hg (fun r e => (hr r e).2)⟩, hb.grown hg hb.size (fun k e => by have := (hr k e).1; omega)⟩
  case hIq => exact fun s A A' hs hq => ⟨hs.1, hs.2.trans hq.1⟩
  case hIxq =>
    rintro c pre A A' ⟨⟨rfl, k, hk, c6, c7⟩, hb⟩ hq
    exact ⟨⟨rfl, k, hk, (hq.1.cell (p := ⟨w.heap.size + 1, 0, none⟩) (by simp; omega)).trans c6, (hq.1.cell (p := ⟨w.heap.size + 1 + 1, 0, none⟩) (by simp; omega)).trans c7⟩, hb.trans (hq.1.mono (by omega))⟩
  case hAx =>
    rintro x a' _ A A' row ⟨Bx, hB, c0, c1, rfl⟩ hg hr
    exact ⟨Bx, hB, cell_kept c0 hg (fun r e => (hr r e).2), cell_kept c1 hg (fun r e => (hr r e).2), rfl⟩
  case assign =>
    rintro l pre ⟨⟨x0, x1⟩, xn⟩ W K hi hK
    simp only [encW]
    gi_wp2
    have hn := World.alloc_heap_new W (.cells #[.int .i64 x0, .int .i64 x1] 24)
    exact hK _ _ ((KeepsOthers.alloc _ _).from _) (kpM_none ((Below.refl _ W).alloc (Nat.le_refl _) _)) ⟨hi.1, hi.2.alloc hi.2.size _⟩ ⟨W.heap.size, hi.2.size, by simp only [World.cell?, hn]; rfl, by simp only [World.cell?, hn]; rfl, rfl⟩
  case body =>
    rintro l pre ⟨⟨x0, x1⟩, xn⟩ a' W hl ⟨hp, hB⟩ ⟨Bx, hBx, c0, c1, rfl⟩ hpre
    have w0 := (hB.cell (p := ⟨w.heap.size, 0, none⟩) (by simp; omega)).trans z0
    have w1 := (hB.cell (p := ⟨w.heap.size, 1, none⟩) (by simp; omega)).trans z1
    have w2 := (hB.cell (p := ⟨w.heap.size + 1, 0, none⟩) (by simp; omega)).trans z2
    have w3 := (hB.cell (p := ⟨w.heap.size + 1 + 1, 0, none⟩) (by simp; omega)).trans z3
    have g2 := (hB.frozen (p := ⟨w.heap.size + 1, 0, none⟩) (by simp; omega)).trans f2
    have g3 := (hB.frozen (p := ⟨w.heap.size + 1 + 1, 0, none⟩) (by simp; omega)).trans f3
    simp only at c0 c1
    have heq := fun W => eq_cell x0 x1 m0 m1 W
    have HP := Lib.hid hp; have HPRE := Lib.hid hpre; have HBW := Lib.hid hB
    clear hp hpre hB z0 z1 z2 z3 z4 z5 f2 f3
    by_cases hx : x0 = m0 ∧ x1 = m1
    · obtain ⟨rfl, rfl⟩ := hx
      gi_wp2
      refine ⟨((KeepsOthers.setCell _ _ _).trans (KeepsOthers.setCell _ _ _)).from _, ⟨rfl, xn, by simp, ?_, ?_⟩, ?_⟩
      · exact (World.cell?_setCell_other _ _ _ _ (by simp)).trans (World.cell?_setCell_same' _ _ _ (by rw [w2]; rfl))
      · exact World.cell?_setCell_same' _ _ _ (by rw [World.cell?_setCell_other _ _ _ _ (by simp), w3]; rfl)
      · exact ((hzb.trans (HBW.out.mono (by omega))).setCell (p := ⟨w.heap.size + 1, 0, none⟩) (by simp) _).setCell (p := ⟨w.heap.size + 1 + 1, 0, none⟩) (by simp; omega) _
    · have hxf : (decide (x0 = m0) && decide (x1 = m1)) = false := by simpa using hx
      rw [hxf] at heq
      gi_wp2
      refine ⟨KeepsFrom.refl _ _, kpM_none (Below.refl _ _), ⟨fun y hy => (List.mem_append.1 hy).elim (HP.out y) (fun e => ?_), HBW.out⟩⟩
      simp only [List.mem_singleton] at e
      subst e
      intro e2
      simp only [Prod.mk.injEq] at e2
      exact hx e2
  case done =>
    rintro D W hD ⟨hp, hB⟩ hK
    have w2 := (hB.cell (p := ⟨w.heap.size + 1, 0, none⟩) (by simp; omega)).trans z2
    have w3 := (hB.cell (p := ⟨w.heap.size + 1 + 1, 0, none⟩) (by simp; omega)).trans z3
    have g2 := (hB.frozen (p := ⟨w.heap.size + 1, 0, none⟩) (by simp; omega)).trans f2
    have g3 := (hB.frozen (p := ⟨w.heap.size + 1 + 1, 0, none⟩) (by simp; omega)).trans f3
    have HP := Lib.hid hp; have HBW := Lib.hid hB
    clear hp hB z0 z1 z2 z3 z4 z5 f2 f3
    gi_wp2
    have hK' := ((KeepsOthers.setCell W ⟨w.heap.size + 1, 0, none⟩ (.int .i64 0)).trans (KeepsOthers.setCell _ ⟨w.heap.size + 1 + 1, 0, none⟩ (.bool false))).same D _ hK rfl
    refine ⟨by simp, .inl ⟨_, _, rfl, run_takeDeferred hK', ?_⟩⟩
    have e6 : ((W.setCell ⟨w.heap.size + 1, 0, none⟩ (.int .i64 0)).setCell ⟨w.heap.size + 1 + 1, 0, none⟩ (.bool false)).cell? ⟨w.heap.size + 1, 0, none⟩ = some (.int .i64 0) := (World.cell?_setCell_other _ _ _ _ (by simp)).trans (World.cell?_setCell_same' _ _ _ (by rw [w2]; rfl))
    have e7 : ((W.setCell ⟨w.heap.size + 1, 0, none⟩ (.int .i64 0)).setCell ⟨w.heap.size + 1 + 1, 0, none⟩ (.bool false)).cell? ⟨w.heap.size + 1 + 1, 0, none⟩ = some (.bool false) := World.cell?_setCell_same' _ _ _ (by rw [World.cell?_setCell_other _ _ _ _ (by simp), w3]; rfl)
    have c6 := cell_kept e6 (grownBy_putObj' _ D (.deferred none)) (fun r e => by cases e; exact ⟨_, hK', rfl⟩)
    have c7 := cell_kept e7 (grownBy_putObj' _ D (.deferred none)) (fun r e => by cases e; exact ⟨_, hK', rfl⟩)
    refine ⟨.tuple #[.int .i64 0, .bool false], ?_, .inr ⟨fun k hk hd => HP.out _ ((mem_wavesL links most (m0, m1) k).2 ⟨hk, hd⟩) rfl, rfl⟩, (((hzb.trans (HBW.out.mono (by omega))).setCell (p := ⟨w.heap.size + 1, 0, none⟩) (by simp) _).setCell (p := ⟨w.heap.size + 1 + 1, 0, none⟩) (by simp; omega) _).trans (belowK_b (w := w) (Nat.le_refl _) _ D _ _ (by omega) hK' rfl rfl)⟩
    simp [results, Try.results20, go_sem, c6, c7]
  case stop =>
    rintro D c pre W hD hpre ⟨⟨rfl, k, hk, c6, c7⟩, hB⟩ hK
    have hkd := (mem_wavesL links most (m0, m1) k).1 (hpre.subset hk)
    clear z0 z1 z2 z3 z4 z5 f2 f3
    gi_wp2
    refine ⟨by simp, .inl ⟨_, _, rfl, run_takeDeferred hK, ?_⟩⟩
    have e6 := cell_kept c6 (grownBy_putObj' _ D (.deferred none)) (fun r e => by cases e; exact ⟨_, hK, rfl⟩)
    have e7 := cell_kept c7 (grownBy_putObj' _ D (.deferred none)) (fun r e => by cases e; exact ⟨_, hK, rfl⟩)
    refine ⟨.tuple #[.int .i64 (k : Nat), .bool true], ?_, .inl ⟨k, hkd.1, hkd.2, rfl⟩, hB.trans (belowK_b (w := w) (Nat.le_refl _) W D _ _ (by omega) hK rfl rfl)⟩
    simp [results, Try.results20, go_sem, e6, e7]
/-- The hops of a move: as a plain contract. -/
theorem hops_any (links : List C2) (hl8 : links.length ≤ 8) (hln : ∀ l ∈ links, Near 3 l) (most : Nat) (hmo : most ≤ 12) (m0 m1 : Int) (w : World) (g off : Nat) (v : Value) (hv : CRd w v g off links) :
    Calls Try.prog 20 #[v, .agg #[.int .i64 m0, .int .i64 m1], .int .i64 (most : Nat)] w fun e W' => ((∃ k, k ≤ most ∧ Dist links (m0, m1) k ∧ e = .returned (.tuple #[.int .i64 (k : Nat), .bool true])) ∨ ((∀ k, k ≤ most → ¬ Dist links (m0, m1) k) ∧ e = .returned (.tuple #[.int .i64 0, .bool false]))) ∧ Below w.heap.size w W' :=
  callsIn_wide.1 (hops_in Fence.wide 5 trivial trivial trivial trivial rfl (Nat.le_refl _) links hl8 hln most hmo m0 m1 w g off v hv)
end Go.Proofs.Ytjceppinjeehiaa
