/- The walk of link.Reach, but for the sorting, which comes in as a hypothesis. -/
import Derived.Test.YtjceppinjeehiaaLinkCE
namespace Go.Proofs.Ytjceppinjeehiaa
open Go.RowKit Go.Shelf
attribute [local go_sem] Oper.semAt_some
/-- What sorting says. -/
def SortsC : Prop := ∀ (W : World) (lo : Nat) (v : Value) (l : List C2), W.ownsRow lo 24 2 v l.length (flatC l) → lo ≤ W.heap.size → l.length ≤ 100000 → 0 < l.length →
    Calls Try.prog 30 #[v, .func (.func 31) #[] #[]] W fun e W' => e = .returned (.tuple #[]) ∧ ∃ l' : List C2, l'.Perm l ∧ l'.Pairwise (fun a b => ¬ (b.1 < a.1 ∨ (b.1 = a.1 ∧ b.2 < a.2))) ∧ W'.ownsRow lo 24 2 v l'.length (flatC l') ∧ W.grownBy W' v.ownBlock
set_option maxHeartbeats 4000000 in
set_option maxRecDepth 100000 in
theorem Reach_w (HS : Hid SortsC) (links : List C2) (hval : validL links = true) (k : Nat) (hk4 : k ≤ 4) (w : World) (g off : Nat) (v : Value) (hv : CRd w v g off links) :
    CallsIn Fence.wide 5 Try.prog 14 #[v, .int .i64 (k : Nat)] w fun e w' => (∃ v' g' l, CRd w' v' g' 0 l ∧ l.Perm (wavC links k) ∧ l.Pairwise (fun a b => ¬ (b.1 < a.1 ∨ (b.1 = a.1 ∧ b.2 < a.2))) ∧ e = .returned (.tuple #[v', .int .i64 0])) ∧ Below w.heap.size w w' := by
  have HV := Lib.hid hv
  obtain ⟨hl8, hln⟩ := (validL_iff links).1 hval
  have HVA := Lib.hid (Valid_l links (by omega) w g off v hv)
  obtain ⟨a, cap, rfl, -⟩ := hv.at
  clear hv
  have H := Lib.hid hval; clear hval
  have HLN := Lib.hid hln; clear hln
  have hkb : (decide (0 ≤ (k : Int)) && decide ((k : Int) ≤ 4)) = true := by simp; omega
  have HKB := Lib.hid hkb; clear hkb
  have h28 : Fence.wide.fn 28 := trivial
  have h25 : Fence.wide.fn 25 := trivial
  have h29 : Fence.wide.fn 29 := trivial
  have h30 : Fence.wide.fn 30 := trivial
  refine callsIn_of_wp_marks Try.func14 rfl trivial ?_ rfl
  simp only [Try.ntmps14, List.size_toArray, List.length_cons, List.length_nil, Nat.reduceAdd, Nat.reduceSub, Array.replicate_succ, Array.replicate_zero, List.push_toArray, List.append_toArray, List.nil_append, List.cons_append]
  gi_wp2_with (first | (gi_at_call 28; refine (callsIn_wide.2 HVA.out).mono ?_; rintro e w1 ⟨rfl, hb1⟩; rw [H.out]) | (gi_at_call 25; refine (callsIn_wide.2 (between_l _ _ _ _)).mono ?_; rintro e w2 ⟨rfl, rfl⟩; rw [HKB.out]) | (gi_at_call 29; refine (waves_in Fence.wide _ trivial rfl _ _ _ _ _).mono ?_; rintro e w' ⟨rfl, rfl⟩))
  have hs1 := hb1.size
  obtain ⟨Z, hZ⟩ : ∃ Z : World, (((w2.alloc (.cells #[.slice none 0 0] 22)).alloc (.cells #[.slice a links.length cap] 22)).alloc (.cells #[.int .i64 (k : Nat)] 3)) = Z := ⟨_, rfl⟩
  have hzs : Z.heap.size = w2.heap.size + 3 := by rw [← hZ]; simp
  have hzb : Below w2.heap.size w2 Z := by rw [← hZ]; exact (by repeat (first | exact Below.refl _ _ | assumption | (refine Below.drew ?_) | (refine below_drewN ?_ _) | (refine Below.alloc ?_ (by first | (simp; done) | (simp; omega) | omega) _) | (refine Below.setCell ?_ (by first | (simp; done) | (simp; omega) | omega) _) | (refine Below.trans ?_ (Below.mono (by assumption) (by first | (simp; done) | (simp; omega) | omega)))))
  have z0 : Boxed Z w2.heap.size 22 (.slice none 0 0) := by
    rw [← hZ]
    unfold Boxed
    rw [Below.heap_alloc _ _ _ (by simp; omega), Below.heap_alloc _ _ _ (by simp)]
    exact heap_alloc_new _ _
  have z4 : Z.cell? ⟨w2.heap.size + 1, 0, none⟩ = some (.slice a links.length cap) := by subst hZ; go_simp
  have z5 : Z.cell? ⟨w2.heap.size + 1 + 1, 0, none⟩ = some (.int .i64 (k : Nat)) := by subst hZ; go_simp
  have hwz : Below w.heap.size w Z := hb1.trans (hzb.mono hs1)
  have hvz := HV.out.below hwz
  rw [hZ]
  clear hZ
  have h6 : w2.heap.size < Z.heap.size := by omega
  have hw0 : w.heap.size ≤ Z.heap.size := by omega
  obtain ⟨g', off', hvz', hg1, hg2⟩ : ∃ g' off', CRd Z (.slice a links.length cap) g' off' links ∧ g' ≠ w2.heap.size ∧ g' < Z.heap.size := by
    by_cases he : links = []
    · refine ⟨w2.heap.size + 1, 0, ?_, by omega, by omega⟩
      obtain ⟨cap', h1, h2, -⟩ := hvz
      exact ⟨cap', h1, h2, .inl ⟨⟨a, cap, by rw [he]; rfl⟩, he⟩⟩
    · have : g < w.heap.size := by
        obtain ⟨cap', _, _, ⟨-, h2⟩ | ⟨-, h2, -⟩⟩ := HV.out
        · exact absurd h2 he
        · exact h2
      exact ⟨g, off, hvz, by omega, by omega⟩
  have hc0 : Coll w2.heap.size Z.heap.size w.heap.size w [] Z (.slice none 0 0) := ⟨z0, World.ownsRow_nil _ _ _ _, fun r hr => by simp [Value.ownBlock] at hr, hwz, Nat.le_refl _⟩
  have HC0 := Lib.hid hc0
  have HWL := Lib.hid (show (wavesL links k).length ≤ 10000 by
    have := wavC_len (fun l hl => (HLN.out l hl).1) (show k ≤ 12 by omega)
    rw [wavC, List.length_map] at this
    omega)
  refine wpIn_range_mine rfl (by omega) (gf := 37) (lb := #[.pointer (some ⟨w2.heap.size + 1, 0, none⟩), .pointer (some ⟨w2.heap.size + 1 + 1, 0, none⟩)]) rfl trivial (enters_of Try.func37 (by kernel_rfl) rfl)
    (waves_stops Fence.wide 4 trivial trivial rfl (by omega) (MineR w2.heap.size Z.heap.size) links hl8 (fun l hl => (HLN.out l hl).1) k (by omega) Z (fun B hB => mineR_ok (by omega)) _ _ g' off' _ z4 z5 hvz' ?hD)
    ?hMp ?hm0 (Below.refl _ _) (fun _ => rfl)
    (fun pre W => ∃ v, Coll w2.heap.size Z.heap.size w.heap.size w (pre.map (·.1)) W v)
    (fun _ _ _ => False)
    ?hI ?hIx ?hIq ?hIxq ⟨_, hc0⟩
    (fun x a' W => ∃ Bx, Z.heap.size ≤ Bx ∧ W.cell? ⟨Bx, 0, none⟩ = some (.int .i64 x.1.1) ∧ W.cell? ⟨Bx, 1, none⟩ = some (.int .i64 x.1.2) ∧ ∃ t8 t9 t10 t11 t12 t13 t14 t15 t16 t17 t18, a' = { tmps := #[.slice a links.length cap, .int .i64 (k : Nat), undef, undef, .slice none 0 0, .int .i64 0, .pointer (some ⟨w2.heap.size, 0, none⟩), .pointer (some ⟨Bx, 0, none⟩), t8, t9, t10, t11, t12, t13, t14, t15, t16, t17, t18, .agg #[.int .i64 x.1.1, .int .i64 x.1.2], .int .i64 (x.2 : Nat), undef, undef, undef, undef, undef, undef, undef], defers := [] })
    ?hAx ?assign ?body ?done ?stop
  case hD =>
    rintro W b (⟨h1, rfl⟩ | ⟨h1, -⟩)
    · exact ⟨by omega, by omega, fun e => hg1 e.symm⟩
    · exact ⟨by omega, by omega, by omega⟩
  case hMp =>
    rintro W l o o' hl - - - b hb
    have e : (W.putObj l o').cell? ⟨w2.heap.size, 0, none⟩ = W.cell? ⟨w2.heap.size, 0, none⟩ := World.cell?_of_block (World.putObj_heap_other (by simp; omega))
    simpa only [MineR, e] using hb
  case hm0 => exact fun W hb => (hc0.step h6 hw0 ⟨hb, fun b o ho _ => (hb.block b (lt_of_block ho)).trans ho⟩).mlt h6
  case hI => exact fun s A A' row ⟨v, h⟩ hg hr => ⟨v, h.grown h6 hw0 hg hr⟩
  case hIx => exact fun c s A A' row h _ _ => h
  case hIq => exact fun s A A' ⟨v, h⟩ hq => ⟨v, h.step h6 hw0 hq⟩
  case hIxq => exact fun c s A A' h _ => h
  case hAx =>
    rintro x a' _ A A' row ⟨Bx, hB, c0, c1, h⟩ hg hr
    exact ⟨Bx, hB, cell_kept c0 hg (fun r e => (hr r e).2), cell_kept c1 hg (fun r e => (hr r e).2), h⟩
  case assign =>
    rintro l pre ⟨⟨x0, x1⟩, xn⟩ W K ⟨v, hi⟩ hK
    simp only [encW]
    gi_wp2
    have hn := World.alloc_heap_new W (.cells #[.int .i64 x0, .int .i64 x1] 24)
    exact hK _ _ ((KeepsOthers.alloc _ _).from _) (hi.kpAlloc h6 _) ⟨v, hi.alloc h6 hw0 _⟩ ⟨W.heap.size, hi.size, by simp only [World.cell?, hn]; rfl, by simp only [World.cell?, hn]; rfl, _, _, _, _, _, _, _, _, _, _, _, rfl⟩
  case body =>
    rintro l pre ⟨⟨x0, x1⟩, xn⟩ a' W hl ⟨v, hi⟩ ⟨Bx, hBx, c0, c1, t8, t9, t10, t11, t12, t13, t14, t15, t16, t17, t18, rfl⟩ hpre
    simp only at c0 c1
    have hlen : (pre.map (·.1)).length ≤ 10000 := by
      have := hpre.length_le
      simp at this
      have h2 := HWL.out
      simp; omega
    obtain ⟨a6, cc6, hv6⟩ := row_shape hi.row
    have b0 := hi.box.cell
    have bf := hi.box.frozen
    have hsz := hi.size
    have hlt6 := hi.box.lt
    have hrow := hi.row
    have hbase : w.heap.size ≤ W.heap.size := by omega
    subst hv6
    have HI := Lib.hid hi; have HPRE := Lib.hid hpre; have HLEN := Lib.hid hlen
    clear hi hpre hvz hvz' z0 z4 z5 hc0 hwz hzb hlen
    generalize hD9 : pre.map (·.1) = L at *
    have HD9 := Lib.hid hD9; clear hD9
    have hz := yy hlt6
    clear hzs
    gi_wp2_with (gi_at_builtin; refine wpListIn_push rfl _ _ _ rfl slCs hrow rfl rfl (by first | rfl | simp) rfl rfl (by have := HLEN.out; omega) (by omega) hbase ?_; intro g5 c5 w5 hown5 hg5 hat5; have hpp := HI.out.push (x := (x0, x1)) h6 hw0 (by omega) hg5 hat5 hown5 (by decide); obtain ⟨hbx, hko, hkp, hcl⟩ := hpp; have q0 := hbx.cell; have q1 := hbx.frozen)
    refine ⟨hko.from _, hkp, .slice (some ⟨g5, 0, none⟩) (L.length + 1) c5, ?_⟩
    rw [List.map_append, HD9.out]
    exact hcl
  case done =>
    rintro D W hD ⟨v, hi⟩ hK
    have hlen : ((wavesL links k).map (·.1)).length ≤ 100000 := by have := HWL.out; rw [List.length_map]; omega
    have HWC := Lib.hid (show wavC links k = (wavesL links k).map (·.1) from rfl)
    generalize (wavesL links k).map (·.1) = L at *
    obtain ⟨a6, cc6, hv6⟩ := row_shape hi.row
    have b0 := hi.box.cell
    subst hv6
    have hpos : 0 < L.length := by
      have h1 : (0, 0) ∈ wavC links k := (mem_wavC links k (0, 0)).2 ⟨0, by omega, rfl⟩
      rw [HWC.out] at h1
      exact List.length_pos_of_mem h1
    have hso := HS.out W w.heap.size _ _ hi.row (by have := hi.size; omega) hlen hpos
    have HSO := Lib.hid hso
    have HI := Lib.hid hi
    clear hi hso hlen hvz hvz' z0 z4 z5 hc0 hwz hzb hzs
    gi_wp2_with (gi_at_call 30; refine (callsIn_wide.2 HSO.out).mono ?_; rintro e w3 ⟨rfl, l', hp, hsr, hrow, hg⟩; have hb3 := (HI.out.box.kept hg (HI.out.box.not_row (by decide) HI.out.row)); have b1 := hb3.cell)
    have hkd : ∀ r, (Value.slice a6 L.length cc6).ownBlock = some r → r ≠ D := fun r hr e => by
      obtain ⟨_, _, cur, _, hc⟩ := own_block HI.out.row hr
      rw [e, hK] at hc
      cases hc
    have hK3 : w3.heap[D]? = some (.deferred (some [])) := (hg.block D (lt_of_block hK) (fun e => hkd D e.symm rfl)).trans hK
    refine ⟨by simp, .inl ⟨_, _, rfl, run_takeDeferred hK3, ?_⟩⟩
    have hrow3 := row_of_block (W' := w3.putObj D (.deferred none)) hrow (fun r hr => World.putObj_heap_other (hkd r hr))
    obtain ⟨g3, hcr⟩ := crd_of_row hrow3
    have hb5 : Below w.heap.size w w3 := HI.out.bel.grown hg (by have := HI.out.size; omega) (fun r hr => (HI.out.row.lt r hr).1)
    refine ⟨.tuple #[.slice a6 L.length cc6, .int .i64 0], ?_, ⟨⟨_, g3, l', hcr, by rw [HWC.out]; exact hp, hsr, rfl⟩, hb5.trans (belowK_b (w := w) (Nat.le_refl _) _ D _ _ (by omega) hK3 rfl rfl)⟩⟩
    simp [results, Try.results14, go_sem]
  case stop => exact fun D c pre W _ _ h _ => h.elim
end Go.Proofs.Ytjceppinjeehiaa
