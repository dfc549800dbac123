/- Racks: bytes put together (slices.Grow, slices.Concat of two, bytes.Clone). -/
import Derived.Test.YtlljfbakpljenaaByteS
import Derived.Lib.AppendZerosOnto
import Derived.Lib.SliceRun
import Derived.Maps.AppendAt
namespace Go.Proofs.Ytlljfbakpljenaa
open Go.RowKit Go.Lib Go.Maps
set_option linter.unusedVariables false
theorem u8_info : (Try.prog.info? 5).map (fun i => (i.zero, i.size, i.bytes)) = some (some (.int .u8 0), 1, 1) := by kernel_rfl
set_option maxHeartbeats 4000000 in
set_option maxRecDepth 100000 in
/-- slices.Grow of the nil slice. -/
theorem grow0_l (n : Nat) (hn : n ≤ 1000000) (w : World) : Calls Try.prog 77 #[.slice none 0 0, .int .i64 (n : Int)] w fun e w' => (∃ v, e = .returned v ∧ w'.ownsRow w.heap.size 5 1 v 0 []) ∧ Below w.heap.size w w' := by
  by_cases h0 : n = 0
  · subst h0
    go_enter Try.func77, Try.ntmps77
    go_wp2
    go_ret
    exact ⟨⟨_, rfl, World.ownsRow_nil _ _ _ _⟩, Below.refl _ _⟩
  · obtain ⟨i0, hi0, hz0, hs0, hb0⟩ := info_parts u8_info
    have hrz := fun ty => Lib.run_append_grow_zeros (P := Try.prog) w 27 3 ty 5 i0 (.int .u8 0) .i64 .i64 Try.underlying27 Try.underlying3 hi0 hz0 none 0 0 [] (run_firstCells_none w.drew i0.size 0 0 0) n (by omega) (by omega) (by omega) (by omega) (by rw [hb0]; omega) (growslice_fits (by omega) (by rw [hb0]; omega))
    have hGn : n ≤ grownCap w n 0 5 := grownCap_ge w _ _ _
    have hGm := grownCap_le_maxLen w n 0 5 (by unfold maxLen; omega)
    obtain ⟨G, hG⟩ : ∃ G, G = grownCap w n 0 5 := ⟨_, rfl⟩
    simp only [Nat.zero_add] at hrz
    rw [← hG] at hrz hGn hGm
    have hCz : (#[] ++ Builtin.zeroCells (Value.int .u8 0).cells n ++ Builtin.zeroCells (Value.int .u8 0).cells (G - n) : Array Value).size = G := by
      simp [Builtin.zeroCells, Value.cells]; omega
    generalize (([] : List Value).toArray ++ Builtin.zeroCells (Value.int .u8 0).cells n ++ Builtin.zeroCells (Value.int .u8 0).cells (G - n)) = C at *
    have HF := Lib.hid (show (w.drew.alloc (.cells C 5)).ownsRow w.heap.size 5 1 (.slice (some ⟨w.heap.size, 0, none⟩) 0 G) 0 [] from ⟨by simp, .inr ⟨w.heap.size, G, C, rfl, Nat.le_refl _, heap_alloc_new w.drew _, Nat.zero_le _, hGm, by rw [hCz, Nat.mul_one], by simp⟩⟩)
    have hG63 : (G : Int) ≤ 9223372036854775807 := by unfold maxLen at hGm; omega
    have hn1 : (0 : Int) < (n : Int) := by omega
    have hnG : (n : Int) ≤ (G : Int) := by omega
    clear hG hCz hGm hi0 hz0 hs0 hb0
    go_enter Try.func77, Try.ntmps77
    go_wp2_with (at_builtin; refine Lib.wpList_append_run _ rfl _ _ _ _ rfl _ _ rfl rfl _ _ (hrz _) ?_)
    go_ret
    exact ⟨⟨_, rfl, HF.out⟩, (Below.refl _ _).drew.alloc (by simp) _⟩
/-- append of a slice to a row of one's own, as the run's equation. -/
theorem run_concat {P : Program} {w : World} (t ty : TypeId) {base : Nat} {e : TypeId} {z : Value} {size bytes : Nat} (T : SlT P t e z size bytes)
    {v : Value} {n : Nat} {xs : List Value} (hown : w.ownsRow base e size v n xs) {vx : Value} {B m : Nat} {news : List Value} (hsl : Sl w B size vx m news) (h1 : news.all Value.oneCell' = true)
    (h63 : n + m ≤ 1073741824) (hbytes : bytes ≤ 1024) (hbase : base ≤ w.heap.size) :
    ∃ b' c' w', (Builtin.append_ #[t, t] ty #[v, vx]).run P w = .ok (.slice b' (n + m) c') w' ∧ w'.ownsRow base e size (.slice b' (n + m) c') (n + m) (xs ++ news) ∧ w.grownBy w' v.ownBlock := by
  obtain ⟨ht, hinf, hzs, hsz⟩ := T
  obtain ⟨i, hi, hz, hz1, hz2⟩ := info_parts hinf
  obtain ⟨ax, cap, rfl, hl, hc, hm, h0, hr⟩ := hsl
  cases ax with
  | none =>
    have hc0 := h0 rfl
    subst hc0
    have hm0 : m = 0 := by omega
    subst hm0
    have hn0 : news = [] := List.eq_nil_of_length_eq_zero (by simpa using hl)
    subst hn0
    have hrun := run_append_owned_none (P := P) (w := w) base t ty e i size ht hi v n xs hown
    have hv : ∃ b' c', v = .slice b' n c' := by
      rcases hown.2 with ⟨rfl, rfl⟩ | ⟨g, cap, cur, rfl, _⟩
      · exact ⟨_, _, rfl⟩
      · exact ⟨_, _, rfl⟩
    obtain ⟨b', c', rfl⟩ := hv
    exact ⟨b', c', w, hrun, by simpa using hown, World.grownBy.refl _ _⟩
  | some ad =>
    obtain ⟨v', w', hrun, ho', hg, -, -⟩ := run_append_own_at (P := P) w base t ty e i z size bytes ht hi hz hz1 hz2 hzs hsz v n xs hown ad m cap news hl (by
      intro j u hj
      have hjl : j < news.length := (List.getElem?_eq_some_iff.1 hj).1
      rcases hr with rfl | ⟨b, off, he, _, hcell⟩
      · omega
      · cases he
        have e2 : (⟨b, off, none⟩ : Addr).add j = ⟨b, off + j, none⟩ := by simp only [Addr.add]; split <;> simp_all
        rw [e2, hcell j (by omega)]; exact hj) (fun u hu => List.all_eq_true.1 h1 u hu) (by unfold maxLen; omega) (by
      have : (n + m) * bytes ≤ 1073741824 * 1024 := Nat.mul_le_mul h63 hbytes
      omega) hbase
    have hv : ∃ b' c', v' = .slice b' (n + m) c' := by
      rcases ho'.2 with ⟨rfl, e⟩ | ⟨g, cap, cur, rfl, _⟩
      · exact ⟨_, _, by rw [e]⟩
      · exact ⟨_, _, rfl⟩
    obtain ⟨b', c', rfl⟩ := hv
    exact ⟨b', c', w', hrun, ho', hg⟩
/-- .. at a step of a region that draws its order. -/
theorem step_concat {P : Program} {ops : Array Oper} {o : Oper} {a : Act} {w : World} {K : Act → World → Prop} {Q : Exit → Act → World → Prop} {E : Prop} (hgd : o.guard = none) (s x : Operand) (t : TypeId)
    (ho : o.op = .call { callee := .builtin .append, args := #[s, x], argTypes := #[t, t] })
    {base : Nat} {e : TypeId} {z : Value} {size bytes : Nat} (T : SlT P t e z size bytes)
    {v : Value} {n : Nat} {xs : List Value} (hs : a.eval s = v) (hown : w.ownsRow base e size v n xs) {vx : Value} {B m : Nat} {news : List Value} (hx : a.eval x = vx) (hsl : Sl w B size vx m news) (h1 : news.all Value.oneCell' = true)
    (h63 : n + m ≤ 1073741824) (hbytes : bytes ≤ 1024) (hbase : base ≤ w.heap.size)
    (h : ∀ (b' : Option Addr) (c' : Nat) (w' : World), w'.ownsRow base e size (.slice b' (n + m) c') (n + m) (xs ++ news) → w.grownBy w' v.ownBlock → K (a.put o.dst (.slice b' (n + m) c')) w') :
    if Region.wanted o (yielded ops a.tmps) = true then Oper.wp P o a w K Q else E := by
  have hw : Region.wanted o (yielded ops a.tmps) = true := by simp [Region.wanted, hgd]
  rw [if_pos hw]
  obtain ⟨b', c', w', hr, h2, h3⟩ := run_concat (P := P) t o.type T hown hsl h1 h63 hbytes hbase
  exact Lib.wp_append_run w s x t t ho _ _ hs hx _ _ hr (h b' c' w' h2 h3)
theorem vals_app (l m : List Int) : vals l ++ vals m = vals (l ++ m) := by simp [vals]
theorem Byts.app {l m : List Int} (h : Byts l) (k : Byts m) : Byts (l ++ m) := fun z hz => by
  rcases List.mem_append.1 hz with h1 | h1
  · exact h z h1
  · exact k z h1
def Cc1 (n1 n2 : Nat) (t3 t11 : Value) : Prop := (t11 = .int .i64 0 ∧ t3 = .int .i64 0) ∨ (t11 = .int .i64 1 ∧ t3 = .int .i64 (n1 : Int)) ∨ (t11 = .int .i64 2 ∧ t3 = .int .i64 ((n1 : Int) + (n2 : Int)))
def Cc2 (B : Nat) (l1 l2 : List Int) (t6 t27 : Value) (wr : World) : Prop := (t27 = .int .i64 0 ∧ wr.ownsRow B 5 1 t6 0 []) ∨ (t27 = .int .i64 1 ∧ BOwn wr B t6 l1) ∨ (t27 = .int .i64 2 ∧ BOwn wr B t6 (l1 ++ l2))
set_option maxHeartbeats 8000000 in
set_option maxRecDepth 100000 in
/-- slices.Concat of two slices of bytes. -/
theorem concat2_l (ab : Nat) (v1 v2 : Value) (l1 l2 : List Int) (hl1 : l1.length ≤ 100000) (hl2 : l2.length ≤ 100000) (w : World) (hab : ab < w.heap.size) (c0 : w.cell? ⟨ab, 0, none⟩ = some v1) (c1 : w.cell? ⟨ab, 1, none⟩ = some v2) (h1 : BSl w w.heap.size v1 l1) (h2 : BSl w w.heap.size v2 l2) :
    Calls Try.prog 45 #[.slice (some ⟨ab, 0, none⟩) 2 2] w fun e w' => (∃ v, e = .returned v ∧ BOwn w' w.heap.size v (l1 ++ l2)) ∧ Below w.heap.size w w' := by
  have H1 := Lib.hid h1; have H2 := Lib.hid h2
  obtain ⟨a1, k1, rfl, -⟩ := h1.rd
  obtain ⟨a2, k2, rfl, -⟩ := h2.rd
  have HG := Lib.hid (fun W => grow0_l (l1.length + l2.length) (by omega) W)
  clear h1 h2
  go_enter Try.func45, Try.ntmps45
  go_wp2_with fail
  go_loop [3, 11] (fun t3 t11 => Cc1 l1.length l2.length t3 t11) (fun _ t11 => 2 - (intOf t11).toNat)
  case atStart => exact .inl ⟨rfl, rfl⟩
  case round =>
    rcases hrel with ⟨rfl, rfl⟩ | ⟨rfl, rfl⟩ | ⟨rfl, rfl⟩
    · go_wp2
      go_round
      case rel => exact .inr (.inl ⟨rfl, rfl⟩)
      case measure => simp [intOf]
    · go_wp2
      go_round
      case rel => exact .inr (.inr ⟨rfl, rfl⟩)
      case measure => simp [intOf]
    · go_wp2_with (go_at_call 77; refine (HG.out _).mono ?_; go_must (rintro e w1 ⟨⟨v, rfl, hown⟩, hb1⟩; have HO := Lib.hid hown; clear hown))
      have hz1 := hb1.size
      have e0 := (hb1.cell (p := ⟨ab, 0, none⟩) hab).trans c0
      have e1 := (hb1.cell (p := ⟨ab, 1, none⟩) hab).trans c1
      clear c0 c1
      go_loopw [6, 27] (fun t6 t27 wr => Cc2 w.heap.size l1 l2 t6 t27 wr ∧ Below w.heap.size w wr) (fun _ t27 _ => 2 - (intOf t27).toNat)
      case atStart => exact ⟨.inl ⟨rfl, HO.out⟩, hb1⟩
      case round =>
        obtain ⟨hc, hb⟩ := hrel
        have hs := hb.size
        have x0 := (hb.cell (p := ⟨ab, 0, none⟩) hab).trans ((hb1.cell (p := ⟨ab, 0, none⟩) hab).symm.trans e0)
        have x1 := (hb.cell (p := ⟨ab, 1, none⟩) hab).trans ((hb1.cell (p := ⟨ab, 1, none⟩) hab).symm.trans e1)
        have HS1 := Lib.hid (H1.out.kept hb).1
        have HS2 := Lib.hid (H2.out.kept hb).1
        clear e0 e1
        rcases hc with ⟨rfl, hown⟩ | ⟨rfl, hown⟩ | ⟨rfl, hown⟩
        · have HOW := Lib.hid hown
          clear hown
          go_wp2_with (at_builtin; refine wpList_concat rfl _ _ _ rfl slU8 HOW.out rfl HS1.out rfl (oneCell_vals _) (by omega) (by omega) hs ?_; intro b3 c3 w3 hown3 hg3 hat3)
          go_roundw
          case rel =>
            refine ⟨.inr (.inl ⟨rfl, ?_⟩), below_push hb HOW.out (Nat.le_refl _) hs hg3⟩
            simp only [List.nil_append, Nat.zero_add] at hown3
            have hown4 := BOwn.mk' hown3 H1.out.2
            first | exact hown4 | (rw [Nat.zero_add]; exact hown4) | (simp only [Act.put_get, Nat.zero_add]; exact hown4)
          case measure => simp [intOf]
        · have HOW := Lib.hid hown
          clear hown
          go_wp2_with (at_builtin; refine wpList_concat rfl _ _ _ rfl slU8 HOW.out.1 rfl HS2.out rfl (oneCell_vals _) (by omega) (by omega) hs ?_; intro b3 c3 w3 hown3 hg3 hat3)
          go_roundw
          case rel =>
            refine ⟨.inr (.inr ⟨rfl, ?_⟩), below_push hb HOW.out.1 (Nat.le_refl _) hs hg3⟩
            rw [vals_app] at hown3
            exact BOwn.mk' hown3 (H1.out.2.app H2.out.2)
          case measure => simp [intOf]
        · have HOW := Lib.hid hown
          clear hown
          go_wp2
          go_ret
          exact ⟨⟨_, rfl, HOW.out⟩, hb⟩
set_option maxHeartbeats 4000000 in
theorem bclone_l (l : List Int) (v : Value) (w : World) (hv : BSl w w.heap.size v l) (hn : l.length ≤ 1000000) :
    Calls Try.prog 51 #[v] w fun e w' => (∃ v', e = .returned v' ∧ BOwn w' w.heap.size v' l) ∧ Below w.heap.size w w' := by
  have HV := Lib.hid hv
  obtain ⟨⟨ax, cap, rfl, -, hc, -, h0, -⟩, hy⟩ := id hv
  have HY := Lib.hid hy
  clear hv hy
  cases ax with
  | none =>
    obtain rfl := h0 rfl
    have hl : l = [] := List.eq_nil_of_length_eq_zero (by omega)
    subst hl
    have hnil : ∀ W, (binOp .eql 27 (.slice none 0 0) (.slice none 0 0)).run Try.prog W = .ok (.bool true) W := fun W => Lib.run_eql_slice_nil (P := Try.prog) W 27 5 none 0 0 0 0 Try.underlying27
    clear h0 HV hc
    go_enter Try.func51, Try.ntmps51
    go_wp2
    go_ret
    exact ⟨⟨_, rfl, own_nil' _ _⟩, Below.refl _ _⟩
  | some ad =>
    have hnil : ∀ W, (binOp .eql 27 (.slice (some ad) l.length cap) (.slice none 0 0)).run Try.prog W = .ok (.bool false) W := fun W => Lib.run_eql_slice_nil (P := Try.prog) W 27 5 (some ad) l.length cap 0 0 Try.underlying27
    clear h0 hc
    have HO := Lib.hid (World.ownsRow_lit (base := w.heap.size) (e := 5) (size := 1) w #[] 0 (Nat.le_refl _) (by unfold maxLen; omega) (by simp))
    have HV2 := Lib.hid ((HV.out.kept ((Below.refl _ _).alloc (Nat.le_refl _) (Obj.cells #[] 5))).1)
    go_enter Try.func51, Try.ntmps51
    go_wp2_with (at_builtin; refine wpList_concat rfl _ _ _ rfl slU8 HO.out rfl HV2.out rfl (oneCell_vals _) (by omega) (by omega) (by simp) ?_; intro b' c' w' hown hg hat)
    go_ret
    refine ⟨⟨_, rfl, BOwn.mk' (by simpa using hown) HY.out⟩, below_push ((Below.refl _ _).alloc (Nat.le_refl _) _) HO.out (Nat.le_refl _) (by simp) hg⟩
set_option maxHeartbeats 4000000 in
/-- All bytes of a disk. -/
theorem all_l (sv lv : Value) (s l : List Int) (hs : s.length ≤ 100000) (hl : l.length ≤ 100000) (w : World) (h1 : BSl w w.heap.size sv s) (h2 : BSl w w.heap.size lv l) :
    Calls Try.prog 48 #[.agg #[sv, lv]] w fun e w' => (∃ v, e = .returned v ∧ BOwn w' w.heap.size v (s ++ l)) ∧ Below w.heap.size w w' := by
  have H1 := Lib.hid h1; have H2 := Lib.hid h2
  obtain ⟨a1, k1, rfl, -⟩ := h1.rd
  obtain ⟨a2, k2, rfl, -⟩ := h2.rd
  clear h1 h2
  have HC := Lib.hid (fun (o1 o2 : Obj) (x1 x2 : Value) (hx : o2 = Obj.cells #[x1, x2] 27) (e1 : x1 = .slice a1 s.length k1) (e2 : x2 = .slice a2 l.length k2) => by
    subst hx e1 e2
    have hb : Below w.heap.size w ((w.alloc o1).alloc (Obj.cells #[.slice a1 s.length k1, .slice a2 l.length k2] 27)) := ((Below.refl _ _).alloc (Nat.le_refl _) _).alloc (by simp) _
    exact concat2_l (w.heap.size + 1) _ _ s l hs hl _ (by simp) (by go_simp) (by go_simp) ((H1.out.kept hb).mono (by simp; omega)) ((H2.out.kept hb).mono (by simp; omega)))
  go_enter Try.func48, Try.ntmps48
  go_wp2_with (go_at_call 45; refine (HC.out _ _ _ _ rfl rfl rfl).mono ?_; go_must (rintro e w1 ⟨⟨v, rfl, hown⟩, hb1⟩; have HO := Lib.hid hown; have HB := Lib.hid hb1; clear hown hb1))
  go_ret
  exact ⟨⟨_, rfl, HO.out.mono (by simp; omega)⟩, (((Below.refl _ _).alloc (Nat.le_refl _) _).alloc (by simp) _).trans (HB.out.mono (by simp; omega))⟩
end Go.Proofs.Ytlljfbakpljenaa
