/- space.compare: the order of cells, as slices.Compare gives it on two boxed cells. What slices.SortFunc does to the cells of a view: the shelf's contract at this dump. slices.Compact on a row of cells of the call's own: its walk. slices.Compact on a row of cells of the call's own: its walk. slices.Compact on less than two cells: it gives them back. A row of cells that the call owns, told cell by cell. slices.SortFunc and slices.Compact at a nil slice of cells: their walks. Conditions: none. -/
import Derived.Test.YtnejicklenhpeaaGreatRecAB
import Derived.Laws.Rows
import Derived.Sort.Grow
import Derived.BigQuiet
import Derived.Test.YtnejicklenhpeaaGreatLinkSort
import Derived.Lib.SlicesCompact
import Derived.Lib.SliceRun
import Derived.Deep.LoopGhost
namespace Go.Proofs.YtnejicklenhpeaaGreat
open Go.RowKit Go.Sort
def cmpI (a b : Int) : Int := if a < b then -1 else if b < a then 1 else 0
theorem isNaN_l (a : Int) (w : World) : Calls Tryz.prog 130 #[.int .i64 a] w fun e w' => e = .returned (.bool false) ∧ w' = w := by
  go_enter Tryz.func130, Tryz.ntmps130
  go_wp2
  go_ret
  exact ⟨by simp, rfl⟩
theorem cmpI_l (a b : Int) (w : World) : Calls Tryz.prog 76 #[.int .i64 a, .int .i64 b] w fun e w' => e = .returned (.int .i64 (cmpI a b)) ∧ w' = w := by
  unfold cmpI
  by_cases h1 : a < b
  · rw [if_pos h1]
    go_enter Tryz.func76, Tryz.ntmps76
    go_wp2_with (go_at_call 130; refine (isNaN_l _ _).mono ?_; go_must (rintro e w1 ⟨rfl, rfl⟩))
    go_ret
    exact ⟨rfl, rfl⟩
  · rw [if_neg h1]
    have h1' : b ≤ a := by omega
    clear h1
    by_cases h2 : b < a
    · rw [if_pos h2]
      go_enter Tryz.func76, Tryz.ntmps76
      go_wp2_with (go_at_call 130; refine (isNaN_l _ _).mono ?_; go_must (rintro e w1 ⟨rfl, rfl⟩))
      go_ret
      exact ⟨rfl, rfl⟩
    · rw [if_neg h2]
      obtain rfl : a = b := by omega
      clear h2 h1'
      go_enter Tryz.func76, Tryz.ntmps76
      go_wp2_with (go_at_call 130; refine (isNaN_l _ _).mono ?_; go_must (rintro e w1 ⟨rfl, rfl⟩))
      go_ret
      exact ⟨rfl, rfl⟩
def cmpC (x y : Int × Int) : Int := if cmpI x.1 y.1 = 0 then cmpI x.2 y.2 else cmpI x.1 y.1
set_option maxHeartbeats 4000000 in
theorem compareS_l (x y : Int × Int) (g1 g2 c1 c2 : Nat) (w : World) (h0 : w.cell? ⟨g1, 0, none⟩ = some (.int .i64 x.1)) (h1 : w.cell? ⟨g1, 1, none⟩ = some (.int .i64 x.2)) (h2 : w.cell? ⟨g2, 0, none⟩ = some (.int .i64 y.1)) (h3 : w.cell? ⟨g2, 1, none⟩ = some (.int .i64 y.2)) :
    Calls Tryz.prog 109 #[.slice (some ⟨g1, 0, none⟩) 2 c1, .slice (some ⟨g2, 0, none⟩) 2 c2] w fun e w' => e = .returned (.int .i64 (cmpC x y)) ∧ w' = w := by
  have HE := Lib.hid (show cmpC x y = if cmpI x.1 y.1 = 0 then cmpI x.2 y.2 else cmpI x.1 y.1 from rfl)
  have HC := Lib.hid (fun (a b : Int) (W : World) => cmpI_l a b W)
  by_cases ha : cmpI x.1 y.1 = 0
  · by_cases hb : cmpI x.2 y.2 = 0
    · go_enter Tryz.func109, Tryz.ntmps109
      go_wp2
      refine wp_loop_rounds 3 ?_
      rw [rounds_succ]
      go_wp2_with (go_at_call 76; refine (cmpI_l _ _ _).mono ?_; go_must (rintro e w1 ⟨rfl, rfl⟩; try rw [ha]))
      rw [rounds_succ]
      go_wp2_with (go_at_call 76; refine (cmpI_l _ _ _).mono ?_; go_must (rintro e w1 ⟨rfl, rfl⟩; try rw [hb]))
      rw [rounds_succ]
      go_wp2
      go_ret
      exact ⟨ret_int (by rw [HE.out, if_pos ha, hb]), rfl⟩
    · have hb2 : (cmpI x.2 y.2 != 0) = true := by simpa using hb
      go_enter Tryz.func109, Tryz.ntmps109
      go_wp2
      refine wp_loop_rounds 2 ?_
      rw [rounds_succ]
      go_wp2_with (go_at_call 76; refine (cmpI_l _ _ _).mono ?_; go_must (rintro e w1 ⟨rfl, rfl⟩; try rw [ha]))
      rw [rounds_succ]
      go_wp2_with (go_at_call 76; refine (cmpI_l _ _ _).mono ?_; go_must (rintro e w1 ⟨rfl, rfl⟩))
      go_ret
      exact ⟨ret_int (by rw [HE.out, if_pos ha]), rfl⟩
  · have ha2 : (cmpI x.1 y.1 != 0) = true := by simpa using ha
    go_enter Tryz.func109, Tryz.ntmps109
    go_wp2
    refine wp_loop_rounds 1 ?_
    rw [rounds_succ]
    go_wp2_with (go_at_call 76; refine (cmpI_l _ _ _).mono ?_; go_must (rintro e w1 ⟨rfl, rfl⟩))
    go_ret
    exact ⟨ret_int (by rw [HE.out, if_neg ha]), rfl⟩
set_option maxHeartbeats 4000000 in
set_option maxRecDepth 100000 in
theorem compare_l (x y : Int × Int) (W : World) : Calls Tryz.prog 77 #[.agg #[.int .i64 (x.1), .int .i64 (x.2)], .agg #[.int .i64 (y.1), .int .i64 (y.2)]] W fun e w' => e = .returned (.int .i64 (cmpC x y)) ∧ ∃ q os', w' = grow (W.drewN q) os' := by
  go_enter Tryz.func77, Tryz.ntmps77
  go_wp2
  go_quiet ((go_at_call 109; refine Calls.quiet_of_same (compareS_l x y _ _ _ _ _ (by go_simp) (by go_simp) (by go_simp) (by go_simp))))
  go_wp2
  go_ret
  refine ⟨rfl, nq, #[.cells #[.int .i64 x.1, .int .i64 x.2] 31, .cells #[.int .i64 y.1, .int .i64 y.2] 31], ?_⟩
  simp only [alloc_eq_grow, grow_grow]
  rfl
end Go.Proofs.YtnejicklenhpeaaGreat
namespace Go.Proofs.YtnejicklenhpeaaGreat
open Go.RowKit Go.Sort Go.Shelf Go.Lib
def encC (x : Int × Int) : List Value := [.int .i64 x.1, .int .i64 x.2]
/-- Cells in order, none before its neighbour to the left. -/
def SortedC (l : List (Int × Int)) : Prop := l.Pairwise (fun a b => ¬ (b.1 < a.1 ∨ (b.1 = a.1 ∧ b.2 < a.2)))
theorem flatC_at : ∀ (l : List (Int × Int)) (j : Nat) (h : j < l.length), (l.flatMap encC)[2 * j]? = some (.int .i64 l[j].1) ∧ (l.flatMap encC)[2 * j + 1]? = some (.int .i64 l[j].2) := by
  intro l j h
  have h0 := flat_at (enc := encC) (sz := 2) (fun _ => rfl) l j 0 h (by omega)
  have h1 := flat_at (enc := encC) (sz := 2) (fun _ => rfl) l j 1 h (by omega)
  exact ⟨h0, h1⟩
theorem ltC (x y : (Int × Int)) : ltOf cmpC x y = decide (x.1 < y.1 ∨ (x.1 = y.1 ∧ x.2 < y.2)) := by
  unfold ltOf cmpC cmpI
  rw [decide_eq_decide]
  split <;> split <;> (try split) <;> (try split) <;> omega
theorem swoC : SWO (ltOf cmpC) where
  irrefl x := by rw [ltC]; simp
  trans x y z h1 h2 := by rw [ltC] at *; simp only [decide_eq_true_eq] at *; omega
  ntrans x y z h1 h2 := by rw [ltC] at *; simp only [decide_eq_false_iff_not] at *; omega
theorem flatC_len (l : List (Int × Int)) : (l.flatMap encC).length = l.length * 2 := flat_len (enc := encC) (sz := 2) (fun _ => rfl) l
theorem flatK_C (d : Array (Int × Int)) : (flatK encC 2 d).toList = d.toList.flatMap encC := by
  refine List.ext_getElem? (fun j => ?_)
  rcases Nat.lt_or_ge j (d.size * 2) with h | h
  · have hq : j / 2 < d.toList.length := by simp; omega
    have h1 := flatC_at d.toList (j / 2) hq
    have hd : d[j / 2]! = d.toList[j / 2] := by simp at hq; simp [hq]
    have h2 : (flatK encC 2 d).toList[j]? = some ((encC d[j / 2]!)[j % 2]!) := by
      have := get_flatK encC 2 d j h
      rw [Array.getElem?_toList, Array.getElem?_eq_getElem (by simpa using h), ← this]
      congr 1
      rw [getElem!_pos _ j (by simpa using h)]
    rw [h2, hd]
    rcases Nat.mod_two_eq_zero_or_one j with e | e
    · have e2 : j = 2 * (j / 2) := by omega
      rw [e]
      rw [← e2] at h1
      rw [h1.1]; rfl
    · have e2 : j = 2 * (j / 2) + 1 := by omega
      rw [e]
      rw [← e2] at h1
      rw [h1.2]; rfl
  · rw [List.getElem?_eq_none (by simpa using h), List.getElem?_eq_none]
    rw [flatC_len]; simpa using h
theorem cmpLaysC (blk off size : Nat) (w : World) : CmpLays Tryz.prog 77 #[] encC 2 cmpC blk off size w :=
  fun _ _ _ _ x y => compare_l x y _
theorem sortsG (cf : FuncId) (eg : ∀ args w, (callFunc cf args).run Tryz.prog w = .ok (.enter cf args) w) (hlays : ∀ (blk off size : Nat) (w : World), CmpLays Tryz.prog cf #[] encC 2 cmpC blk off size w) (W : World) (lo : Nat) (v : Value) (l : List (Int × Int)) (hown : OwnOf W lo 31 2 encC v l) (_ : lo ≤ W.heap.size) (hlen : l.length ≤ 100000) (hpos : 0 < l.length) :
    Calls Tryz.prog 98 #[v, .func (.func cf) #[] #[]] W fun e W' => e = .returned (.tuple #[]) ∧ ∃ l' : List (Int × Int), l'.Perm l ∧ SortedC l' ∧ OwnOf W' lo 31 2 encC v l' ∧ W.grownBy W' v.ownBlock := by
  unfold OwnOf at hown
  obtain ⟨hl, ⟨rfl, h0⟩ | ⟨g, cap, cur, rfl, hbg, hg, hc, hm, hs, ht⟩⟩ := id hown
  · omega
  have hcell := fun i hi => World.ownsRow.cellAt hown i hi
  have hgl := lt_of_block hg
  have hH : HoldsK encC 2 W g 0 l.toArray := by
    intro j hj
    have hj2 : j < l.length * 2 := by simpa using hj
    rw [Nat.zero_add]
    refine ⟨?_, by simp [World.frozen?, hg]⟩
    have e := flatK_C l.toArray
    simp only at e
    rw [hcell j (by simpa using hj2), ← e, Array.getElem?_toList, Array.getElem?_eq_getElem hj, getElem!_pos _ j hj]
    rfl
  have hcon := AnyQ.slices_SortFunc LySort.cells 2 Tryz.isAgg31 Tryz.sizeOf31 encC (fun _ => rfl) (fun x v hv => by simp [encC] at hv; rcases hv with rfl | rfl <;> rfl) cmpC swoC cf #[] g 0 cap l.toArray W eg (hlays g 0 _ W) hH hgl (by simp; omega)
  refine (show Calls Tryz.prog 98 #[.slice (some ⟨g, 0, none⟩) l.length cap, .func (.func cf) #[] #[]] W _ from hcon).mono ?_
  rintro e W' ⟨rfl, d', n, os, ⟨hps, -, hpp⟩, hso, rfl⟩
  have hsz : d'.size = l.length := by simpa using hps
  have hperm : d'.toList.Perm l := by
    have e1 : d'.extract 0 l.toArray.size = d' := by rw [← hps]; simp
    have e2 : l.toArray.extract 0 l.toArray.size = l.toArray := by simp
    rw [e1, e2] at hpp
    simpa using hpp
  have hpw : d'.toList.Pairwise (fun a b => ¬ (b.1 < a.1 ∨ (b.1 = a.1 ∧ b.2 < a.2))) := by
    rw [List.pairwise_iff_getElem]
    intro i j hi hj hij
    simp only [Array.length_toList] at hi hj
    have := hso i j (Nat.zero_le _) hij (by simp; omega)
    rw [ltC, getElem!_pos _ j (by omega), getElem!_pos _ i (by omega)] at this
    simpa using this
  have hblk : (sortWorldK encC 2 W g 0 n d' os).heap[g]? = some (.cells (putCells id 0 (flatK encC 2 d') cur) 31 (0, 0)) := by
    simp only [sortWorldK, grow, putRowK, putRow, mapBlock]
    rw [Array.getElem?_append_left (by simpa using hgl), Array.getElem?_modify, if_pos rfl]
    show Option.map _ W.heap[g]? = _
    rw [hg]
    rfl
  have hrest : ∀ k, k < W.heap.size → k ≠ g → (sortWorldK encC 2 W g 0 n d' os).heap[k]? = W.heap[k]? := fun k hk hne => by
    simp only [sortWorldK, grow, putRowK, putRow, mapBlock]
    rw [Array.getElem?_append_left (by simpa using hk), Array.getElem?_modify, if_neg (Ne.symm hne)]
    rfl
  refine ⟨rfl, d'.toList, hperm, hpw, ?_, ?_⟩
  · refine ⟨by rw [flatC_len], .inr ⟨g, cap, _, by simp [hsz], hbg, hblk, by simp [hsz]; exact hc, hm, by simp [putCells, hs], ?_⟩⟩
    refine List.ext_getElem? (fun j => ?_)
    rw [← flatK_C d']
    rcases Nat.lt_or_ge j (l.length * 2) with h | h
    · have hj : j < (flatK encC 2 d').size := by simp [hsz]; exact h
      have hjc : j < cur.size := by rw [hs]; omega
      rw [List.getElem?_take_of_lt (by simp [hsz]; exact h), Array.getElem?_toList, Array.getElem?_toList]
      simp only [putCells]
      rw [Array.getElem?_eq_getElem (by simpa using hjc), Array.getElem?_eq_getElem hj]
      simp only [Array.getElem_mapIdx, Nat.zero_le, Nat.zero_add, true_and, Nat.sub_zero, size_flatK, id]
      rw [if_pos (by rw [hsz]; exact h), getElem!_pos _ j hj]
    · rw [List.getElem?_eq_none (by simp [hsz]; omega), List.getElem?_eq_none (by simp [hsz]; exact h)]
  · exact ⟨rfl, rfl, rfl, size_sortWorldK_c _ _ _ _ _ _ _ _, fun k hk hne => hrest k hk (fun e => hne (by rw [e]; rfl))⟩
theorem sorts_ok (W : World) (lo : Nat) (v : Value) (l : List (Int × Int)) (hown : OwnOf W lo 31 2 encC v l) (hlo : lo ≤ W.heap.size) (hlen : l.length ≤ 100000) (hpos : 0 < l.length) :
    Calls Tryz.prog 98 #[v, .func (.func 77) #[] #[]] W fun e W' => e = .returned (.tuple #[]) ∧ ∃ l' : List (Int × Int), l'.Perm l ∧ SortedC l' ∧ OwnOf W' lo 31 2 encC v l' ∧ W.grownBy W' v.ownBlock :=
  sortsG 77 (enters_of Tryz.func77 (by kernel_rfl) rfl) cmpLaysC W lo v l hown hlo hlen hpos
end Go.Proofs.YtnejicklenhpeaaGreat
namespace Go.Proofs.YtnejicklenhpeaaGreat
open Go.RowKit Go.Lib
theorem zeros_C (n : Nat) : (Builtin.zeroCells #[Value.int .i64 0, Value.int .i64 0] n).toList = List.replicate (n * 2) (.int .i64 0) := by
  simp only [Builtin.zeroCells]
  refine List.ext_getElem (by simp) (fun i h1 h2 => ?_)
  simp only [Array.getElem_toList, Array.getElem_map, Array.getElem_range, List.getElem_replicate]
  rcases Nat.mod_two_eq_zero_or_one i with e | e <;> (show #[Value.int .i64 0, Value.int .i64 0][i % 2]! = _; rw [e]; rfl)
theorem clear_C (w : World) (ty : TypeId) (b o n c : Nat) (hn : 0 < n) (hc : ∀ j, j < n * 2 → (w.cell? ⟨b, o + j, none⟩).isSome = true) (hf : ∀ j, j < n * 2 → w.frozen? ⟨b, o + j, none⟩ = false) :
    (Builtin.clear_ #[34] ty #[.slice (some ⟨b, o, none⟩) n c]).run Tryz.prog w = .ok (.tuple #[]) (w.setCells b o (List.replicate (n * 2) (.int .i64 0))) := by
  have hst := run_storeCells_cells (P := Tryz.prog) b o (List.replicate (n * 2) (.int .i64 0)) 0 w (by simpa using hc) (by simpa using hf) (by intro v hv'; rw [List.eq_of_mem_replicate hv']; rfl)
  simp only [Nat.add_zero] at hst
  obtain ⟨m, rfl⟩ : ∃ m, n = m + 1 := ⟨n - 1, by omega⟩
  simp [Builtin.clear_, run_underlying Tryz.underlying34, Value.cells, zeros_C, hst]
/-- Block g holds the cells d from its head on, and none of them is frozen. -/
def RowC (W : World) (g : Nat) (d : Array (Int × Int)) : Prop := g < W.heap.size ∧ ∀ j, j < d.size → W.cell? ⟨g, j * 2, none⟩ = some (.int .i64 d[j]!.1) ∧ W.cell? ⟨g, j * 2 + 1, none⟩ = some (.int .i64 d[j]!.2) ∧ W.frozen? ⟨g, j * 2, none⟩ = false ∧ W.frozen? ⟨g, j * 2 + 1, none⟩ = false
theorem RowC.drewN {W : World} {g : Nat} {d : Array (Int × Int)} (h : RowC W g d) (q : Nat) : RowC (W.drewN q) g d := h
theorem below_setC {B : Nat} {a : World} (b : Nat) (hb : B ≤ b) : ∀ (vs : List Value) (o : Nat) {w : World}, Below B a w → Below B a (w.setCells b o vs)
  | [], _, _, h => h
  | v :: r, o, _, h => below_setC b hb r (o + 1) (h.setCell (p := ⟨b, o, none⟩) hb v)
theorem RowC.cut {W : World} {g : Nat} {d : Array (Int × Int)} (h : RowC W g d) (o : Nat) (ho : d.size * 2 ≤ o) (vs : List Value) : RowC (W.setCells g o vs) g d := by
  refine ⟨Nat.lt_of_lt_of_le h.1 (below_setC g (Nat.zero_le g) vs o (Below.refl 0 W)).size, fun j hj => ?_⟩
  obtain ⟨a, b, c, e⟩ := h.2 j hj
  refine ⟨?_, ?_, ?_, ?_⟩
  · rw [World.cell?_setCells_out g vs o W _ (fun _ _ => .inl (by show j * 2 < o; omega))]; exact a
  · rw [World.cell?_setCells_out g vs o W _ (fun _ _ => .inl (by show j * 2 + 1 < o; omega))]; exact b
  · rw [World.frozen?_setCells]; exact c
  · rw [World.frozen?_setCells]; exact e
theorem RowC.low {W : World} {g : Nat} {dk : Array (Int × Int)} {cs : List (Int × Int)} (h : RowC W g dk) (hs : cs.length ≤ dk.size) (hl : ∀ j, j < cs.length → cs[j]? = some dk[j]!) : RowC W g cs.toArray := by
  refine ⟨h.1, fun j hj => ?_⟩
  have hj' : j < cs.length := by simpa using hj
  have e : cs.toArray[j]! = dk[j]! := by
    have := hl j hj'
    rw [List.getElem?_eq_getElem hj', Option.some.injEq] at this
    rw [getElem!_pos cs.toArray j hj, List.getElem_toArray, this]
  rw [e]
  exact h.2 j (by omega)
theorem RowC.set {W : World} {g : Nat} {d : Array (Int × Int)} (h : RowC W g d) (k : Nat) (hk : k < d.size) (x : Int × Int) : RowC ((W.setCell ⟨g, k * 2, none⟩ (.int .i64 x.1)).setCell ⟨g, k * 2 + 1, none⟩ (.int .i64 x.2)) g (d.setIfInBounds k x) := by
  show RowC (W.setCells g (k * 2) [.int .i64 x.1, .int .i64 x.2]) g (d.setIfInBounds k x)
  refine ⟨Nat.lt_of_lt_of_le h.1 (below_setC g (Nat.zero_le g) _ _ (Below.refl 0 W)).size, fun j hj => ?_⟩
  have hj' : j < d.size := by simpa using hj
  obtain ⟨a, b, c, e⟩ := h.2 j hj'
  rw [World.frozen?_setCells, World.frozen?_setCells]
  by_cases hjk : j = k
  · subst hjk
    have hx : (d.setIfInBounds j x)[j]! = x := by rw [getElem!_pos _ j hj]; simp
    rw [hx]
    have hin := World.cell?_setCells_in g [Value.int .i64 x.1, Value.int .i64 x.2] (j * 2) W (fun i hi => by
      obtain rfl | rfl : i = 0 ∨ i = 1 := by simp at hi; omega
      · exact (by rw [show j * 2 + 0 = j * 2 from rfl, a]; rfl)
      · exact (by rw [b]; rfl))
    exact ⟨hin 0 (by simp), hin 1 (by simp), c, e⟩
  · have hx : (d.setIfInBounds k x)[j]! = d[j]! := by
      rw [getElem!_pos _ j hj, getElem!_pos _ j hj']
      rw [Array.getElem_setIfInBounds, if_neg (Ne.symm hjk)]
    rw [hx]
    refine ⟨?_, ?_, c, e⟩
    · rw [World.cell?_setCells_out g _ _ W _ (fun _ _ => by show j * 2 < k * 2 ∨ k * 2 + 2 ≤ j * 2; omega)]; exact a
    · rw [World.cell?_setCells_out g _ _ W _ (fun _ _ => by show j * 2 + 1 < k * 2 ∨ k * 2 + 2 ≤ j * 2 + 1; omega)]; exact b
theorem Below.drewN2 {B : Nat} {W V : World} (h : Below B W V) (q : Nat) : Below B W (V.drewN q) := h.trans (by repeat (first | exact Below.refl _ _ | assumption | (refine Below.drew ?_) | (refine below_drewN ?_ _) | (refine Below.alloc ?_ (by first | (simp; done) | (simp; omega) | omega) _) | (refine Below.setCell ?_ (by first | (simp; done) | (simp; omega) | omega) _) | (refine Below.trans ?_ (Below.mono (by assumption) (by first | (simp; done) | (simp; omega) | omega)))))
/-- Only block g, and new ones, are other than they were. -/
def BG (g : Nat) (W V : World) : Prop := Below g W V ∧ W.grownBy V (some g)
theorem BG.refl (g : Nat) (W : World) : BG g W W := ⟨Below.refl _ _, rfl, rfl, rfl, Nat.le_refl _, fun _ _ _ => rfl⟩
theorem BG.drewN {g : Nat} {W V : World} (h : BG g W V) (q : Nat) : BG g W (V.drewN q) :=
  have hb : Below V.heap.size V (V.drewN q) := Below.drewN2 (Below.refl _ _) q
  ⟨Below.drewN2 h.1 q, hb.os.trans h.2.os, hb.tape.trans h.2.tape, hb.output.trans h.2.output, Nat.le_trans h.2.size hb.size, fun k hk hne => (hb.block k (Nat.lt_of_lt_of_le hk h.2.size)).trans (h.2.block k hk hne)⟩
theorem BG.setC {g : Nat} {W V : World} (h : BG g W V) (vs : List Value) (o : Nat) : BG g W (V.setCells g o vs) := by
  induction vs generalizing o V with
  | nil => exact h
  | cons v r ih =>
    refine ih (V := V.setCell ⟨g, o, none⟩ v) ?_ (o + 1)
    refine ⟨h.1.setCell (p := ⟨g, o, none⟩) (Nat.le_refl g) v, h.2.os, h.2.tape, h.2.output, by simpa using h.2.size, fun k hk hne => ?_⟩
    rw [heap_setCell_other V ⟨g, o, none⟩ k v (fun e => hne (by rw [e]))]
    exact h.2.block k hk hne
end Go.Proofs.YtnejicklenhpeaaGreat
namespace Go.Proofs.YtnejicklenhpeaaGreat
open Go.RowKit Go.Lib
def CmpR (g cap : Nat) (d : Array (Int × Int)) (W : World) (e : Ending) (W' : World) : Prop :=
  e = .returned (.slice (some ⟨g, 0, none⟩) (compactUpTo d d.size).length cap) ∧ RowC W' g (compactUpTo d d.size).toArray ∧ BG g W W'
set_option maxHeartbeats 4000000 in
set_option maxRecDepth 100000 in
theorem compact_l (d : Array (Int × Int)) (g cap : Nat) (W : World) (h : RowC W g d) (h2 : 2 ≤ d.size) (hsz : d.size ≤ 100000) (hcap : d.size ≤ cap) (hcm : cap ≤ 9223372036854775807) :
    Calls Tryz.prog 99 #[.slice (some ⟨g, 0, none⟩) d.size cap] W fun e W' => CmpR g cap d W e W' := by
  have HH := Lib.hid h; clear h
  go_enter Tryz.func99, Tryz.ntmps99
  go_wp2
  go_loopw [3] (fun s3 wr => ∃ k q : Nat, 1 ≤ k ∧ k ≤ d.size ∧ s3 = .int .i64 (k : Nat) ∧ wr = W.drewN q ∧ Hid (∀ j, j < k → keeps d j = true)) (fun s3 _ => d.size - (intOf s3).toNat)
  case atStart => exact ⟨1, 0, Nat.le_refl _, by omega, rfl, rfl, Lib.hid (keeps_lt_one d)⟩
  case round =>
    obtain ⟨k, q, hk1, hk, rfl, rfl, HK⟩ := hrel
    by_cases hlt : k < d.size
    rotate_left
    · have he : k = d.size := by omega
      subst he
      go_wp2
      go_ret
      have e : compactUpTo d d.size = d.toList := by rw [compactUpTo_all d _ HK.out, range_map_get]
      exact ⟨by rw [e]; rfl, by rw [e]; exact HH.out.drewN q, (BG.refl _ _).drewN q⟩
    obtain ⟨m, rfl⟩ : ∃ m, k = m + 1 := ⟨k - 1, by omega⟩
    obtain ⟨a0, a1, -, -⟩ := HH.out.2 (m + 1) hlt
    obtain ⟨b0, b1, -, -⟩ := HH.out.2 m (by omega)
    have HX := Lib.hid (show keeps d (m + 1) = decide (d[m + 1]! ≠ d[m]!) by simp [keeps])
    generalize d[m + 1]! = x at *
    generalize d[m]! = y at *
    have heq := fun W => eq_cell x.1 x.2 y.1 y.2 W
    have hz0 : (0 : Int) ≤ (m : Int) + 1 := by omega
    have hz1 : (m : Int) + 1 < (d.size : Int) := by omega
    by_cases he : x = y
    · subst he
      simp only [decide_true, Bool.and_self] at heq
      go_wp2
      go_quiet (fail)
      go_wp2
      have HX2 := Lib.hid (show keeps d (m + 1) = false by rw [HX.out]; simp)
      clear heq a0 a1 b0 b1 HX
      go_loopw [3, 5] (fun s3 s5 wr => ∃ (kk j : Nat) (dk : Array (Int × Int)), s3 = .int .i64 (kk : Nat) ∧ s5 = .int .i64 ((j + 1 : Nat) : Int) ∧ m + 1 + (j + 1) ≤ d.size ∧ Hid (RowC wr g dk) ∧ Hid (BG g W wr) ∧ Hid (CompInv d (m + 1 + (j + 1)) kk dk)) (fun _ s5 _ => d.size - (intOf s5).toNat)
      case atStart => exact ⟨m + 1, 0, d, by simp, rfl, by omega, Lib.hid (HH.out.drewN _), Lib.hid ((BG.refl _ _).drewN _), Lib.hid (CompInv.start HK.out HX2.out)⟩
      case round =>
        obtain ⟨kk, j, dk, rfl, rfl, hle, HR, HB, HI⟩ := hrel
        have hkk := HI.out.lt
        have hds := HI.out.size
        by_cases hlt2 : m + 1 + (j + 1) < d.size
        rotate_left
        · have hend : m + 1 + (j + 1) = d.size := by omega
          have HCL := Lib.hid (fun ty => clear_C wr ty g (kk * 2) (d.size - kk) (cap - kk) (by omega) (fun i hi => by
            obtain ⟨e0, e1, -, -⟩ := HR.out.2 (kk + i / 2) (by omega)
            rcases Nat.mod_two_eq_zero_or_one i with e | e
            · rw [show kk * 2 + i = (kk + i / 2) * 2 by omega, e0]; rfl
            · rw [show kk * 2 + i = (kk + i / 2) * 2 + 1 by omega, e1]; rfl) (fun i hi => by
            obtain ⟨-, -, f0, f1⟩ := HR.out.2 (kk + i / 2) (by omega)
            rcases Nat.mod_two_eq_zero_or_one i with e | e
            · rw [show kk * 2 + i = (kk + i / 2) * 2 by omega, f0]
            · rw [show kk * 2 + i = (kk + i / 2) * 2 + 1 by omega, f1]))
          have hcl := HCL.out
          go_wp2
          go_ret
          have hI := HI.out
          rw [hend] at hI
          refine ⟨by rw [hI.len]; rfl, (HR.out.low (by rw [hI.len]; omega) (fun i hi => hI.low i (by rw [hI.len] at hi; exact hi))).cut _ (by simp [hI.len]) _, HB.out.setC _ _⟩
        obtain ⟨a0, a1, -, -⟩ := HR.out.2 (m + 1 + (j + 1)) (by omega)
        obtain ⟨b0, b1, -, -⟩ := HR.out.2 (m + 1 + j) (by omega)
        obtain ⟨e0, e1, f0, f1⟩ := HR.out.2 kk (by omega)
        rw [HI.out.high (m + 1 + (j + 1)) (by omega), show (m + 1 + (j + 1)) * 2 = (m + 1) * 2 + (j + 1) * 2 by omega] at a0 a1
        rw [HI.out.high (m + 1 + j) (by omega), show (m + 1 + j) * 2 = (m + 1) * 2 + j * 2 by omega] at b0 b1
        have hzj : (0 : Int) ≤ (j : Int) + 1 := by omega
        have HX := Lib.hid (show keeps d (m + 1 + (j + 1)) = decide (d[m + 1 + (j + 1)]! ≠ d[m + 1 + j]!) by simp [keeps])
        have HQ := Lib.hid (fun (hk : keeps d (m + 1 + (j + 1)) = true) => HI.out.keep hlt2 hk)
        generalize d[m + 1 + (j + 1)]! = x at *
        generalize d[m + 1 + j]! = y at *
        generalize dk[kk]! = z at *
        by_cases he : x = y
        · subst he
          have heq : ∀ W : World, (Op.equalIn 10000 31 (.agg #[.int .i64 x.1, .int .i64 x.2]) (.agg #[.int .i64 x.1, .int .i64 x.2])).run Tryz.prog W = .ok true W := fun W => by simpa using eq_cell x.1 x.2 x.1 x.2 W
          go_wp2
          go_quiet (fail)
          go_wp2
          go_roundw
          case rel => exact ⟨kk, j + 1, dk, rfl, by simp, by omega, Lib.hid (HR.out.drewN _), Lib.hid (HB.out.drewN _), Lib.hid (HI.out.skip (by rw [HX.out]; simp))⟩
          case measure => simp only [intOf]; omega
        · have heq : ∀ W : World, (Op.equalIn 10000 31 (.agg #[.int .i64 x.1, .int .i64 x.2]) (.agg #[.int .i64 y.1, .int .i64 y.2])).run Tryz.prog W = .ok false W := fun W => by
            rw [eq_cell x.1 x.2 y.1 y.2 W, ← Bool.decide_and, decide_eq_false (fun h => he (Prod.ext_iff.2 h))]
          have HE := Lib.hid he
          clear he
          go_wp2
          go_quiet (fail)
          go_wp2
          go_roundw
          case rel => exact ⟨kk + 1, j + 1, _, by simp, by simp, by omega, Lib.hid ((HR.out.drewN nq).set kk (by omega) x), Lib.hid ((HB.out.drewN nq).setC [_, _] _), Lib.hid (HQ.out (by rw [HX.out, decide_eq_true_iff]; exact HE.out))⟩
          case measure => simp only [intOf]; omega
    · have hd : (decide (x.1 = y.1) && decide (x.2 = y.2)) = false := by
        rw [← Bool.decide_and, decide_eq_false_iff_not, ← Prod.ext_iff]; exact he
      simp only [hd] at heq
      have HE := Lib.hid he
      clear he hd
      go_wp2
      go_quiet (fail)
      go_wp2
      go_roundw
      case rel => exact ⟨m + 1 + 1, _, by omega, by omega, by simp, rfl, Lib.hid (fun j hj => by
        by_cases e : j = m + 1
        · subst e; rw [HX.out, decide_eq_true_iff]; exact HE.out
        · exact HK.out j (by omega))⟩
      case measure => simp only [intOf]; omega
end Go.Proofs.YtnejicklenhpeaaGreat
namespace Go.Proofs.YtnejicklenhpeaaGreat
open Go.RowKit Go.Lib
set_option maxHeartbeats 4000000 in
theorem compact_one (d : Array (Int × Int)) (g cap : Nat) (W : World) (h : RowC W g d) (h2 : d.size < 2) :
    Calls Tryz.prog 99 #[.slice (some ⟨g, 0, none⟩) d.size cap] W fun e W' => CmpR g cap d W e W' := by
  have HH := Lib.hid h; clear h
  have e : compactUpTo d d.size = d.toList := by rw [compactUpTo_all d _ (fun j hj => keeps_lt_one d j (by omega)), range_map_get]
  have HE := Lib.hid e; clear e
  have h2' : (d.size : Int) < 2 := by omega
  go_enter Tryz.func99, Tryz.ntmps99
  go_wp2
  go_ret
  exact ⟨by rw [HE.out]; rfl, by rw [HE.out]; exact HH.out, BG.refl _ _⟩
theorem compact_any (d : Array (Int × Int)) (g cap : Nat) (W : World) (h : RowC W g d) (hsz : d.size ≤ 100000) (hcap : d.size ≤ cap) (hcm : cap ≤ 9223372036854775807) :
    Calls Tryz.prog 99 #[.slice (some ⟨g, 0, none⟩) d.size cap] W fun e W' => CmpR g cap d W e W' := by
  by_cases h2 : 2 ≤ d.size
  · exact compact_l d g cap W h h2 hsz hcap hcm
  · exact compact_one d g cap W h (by omega)
end Go.Proofs.YtnejicklenhpeaaGreat
namespace Go.Proofs.YtnejicklenhpeaaGreat
open Go.RowKit Go.Lib
theorem OwnOf.row {W : World} {lo : Nat} {v : Value} {l : List (Int × Int)} (hown : OwnOf W lo 31 2 encC v l) (hpos : 0 < l.length) :
    ∃ g cap, v = .slice (some ⟨g, 0, none⟩) l.length cap ∧ lo ≤ g ∧ l.length ≤ cap ∧ cap ≤ maxLen ∧ RowC W g l.toArray := by
  unfold OwnOf at hown
  obtain ⟨hl, ⟨rfl, h0⟩ | ⟨g, cap, cur, rfl, hbg, hg, hc, hm, hs, ht⟩⟩ := id hown
  · omega
  have hcell := fun i hi => World.ownsRow.cellAt hown i hi
  refine ⟨g, cap, rfl, hbg, hc, hm, lt_of_block hg, fun j hj => ?_⟩
  have hj' : j < l.length := by simpa using hj
  have h1 := flatC_at l j hj'
  have e : l.toArray[j]! = l[j] := by rw [getElem!_pos _ j hj, List.getElem_toArray]
  have a0 := hcell (j * 2) (by omega)
  have a1 := hcell (j * 2 + 1) (by omega)
  rw [show j * 2 = 2 * j by omega] at a0 a1 ⊢
  rw [e]
  exact ⟨by rw [a0]; exact h1.1, by rw [a1]; exact h1.2, by simp [World.frozen?, hg], by simp [World.frozen?, hg]⟩
theorem RowC.sl {W : World} {g : Nat} {l : List (Int × Int)} (h : RowC W g l.toArray) {cap : Nat} (hc : l.length ≤ cap) (hm : cap ≤ maxLen) : SlOf W W.heap.size 2 encC (.slice (some ⟨g, 0, none⟩) l.length cap) l := by
  refine ⟨some ⟨g, 0, none⟩, cap, rfl, flatC_len l, hc, hm, (fun e => by cases e), .inr ⟨g, 0, rfl, h.1, fun i hi => ?_⟩⟩
  have key : ∀ k, k < l.length → W.cell? ⟨g, k * 2, none⟩ = some (.int .i64 l[k]!.1) ∧ W.cell? ⟨g, k * 2 + 1, none⟩ = some (.int .i64 l[k]!.2) ∧ (l.flatMap encC)[2 * k]? = some (.int .i64 l[k]!.1) ∧ (l.flatMap encC)[2 * k + 1]? = some (.int .i64 l[k]!.2) := fun k hk => by
    obtain ⟨a0, a1, -⟩ := h.2 k (by simpa using hk)
    have e : l.toArray[k]! = l[k] := by rw [getElem!_pos l.toArray k (by simpa using hk), List.getElem_toArray]
    have e2 : l[k]! = l[k] := getElem!_pos l k hk
    have h1 := flatC_at l k hk
    rw [e] at a0 a1
    rw [e2]
    exact ⟨a0, a1, h1⟩
  obtain ⟨k, hk⟩ : ∃ k, i = 2 * k ∨ i = 2 * k + 1 := ⟨i / 2, by omega⟩
  obtain ⟨a0, a1, b0, b1⟩ := key k (by omega)
  rcases hk with rfl | rfl
  · rw [show 0 + 2 * k = k * 2 by omega, a0, b0]
  · rw [show 0 + (2 * k + 1) = k * 2 + 1 by omega, a1, b1]
end Go.Proofs.YtnejicklenhpeaaGreat
namespace Go.Proofs.YtnejicklenhpeaaGreat
open Go.RowKit Go.Lib
theorem ins_nil (cf : FuncId) (w : World) : Calls Tryz.prog 201 #[.slice none 0 0, .int .i64 0, .int .i64 0, .func (.func cf) #[] #[]] w fun e w' => e = .returned (.tuple #[]) ∧ w' = w := by
  go_enter Tryz.func201, Tryz.ntmps201
  go_wp2
  refine wp_loop_rounds 1 ?_
  rw [rounds_succ]
  go_wp2
  go_end0
  exact ⟨rfl, rfl⟩
theorem pdq_nil (cf : FuncId) (w : World) (k : Int) : Calls Tryz.prog 144 #[.slice none 0 0, .int .i64 0, .int .i64 0, .int .i64 k, .func (.func cf) #[] #[]] w fun e w' => e = .returned (.tuple #[]) ∧ w' = w := by
  go_enter Tryz.func144, Tryz.ntmps144
  go_wp2
  refine wp_loop_rounds 1 ?_
  rw [rounds_succ]
  go_wp2_with (go_at_call 201; refine (ins_nil _ _).mono ?_; go_must (rintro e w1 ⟨rfl, rfl⟩))
  exact bodyPost_ret (v := .tuple #[]) (by simp only [results, Tryz.results144]; first | (go_simp; done) | (go_simp; rfl)) rfl ⟨rfl, rfl⟩
set_option maxRecDepth 100000 in
theorem len64_nil (w : World) : Calls Tryz.prog 182 #[.int .u64 0] w fun e w' => (∃ k, e = .returned (.int .i64 k)) ∧ w' = w := by
  go_enter Tryz.func182, Tryz.ntmps182
  go_wp2
  go_ret
  exact ⟨⟨_, rfl⟩, rfl⟩
set_option maxRecDepth 100000 in
theorem len_nil (w : World) : Calls Tryz.prog 129 #[.int .u64 0] w fun e w' => (∃ k, e = .returned (.int .i64 k)) ∧ w' = w := by
  go_enter Tryz.func129, Tryz.ntmps129
  go_wp2_with (go_at_call 182; refine (len64_nil _).mono ?_; go_must (rintro e w1 ⟨⟨k, rfl⟩, rfl⟩))
  go_ret
  exact ⟨⟨_, rfl⟩, rfl⟩
set_option maxRecDepth 100000 in
theorem sort_nilG (cf : FuncId) (w : World) : Calls Tryz.prog 98 #[.slice none 0 0, .func (.func cf) #[] #[]] w fun e w' => e = .returned (.tuple #[]) ∧ w' = w := by
  go_enter Tryz.func98, Tryz.ntmps98
  go_wp2_with (first | (go_at_call 129; refine (len_nil _).mono ?_; go_must (rintro e w1 ⟨⟨k, rfl⟩, rfl⟩)) | (go_at_call 144; refine (pdq_nil _ _ _).mono ?_; go_must (rintro e w1 ⟨rfl, rfl⟩)))
  go_end0
  exact ⟨rfl, rfl⟩
theorem sort_nil (w : World) : Calls Tryz.prog 98 #[.slice none 0 0, .func (.func 77) #[] #[]] w fun e w' => e = .returned (.tuple #[]) ∧ w' = w := sort_nilG _ w
theorem compact_nil (w : World) : Calls Tryz.prog 99 #[.slice none 0 0] w fun e w' => e = .returned (.slice none 0 0) ∧ w' = w := by
  go_enter Tryz.func99, Tryz.ntmps99
  go_wp2
  go_ret
  exact ⟨rfl, rfl⟩
end Go.Proofs.YtnejicklenhpeaaGreat
