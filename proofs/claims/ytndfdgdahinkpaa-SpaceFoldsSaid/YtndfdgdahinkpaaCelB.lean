/- What slices.SortFunc does to the cells of a view: the shelf's contract at this dump. -/
import Derived.Test.YtndfdgdahinkpaaLinkSort
import Derived.Test.YtndfdgdahinkpaaCelA
namespace Go.Proofs.Ytndfdgdahinkpaa
open Go.RowKit Go.Sort Go.Shelf Go.Lib
def encC (x : Int × Int) : List Value := [.int .i64 x.1, .int .i64 x.2]
/-- Cells in order, none before its neighbour to the left. -/
def SortedC (l : List (Int × Int)) : Prop := l.Pairwise (fun a b => ¬ (b.1 < a.1 ∨ (b.1 = a.1 ∧ b.2 < a.2)))
theorem flatC_at : ∀ (l : List (Int × Int)) (j : Nat) (h : j < l.length), (l.flatMap encC)[2 * j]? = some (.int .i64 l[j].1) ∧ (l.flatMap encC)[2 * j + 1]? = some (.int .i64 l[j].2) := by
  intro l j h
  have h0 := flat_at (enc := encC) (sz := 2) (fun _ => rfl) l j 0 h (by omega)
  have h1 := flat_at (enc := encC) (sz := 2) (fun _ => rfl) l j 1 h (by omega)
  exact ⟨h0, h1⟩
theorem ltC (x y : (Int × Int)) : ltOf cmpC x y = decide (x.1 < y.1 ∨ (x.1 = y.1 ∧ x.2 < y.2)) := by
  unfold ltOf cmpC cmpI
  rw [decide_eq_decide]
  split <;> split <;> (try split) <;> (try split) <;> omega
theorem swoC : SWO (ltOf cmpC) where
  irrefl x := by rw [ltC]; simp
  trans x y z h1 h2 := by rw [ltC] at *; simp only [decide_eq_true_eq] at *; omega
  ntrans x y z h1 h2 := by rw [ltC] at *; simp only [decide_eq_false_iff_not] at *; omega
theorem flatC_len (l : List (Int × Int)) : (l.flatMap encC).length = l.length * 2 := flat_len (enc := encC) (sz := 2) (fun _ => rfl) l
theorem flatK_C (d : Array (Int × Int)) : (flatK encC 2 d).toList = d.toList.flatMap encC := by
  refine List.ext_getElem? (fun j => ?_)
  rcases Nat.lt_or_ge j (d.size * 2) with h | h
  · have hq : j / 2 < d.toList.length := by simp; omega
    have h1 := flatC_at d.toList (j / 2) hq
    have hd : d[j / 2]! = d.toList[j / 2] := by simp at hq; simp [hq]
    have h2 : (flatK encC 2 d).toList[j]? = some ((encC d[j / 2]!)[j % 2]!) := by
      have := get_flatK encC 2 d j h
      rw [Array.getElem?_toList, Array.getElem?_eq_getElem (by simpa using h), ← this]
      congr 1
      rw [getElem!_pos _ j (by simpa using h)]
    rw [h2, hd]
    rcases Nat.mod_two_eq_zero_or_one j with e | e
    · have e2 : j = 2 * (j / 2) := by omega
      rw [e]
      rw [← e2] at h1
      rw [h1.1]; rfl
    · have e2 : j = 2 * (j / 2) + 1 := by omega
      rw [e]
      rw [← e2] at h1
      rw [h1.2]; rfl
  · rw [List.getElem?_eq_none (by simpa using h), List.getElem?_eq_none]
    rw [flatC_len]; simpa using h
theorem cmpLaysC (blk off size : Nat) (w : World) : CmpLays Try.prog 81 #[] encC 2 cmpC blk off size w :=
  fun _ _ _ _ x y => compare_l x y _
theorem sorts_ok (W : World) (lo : Nat) (v : Value) (l : List (Int × Int)) (hown : OwnOf W lo 31 2 encC v l) (_ : lo ≤ W.heap.size) (hlen : l.length ≤ 100000) (hpos : 0 < l.length) :
    Calls Try.prog 80 #[v, .func (.func 81) #[] #[]] W fun e W' => e = .returned (.tuple #[]) ∧ ∃ l' : List (Int × Int), l'.Perm l ∧ SortedC l' ∧ OwnOf W' lo 31 2 encC v l' ∧ W.grownBy W' v.ownBlock := by
  unfold OwnOf at hown
  obtain ⟨hl, ⟨rfl, h0⟩ | ⟨g, cap, cur, rfl, hbg, hg, hc, hm, hs, ht⟩⟩ := id hown
  · omega
  have hcell := fun i hi => World.ownsRow.cellAt hown i hi
  have hgl := lt_of_block hg
  have hH : HoldsK encC 2 W g 0 l.toArray := by
    intro j hj
    have hj2 : j < l.length * 2 := by simpa using hj
    rw [Nat.zero_add]
    refine ⟨?_, by simp [World.frozen?, hg]⟩
    have e := flatK_C l.toArray
    simp only at e
    rw [hcell j (by simpa using hj2), ← e, Array.getElem?_toList, Array.getElem?_eq_getElem hj, getElem!_pos _ j hj]
    rfl
  have eg : ∀ args w, (callFunc 81 args).run Try.prog w = .ok (.enter 81 args) w := enters_of Try.func81 (by kernel_rfl) rfl
  have hcon := AnyQ.slices_SortFunc LySort.cells 2 Try.isAgg31 Try.sizeOf31 encC (fun _ => rfl) (fun x v hv => by simp [encC] at hv; rcases hv with rfl | rfl <;> rfl) cmpC swoC 81 #[] g 0 cap l.toArray W eg (cmpLaysC g 0 _ W) hH hgl (by simp; omega)
  refine (show Calls Try.prog 80 #[.slice (some ⟨g, 0, none⟩) l.length cap, .func (.func 81) #[] #[]] W _ from hcon).mono ?_
  rintro e W' ⟨rfl, d', n, os, ⟨hps, -, hpp⟩, hso, rfl⟩
  have hsz : d'.size = l.length := by simpa using hps
  have hperm : d'.toList.Perm l := by
    have e1 : d'.extract 0 l.toArray.size = d' := by rw [← hps]; simp
    have e2 : l.toArray.extract 0 l.toArray.size = l.toArray := by simp
    rw [e1, e2] at hpp
    simpa using hpp
  have hpw : d'.toList.Pairwise (fun a b => ¬ (b.1 < a.1 ∨ (b.1 = a.1 ∧ b.2 < a.2))) := by
    rw [List.pairwise_iff_getElem]
    intro i j hi hj hij
    simp only [Array.length_toList] at hi hj
    have := hso i j (Nat.zero_le _) hij (by simp; omega)
    rw [ltC, getElem!_pos _ j (by omega), getElem!_pos _ i (by omega)] at this
    simpa using this
  have hblk : (sortWorldK encC 2 W g 0 n d' os).heap[g]? = some (.cells (putCells id 0 (flatK encC 2 d') cur) 31 (0, 0)) := by
    simp only [sortWorldK, grow, putRowK, putRow, mapBlock]
    rw [Array.getElem?_append_left (by simpa using hgl), Array.getElem?_modify, if_pos rfl]
    show Option.map _ W.heap[g]? = _
    rw [hg]
    rfl
  have hrest : ∀ k, k < W.heap.size → k ≠ g → (sortWorldK encC 2 W g 0 n d' os).heap[k]? = W.heap[k]? := fun k hk hne => by
    simp only [sortWorldK, grow, putRowK, putRow, mapBlock]
    rw [Array.getElem?_append_left (by simpa using hk), Array.getElem?_modify, if_neg (Ne.symm hne)]
    rfl
  refine ⟨rfl, d'.toList, hperm, hpw, ?_, ?_⟩
  · refine ⟨by rw [flatC_len], .inr ⟨g, cap, _, by simp [hsz], hbg, hblk, by simp [hsz]; exact hc, hm, by simp [putCells, hs], ?_⟩⟩
    refine List.ext_getElem? (fun j => ?_)
    rw [← flatK_C d']
    rcases Nat.lt_or_ge j (l.length * 2) with h | h
    · have hj : j < (flatK encC 2 d').size := by simp [hsz]; exact h
      have hjc : j < cur.size := by rw [hs]; omega
      rw [List.getElem?_take_of_lt (by simp [hsz]; exact h), Array.getElem?_toList, Array.getElem?_toList]
      simp only [putCells]
      rw [Array.getElem?_eq_getElem (by simpa using hjc), Array.getElem?_eq_getElem hj]
      simp only [Array.getElem_mapIdx, Nat.zero_le, Nat.zero_add, true_and, Nat.sub_zero, size_flatK, id]
      rw [if_pos (by rw [hsz]; exact h), getElem!_pos _ j hj]
    · rw [List.getElem?_eq_none (by simp [hsz]; omega), List.getElem?_eq_none (by simp [hsz]; exact h)]
  · exact ⟨rfl, rfl, rfl, size_sortWorldK_c _ _ _ _ _ _ _ _, fun k hk hne => hrest k hk (fun e => hne (by rw [e]; rfl))⟩
end Go.Proofs.Ytndfdgdahinkpaa
