/- Rows of whole numbers in a block of their own; the indexes of a list in the order of their keys. -/
import Derived.Test.YtbjbdochffocoaaStabG
import Derived.Laws.MakeOwn
import Derived.Test.YtbjbdochffocoaaIdxA
namespace Go.Proofs.Ytbjbdochffocoaa
open Go.Shelf Go.RowKit Go.Lib Go.Sort
set_option linter.unusedVariables false
/-- Block b holds the numbers l. -/
structure RowI (w : World) (b : Nat) (l : List Int) : Prop where
  lt : b < w.heap.size
  cell : ∀ i (h : i < l.length), w.cell? ⟨b, i, none⟩ = some (.int .i64 l[i])
  free : ∀ i, i < l.length → w.frozen? ⟨b, i, none⟩ = false
section
variable {w w' : World} {b : Nat} {l : List Int}
theorem RowI.of_block (h : RowI w b l) (hb : w'.heap[b]? = w.heap[b]?) (hs : b < w'.heap.size) : RowI w' b l :=
  ⟨hs, fun i hi => (World.cell?_of_block (a := ⟨b, i, none⟩) hb).trans (h.cell i hi), fun i hi => by
    rw [← h.free i hi]; simp only [World.frozen?, hb]⟩
theorem RowI.kept (h : RowI w b l) (hb : Below w.heap.size w w') : RowI w' b l :=
  h.of_block (hb.block b h.lt) (Nat.lt_of_lt_of_le h.lt hb.size)
theorem RowI.drew (h : RowI w b l) : RowI w.drew b l := h.kept (Below.refl _ _).drew
theorem RowI.drewN (h : RowI w b l) (n : Nat) : RowI (w.drewN n) b l := h.kept (below_drewN (Below.refl _ _) n)
theorem RowI.alloc (h : RowI w b l) (o : Obj) : RowI (w.alloc o) b l := h.kept ((Below.refl _ _).alloc (Nat.le_refl _) _)
theorem RowI.set (h : RowI w b l) (i : Nat) (hi : i < l.length) (x : Int) : RowI (w.setCell ⟨b, i, none⟩ (.int .i64 x)) b (l.set i x) := by
  refine ⟨by simpa using h.lt, fun j hj => ?_, fun j hj => ?_⟩
  · simp only [List.length_set] at hj
    by_cases e : i = j
    · subst e
      rw [World.cell?_setCell_same _ _ _ (h.cell i hj)]
      simp
    · rw [World.cell?_setCell_other _ _ _ _ (by intro e'; simp only [Addr.mk.injEq] at e'; omega), h.cell j hj]
      simp [List.getElem_set_ne e]
  · simp only [List.length_set] at hj
    rw [World.frozen?_setCell]; exact h.free j hj
theorem RowI.other (h : RowI w b l) (c o : Nat) (v : Value) (hc : c ≠ b) : RowI (w.setCell ⟨c, o, none⟩ v) b l := by
  refine h.of_block (Below.heap_setCell _ _ _ _ (fun e => hc e.symm)) (by simpa using h.lt)
theorem RowI.sl (h : RowI w b l) (cap : Nat) (hc : l.length ≤ cap) (hm : cap ≤ maxLen) : SlOf w w.heap.size 1 encInt (.slice (some ⟨b, 0, none⟩) l.length cap) l := by
  refine ⟨_, cap, rfl, flat_len (enc := encInt) (sz := 1) (fun _ => rfl) l, hc, hm, by simp, .inr ⟨b, 0, rfl, h.lt, fun i hi => ?_⟩⟩
  have hi2 : i < l.length := by simpa using hi
  have h2 := flat_at (enc := encInt) (sz := 1) (fun _ => rfl) l i 0 hi2 (by omega)
  simp only [Nat.one_mul, Nat.add_zero] at h2
  rw [Nat.zero_add, h.cell i hi2, h2]; rfl
end
theorem int_info : (Try.prog.info? 3).map (fun i => (i.zero, i.size, i.bytes)) = some (some (.int .i64 0), 1, 8) := by kernel_rfl
theorem make_ints (n : Nat) (hn : n ≤ 1000000) : ∃ Z : Array Value, (∀ W, (Instr.makeSlice 25 (.int .i64 (n : Int)) (.int .i64 (n : Int))).run Try.prog W = .ok (.slice (some ⟨W.heap.size, 0, none⟩) n n) (W.alloc (.cells Z 3))) ∧ ∀ W : World, RowI (W.alloc (.cells Z 3)) W.heap.size (List.replicate n 0) := by
  obtain ⟨i0, hi, hz0, hz1, hz2⟩ := info_parts int_info
  refine ⟨madeCells (Value.int .i64 0).cells n, fun W => ?_, fun W => ⟨by simp, fun i h => ?_, fun i h => by go_simp⟩⟩
  · have := run_make (P := Try.prog) W 25 3 i0 _ Try.underlying25 hi hz0 .i64 .i64 (n : Int) (n : Int) (by omega) (by omega) (by rw [hz2]; omega) (by omega)
    rw [Int.toNat_natCast, hz1, Nat.mul_one] at this
    exact this
  · have hi2 : i < n := by simpa using h
    rw [World.cell?_alloc_new]
    simp [madeCells, Value.cells, hi2, Nat.mod_one]
/-- The worlds that a call which only draws and lays blocks leads to. -/
def Gr (W W' : World) : Prop := ∃ q os', W' = grow (W.drewN q) os'
/-- L has the indexes below n in the order of their keys, the lesser index first. -/
structure OrdL (T : Nat → Int) (n : Nat) (L : List Nat) : Prop where
  len : L.length = n
  mem : ∀ i, i ∈ L ↔ i < n
  srt : L.Pairwise (fun a b => T a < T b ∨ (T a = T b ∧ a < b))
theorem OrdL.same {T : Nat → Int} {n : Nat} {L M : List Nat} (h1 : OrdL T n L) (h2 : OrdL T n M) : L = M := by
  refine List.Perm.eq_of_pairwise (le := fun a b => T a < T b ∨ (T a = T b ∧ a < b)) ?_ h1.srt h2.srt ?_
  · intro a b _ _ h h'; omega
  · have n1 : L.Nodup := h1.srt.imp (fun {a b} h (e : a = b) => by subst e; omega)
    have n2 : M.Nodup := h2.srt.imp (fun {a b} h (e : a = b) => by subst e; omega)
    exact (List.perm_ext_iff_of_nodup n1 n2).2 (fun a => by rw [h1.mem, h2.mem])
def ltT {m : Nat} (T : Nat → Int) (a b : Fin (m + 1)) : Prop := T a < T b ∨ (T a = T b ∧ a.val < b.val)
def cmpT (a b : Int) : Int := if a < b then -1 else if b < a then 1 else 0
theorem cmpT_neg (a b : Int) : (cmpT a b < 0) ↔ a < b := by unfold cmpT; split <;> (try split) <;> omega
def idA (m : Nat) : Array (Fin (m + 1)) := Array.ofFn (fun i : Fin (m + 1) => i)
theorem idA_get (m j : Nat) (h : j < m + 1) : (idA m)[j]! = ⟨j, h⟩ := by
  unfold idA
  rw [getElem!_pos _ j (by simpa using h)]
  simp
theorem sort_rest {α : Type} [Inhabited α] {enc : α → Value} {w0 W : World} {blk off : Nat} {d : Array α} (h : SW enc w0 blk off d W) : w0.heap.size ≤ W.heap.size ∧ ∀ k, k < w0.heap.size → k ≠ blk → W.heap[k]? = w0.heap[k]? := by
  refine ⟨h.le, fun k hk hne => ?_⟩
  obtain ⟨n, os, rfl⟩ := h
  simp only [sortWorld, grow, putRow, mapBlock]
  rw [Array.getElem?_append_left (by simpa [Sort.ahead] using hk), Array.getElem?_modify, if_neg (Ne.symm hne)]
  rfl
set_option maxHeartbeats 4000000 in
/-- The indexes sorted by their keys. -/
theorem sortIdx (m : Nat) (hm : m < 1000000) (T : Nat → Int) (g : Nat) (cb : Array Value) (eg : ∀ args w, (callFunc g args).run Try.prog w = .ok (.enter g args) w) (blk cap : Nat) (W : World) (hrow : RowI W blk ((List.range (m + 1)).map fun i : Nat => (i : Int)))
    (hcmp : ∀ V : World, Below blk W V → ∀ x y : Nat, x < m + 1 → y < m + 1 → Calls Try.prog g (#[.int .i64 (x : Int), .int .i64 (y : Int)] ++ cb) V fun e w' => e = .returned (.int .i64 (cmpT (T x) (T y))) ∧ Gr V w') :
    Calls Try.prog 64 #[.slice (some ⟨blk, 0, none⟩) (m + 1) cap, .func (.func g) #[] cb] W fun e w' => e = .returned (.tuple #[]) ∧ (∃ L, OrdL T (m + 1) L ∧ RowI w' blk (L.map fun i : Nat => (i : Int))) ∧ Below blk W w' := by
  have hsz : (idA m).size = m + 1 := by simp [idA]
  have hH : Holds (encX (fun x : Fin (m + 1) => ((x.val : Nat) : Int))) W blk 0 (idA m) := by
    intro j hj
    rw [hsz] at hj
    rw [idA_get m j hj, Nat.zero_add]
    exact ⟨by have := hrow.cell j (by simpa using hj); simpa using this, hrow.free j (by simpa using hj)⟩
  have hC : CmpLays1 Try.prog g cb (encX (fun x : Fin (m + 1) => ((x.val : Nat) : Int))) (fun x y => cmpT (T x.val) (T y.val)) blk 0 (idA m).size W := by
    intro q os dk hdk x y
    have hr := sort_rest (enc := encX (fun x : Fin (m + 1) => ((x.val : Nat) : Int))) (w0 := W) (W := sortWorld (encX (fun x : Fin (m + 1) => ((x.val : Nat) : Int))) W blk 0 q dk os) (blk := blk) (off := 0) (d := dk) ⟨q, os, rfl⟩
    exact hcmp (sortWorld (encX (fun x : Fin (m + 1) => ((x.val : Nat) : Int))) W blk 0 q dk os) ⟨rfl, rfl, rfl, hr.1, fun k hk => hr.2 k (Nat.lt_trans hk hrow.lt) (by omega)⟩ x.val y.val x.isLt y.isLt
  have hap : Apart (ltT T) (ltOf (fun x y : Fin (m + 1) => cmpT (T x.val) (T y.val))) (getF (idA m)) (m + 1) := by
    intro p q hpq hq
    unfold getF
    rw [idA_get m p (by omega), idA_get m q hq]
    unfold ltOf ltT
    simp only [decide_eq_true_eq, decide_eq_false_iff_not, cmpT_neg]
    omega
  refine (sortStable_s (fun x : Fin (m + 1) => ((x.val : Nat) : Int)) (ltT T) (fun x y z h1 h2 => by unfold ltT at *; omega) (fun x y => cmpT (T x.val) (T y.val)) g cb eg blk 0 cap (m + 1) (idA m) W hsz hC ⟨fun _ => rfl, hH, hrow.lt⟩ (by omega) (by omega) hap).mono ?_
  rintro e w' ⟨rfl, d', hd', hB, hS⟩
  have hrest := sort_rest hS
  have hL : ∀ x, x < m + 1 → getF d' x = d'[x]! := fun _ _ => rfl
  refine ⟨rfl, ⟨d'.toList.map (fun x : Fin (m + 1) => x.val), ⟨by simpa using hd', fun i => ?_, ?_⟩, ?_⟩, ?_⟩
  · constructor
    · intro hi
      obtain ⟨x, -, rfl⟩ := List.mem_map.1 hi
      exact x.isLt
    · intro hi
      obtain ⟨x, -, hx, he⟩ := hB.memr i (Nat.zero_le _) hi
      unfold getF at he
      rw [idA_get m i hi, getElem!_pos _ x (by omega)] at he
      refine List.mem_map.2 ⟨d'[x]'(by omega), by simp, by rw [he]⟩
  · rw [List.pairwise_map, List.pairwise_iff_getElem]
    intro i j hi hj hij
    simp only [Array.length_toList] at hi hj
    have := hB.srt i j (Nat.zero_le _) hij (by omega)
    unfold getF at this
    rw [getElem!_pos _ i hi, getElem!_pos _ j hj] at this
    simpa [ltT] using this
  · have R : Row1 (encX (fun x : Fin (m + 1) => ((x.val : Nat) : Int))) W blk 0 (idA m) := ⟨fun _ => rfl, hH, hrow.lt⟩
    refine ⟨Nat.lt_of_lt_of_le hrow.lt hrest.1, fun i hi => ?_, fun i hi => ?_⟩
    · have hi2 : i < d'.size := by simpa using hi
      have := hS.c1 R (by omega) i hi2
      rw [Nat.zero_add, getElem!_pos _ i hi2] at this
      simpa using this
    · have hi2 : i < d'.size := by simpa using hi
      have := hS.f1 R (by omega) i hi2
      rwa [Nat.zero_add] at this
  · obtain ⟨n, os, rfl⟩ := hS
    exact ⟨rfl, rfl, rfl, hrest.1, fun k hk => hrest.2 k (Nat.lt_trans hk hrow.lt) (by omega)⟩
end Go.Proofs.Ytbjbdochffocoaa
