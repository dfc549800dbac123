/- Racks: what a rack and the reference's rack hold; frames; stores. -/
import Derived.Test.YtlljfbakpljenaaRackA
import Derived.Laws.Rows
namespace Go.Proofs.Ytlljfbakpljenaa
open Go.RowKit Go.Lib
set_option linter.unusedVariables false
/-- Three disks (what is safe, what is loose), how many calls until the power fails, and whether the rack is off. -/
structure RackD where
  d : Nat → List Int × List Int
  armed : Int
  off : Bool
def RackD.set (D : RackD) (i : Nat) (x : List Int × List Int) : RackD := { D with d := fun j => if j = i then x else D.d j }
def RackD.all (D : RackD) (i : Nat) : List Int := (D.d i).1 ++ (D.d i).2
/-- No disk has more than m bytes. -/
def RackD.upto (D : RackD) (m : Nat) : Prop := (∀ i, i < 3 → (D.d i).1.length + (D.d i).2.length ≤ m) ∧ 0 ≤ D.armed ∧ D.armed ≤ 9223372036854775807
def askD (D : RackD) (disk : Int) : Int := if D.off = true then 101 else if disk < 0 ∨ 3 ≤ disk then 2 else 0
/-- A change of a disk, unless the power fails. -/
def chgD (D : RackD) (i : Nat) (x : List Int × List Int) : Int × RackD := if D.armed = 1 then (101, { D with armed := 0, off := true }) else (0, { D.set i x with armed := max (D.armed - 1) 0 })
def appendD (D : RackD) (disk : Int) (b : List Int) : Int × RackD := if askD D disk ≠ 0 then (askD D disk, D) else chgD D disk.toNat ((D.d disk.toNat).1, (D.d disk.toNat).2 ++ b)
def syncD (D : RackD) (disk : Int) : Int × RackD := if askD D disk ≠ 0 then (askD D disk, D) else chgD D disk.toNat (D.all disk.toNat, [])
def trimD (D : RackD) (disk n : Int) : Int × RackD := if askD D disk ≠ 0 then (askD D disk, D) else if n < 0 ∨ ((D.all disk.toNat).length : Int) < n then (2, D) else chgD D disk.toNat ((D.all disk.toNat).take n.toNat, [])
def armD (D : RackD) (n : Int) : RackD := { D with armed := max 0 n }
def keepN (D : RackD) (keep : Nat → Int) (i : Nat) : Nat := (min (max 0 (keep i)) ((D.d i).2.length : Int)).toNat
def crashTo (D : RackD) (keep : Nat → Int) (k : Nat) : RackD := { D with d := fun i => if i < k then ((D.d i).1 ++ (D.d i).2.take (keepN D keep i), []) else D.d i }
def crashD (D : RackD) (keep : Nat → Int) : RackD := { d := (crashTo D keep 3).d, armed := 0, off := false }
def loseD (D : RackD) (disk : Int) : RackD := if 0 ≤ disk ∧ disk < 3 then D.set disk.toNat ([], []) else D
/-- All blocks but those of S stay; bytes stay anyway. -/
structure FrS (S : Nat → Prop) (w w' : World) : Prop where
  os : w'.os = w.os
  tape : w'.tape = w.tape
  output : w'.output = w.output
  size : w.heap.size ≤ w'.heap.size
  block : ∀ b, b < w.heap.size → ¬ S b → w'.heap[b]? = w.heap[b]?
  ku : KU w w'
theorem FrS.refl (S : Nat → Prop) (w : World) : FrS S w w := ⟨rfl, rfl, rfl, Nat.le_refl _, fun _ _ _ => rfl, KU.refl w⟩
theorem FrS.of_below {S : Nat → Prop} {w w' : World} (h : Below w.heap.size w w') : FrS S w w' := ⟨h.os, h.tape, h.output, h.size, fun b hb _ => h.block b hb, KU.of_below h⟩
theorem FrS.trans {S : Nat → Prop} {a b c : World} (h : FrS S a b) (k : FrS S b c) : FrS S a c :=
  ⟨k.os.trans h.os, k.tape.trans h.tape, k.output.trans h.output, Nat.le_trans h.size k.size, fun i hi hs => (k.block i (Nat.lt_of_lt_of_le hi h.size) hs).trans (h.block i hi hs), h.ku.trans k.ku⟩
theorem FrS.mono {S T : Nat → Prop} {w w' : World} (h : FrS S w w') (hs : ∀ b, S b → T b) : FrS T w w' := ⟨h.os, h.tape, h.output, h.size, fun b hb ht => h.block b hb (fun hx => ht (hs b hx)), h.ku⟩
theorem FrS.below {S : Nat → Prop} {w w' : World} {B : Nat} (h : FrS S w w') (hB : B ≤ w.heap.size) (hs : ∀ b, S b → B ≤ b) : Below B w w' :=
  ⟨h.os, h.tape, h.output, h.size, fun b hb => h.block b (Nat.lt_of_lt_of_le hb hB) (fun hx => by have := hs b hx; omega)⟩
theorem FrS.set {S : Nat → Prop} {w : World} {g o : Nat} {v : Value} {cs : Array Value} {t : TypeId} (hg : S g) (hb : w.heap[g]? = some (.cells cs t (0, 0))) (ht : t ≠ 5) : FrS S w (w.setCell ⟨g, o, none⟩ v) :=
  ⟨rfl, rfl, rfl, by simp, fun b _ hs => heap_setCell_other w _ _ _ (fun e => hs (e ▸ hg)), by simp, fun b cur fr h => by
    rw [heap_setCell_other w _ _ _ (fun e => by
      subst e
      rw [hb] at h
      simp only [Option.some.injEq, Obj.cells.injEq] at h
      exact ht h.2.1)]
    exact h⟩
theorem FrS.cell {S : Nat → Prop} {w w' : World} (h : FrS S w w') {b o : Nat} (hb : b < w.heap.size) (hs : ¬ S b) : w'.cell? ⟨b, o, none⟩ = w.cell? ⟨b, o, none⟩ := World.cell?_of_block (h.block b hb hs)
theorem add_zero' (b off : Nat) : (⟨b, off, none⟩ : Addr).add 0 = ⟨b, off, none⟩ := by unfold Addr.add; split <;> simp_all
/-- 's[:y]' of bytes. -/
theorem bb_cut {w : World} {v : Value} {l : List Int} (h : BB w v l) (y : Nat) (hy : y ≤ l.length) :
    ∃ a' c', (∀ W, (Instr.slice 27 v none (some (.int .i64 (y : Int))) none).run Try.prog W = .ok (.slice a' y c') W) ∧ BB w (.slice a' y c') (l.take y) := by
  obtain ⟨hb, a, cap, rfl, hc, hm, hn, hr⟩ := h
  have hlen : (l.take y).length = y := by simp; omega
  have hyb : Byts (l.take y) := fun z hz => hb z (List.mem_of_mem_take hz)
  refine ⟨if cap = 0 then a else a.map (·.add 0), cap, fun W => ?_, hyb, _, _, by rw [hlen], by omega, hm, ?_, ?_⟩
  · rw [run_slice_h (P := Try.prog) (w := W) 27 a l.length cap under_u8s .i64 (y : Int) (by omega) (by omega), size_u8s]
    simp only [Result.andThen, sliced]
    simp
  · intro e
    split at e
    · omega
    · have : a = none := by simpa using e
      exact hn this
  · rcases hr with rfl | ⟨b, off, cur, fr, rfl, hh, hx⟩
    · exact .inl (by simp)
    · refine .inr ⟨b, off, cur, fr, ?_, hh, fun i hi => ?_⟩
      · split
        · rfl
        · rw [Option.map_some, add_zero']
      · rw [hlen] at hi
        rw [hx i (by omega)]
        simp [List.getD_eq_getElem?_getD, hi]
/-- The blocks of a rack. -/
structure RackP (w : World) (rb db : Nat) (sv lv : Nat → Value) (life : Int) (D : RackD) : Prop where
  rblk : w.heap[rb]? = some (.cells #[.pointer (some ⟨db, 0, none⟩), .int .i64 D.armed, .bool D.off, .int .i64 life] 78 (0, 0))
  dblk : w.heap[db]? = some (.cells #[sv 0, lv 0, sv 1, lv 1, sv 2, lv 2] 76 (0, 0))
  safe : ∀ i, i < 3 → BB w (sv i) (D.d i).1
  loose : ∀ i, i < 3 → BB w (lv i) (D.d i).2
def RackS (w : World) (rb db : Nat) (D : RackD) : Prop := ∃ sv lv life, RackP w rb db sv lv life D
def SR (rb db : Nat) (b : Nat) : Prop := b = rb ∨ b = db
structure RackR (w : World) (mb : Nat) (dv : Nat → Value) (D : RackD) : Prop where
  blk : w.heap[mb]? = some (.cells #[dv 0, dv 1, dv 2, .int .i64 ((D.d 0).1.length : Int), .int .i64 ((D.d 1).1.length : Int), .int .i64 ((D.d 2).1.length : Int), .bool D.off, .int .i64 D.armed] 31 (0, 0))
  disk : ∀ i, i < 3 → BB w (dv i) (D.all i)
def RackQ (w : World) (mb : Nat) (D : RackD) : Prop := ∃ dv, RackR w mb dv D
section
variable {w w' : World} {rb db mb : Nat} {sv lv dv : Nat → Value} {life : Int} {D : RackD}
theorem RackP.ne (h : RackP w rb db sv lv life D) : rb ≠ db := fun e => by
  subst e
  have := h.rblk.symm.trans h.dblk
  simp only [Option.some.injEq, Obj.cells.injEq] at this
  have h2 := congrArg Array.size this.1
  simp at h2
theorem RackP.kept (h : RackP w rb db sv lv life D) {S : Nat → Prop} (hf : FrS S w w') (h1 : ¬ S rb) (h2 : ¬ S db) : RackP w' rb db sv lv life D :=
  ⟨(hf.block rb (lt_of_block h.rblk) h1).trans h.rblk, (hf.block db (lt_of_block h.dblk) h2).trans h.dblk, fun i hi => (h.safe i hi).kept hf.ku, fun i hi => (h.loose i hi).kept hf.ku⟩
theorem RackP.below (h : RackP w rb db sv lv life D) (hb : Below w.heap.size w w') : RackP w' rb db sv lv life D := h.kept (FrS.of_below (S := fun _ => False) hb) id id
theorem RackR.kept (h : RackR w mb dv D) {S : Nat → Prop} (hf : FrS S w w') (h1 : ¬ S mb) : RackR w' mb dv D :=
  ⟨(hf.block mb (lt_of_block h.blk) h1).trans h.blk, fun i hi => (h.disk i hi).kept hf.ku⟩
theorem RackR.below (h : RackR w mb dv D) (hb : Below w.heap.size w w') : RackR w' mb dv D := h.kept (FrS.of_below (S := fun _ => False) hb) id
theorem RackP.ku1 (h : RackP w rb db sv lv life D) (o : Nat) (v : Value) : FrS (SR rb db) w (w.setCell ⟨rb, o, none⟩ v) := FrS.set (.inl rfl) h.rblk (by decide)
theorem RackP.ku2 (h : RackP w rb db sv lv life D) (o : Nat) (v : Value) : FrS (SR rb db) w (w.setCell ⟨db, o, none⟩ v) := FrS.set (.inr rfl) h.dblk (by decide)
theorem RackR.ku (h : RackR w mb dv D) (o : Nat) (v : Value) : FrS (fun b => b = mb) w (w.setCell ⟨mb, o, none⟩ v) := FrS.set rfl h.blk (by decide)
theorem RackP.armed (h : RackP w rb db sv lv life D) (a : Int) : RackP (w.setCell ⟨rb, 1, none⟩ (.int .i64 a)) rb db sv lv life { D with armed := a } :=
  ⟨by rw [heap_setCell_same w rb 1 _ _ _ h.rblk]; rfl, (heap_setCell_other w _ _ _ (fun e => h.ne e.symm)).trans h.dblk, fun i hi => (h.safe i hi).kept (h.ku1 _ _).ku, fun i hi => (h.loose i hi).kept (h.ku1 _ _).ku⟩
theorem RackP.turn (h : RackP w rb db sv lv life D) (b : Bool) : RackP (w.setCell ⟨rb, 2, none⟩ (.bool b)) rb db sv lv life { D with off := b } :=
  ⟨by rw [heap_setCell_same w rb 2 _ _ _ h.rblk]; rfl, (heap_setCell_other w _ _ _ (fun e => h.ne e.symm)).trans h.dblk, fun i hi => (h.safe i hi).kept (h.ku1 _ _).ku, fun i hi => (h.loose i hi).kept (h.ku1 _ _).ku⟩
theorem RackP.live (h : RackP w rb db sv lv life D) (n : Int) : RackP (w.setCell ⟨rb, 3, none⟩ (.int .i64 n)) rb db sv lv n D :=
  ⟨by rw [heap_setCell_same w rb 3 _ _ _ h.rblk]; rfl, (heap_setCell_other w _ _ _ (fun e => h.ne e.symm)).trans h.dblk, fun i hi => (h.safe i hi).kept (h.ku1 _ _).ku, fun i hi => (h.loose i hi).kept (h.ku1 _ _).ku⟩
def put3 (f : Nat → Value) (i : Nat) (v : Value) : Nat → Value := fun j => if j = i then v else f j
theorem i3 {i : Nat} (h : i < 3) : i = 0 ∨ i = 1 ∨ i = 2 := by omega
theorem RackP.setSafe (h : RackP w rb db sv lv life D) {i : Nat} (hi : i < 3) {v : Value} {l : List Int} (hv : BB w v l) : RackP (w.setCell ⟨db, 2 * i, none⟩ v) rb db (put3 sv i v) lv life (D.set i (l, (D.d i).2)) := by
  have hk := (h.ku2 (2 * i) v).ku
  refine ⟨(heap_setCell_other w _ _ _ h.ne).trans h.rblk, ?_, fun j hj => ?_, fun j hj => ?_⟩
  · rw [heap_setCell_same w db _ _ _ _ h.dblk]
    rcases i3 hi with rfl | rfl | rfl <;> rfl
  · unfold put3 RackD.set
    by_cases e : j = i
    · subst e; simp only [if_true]; exact hv.kept hk
    · simp only [if_neg e]; exact (h.safe j hj).kept hk
  · unfold RackD.set
    by_cases e : j = i
    · subst e; simp only [if_true]; exact (h.loose j hj).kept hk
    · simp only [if_neg e]; exact (h.loose j hj).kept hk
theorem RackP.setLoose (h : RackP w rb db sv lv life D) {i : Nat} (hi : i < 3) {v : Value} {l : List Int} (hv : BB w v l) : RackP (w.setCell ⟨db, 2 * i + 1, none⟩ v) rb db sv (put3 lv i v) life (D.set i ((D.d i).1, l)) := by
  have hk := (h.ku2 (2 * i + 1) v).ku
  refine ⟨(heap_setCell_other w _ _ _ h.ne).trans h.rblk, ?_, fun j hj => ?_, fun j hj => ?_⟩
  · rw [heap_setCell_same w db _ _ _ _ h.dblk]
    rcases i3 hi with rfl | rfl | rfl <;> rfl
  · unfold RackD.set
    by_cases e : j = i
    · subst e; simp only [if_true]; exact (h.safe j hj).kept hk
    · simp only [if_neg e]; exact (h.safe j hj).kept hk
  · unfold put3 RackD.set
    by_cases e : j = i
    · subst e; simp only [if_true]; exact hv.kept hk
    · simp only [if_neg e]; exact (h.loose j hj).kept hk
theorem RackD.set_set (D : RackD) (i : Nat) (x y : List Int × List Int) : (D.set i x).set i y = D.set i y := by
  unfold RackD.set; congr 1; funext j; by_cases e : j = i <;> simp [e]
/-- The cells of a rack. -/
theorem RackP.cells (h : RackP w rb db sv lv life D) : w.cell? ⟨rb, 0, none⟩ = some (.pointer (some ⟨db, 0, none⟩)) ∧ w.cell? ⟨rb, 1, none⟩ = some (.int .i64 D.armed) ∧ w.cell? ⟨rb, 2, none⟩ = some (.bool D.off) ∧ w.cell? ⟨rb, 3, none⟩ = some (.int .i64 life) :=
  ⟨cell_of_row w rb 0 _ _ _ h.rblk, cell_of_row w rb 1 _ _ _ h.rblk, cell_of_row w rb 2 _ _ _ h.rblk, cell_of_row w rb 3 _ _ _ h.rblk⟩
theorem RackP.free (h : RackP w rb db sv lv life D) (o : Nat) : w.frozen? ⟨rb, o, none⟩ = false ∧ w.frozen? ⟨db, o, none⟩ = false := ⟨frozen_of_row w rb o _ _ h.rblk, frozen_of_row w db o _ _ h.dblk⟩
theorem RackP.dcell (h : RackP w rb db sv lv life D) {i : Nat} (hi : i < 3) : w.cell? ⟨db, 2 * i, none⟩ = some (sv i) ∧ w.cell? ⟨db, 2 * i + 1, none⟩ = some (lv i) := by
  rw [cell_of_row w db _ _ _ _ h.dblk, cell_of_row w db _ _ _ _ h.dblk]
  rcases i3 hi with rfl | rfl | rfl <;> exact ⟨rfl, rfl⟩
theorem RackP.lt (h : RackP w rb db sv lv life D) : rb < w.heap.size ∧ db < w.heap.size := ⟨lt_of_block h.rblk, lt_of_block h.dblk⟩
theorem ixd (db i : Nat) (hi : i < 3) (W : World) : (Instr.indexAt 76 (.pointer (some ⟨db, 0, none⟩)) (.int .i64 (i : Int))).run Try.prog W = .ok (.pointer (some ⟨db, 2 * i, none⟩)) W := by
  rcases i3 hi with rfl | rfl | rfl <;> go_simp
theorem ixm (mb i : Nat) (hi : i < 3) (W : World) : (Instr.indexAt 28 (.pointer (some ⟨mb, 0, none⟩)) (.int .i64 (i : Int))).run Try.prog W = .ok (.pointer (some ⟨mb, i, none⟩)) W := by
  rcases i3 hi with rfl | rfl | rfl <;> go_simp
theorem ixn (mb o i : Nat) (hi : i < 3) (W : World) : (Instr.indexAt 29 (.pointer (some ⟨mb, o, none⟩)) (.int .i64 (i : Int))).run Try.prog W = .ok (.pointer (some ⟨mb, o + i, none⟩)) W := by
  rcases i3 hi with rfl | rfl | rfl <;> go_simp
theorem RackR.cells (h : RackR w mb dv D) : w.cell? ⟨mb, 6, none⟩ = some (.bool D.off) ∧ w.cell? ⟨mb, 7, none⟩ = some (.int .i64 D.armed) := ⟨cell_of_row w mb 6 _ _ _ h.blk, cell_of_row w mb 7 _ _ _ h.blk⟩
theorem RackR.free (h : RackR w mb dv D) (o : Nat) : w.frozen? ⟨mb, o, none⟩ = false := frozen_of_row w mb o _ _ h.blk
theorem RackR.lt (h : RackR w mb dv D) : mb < w.heap.size := lt_of_block h.blk
theorem RackR.dcell (h : RackR w mb dv D) {i : Nat} (hi : i < 3) : w.cell? ⟨mb, i, none⟩ = some (dv i) ∧ w.cell? ⟨mb, 3 + i, none⟩ = some (.int .i64 ((D.d i).1.length : Int)) := by
  rw [cell_of_row w mb _ _ _ _ h.blk, cell_of_row w mb _ _ _ _ h.blk]
  rcases i3 hi with rfl | rfl | rfl <;> exact ⟨rfl, rfl⟩
theorem RackR.armed (h : RackR w mb dv D) (a : Int) : RackR (w.setCell ⟨mb, 7, none⟩ (.int .i64 a)) mb dv { D with armed := a } :=
  ⟨by rw [heap_setCell_same w mb 7 _ _ _ h.blk]; rfl, fun i hi => (h.disk i hi).kept (h.ku _ _).ku⟩
theorem RackR.turn (h : RackR w mb dv D) (b : Bool) : RackR (w.setCell ⟨mb, 6, none⟩ (.bool b)) mb dv { D with off := b } :=
  ⟨by rw [heap_setCell_same w mb 6 _ _ _ h.blk]; rfl, fun i hi => (h.disk i hi).kept (h.ku _ _).ku⟩
/-- Bytes and their safe number, both stored. -/
theorem RackR.disk2 (h : RackR w mb dv D) {i : Nat} (hi : i < 3) {v : Value} {s l : List Int} (hv : BB w v (s ++ l)) : RackR ((w.setCell ⟨mb, i, none⟩ v).setCell ⟨mb, 3 + i, none⟩ (.int .i64 (s.length : Int))) mb (put3 dv i v) (D.set i (s, l)) := by
  have hb1 : (w.setCell ⟨mb, i, none⟩ v).heap[mb]? = _ := heap_setCell_same w mb i _ _ v h.blk
  have hk : KU w ((w.setCell ⟨mb, i, none⟩ v).setCell ⟨mb, 3 + i, none⟩ (.int .i64 (s.length : Int))) := (h.ku i v).ku.trans (FrS.set (S := fun b => b = mb) rfl hb1 (by decide)).ku
  refine ⟨?_, fun j hj => ?_⟩
  · rw [heap_setCell_same _ mb _ _ _ _ hb1]
    rcases i3 hi with rfl | rfl | rfl <;> rfl
  · unfold put3 RackD.all RackD.set
    by_cases e : j = i
    · subst e; simp only [if_true]; exact hv.kept hk
    · simp only [if_neg e]; exact (h.disk j hj).kept hk
theorem RackR.disk1 (h : RackR w mb dv D) {i : Nat} (hi : i < 3) {v : Value} {l : List Int} (hv : BB w v ((D.d i).1 ++ l)) : RackR (w.setCell ⟨mb, i, none⟩ v) mb (put3 dv i v) (D.set i ((D.d i).1, l)) := by
  have hk := (h.ku i v).ku
  refine ⟨?_, fun j hj => ?_⟩
  · rw [heap_setCell_same _ mb _ _ _ _ h.blk]
    rcases i3 hi with rfl | rfl | rfl <;> rfl
  · unfold put3 RackD.all RackD.set
    by_cases e : j = i
    · subst e; simp only [if_true]; exact hv.kept hk
    · simp only [if_neg e]; exact (h.disk j hj).kept hk
theorem RackR.safe1 (h : RackR w mb dv D) {i : Nat} (hi : i < 3) : RackR (w.setCell ⟨mb, 3 + i, none⟩ (.int .i64 ((D.all i).length : Int))) mb dv (D.set i (D.all i, [])) := by
  have hk := (h.ku (3 + i) (.int .i64 ((D.all i).length : Int))).ku
  refine ⟨?_, fun j hj => ?_⟩
  · rw [heap_setCell_same _ mb _ _ _ _ h.blk]
    rcases i3 hi with rfl | rfl | rfl <;> rfl
  · unfold RackD.set
    by_cases e : j = i
    · subst e
      have := (h.disk j hj).kept hk
      unfold RackD.all at this ⊢
      simpa using this
    · have := (h.disk j hj).kept hk
      unfold RackD.all at this ⊢
      simpa [e] using this
theorem askD_off (h : D.off = true) (disk : Int) : askD D disk = 101 := by unfold askD; rw [h]; rfl
theorem askD_arg (h : D.off = false) {disk : Int} (hd : disk < 0 ∨ 3 ≤ disk) : askD D disk = 2 := by unfold askD; rw [h, if_neg (by simp), if_pos hd]
theorem askD_ok (h : D.off = false) {disk : Int} (hd : ¬ (disk < 0 ∨ 3 ≤ disk)) : askD D disk = 0 := by unfold askD; rw [h, if_neg (by simp), if_neg hd]
end
end Go.Proofs.Ytlljfbakpljenaa
