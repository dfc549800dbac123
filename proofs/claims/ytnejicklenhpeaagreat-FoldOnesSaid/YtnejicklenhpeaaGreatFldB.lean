/- A great array that is cut: blocks, homes, ranks; fold.cut: its walk. Conditions: none. -/
import Derived.Test.YtnejicklenhpeaaGreatFldA
import Derived.Test.YtnejicklenhpeaaGreatCelI
namespace Go.Proofs.YtnejicklenhpeaaGreat
open Go.RowKit Go.Lib
set_option linter.unusedVariables false
def blkC (f c : Int × Int) : Int × Int := (c.1 / f.1, c.2 / f.2)
def homC (f c : Int × Int) : Int × Int := (c.1 % f.1, c.2 % f.2)
def blocksL (r : RecD) (u : P3) (f : Int × Int) : List (Int × Int) := sortC ((cellsL r u).map (blkC f))
def homesL (r : RecD) (u : P3) (f : Int × Int) : List (Int × Int) := sortC ((cellsL r u).map (homC f))
def cutE (r : RecD) (u : P3) (f : Int × Int) : Int := if askE r u = 0 then (if eachB f.1 f.2 1 8 = true then 0 else 2) else askE r u
/-- The rank that the last of the first k blocks gives. -/
def rankTo (B : List (Int × Int)) : Nat → (Int × Int) → Option Value
  | 0 => fun _ => none
  | k + 1 => fun x => if B[k]? = some x then some (.int .i64 (k : Int)) else rankTo B k x
def posTo (B : List (Int × Int)) : Nat → (Int × Int) → Nat
  | 0 => fun _ => 0
  | k + 1 => fun x => if B[k]? = some x then k else posTo B k x
theorem rankTo_get (B : List (Int × Int)) (x : Int × Int) : ∀ k, (rankTo B k x).getD (.int .i64 0) = .int .i64 (posTo B k x : Int)
  | 0 => rfl
  | k + 1 => by
    unfold rankTo posTo
    by_cases h : B[k]? = some x
    · simp [h]
    · simp only [if_neg h]; exact rankTo_get B x k
theorem rankTo_succ (B : List (Int × Int)) (k : Nat) (hk : k < B.length) : rankTo B (k + 1) = fun x => if x = B[k] then some (.int .i64 (k : Int)) else rankTo B k x := by
  funext x
  show (if B[k]? = some x then _ else _) = _
  rw [List.getElem?_eq_getElem hk]
  by_cases h : x = B[k]
  · subst h; simp
  · rw [if_neg h, if_neg (fun e => h (Option.some.inj e).symm)]
abbrev RankM (w : World) (b n : Nat) (B : List (Int × Int)) (k : Nat) : Prop := MapV Tryz.prog 31 ceV w b n (rankTo B k)
set_option maxRecDepth 100000 in
theorem RankM.look {w : World} {b n k : Nat} {B : List (Int × Int)} (h : RankM w b n B k) (a : Int × Int) (ha : wf2 a) (V : World) (hV : Below w.heap.size w V) :
    (Instr.lookup 90 (.map (some b)) (ceV a) false).run Tryz.prog V = .ok (.int .i64 (posTo B k a : Int)) V := by
  obtain ⟨kl, hk⟩ := key_cel a ha
  have := MapV.look (h.kept hV) (Maps.Keyed.of_law law_cel) (t := 90) Tryz.underlying90 (zv_int V) hk
  rw [this, rankTo_get]
set_option maxRecDepth 100000 in
theorem RankM.step {w : World} {b n k : Nat} {B : List (Int × Int)} (h : RankM w b n B k) (hn : n < 1000000) (hk : k < B.length) (ha : wf2 B[k]) :
    ∃ w1, (Instr.mapUpdate 90 (.map (some b)) (ceV B[k]) (.int .i64 (k : Int))).run Tryz.prog w = .ok () w1 ∧ RankM w1 b (n + 1) B (k + 1) ∧ w.grownBy w1 (some b) := by
  obtain ⟨kl, hkl⟩ := key_cel B[k] ha
  obtain ⟨w1, hr, hm, hg⟩ := MapV.put h (Maps.Keyed.of_law law_cel) (t := 90) Tryz.underlying90 ceV_inj hn hkl (.int .i64 (k : Int))
  exact ⟨w1, hr, by unfold RankM; rw [rankTo_succ B k hk]; exact hm, hg⟩
theorem OwnOf.otherC {α : Type} {enc : α → List Value} {base sz : Nat} {w : World} {e : TypeId} {v : Value} {l : List α} (h : OwnOf w base e sz enc v l) {g : Nat} (hg : v.ownBlock ≠ some g) (o : Nat) (x : Value) : OwnOf (w.setCell ⟨g, o, none⟩ x) base e sz enc v l := by
  refine ⟨h.1, h.2.imp id ?_⟩
  rintro ⟨b, cap, cur, rfl, hbg, hb, r⟩
  have hne : b ≠ g := fun e => hg (by rw [e]; rfl)
  exact ⟨b, cap, cur, rfl, hbg, (heap_setCell_other _ _ _ _ (fun e => hne e)).trans hb, r⟩
/-- A sheet that is being made. -/
structure SheetM (W : World) (sb mb : Nat) (f : Int × Int) (vb vh : Value) (B H : List (Int × Int)) : Prop where
  blk : W.heap[sb]? = some (.cells #[.int .i64 f.1, .int .i64 f.2, .map (some mb), vb, vh] 92 (0, 0))
  mlt : mb < sb
  map : MapV Tryz.prog 31 ceV W mb 0 (fun _ => none)
  ob : OwnOf W (sb + 1) 31 2 encC vb B
  oh : OwnOf W (sb + 1) 31 2 encC vh H
  ne : ∀ g, vb.ownBlock = some g → vh.ownBlock ≠ some g
  nb : B = [] → vb = .slice none 0 0
  nh : H = [] → vh = .slice none 0 0
section
variable {W W' : World} {sb mb : Nat} {f : Int × Int} {vb vh : Value} {B H : List (Int × Int)}
theorem SheetM.below (h : SheetM W sb mb f vb vh B H) (hb : Below W.heap.size W W') : SheetM W' sb mb f vb vh B H :=
  ⟨(hb.block sb (lt_of_block h.blk)).trans h.blk, h.mlt, h.map.kept hb, h.ob.kept hb, h.oh.kept hb, h.ne, h.nb, h.nh⟩
theorem SheetM.cells (h : SheetM W sb mb f vb vh B H) : W.cell? ⟨sb, 0, none⟩ = some (.int .i64 f.1) ∧ W.cell? ⟨sb, 1, none⟩ = some (.int .i64 f.2) ∧ W.cell? ⟨sb, 2, none⟩ = some (.map (some mb)) ∧ W.cell? ⟨sb, 3, none⟩ = some vb ∧ W.cell? ⟨sb, 4, none⟩ = some vh :=
  ⟨cell_of_row W sb 0 _ _ _ h.blk, cell_of_row W sb 1 _ _ _ h.blk, cell_of_row W sb 2 _ _ _ h.blk, cell_of_row W sb 3 _ _ _ h.blk, cell_of_row W sb 4 _ _ _ h.blk⟩
theorem SheetM.free (h : SheetM W sb mb f vb vh B H) (o : Nat) : W.frozen? ⟨sb, o, none⟩ = false := frozen_of_row W sb o _ _ h.blk
theorem SheetM.lt (h : SheetM W sb mb f vb vh B H) : sb < W.heap.size := lt_of_block h.blk
theorem own_ge {v : Value} {lo : Nat} {l : List (Int × Int)} (h : OwnOf W lo 31 2 encC v l) {g : Nat} (hg : v.ownBlock = some g) : lo ≤ g ∧ g < W.heap.size := h.lt g hg
theorem SheetM.pushB (h : SheetM W sb mb f vb vh B H) {g c : Nat} {b : Int × Int} (hg : W.grownBy W' vb.ownBlock) (ho : OwnOf W' (sb + 1) 31 2 encC (.slice (some ⟨g, 0, none⟩) (B.length + 1) c) (B ++ [b])) (hat : vb.ownBlock = some g ∨ W.heap.size ≤ g) :
    SheetM (W'.setCell ⟨sb, 3, none⟩ (.slice (some ⟨g, 0, none⟩) (B.length + 1) c)) sb mb f (.slice (some ⟨g, 0, none⟩) (B.length + 1) c) vh (B ++ [b]) H := by
  have hs := h.lt
  have hgl : sb + 1 ≤ g := (ho.lt g rfl).1
  have n1 : vb.ownBlock ≠ some sb := fun e => by have := (h.ob.lt _ e).1; omega
  have n2 : vb.ownBlock ≠ some mb := fun e => by have := (h.ob.lt _ e).1; have := h.mlt; omega
  have hblk := (hg.block sb hs (fun e => n1 e.symm)).trans h.blk
  have hoh : OwnOf W' (sb + 1) 31 2 encC vh H := h.oh.grown hg (by
    cases hv : vh.ownBlock with
    | none => exact .inr rfl
    | some x => exact .inl (fun e => h.ne x e.symm hv))
  refine ⟨?_, h.mlt, ?_, ho.otherC (fun e => by have e2 : g = sb := Option.some.inj e; omega) _ _, hoh.otherC (fun e => by have := (hoh.lt _ e).1; omega) _ _, fun x hx hy => ?_, fun e => by simp at e, h.nh⟩
  · rw [heap_setCell_same W' sb 3 _ _ _ hblk]; rfl
  · exact (h.map.grown hg (fun e => n2 e.symm)).of_block (heap_setCell_other _ _ _ _ (by have := h.mlt; simp only; omega))
  · obtain rfl : g = x := by cases hx; rfl
    rcases hat with e | e
    · exact h.ne g e hy
    · have := (show g < W.heap.size from (h.oh.lt g hy).2); omega
theorem SheetM.pushH (h : SheetM W sb mb f vb vh B H) {g c : Nat} {b : Int × Int} (hg : W.grownBy W' vh.ownBlock) (ho : OwnOf W' (sb + 1) 31 2 encC (.slice (some ⟨g, 0, none⟩) (H.length + 1) c) (H ++ [b])) (hat : vh.ownBlock = some g ∨ W.heap.size ≤ g) :
    SheetM (W'.setCell ⟨sb, 4, none⟩ (.slice (some ⟨g, 0, none⟩) (H.length + 1) c)) sb mb f vb (.slice (some ⟨g, 0, none⟩) (H.length + 1) c) B (H ++ [b]) := by
  have hs := h.lt
  have hgl : sb + 1 ≤ g := (ho.lt g rfl).1
  have n1 : vh.ownBlock ≠ some sb := fun e => by have := (h.oh.lt _ e).1; omega
  have n2 : vh.ownBlock ≠ some mb := fun e => by have := (h.oh.lt _ e).1; have := h.mlt; omega
  have hblk := (hg.block sb hs (fun e => n1 e.symm)).trans h.blk
  have hob : OwnOf W' (sb + 1) 31 2 encC vb B := h.ob.grown hg (by
    cases hv : vb.ownBlock with
    | none => exact .inr rfl
    | some x => exact .inl (fun e => h.ne x hv e.symm))
  refine ⟨?_, h.mlt, ?_, hob.otherC (fun e => by have := (hob.lt _ e).1; omega) _ _, ho.otherC (fun e => by have e2 : g = sb := Option.some.inj e; omega) _ _, fun x hx hy => ?_, h.nb, fun e => by simp at e⟩
  · rw [heap_setCell_same W' sb 4 _ _ _ hblk]; rfl
  · exact (h.map.grown hg (fun e => n2 e.symm)).of_block (heap_setCell_other _ _ _ _ (by have := h.mlt; simp only; omega))
  · obtain rfl : g = x := by cases hy; rfl
    rcases hat with e | e
    · exact h.ne g hx e
    · have := (show g < W.heap.size from (h.ob.lt g hx).2); omega
theorem SheetM.stayB (h : SheetM W sb mb f vb vh B H) (hg : W.grownBy W' vb.ownBlock) (o : Nat) : W'.cell? ⟨sb, o, none⟩ = W.cell? ⟨sb, o, none⟩ ∧ W'.frozen? ⟨sb, o, none⟩ = W.frozen? ⟨sb, o, none⟩ :=
  have e := hg.block sb h.lt (fun e => by have := (h.ob.lt _ e.symm).1; omega)
  ⟨World.cell?_of_block (a := ⟨sb, o, none⟩) e, World.frozen?_of_block (a := ⟨sb, o, none⟩) e⟩
theorem SheetM.stayH (h : SheetM W sb mb f vb vh B H) (hg : W.grownBy W' vh.ownBlock) (o : Nat) : W'.cell? ⟨sb, o, none⟩ = W.cell? ⟨sb, o, none⟩ ∧ W'.frozen? ⟨sb, o, none⟩ = W.frozen? ⟨sb, o, none⟩ :=
  have e := hg.block sb h.lt (fun e => by have := (h.oh.lt _ e.symm).1; omega)
  ⟨World.cell?_of_block (a := ⟨sb, o, none⟩) e, World.frozen?_of_block (a := ⟨sb, o, none⟩) e⟩
theorem stayO {row : Option Nat} {b o p : Nat} {x : Value} (hg : W.grownBy W' row) (hb : b < W.heap.size) (h1 : row ≠ some b) (h2 : b ≠ sb) : (W'.setCell ⟨sb, o, none⟩ x).cell? ⟨b, p, none⟩ = W.cell? ⟨b, p, none⟩ :=
  World.cell?_of_block (a := ⟨b, p, none⟩) ((heap_setCell_other W' ⟨sb, o, none⟩ b x h2).trans (hg.block b hb (fun e => h1 e.symm)))
theorem SheetM.growB (h : SheetM W sb mb f vb vh B H) {N : Nat} (hN : N ≤ sb) (hg : W.grownBy W' vb.ownBlock) (x : Value) : Below N W (W'.setCell ⟨sb, 3, none⟩ x) :=
  ((Below.refl N W).grown hg (by have := h.lt; omega) (fun r e => by have := (h.ob.lt r e).1; omega)).setCell (p := ⟨sb, 3, none⟩) hN x
theorem SheetM.growH (h : SheetM W sb mb f vb vh B H) {N : Nat} (hN : N ≤ sb) (hg : W.grownBy W' vh.ownBlock) (x : Value) : Below N W (W'.setCell ⟨sb, 4, none⟩ x) :=
  ((Below.refl N W).grown hg (by have := h.lt; omega) (fun r e => by have := (h.oh.lt r e).1; omega)).setCell (p := ⟨sb, 4, none⟩) hN x
theorem SheetM.sorted (h : SheetM W sb mb f vb vh B H) {B2 : List (Int × Int)} (hg : W.grownBy W' vb.ownBlock) (ho : OwnOf W' (sb + 1) 31 2 encC vb B2) (hp : B2.Perm B) : SheetM W' sb mb f vb vh B2 H := by
  have n1 : vb.ownBlock ≠ some sb := fun e => by have := (h.ob.lt _ e).1; omega
  have n2 : vb.ownBlock ≠ some mb := fun e => by have := (h.ob.lt _ e).1; have := h.mlt; omega
  exact ⟨(hg.block sb h.lt (fun e => n1 e.symm)).trans h.blk, h.mlt, h.map.grown hg (fun e => n2 e.symm), ho, h.oh.grown hg (by
    cases hv : vh.ownBlock with
    | none => exact .inr rfl
    | some x => exact .inl (fun e => h.ne x e.symm hv)), h.ne, fun e => h.nb (by subst e; exact List.eq_nil_of_length_eq_zero (by simpa using hp.length_eq.symm)), h.nh⟩
/-- A sheet whose blocks are done. -/
structure SheetN (W : World) (sb mb : Nat) (f : Int × Int) (vb vh : Value) (L H : List (Int × Int)) : Prop where
  blk : W.heap[sb]? = some (.cells #[.int .i64 f.1, .int .i64 f.2, .map (some mb), vb, vh] 92 (0, 0))
  mlt : mb < sb
  map : MapV Tryz.prog 31 ceV W mb 0 (fun _ => none)
  sl : SlOf W W.heap.size 2 encC vb L
  ob : ∀ g, vb.ownBlock = some g → sb + 1 ≤ g
  oh : OwnOf W (sb + 1) 31 2 encC vh H
  ne : ∀ g, vb.ownBlock = some g → vh.ownBlock ≠ some g
  nh : H = [] → vh = .slice none 0 0
/-- A sheet whose blocks and homes are done, and of whose ranks k are there. -/
structure SheetF (W : World) (sb mb n : Nat) (f : Int × Int) (vb vh : Value) (L M : List (Int × Int)) (k : Nat) : Prop where
  blk : W.heap[sb]? = some (.cells #[.int .i64 f.1, .int .i64 f.2, .map (some mb), vb, vh] 92 (0, 0))
  mlt : mb < sb
  map : RankM W mb n L k
  sl : SlOf W W.heap.size 2 encC vb L
  sh : SlOf W W.heap.size 2 encC vh M
  ob : ∀ g, vb.ownBlock = some g → sb + 1 ≤ g
  oh : ∀ g, vh.ownBlock = some g → sb + 1 ≤ g
theorem slOf_grown {row : Option Nat} {v : Value} {l : List (Int × Int)} (h : SlOf W W.heap.size 2 encC v l) (hg : W.grownBy W' row) (hne : ∀ g, v.ownBlock = some g → row ≠ some g) : SlOf W' W'.heap.size 2 encC v l := by
  obtain ⟨a, cap, rfl, hl, hc, hm, h0, hr⟩ := h
  refine ⟨a, cap, rfl, hl, hc, hm, h0, hr.imp id ?_⟩
  rintro ⟨b, off, rfl, hlt, hx⟩
  exact ⟨b, off, rfl, Nat.lt_of_lt_of_le hlt hg.size, fun i hi => (World.cell?_of_block (a := ⟨b, off + i, none⟩) (hg.block b hlt (fun e => hne b rfl e.symm))).trans (hx i hi)⟩
theorem slOf_set {v x : Value} {o : Nat} {l : List (Int × Int)} (h : SlOf W W.heap.size 2 encC v l) (hne : ∀ g, v.ownBlock = some g → sb + 1 ≤ g) : SlOf (W.setCell ⟨sb, o, none⟩ x) (W.setCell ⟨sb, o, none⟩ x).heap.size 2 encC v l := by
  obtain ⟨a, cap, rfl, hl, hc, hm, h0, hr⟩ := h
  refine ⟨a, cap, rfl, hl, hc, hm, h0, hr.imp id ?_⟩
  rintro ⟨b, off, rfl, hlt, hx⟩
  have := hne b rfl
  exact ⟨b, off, rfl, by simpa using hlt, fun i hi => (World.cell?_of_block (a := ⟨b, off + i, none⟩) (heap_setCell_other W ⟨sb, o, none⟩ b x (by show b ≠ sb; omega))).trans (hx i hi)⟩
theorem SheetM.comp (h : SheetM W sb mb f vb vh B H) {L : List (Int × Int)} {v' : Value} (hg : W.grownBy W' vb.ownBlock) (hs : SlOf W' W'.heap.size 2 encC v' L) (hv : v'.ownBlock = vb.ownBlock) : SheetN (W'.setCell ⟨sb, 3, none⟩ v') sb mb f v' vh L H := by
  have n1 : vb.ownBlock ≠ some sb := fun e => by have := (h.ob.lt _ e).1; omega
  have n2 : vb.ownBlock ≠ some mb := fun e => by have := (h.ob.lt _ e).1; have := h.mlt; omega
  have hblk := (hg.block sb h.lt (fun e => n1 e.symm)).trans h.blk
  have hoh : OwnOf W' (sb + 1) 31 2 encC vh H := h.oh.grown hg (by
    cases hv : vh.ownBlock with
    | none => exact .inr rfl
    | some x => exact .inl (fun e => h.ne x e.symm hv))
  refine ⟨?_, h.mlt, ?_, slOf_set hs (fun g e => (h.ob.lt g (hv ▸ e)).1), fun g e => (h.ob.lt g (hv ▸ e)).1, hoh.otherC (fun e => by have := (hoh.lt _ e).1; omega) _ _, fun g e => h.ne g (hv ▸ e), h.nh⟩
  · rw [heap_setCell_same W' sb 3 _ _ _ hblk]; rfl
  · exact (h.map.grown hg (fun e => n2 e.symm)).of_block (heap_setCell_other _ _ _ _ (by have := h.mlt; simp only; omega))
variable {L M : List (Int × Int)} {n k : Nat}
theorem SheetN.lt (h : SheetN W sb mb f vb vh L H) : sb < W.heap.size := lt_of_block h.blk
theorem SheetN.below (h : SheetN W sb mb f vb vh L H) (hb : Below W.heap.size W W') : SheetN W' sb mb f vb vh L H :=
  ⟨(hb.block sb h.lt).trans h.blk, h.mlt, h.map.kept hb, h.sl.below hb, h.ob, h.oh.kept hb, h.ne, h.nh⟩
theorem SheetN.sorted (h : SheetN W sb mb f vb vh L H) {H2 : List (Int × Int)} (hg : W.grownBy W' vh.ownBlock) (ho : OwnOf W' (sb + 1) 31 2 encC vh H2) (hp : H2.Perm H) : SheetN W' sb mb f vb vh L H2 := by
  have n1 : vh.ownBlock ≠ some sb := fun e => by have := (h.oh.lt _ e).1; omega
  have n2 : vh.ownBlock ≠ some mb := fun e => by have := (h.oh.lt _ e).1; have := h.mlt; omega
  exact ⟨(hg.block sb h.lt (fun e => n1 e.symm)).trans h.blk, h.mlt, h.map.grown hg (fun e => n2 e.symm), slOf_grown h.sl hg (fun g e => h.ne g e), h.ob, ho, h.ne, fun e => h.nh (by subst e; exact List.eq_nil_of_length_eq_zero (by simpa using hp.length_eq.symm))⟩
theorem SheetN.comp (h : SheetN W sb mb f vb vh L H) {M : List (Int × Int)} {v' : Value} (hg : W.grownBy W' vh.ownBlock) (hs : SlOf W' W'.heap.size 2 encC v' M) (hv : v'.ownBlock = vh.ownBlock) : SheetF (W'.setCell ⟨sb, 4, none⟩ v') sb mb 0 f vb v' L M 0 := by
  have n1 : vh.ownBlock ≠ some sb := fun e => by have := (h.oh.lt _ e).1; omega
  have n2 : vh.ownBlock ≠ some mb := fun e => by have := (h.oh.lt _ e).1; have := h.mlt; omega
  have hblk := (hg.block sb h.lt (fun e => n1 e.symm)).trans h.blk
  refine ⟨?_, h.mlt, ?_, slOf_set (slOf_grown h.sl hg (fun g e => h.ne g e)) h.ob, slOf_set hs (fun g e => (h.oh.lt g (hv ▸ e)).1), h.ob, fun g e => (h.oh.lt g (hv ▸ e)).1⟩
  · rw [heap_setCell_same W' sb 4 _ _ _ hblk]; rfl
  · exact (h.map.grown hg (fun e => n2 e.symm)).of_block (heap_setCell_other _ _ _ _ (by have := h.mlt; simp only; omega))
theorem SheetF.lt (h : SheetF W sb mb n f vb vh L M k) : sb < W.heap.size := lt_of_block h.blk
theorem SheetF.below (h : SheetF W sb mb n f vb vh L M k) (hb : Below W.heap.size W W') : SheetF W' sb mb n f vb vh L M k :=
  ⟨(hb.block sb h.lt).trans h.blk, h.mlt, h.map.kept hb, h.sl.below hb, h.sh.below hb, h.ob, h.oh⟩
theorem SheetF.rank (h : SheetF W sb mb n f vb vh L M k) {n' k' : Nat} (hm : RankM W' mb n' L k') (hg : W.grownBy W' (some mb)) : SheetF W' sb mb n' f vb vh L M k' :=
  ⟨(hg.block sb h.lt (fun e => by have := h.mlt; simp only [Option.some.injEq] at e; omega)).trans h.blk, h.mlt, hm, slOf_grown h.sl hg (fun g e e2 => by have := h.ob g e; have := h.mlt; simp only [Option.some.injEq] at e2; omega), slOf_grown h.sh hg (fun g e e2 => by have := h.oh g e; have := h.mlt; simp only [Option.some.injEq] at e2; omega), h.ob, h.oh⟩
end
end Go.Proofs.YtnejicklenhpeaaGreat
