/- Slices of bytes as lists of numbers; the walks of forge.parts and forge.Parts. -/
import Derived.Test.YtlljfbakpljenaaByteB
namespace Go.Proofs.Ytlljfbakpljenaa
open Go.RowKit
/-- In world w the slice v reads the bytes l; they lie below block B. -/
def BSl (w : World) (B : Nat) (v : Value) (l : List Int) : Prop := Sl w B 1 v l.length (vals l) ∧ Byts l
theorem BSl.kept {w w' : World} {B : Nat} {v : Value} {l : List Int} (h : BSl w B v l) (hb : Below B w w') : BSl w' B v l := ⟨Sl.kept h.1 hb, h.2⟩
theorem BSl.mono {w : World} {B B' : Nat} {v : Value} {l : List Int} (h : BSl w B v l) (hB : B ≤ B') : BSl w B' v l := ⟨Sl.mono h.1 hB, h.2⟩
theorem BSl.of_own {w : World} {base : Nat} {e : TypeId} {v : Value} {n : Nat} {l : List Int} (h : w.ownsRow base e 1 v n (vals l)) (hy : Byts l) : BSl w w.heap.size v l := by
  have hn : n = l.length := by have := h.1; simp [vals] at this; omega
  subst hn; exact ⟨Sl.of_own h, hy⟩
theorem Byts.nil : Byts [] := fun z hz => by simp at hz
theorem Byts.snoc {l : List Int} {z : Int} (h : Byts l) (hz : 0 ≤ z ∧ z < 256) : Byts (l ++ [z]) := by
  intro x hx
  rcases List.mem_append.1 hx with hx | hx
  · exact h x hx
  · simp at hx; subst hx; exact hz
theorem BSl.nil (w : World) (B : Nat) : BSl w B (.slice none 0 0) [] := ⟨Sl.nil w B 1, Byts.nil⟩
theorem BSl.rd {w : World} {B : Nat} {v : Value} {l : List Int} (h : BSl w B v l) : ∃ a cap, v = .slice a l.length cap ∧ l.length ≤ cap ∧ cap ≤ maxLen ∧ Rd w B a l := by
  obtain ⟨⟨a, cap, rfl, hl, hc, hm, h0, hr⟩, hy⟩ := h
  refine ⟨a, cap, rfl, hc, hm, ?_⟩
  rcases hr with hr | ⟨b, off, rfl, hlt, hx⟩
  · exact .inl (List.eq_nil_of_length_eq_zero hr)
  · refine .inr ⟨b, off, rfl, hlt, fun i hi => ?_⟩
    rw [hx i (by omega)]
    simp [vals, hi]
theorem BSl.of_rd {w : World} {B : Nat} {a : Option Addr} {cap : Nat} {l : List Int} (h : Rd w B a l) (hc : l.length ≤ cap) (hm : cap ≤ maxLen) (h0 : a = none → cap = 0) (hy : Byts l) : BSl w B (.slice a l.length cap) l := by
  refine ⟨⟨a, cap, rfl, by simp [vals], hc, hm, h0, ?_⟩, hy⟩
  rcases h with rfl | ⟨b, off, rfl, hlt, hx⟩
  · exact .inl rfl
  · refine .inr ⟨b, off, rfl, hlt, fun i hi => ?_⟩
    rw [hx i (by omega)]
    have hi' : i < l.length := by omega
    simp [vals, hi']
/-- In world w the slice v owns a row of blocks from lo on, which reads the bytes l. -/
def BOwn (w : World) (lo : Nat) (v : Value) (l : List Int) : Prop := w.ownsRow lo 5 1 v l.length (vals l) ∧ Byts l
theorem own_mono {w : World} {lo lo' : Nat} {e : TypeId} {size n : Nat} {v : Value} {xs : List Value} (h : w.ownsRow lo e size v n xs) (hl : lo' ≤ lo) : w.ownsRow lo' e size v n xs :=
  ⟨h.1, h.2.imp id fun ⟨g, cap, cur, hv, hg, r⟩ => ⟨g, cap, cur, hv, Nat.le_trans hl hg, r⟩⟩
theorem BOwn.mk' {w : World} {lo n : Nat} {v : Value} {l : List Int} (h : w.ownsRow lo 5 1 v n (vals l)) (hy : Byts l) : BOwn w lo v l := by
  have hn : n = l.length := by have := h.1; simp [vals] at this; omega
  subst hn; exact ⟨h, hy⟩
theorem BOwn.mono {w : World} {lo lo' : Nat} {v : Value} {l : List Int} (h : BOwn w lo v l) (hl : lo' ≤ lo) : BOwn w lo' v l := ⟨own_mono h.1 hl, h.2⟩
theorem BOwn.set {w : World} {lo : Nat} {v : Value} {l : List Int} (h : BOwn w lo v l) {a : Addr} (ha : a.block < lo) (u : Value) : BOwn (w.setCell a u) lo v l := ⟨ownsRow_setCell_below h.1 ha u, h.2⟩
theorem BOwn.sl {w : World} {lo : Nat} {v : Value} {l : List Int} (h : BOwn w lo v l) : BSl w w.heap.size v l := BSl.of_own h.1 h.2
theorem BOwn.rd {w : World} {lo : Nat} {v : Value} {l : List Int} (h : BOwn w lo v l) : ∃ a cap, v = .slice a l.length cap := by
  obtain ⟨a, cap, rfl, _⟩ := h.sl.rd
  exact ⟨a, cap, rfl⟩
/-- The bytes at even places among the first k, and those at odd places. -/
def evs (l : List Int) (k : Nat) : List Int := (List.range ((k + 1) / 2)).map fun i => l.getD (2 * i) 0
def ods (l : List Int) (k : Nat) : List Int := (List.range (k / 2)).map fun i => l.getD (2 * i + 1) 0
theorem evs_even (l : List Int) (j : Nat) : evs l (2 * j + 1) = evs l (2 * j) ++ [l.getD (2 * j) 0] ∧ ods l (2 * j + 1) = ods l (2 * j) := by
  constructor
  · simp only [evs, show (2 * j + 1 + 1) / 2 = j + 1 by omega, show (2 * j + 1) / 2 = j by omega, List.range_succ, List.map_append, List.map_cons, List.map_nil]
  · simp only [ods, show (2 * j + 1) / 2 = j by omega, show 2 * j / 2 = j by omega]
theorem evs_odd (l : List Int) (j : Nat) : evs l (2 * j + 1 + 1) = evs l (2 * j + 1) ∧ ods l (2 * j + 1 + 1) = ods l (2 * j + 1) ++ [l.getD (2 * j + 1) 0] := by
  constructor
  · simp only [evs, show (2 * j + 1 + 1 + 1) / 2 = j + 1 by omega, show (2 * j + 1 + 1) / 2 = j + 1 by omega]
  · simp only [ods, show (2 * j + 1) / 2 = j by omega, show (2 * j + 1 + 1) / 2 = j + 1 by omega, List.range_succ, List.map_append, List.map_cons, List.map_nil]
theorem evs_byts {l : List Int} (h : Byts l) (k : Nat) : Byts (evs l k) := by
  intro z hz
  simp only [evs, List.mem_map] at hz
  obtain ⟨i, _, rfl⟩ := hz
  exact h.at _
theorem ods_byts {l : List Int} (h : Byts l) (k : Nat) : Byts (ods l k) := by
  intro z hz
  simp only [ods, List.mem_map] at hz
  obtain ⟨i, _, rfl⟩ := hz
  exact h.at _
theorem evs_len (l : List Int) (k : Nat) : (evs l k).length = (k + 1) / 2 := by simp [evs]
theorem ods_len (l : List Int) (k : Nat) : (ods l k).length = k / 2 := by simp [ods]
/-- What the loop over the entry's bytes keeps: two rows of the call's own, in different blocks. -/
structure Two (B : Nat) (w wr : World) (l : List Int) (k : Nat) (v0 v1 : Value) : Prop where
  below : Below B w wr
  size : B + 2 ≤ wr.heap.size
  c0 : wr.cell? ⟨B + 1, 0, none⟩ = some v0
  c1 : wr.cell? ⟨B + 1, 1, none⟩ = some v1
  c2 : wr.cell? ⟨B + 1, 2, none⟩ = some (.slice none 0 0)
  f : ∀ o, wr.frozen? ⟨B + 1, o, none⟩ = false
  r0 : wr.cell? ⟨B, 0, none⟩ = some (.slice none 0 0)
  r1 : wr.cell? ⟨B, 1, none⟩ = some (.slice none 0 0)
  r2 : wr.cell? ⟨B, 2, none⟩ = some (.slice none 0 0)
  rf : ∀ o, wr.frozen? ⟨B, o, none⟩ = false
  o0 : wr.ownsRow (B + 2) 5 1 v0 (evs l k).length (vals (evs l k))
  o1 : wr.ownsRow (B + 2) 5 1 v1 (ods l k).length (vals (ods l k))
  ne : ∀ g, v0.ownBlock = some g → v1.ownBlock = some g → False
theorem own_kept {w w1 : World} {B base : Nat} {e : TypeId} {size n : Nat} {v : Value} {xs : List Value} (h : w.ownsRow base e size v n xs) (hb : Below B w w1) (hB : w.heap.size ≤ B) : w1.ownsRow base e size v n xs := by
  refine ⟨h.1, h.2.imp id ?_⟩
  rintro ⟨g, cap, cur, rfl, hbg, hg, r⟩
  exact ⟨g, cap, cur, rfl, hbg, by rw [hb.block g (Nat.lt_of_lt_of_le (lt_of_block hg) hB)]; exact hg, r⟩
theorem own_kept2 {w w1 : World} {B base : Nat} {e : TypeId} {size n : Nat} {v : Value} {xs : List Value} (h : w.ownsRow base e size v n xs) (hb : Below B w w1) (hB : ∀ g, v.ownBlock = some g → g < B) : w1.ownsRow base e size v n xs := by
  refine ⟨h.1, h.2.imp id ?_⟩
  rintro ⟨g, cap, cur, rfl, hbg, hg, r⟩
  exact ⟨g, cap, cur, rfl, hbg, by rw [hb.block g (hB g rfl)]; exact hg, r⟩
theorem own_ge {w : World} {base g : Nat} {e : TypeId} {size n : Nat} {v : Value} {xs : List Value} (h : w.ownsRow base e size v n xs) (hg : v.ownBlock = some g) : base ≤ g ∧ g < w.heap.size := by
  rcases h.2 with ⟨rfl, _⟩ | ⟨g', cap, cur, rfl, hb, hh, _⟩
  · simp [Value.ownBlock] at hg
  · simp [Value.ownBlock] at hg; subst hg; exact ⟨hb, lt_of_block hh⟩
theorem grown_cell {w w' : World} {base : Nat} {e : TypeId} {size n : Nat} {v : Value} {xs : List Value} (h : w.ownsRow base e size v n xs) (hg : w.grownBy w' v.ownBlock) {b : Nat} (hb : b < base) (hw : b < w.heap.size) (o : Nat) :
    w'.cell? ⟨b, o, none⟩ = w.cell? ⟨b, o, none⟩ ∧ w'.frozen? ⟨b, o, none⟩ = w.frozen? ⟨b, o, none⟩ := by
  have e := hg.block b hw (fun he => by have := own_ge h he.symm; omega)
  exact ⟨World.cell?_of_block (w := w) (w' := w') e, World.frozen?_of_block (w := w) (w' := w') e⟩
theorem grown_at {w w' : World} {base : Nat} {e : TypeId} {size n : Nat} {v : Value} {xs : List Value} (h : w.ownsRow base e size v n xs) (hg : w.grownBy w' v.ownBlock) {a : Addr} (hb : a.block < base) (hw : a.block < w.heap.size) : w'.cell? a = w.cell? a :=
  World.cell?_of_block (w := w) (w' := w') (hg.block a.block hw (fun he => by have := own_ge h he.symm; omega))
theorem reads2 {w : World} {B : Nat} {a : Option Addr} {l : List Int} (h : Rd w B a l) :
    ∃ p : Nat → Addr, (∀ k : Nat, k < l.length → ∀ cap W, (Instr.indexAt 27 (.slice a l.length cap) (.int .i64 (k : Int))).run Try.prog W = .ok (.pointer (some (p k))) W) ∧ ∀ k, k < l.length → (p k).block < B ∧ w.cell? (p k) = some (.int .u8 (l.getD k 0)) := by
  rcases h with rfl | ⟨b, off, rfl, hlt, hc⟩
  · exact ⟨fun _ => ⟨0, 0, none⟩, fun k hk => absurd hk (by simp), fun k hk => absurd hk (by simp)⟩
  · exact ⟨fun k => ⟨b, off + k, none⟩, fun k hk cap W => idx_at b off l.length cap k hk W, fun k hk => ⟨hlt, hc k hk⟩⟩
theorem two_even {B : Nat} {w wr w1 : World} {l : List Int} {j : Nat} {v0 v1 : Value} {g' c' n' : Nat} (H : Two B w wr l (2 * j) v0 v1) (ho : w1.ownsRow (B + 2) 5 1 (.slice (some ⟨g', 0, none⟩) n' c') ((evs l (2 * j)).length + 1) (vals (evs l (2 * j)) ++ [.int .u8 (l.getD (2 * j) 0)])) (hg : wr.grownBy w1 v0.ownBlock)
    (hat : v0.ownBlock = some g' ∨ wr.heap.size ≤ g') : Two B w (w1.setCell ⟨B + 1, 0, none⟩ (.slice (some ⟨g', 0, none⟩) n' c')) l (2 * j + 1) (.slice (some ⟨g', 0, none⟩) n' c') v1 := by
  have hs := H.size
  have k1 := fun o => grown_cell H.o0 hg (show B + 1 < B + 2 by omega) (by omega) o
  have k0 := fun o => grown_cell H.o0 hg (show B < B + 2 by omega) (by omega) o
  refine ⟨(below_push H.below H.o0 (by omega) (by omega) hg).setCell (by simp) _, by simpa using Nat.le_trans hs hg.size, ?_, ?_, ?_, ?_, ?_, ?_, ?_, ?_, ?_, ?_, ?_⟩
  · exact World.cell?_setCell_same _ _ _ ((k1 0).1.trans H.c0)
  · exact (World.cell?_setCell_other _ _ _ _ (by simp)).trans ((k1 1).1.trans H.c1)
  · exact (World.cell?_setCell_other _ _ _ _ (by simp)).trans ((k1 2).1.trans H.c2)
  · intro o; simpa using (k1 o).2.trans (H.f o)
  · exact (World.cell?_setCell_other _ _ _ _ (by simp)).trans ((k0 0).1.trans H.r0)
  · exact (World.cell?_setCell_other _ _ _ _ (by simp)).trans ((k0 1).1.trans H.r1)
  · exact (World.cell?_setCell_other _ _ _ _ (by simp)).trans ((k0 2).1.trans H.r2)
  · intro o; simpa using (k0 o).2.trans (H.rf o)
  · rw [(evs_even l j).1, ← vals_snoc, List.length_append]; exact ownsRow_setCell_below ho (by simp) _
  · rw [(evs_even l j).2]
    refine ownsRow_setCell_below (H.o1.kept hg ?_) (by simp) _
    cases h1 : v1.ownBlock with
    | none => exact .inl rfl
    | some g => exact .inr fun e => H.ne g e.symm h1
  · intro g h1 h2
    have := own_ge H.o1 h2
    obtain rfl : g' = g := by simpa [Value.ownBlock] using h1
    rcases hat with hat | hge
    · exact H.ne _ hat h2
    · omega
theorem two_odd {B : Nat} {w wr w1 : World} {l : List Int} {j : Nat} {v0 v1 : Value} {g' c' n' : Nat} (H : Two B w wr l (2 * j + 1) v0 v1) (ho : w1.ownsRow (B + 2) 5 1 (.slice (some ⟨g', 0, none⟩) n' c') ((ods l (2 * j + 1)).length + 1) (vals (ods l (2 * j + 1)) ++ [.int .u8 (l.getD (2 * j + 1) 0)])) (hg : wr.grownBy w1 v1.ownBlock)
    (hat : v1.ownBlock = some g' ∨ wr.heap.size ≤ g') : Two B w (w1.setCell ⟨B + 1, 1, none⟩ (.slice (some ⟨g', 0, none⟩) n' c')) l (2 * j + 1 + 1) v0 (.slice (some ⟨g', 0, none⟩) n' c') := by
  have hs := H.size
  have k1 := fun o => grown_cell H.o1 hg (show B + 1 < B + 2 by omega) (by omega) o
  have k0 := fun o => grown_cell H.o1 hg (show B < B + 2 by omega) (by omega) o
  refine ⟨(below_push H.below H.o1 (by omega) (by omega) hg).setCell (by simp) _, by simpa using Nat.le_trans hs hg.size, ?_, ?_, ?_, ?_, ?_, ?_, ?_, ?_, ?_, ?_, ?_⟩
  · exact (World.cell?_setCell_other _ _ _ _ (by simp)).trans ((k1 0).1.trans H.c0)
  · exact World.cell?_setCell_same _ _ _ ((k1 1).1.trans H.c1)
  · exact (World.cell?_setCell_other _ _ _ _ (by simp)).trans ((k1 2).1.trans H.c2)
  · intro o; simpa using (k1 o).2.trans (H.f o)
  · exact (World.cell?_setCell_other _ _ _ _ (by simp)).trans ((k0 0).1.trans H.r0)
  · exact (World.cell?_setCell_other _ _ _ _ (by simp)).trans ((k0 1).1.trans H.r1)
  · exact (World.cell?_setCell_other _ _ _ _ (by simp)).trans ((k0 2).1.trans H.r2)
  · intro o; simpa using (k0 o).2.trans (H.rf o)
  · rw [(evs_odd l j).1]
    refine ownsRow_setCell_below (H.o0.kept hg ?_) (by simp) _
    cases h1 : v0.ownBlock with
    | none => exact .inl rfl
    | some g => exact .inr fun e => H.ne g h1 e.symm
  · rw [(evs_odd l j).2, ← vals_snoc, List.length_append]; exact ownsRow_setCell_below ho (by simp) _
  · intro g h1 h2
    have := own_ge H.o0 h1
    obtain rfl : g' = g := by simpa [Value.ownBlock] using h2
    rcases hat with hat | hge
    · exact H.ne _ h1 hat
    · omega
end Go.Proofs.Ytlljfbakpljenaa
