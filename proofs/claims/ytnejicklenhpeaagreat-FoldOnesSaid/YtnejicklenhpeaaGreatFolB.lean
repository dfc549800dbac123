/- A map that has just so many keys; whether two points differ by a multiple of a direction: its walk. -/
import Derived.Test.YtnejicklenhpeaaGreatCelI
import Derived.Maps.OwnSet
namespace Go.Proofs.YtnejicklenhpeaaGreat
open Go.RowKit Go.WideMaps
/-- Block b is a map that has the value f a at the key kv a, and just n entries. -/
def MapN {α : Type} (P : Program) (K : TypeId) (kv : α → Value) (w : World) (b n : Nat) (f : α → Option Value) : Prop :=
  ∃ D : DataW Value, w.ownsMap P K heldR b n D ∧ Maps.IsMap D ∧ (∀ a kl zd, keyOf P K (kv a) = some kl → D.atKey kl zd = (match f a with | some v => .held v | none => zd)) ∧ Maps.size D = n
section
variable {α : Type} {P : Program} {K t e : TypeId} {kv : α → Value} {w w' : World} {b n : Nat} {f : α → Option Value}
theorem MapN.mapV (h : MapN P K kv w b n f) : MapV P K kv w b n f := by obtain ⟨D, h1, h2, h3, -⟩ := h; exact ⟨D, h1, h2, h3⟩
theorem MapN.made (P : Program) (K : TypeId) (kv : α → Value) (w : World) : MapN P K kv (w.alloc (.map #[] 0)) w.heap.size 0 (fun _ => none) :=
  ⟨.map [], World.ownsMap_made _ _ _ _, ⟨[], rfl⟩, fun x kl zd _ => by simp [WideAt.atKey_none], rfl⟩
theorem MapN.of_block (h : MapN P K kv w b n f) (hb : w'.heap[b]? = w.heap[b]?) : MapN P K kv w' b n f := by
  obtain ⟨D, ⟨es, clock, h1, r⟩, h2⟩ := h
  exact ⟨D, ⟨es, clock, hb.trans h1, r⟩, h2⟩
theorem MapN.kept (h : MapN P K kv w b n f) (hb : Below w.heap.size w w') : MapN P K kv w' b n f := h.of_block (hb.block b h.mapV.lt)
theorem MapN.grown {row : Option Nat} (h : MapN P K kv w b n f) (hg : w.grownBy w' row) (hr : some b ≠ row) : MapN P K kv w' b n f := h.of_block (hg.block b h.mapV.lt hr)
theorem MapN.len (h : MapN P K kv w b n f) (ht : P.underlying t = some (.map K e)) (ty : TypeId) : (Builtin.len_ #[t] ty #[.map (some b)]).run P w = .ok (.int .i64 n) w := by
  obtain ⟨D, h1, -, -, h4⟩ := h
  rw [h1.len ht ty, h4]
theorem MapN.put_new [DecidableEq α] (h : MapN P K kv w b n f) (hK : Maps.Keyed P K) (ht : P.underlying t = some (.map K e)) (hinj : ∀ x y, kv x = kv y → x = y) (hn : n < 1000000) {a : α} (ha : f a = none) {kl : Lit} (hk : keyOf P K (kv a) = some kl) (u : Value) :
    ∃ w', (Instr.mapUpdate t (.map (some b)) (kv a) u).run P w = .ok () w' ∧ MapN P K kv w' b (n + 1) (fun x => if x = a then some u else f x) ∧ w.grownBy w' (some b) := by
  obtain ⟨D, h1, hm, h2, h3⟩ := h
  obtain ⟨w', hr, ho, hg⟩ := h1.update (t := t) hK ht (by unfold maxLen; omega) hk (val := u) (d := .held u) (ps := []) rfl
  have hno : Maps.has D kl = false := Maps.has_false_of_atKey (fun z => by rw [h2 a kl z hk, ha])
  refine ⟨w', hr, ⟨D.put kl (.held u), ho, hm.put _ _, ?_, ?_⟩, hg⟩
  · intro x kl' zd hk'
    by_cases he : kl' = kl
    · subst he
      have := hinj _ _ (hK.inj hk' hk)
      rw [Maps.atKey_put_same hm (hK.key hk)]
      simp only [if_pos this]
    · have hne : x ≠ a := by rintro rfl; rw [hk] at hk'; cases hk'; exact he rfl
      rw [Maps.atKey_put_other he, h2 x kl' zd hk']
      simp only [if_neg hne]
  · rw [Maps.size_put (h1.tidy hK), hno, h3]; rfl
end
abbrev SeenN (w : World) (b n : Nat) (K : List P3) : Prop := MapN Tryz.prog 29 ptV w b n (seenF K)
theorem SeenN.made (w : World) : SeenN (w.alloc (.map #[] 0)) w.heap.size 0 [] := by
  have := MapN.made Tryz.prog 29 ptV w
  simpa [SeenN, show (seenF ([] : List P3)) = fun _ => none from by funext a; simp [seenF]] using this
def comp3 (p : P3) (i : Nat) : Int := if i = 0 then p.1 else if i = 1 then p.2.1 else p.2.2
theorem comp3_cell {V : World} {b : Nat} {p : P3} (h0 : V.cell? ⟨b, 0, none⟩ = some (.int .i64 p.1)) (h1 : V.cell? ⟨b, 1, none⟩ = some (.int .i64 p.2.1)) (h2 : V.cell? ⟨b, 2, none⟩ = some (.int .i64 p.2.2)) (i : Nat) (hi : i < 3) : V.cell? ⟨b, i, none⟩ = some (.int .i64 (comp3 p i)) := by
  obtain rfl | rfl | rfl : i = 0 ∨ i = 1 ∨ i = 2 := by omega
  · exact h0
  · exact h1
  · exact h2
end Go.Proofs.YtnejicklenhpeaaGreat
