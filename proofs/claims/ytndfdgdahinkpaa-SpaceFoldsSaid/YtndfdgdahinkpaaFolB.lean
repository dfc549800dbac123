/- A map that has just so many keys; whether two points differ by a multiple of a direction: its walk. -/
import Derived.Test.YtndfdgdahinkpaaCelM
import Derived.Maps.OwnSet
namespace Go.Proofs.Ytndfdgdahinkpaa
open Go.RowKit Go.WideMaps
/-- Block b is a map that has the value f a at the key kv a, and just n entries. -/
def MapN {α : Type} (P : Program) (K : TypeId) (kv : α → Value) (w : World) (b n : Nat) (f : α → Option Value) : Prop :=
  ∃ D : DataW Value, w.ownsMap P K heldR b n D ∧ Maps.IsMap D ∧ (∀ a kl zd, keyOf P K (kv a) = some kl → D.atKey kl zd = (match f a with | some v => .held v | none => zd)) ∧ Maps.size D = n
section
variable {α : Type} {P : Program} {K t e : TypeId} {kv : α → Value} {w w' : World} {b n : Nat} {f : α → Option Value}
theorem MapN.mapV (h : MapN P K kv w b n f) : MapV P K kv w b n f := by obtain ⟨D, h1, h2, h3, -⟩ := h; exact ⟨D, h1, h2, h3⟩
theorem MapN.made (P : Program) (K : TypeId) (kv : α → Value) (w : World) : MapN P K kv (w.alloc (.map #[] 0)) w.heap.size 0 (fun _ => none) :=
  ⟨.map [], World.ownsMap_made _ _ _ _, ⟨[], rfl⟩, fun x kl zd _ => by simp [WideAt.atKey_none], rfl⟩
theorem MapN.of_block (h : MapN P K kv w b n f) (hb : w'.heap[b]? = w.heap[b]?) : MapN P K kv w' b n f := by
  obtain ⟨D, ⟨es, clock, h1, r⟩, h2⟩ := h
  exact ⟨D, ⟨es, clock, hb.trans h1, r⟩, h2⟩
theorem MapN.kept (h : MapN P K kv w b n f) (hb : Below w.heap.size w w') : MapN P K kv w' b n f := h.of_block (hb.block b h.mapV.lt)
theorem MapN.grown {row : Option Nat} (h : MapN P K kv w b n f) (hg : w.grownBy w' row) (hr : some b ≠ row) : MapN P K kv w' b n f := h.of_block (hg.block b h.mapV.lt hr)
theorem MapN.len (h : MapN P K kv w b n f) (ht : P.underlying t = some (.map K e)) (ty : TypeId) : (Builtin.len_ #[t] ty #[.map (some b)]).run P w = .ok (.int .i64 n) w := by
  obtain ⟨D, h1, -, -, h4⟩ := h
  rw [h1.len ht ty, h4]
theorem MapN.put_new [DecidableEq α] (h : MapN P K kv w b n f) (hK : Maps.Keyed P K) (ht : P.underlying t = some (.map K e)) (hinj : ∀ x y, kv x = kv y → x = y) (hn : n < 1000000) {a : α} (ha : f a = none) {kl : Lit} (hk : keyOf P K (kv a) = some kl) (u : Value) :
    ∃ w', (Instr.mapUpdate t (.map (some b)) (kv a) u).run P w = .ok () w' ∧ MapN P K kv w' b (n + 1) (fun x => if x = a then some u else f x) ∧ w.grownBy w' (some b) := by
  obtain ⟨D, h1, hm, h2, h3⟩ := h
  obtain ⟨w', hr, ho, hg⟩ := h1.update (t := t) hK ht (by unfold maxLen; omega) hk (val := u) (d := .held u) (ps := []) rfl
  have hno : Maps.has D kl = false := Maps.has_false_of_atKey (fun z => by rw [h2 a kl z hk, ha])
  refine ⟨w', hr, ⟨D.put kl (.held u), ho, hm.put _ _, ?_, ?_⟩, hg⟩
  · intro x kl' zd hk'
    by_cases he : kl' = kl
    · subst he
      have := hinj _ _ (hK.inj hk' hk)
      rw [Maps.atKey_put_same hm (hK.key hk)]
      simp only [if_pos this]
    · have hne : x ≠ a := by rintro rfl; rw [hk] at hk'; cases hk'; exact he rfl
      rw [Maps.atKey_put_other he, h2 x kl' zd hk']
      simp only [if_neg hne]
  · rw [Maps.size_put (h1.tidy hK), hno, h3]; rfl
end
abbrev SeenN (w : World) (b n : Nat) (K : List P3) : Prop := MapN Try.prog 29 ptV w b n (seenF K)
theorem SeenN.made (w : World) : SeenN (w.alloc (.map #[] 0)) w.heap.size 0 [] := by
  have := MapN.made Try.prog 29 ptV w
  simpa [SeenN, show (seenF ([] : List P3)) = fun _ => none from by funext a; simp [seenF]] using this
set_option maxRecDepth 100000 in
theorem SeenN.step {w : World} {b n : Nat} {K : List P3} (h : SeenN w b n K) (hn : n < 1000000) (a : P3) (ha : wf3 a) (hnew : a ∉ K) :
    ∃ w1, (Instr.mapUpdate 69 (.map (some b)) (ptV a) (.bool true)).run Try.prog w = .ok () w1 ∧ SeenN w1 b (n + 1) (K ++ [a]) ∧ w.grownBy w1 (some b) := by
  obtain ⟨kl, hk⟩ := key_pnt a ha
  obtain ⟨w1, hr, hm, hg⟩ := MapN.put_new h (Maps.Keyed.of_law law_pnt) (t := 69) Try.underlying69 ptV_inj hn (by simp [seenF, hnew]) hk (.bool true)
  exact ⟨w1, hr, by unfold SeenN; rw [seenF_snoc]; exact hm, hg⟩
def comp3 (p : P3) (i : Nat) : Int := if i = 0 then p.1 else if i = 1 then p.2.1 else p.2.2
theorem comp3_cell {V : World} {b : Nat} {p : P3} (h0 : V.cell? ⟨b, 0, none⟩ = some (.int .i64 p.1)) (h1 : V.cell? ⟨b, 1, none⟩ = some (.int .i64 p.2.1)) (h2 : V.cell? ⟨b, 2, none⟩ = some (.int .i64 p.2.2)) (i : Nat) (hi : i < 3) : V.cell? ⟨b, i, none⟩ = some (.int .i64 (comp3 p i)) := by
  obtain rfl | rfl | rfl : i = 0 ∨ i = 1 ∨ i = 2 := by omega
  · exact h0
  · exact h1
  · exact h2
set_option maxHeartbeats 4000000 in
set_option maxRecDepth 100000 in
theorem along_l (p q u : P3) (t : Int) (h0 : q.1 - p.1 = t * u.1) (h1 : q.2.1 - p.2.1 = t * u.2.1) (h2 : q.2.2 - p.2.2 = t * u.2.2) (hp : Sm 20 p) (hq : Sm 20 q) (hu : Sm 3 u) (w : World) :
    Calls Try.prog 29 #[.agg #[.int .i64 p.1, .int .i64 p.2.1, .int .i64 p.2.2], .agg #[.int .i64 q.1, .int .i64 q.2.1, .int .i64 q.2.2], .agg #[.int .i64 u.1, .int .i64 u.2.1, .int .i64 u.2.2]] w fun e w' => e = .returned (.bool true) ∧ Below w.heap.size w w' := by
  have hbp : ∀ i, i < 3 → -20 ≤ comp3 p i ∧ comp3 p i ≤ 20 := fun i hi => by
    obtain ⟨a, b, c⟩ := hp; unfold comp3; split
    · exact a
    · split
      · exact b
      · exact c
  have hbq : ∀ i, i < 3 → -20 ≤ comp3 q i ∧ comp3 q i ≤ 20 := fun i hi => by
    obtain ⟨a, b, c⟩ := hq; unfold comp3; split
    · exact a
    · split
      · exact b
      · exact c
  have hbu : ∀ i, i < 3 → -3 ≤ comp3 u i ∧ comp3 u i ≤ 3 := fun i hi => by
    obtain ⟨a, b, c⟩ := hu; unfold comp3; split
    · exact a
    · split
      · exact b
      · exact c
  have hd : ∀ i, i < 3 → comp3 q i - comp3 p i = t * comp3 u i := fun i hi => by
    unfold comp3; split
    · exact h0
    · split
      · exact h1
      · exact h2
  have HE := Lib.hid (fun (i k : Nat) (hi : i < 3) (hk : k < 3) => show (comp3 q i - comp3 p i) * comp3 u k = (comp3 q k - comp3 p k) * comp3 u i by rw [hd i hi, hd k hk, Int.mul_assoc, Int.mul_assoc, Int.mul_comm (comp3 u i)])
  have HP := Lib.hid hbp; have HQ := Lib.hid hbq; have HU := Lib.hid hbu
  clear h0 h1 h2 hp hq hu hd hbp hbq hbu
  obtain ⟨W0, hW0⟩ : ∃ W : World, ((w.alloc (Obj.cells #[.int .i64 p.1, .int .i64 p.2.1, .int .i64 p.2.2] 29)).alloc (Obj.cells #[.int .i64 q.1, .int .i64 q.2.1, .int .i64 q.2.2] 29)).alloc (Obj.cells #[.int .i64 u.1, .int .i64 u.2.1, .int .i64 u.2.2] 29) = W := ⟨_, rfl⟩
  have kw0 : Below w.heap.size w W0 := by rw [← hW0]; exact (by repeat (first | exact Below.refl _ _ | assumption | (refine Below.drew ?_) | (refine below_drewN ?_ _) | (refine Below.alloc ?_ (by first | (simp; done) | (simp; omega) | omega) _) | (refine Below.setCell ?_ (by first | (simp; done) | (simp; omega) | omega) _) | (refine Below.trans ?_ (Below.mono (by assumption) (by first | (simp; done) | (simp; omega) | omega)))))
  have ks0 : W0.heap.size = w.heap.size + 3 := by rw [← hW0]; simp
  have RD0 := Lib.hid (show ∀ V, Below W0.heap.size W0 V → V.cell? ⟨w.heap.size, 0, none⟩ = some (.int .i64 p.1) ∧ V.cell? ⟨w.heap.size, 1, none⟩ = some (.int .i64 p.2.1) ∧ V.cell? ⟨w.heap.size, 2, none⟩ = some (.int .i64 p.2.2) ∧ V.cell? ⟨w.heap.size + 1, 0, none⟩ = some (.int .i64 q.1) ∧ V.cell? ⟨w.heap.size + 1, 1, none⟩ = some (.int .i64 q.2.1) ∧ V.cell? ⟨w.heap.size + 1, 2, none⟩ = some (.int .i64 q.2.2) ∧ V.cell? ⟨w.heap.size + 1 + 1, 0, none⟩ = some (.int .i64 u.1) ∧ V.cell? ⟨w.heap.size + 1 + 1, 1, none⟩ = some (.int .i64 u.2.1) ∧ V.cell? ⟨w.heap.size + 1 + 1, 2, none⟩ = some (.int .i64 u.2.2) from fun V h => by
      refine ⟨(h.cell (p := ⟨w.heap.size, 0, none⟩) (by simp; omega)).trans ?_, (h.cell (p := ⟨w.heap.size, 1, none⟩) (by simp; omega)).trans ?_, (h.cell (p := ⟨w.heap.size, 2, none⟩) (by simp; omega)).trans ?_, (h.cell (p := ⟨w.heap.size + 1, 0, none⟩) (by simp; omega)).trans ?_, (h.cell (p := ⟨w.heap.size + 1, 1, none⟩) (by simp; omega)).trans ?_, (h.cell (p := ⟨w.heap.size + 1, 2, none⟩) (by simp; omega)).trans ?_, (h.cell (p := ⟨w.heap.size + 1 + 1, 0, none⟩) (by simp; omega)).trans ?_, (h.cell (p := ⟨w.heap.size + 1 + 1, 1, none⟩) (by simp; omega)).trans ?_, (h.cell (p := ⟨w.heap.size + 1 + 1, 2, none⟩) (by simp; omega)).trans ?_⟩ <;> (subst hW0; go_simp))
  have HW0 := Lib.hid hW0; have KW0 := Lib.hid kw0; clear hW0 kw0
  have CC := Lib.hid (show ∀ V, Below W0.heap.size W0 V → ∀ i, i < 3 → V.cell? ⟨w.heap.size, i, none⟩ = some (.int .i64 (comp3 p i)) ∧ V.cell? ⟨w.heap.size + 1, i, none⟩ = some (.int .i64 (comp3 q i)) ∧ V.cell? ⟨w.heap.size + 1 + 1, i, none⟩ = some (.int .i64 (comp3 u i)) from fun V h i hi => by
    obtain ⟨a0, a1, a2, b0, b1, b2, c0, c1, c2⟩ := RD0.out V h
    exact ⟨comp3_cell a0 a1 a2 i hi, comp3_cell b0 b1 b2 i hi, comp3_cell c0 c1 c2 i hi⟩)
  clear RD0
  go_enter Try.func29, Try.ntmps29
  go_wp2
  rw [HW0.out]
  go_loopw [7] (fun t7 wr => ∃ i : Nat, i ≤ 3 ∧ t7 = .int .i64 (i : Nat) ∧ Below W0.heap.size W0 wr) (fun t7 _ => 3 - (intOf t7).toNat)
  case atStart => exact ⟨0, by omega, rfl, Below.refl _ _⟩
  case round =>
    obtain ⟨i, hi, rfl, hb⟩ := hrel
    by_cases hlt : i < 3
    rotate_left
    · have hd3 : decide ((i : Int) < 3) = false := by rw [decide_eq_false_iff_not]; omega
      go_wp2
      go_ret
      exact ⟨rfl, below_at KW0.out (by omega) hb⟩
    have hd3 : decide ((i : Int) < 3) = true := by rw [decide_eq_true_iff]; omega
    obtain ⟨wo, rfl⟩ : ∃ x : World, x = wr := ⟨_, rfl⟩
    go_wp2
    go_loopw [8] (fun t8 wr => ∃ k : Nat, k ≤ 3 ∧ t8 = .int .i64 (k : Nat) ∧ Below W0.heap.size W0 wr) (fun t8 _ => 3 - (intOf t8).toNat)
    case atStart => exact ⟨0, by omega, rfl, hb⟩
    case round =>
      obtain ⟨k, hk, rfl, hb2⟩ := hrel
      by_cases hlt2 : k < 3
      rotate_left
      · have hd4 : decide ((k : Int) < 3) = false := by rw [decide_eq_false_iff_not]; omega
        go_wp2
        go_roundw
        case rel => exact ⟨i + 1, hlt, by simp, hb2⟩
        case measure => simp only [intOf]; omega
      have hd4 : decide ((k : Int) < 3) = true := by rw [decide_eq_true_iff]; omega
      obtain ⟨a0, a1, a2⟩ := CC.out wr hb2 i hlt
      obtain ⟨b0, b1, b2⟩ := CC.out wr hb2 k hlt2
      have he := HE.out i k hlt hlt2
      have p0 := HP.out i hlt; have p1 := HP.out k hlt2
      have q0 := HQ.out i hlt; have q1 := HQ.out k hlt2
      have u0 := HU.out i hlt; have u1 := HU.out k hlt2
      generalize comp3 p i = pi at *
      generalize comp3 q i = qi at *
      generalize comp3 u i = ui at *
      generalize comp3 p k = pk at *
      generalize comp3 q k = qk at *
      generalize comp3 u k = uk at *
      have m0 := mul_bd (a := qi - pi) (b := uk) (A := 40) (B := 3) (by omega) u1
      have m1 := mul_bd (a := qk - pk) (b := ui) (A := 40) (B := 3) (by omega) u0
      have hil : (i : Int) < 3 := by omega
      have hkl : (k : Int) < 3 := by omega
      go_wp2
      go_quiet (fail)
      go_wp2
      go_roundw
      case rel => exact ⟨k + 1, hlt2, by simp, below_drewN hb2 _⟩
      case measure => simp only [intOf]; omega
end Go.Proofs.Ytndfdgdahinkpaa
