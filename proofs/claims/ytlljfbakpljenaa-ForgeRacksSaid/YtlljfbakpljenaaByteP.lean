/- Slice expressions on slices of bytes; slices of bytes in blocks of bytes. -/
import Derived.Test.YtlljfbakpljenaaByteF
namespace Go.Proofs.Ytlljfbakpljenaa
open Go.RowKit
theorem rd_drop {w : World} {B : Nat} {b off : Nat} {l : List Int} (h : Rd w B (some ⟨b, off, none⟩) l) (k : Nat) : Rd w B (some ⟨b, off + k, none⟩) (l.drop k) := by
  rcases h with rfl | ⟨b', off', he, hlt, hc⟩
  · exact .inl (by simp)
  · cases he
    refine .inr ⟨_, _, rfl, hlt, fun i hi => ?_⟩
    simp only [List.length_drop] at hi
    rw [Nat.add_assoc, hc (k + i) (by omega)]
    simp
theorem rd_take {w : World} {B : Nat} {a : Option Addr} {l : List Int} (h : Rd w B a l) (k : Nat) : Rd w B a (l.take k) := by
  rcases h with rfl | ⟨b, off, rfl, hlt, hc⟩
  · exact .inl (by simp)
  · refine .inr ⟨_, _, rfl, hlt, fun i hi => ?_⟩
    simp only [List.length_take] at hi
    rw [hc i (by omega)]
    have : i < k := by omega
    simp [this]
theorem own_nil' (w : World) (lo : Nat) : BOwn w lo (.slice none 0 0) [] := ⟨by simpa [vals] using World.ownsRow_nil w lo _ _, Byts.nil⟩
theorem elem_u8s : Try.prog.elem 27 = 5 := by kernel_rfl
theorem size_u8s (W : World) : (sizeOf (Try.prog.elem 27)).run Try.prog W = .ok 1 W := by kernel_rfl
theorem under_u8s : Try.prog.underlying 27 = some (.slice (Try.prog.elem 27)) := by kernel_rfl
/-- 's[lo:hi]' of a slice of bytes. -/
theorem bsl_slice {w : World} {B : Nat} {v : Value} {l : List Int} (h : BSl w B v l) {x y : Int} (h0 : 0 ≤ x) (h1 : x ≤ y) (h2 : y ≤ l.length) :
    ∃ a' n' c', (∀ W, (Instr.slice 27 v (some (.int .i64 x)) (some (.int .i64 y)) none).run Try.prog W = .ok (.slice a' n' c') W) ∧ BSl w B (.slice a' n' c') ((l.take y.toNat).drop x.toNat) := by
  have hy := h.2
  obtain ⟨⟨a, cap, rfl, -, hc, hm, hn, -⟩, -⟩ := id h
  obtain ⟨a2, c2, he, -, -, hr⟩ := h.rd
  cases he
  refine ⟨if cap = x.toNat then a else a.map (·.add (x.toNat * 1)), y.toNat - x.toNat, cap - x.toNat, fun W => ?_, ?_⟩
  · rw [run_slice_lh (P := Try.prog) (w := W) 27 a l.length cap under_u8s .i64 .i64 x y h0 h1 (by omega), size_u8s]
    simp only [Result.andThen, sliced]
  · have hlen : ((l.take y.toNat).drop x.toNat).length = y.toNat - x.toNat := by simp; omega
    have hyb : Byts ((l.take y.toNat).drop x.toNat) := fun z hz => hy z (List.mem_of_mem_take (List.mem_of_mem_drop hz))
    have key : Rd w B (if cap = x.toNat then a else a.map (·.add (x.toNat * 1))) ((l.take y.toNat).drop x.toNat) := by
      by_cases hx : cap = x.toNat
      · refine .inl (List.eq_nil_of_length_eq_zero ?_)
        rw [hlen]; omega
      · rw [if_neg hx]
        rcases hr with rfl | ⟨b, off, rfl, hlt, hcell⟩
        · exact .inl (by simp)
        · have := rd_drop (rd_take (.inr ⟨b, off, rfl, hlt, hcell⟩ : Rd w B (some ⟨b, off, none⟩) l) y.toNat) x.toNat
          have e : (⟨b, off, none⟩ : Addr).add (x.toNat * 1) = ⟨b, off + x.toNat, none⟩ := by rw [Nat.mul_one]; simp only [Addr.add]; split <;> simp_all
          rw [Option.map_some, e]
          exact this
    have := BSl.of_rd (cap := cap - x.toNat) key (by rw [hlen]; omega) (by omega) (fun h => by
      split at h
      · have := hn h; omega
      · have : a = none := by simpa using h
        have := hn this; omega) hyb
    rw [hlen] at this
    exact this
theorem bsl_slice_l {w : World} {B : Nat} {v : Value} {l : List Int} (h : BSl w B v l) {x : Int} (h0 : 0 ≤ x) (h1 : x ≤ l.length) :
    ∃ a' n' c', (∀ W, (Instr.slice 27 v (some (.int .i64 x)) none none).run Try.prog W = .ok (.slice a' n' c') W) ∧ BSl w B (.slice a' n' c') (l.drop x.toNat) := by
  obtain ⟨a', n', c', hr, hb⟩ := bsl_slice h h0 h1 (Int.le_refl _)
  refine ⟨a', n', c', fun W => ?_, by simpa using hb⟩
  have h3 := hr W
  obtain ⟨⟨a, cap, rfl, -, hc, -⟩, -⟩ := h
  rw [run_slice_lh (P := Try.prog) (w := W) 27 a l.length cap under_u8s .i64 .i64 x _ h0 h1 (by omega)] at h3
  rw [run_slice_l (P := Try.prog) (w := W) 27 a l.length cap under_u8s .i64 x h0 h1]
  simpa using h3
/-- A slice of bytes that lies in a block of bytes. -/
def BB (w : World) (v : Value) (l : List Int) : Prop :=
  Byts l ∧ ∃ a cap, v = .slice a l.length cap ∧ l.length ≤ cap ∧ cap ≤ maxLen ∧ (a = none → cap = 0) ∧ (l = [] ∨ ∃ b off cur fr, a = some ⟨b, off, none⟩ ∧ w.heap[b]? = some (.cells cur 5 fr) ∧ ∀ i, i < l.length → cur[off + i]? = some (.int .u8 (l.getD i 0)))
theorem BB.sl {w : World} {v : Value} {l : List Int} (h : BB w v l) : BSl w w.heap.size v l := by
  obtain ⟨hy, a, cap, rfl, hc, hm, hn, hr⟩ := h
  refine BSl.of_rd ?_ hc hm hn hy
  rcases hr with rfl | ⟨b, off, cur, fr, rfl, hb, hx⟩
  · exact .inl rfl
  · exact .inr ⟨b, off, rfl, lt_of_block hb, fun i hi => by simp only [World.cell?, hb]; exact hx i hi⟩
theorem BOwn.bb {w : World} {lo : Nat} {v : Value} {l : List Int} (h : BOwn w lo v l) : BB w v l := by
  obtain ⟨ho, hy⟩ := h
  refine ⟨hy, ?_⟩
  obtain ⟨hl, ⟨rfl, h0⟩ | ⟨g, cap, cur, rfl, hbg, hg, hc, hm, hs, ht⟩⟩ := ho
  · have : l = [] := List.eq_nil_of_length_eq_zero h0
    subst this
    exact ⟨none, 0, rfl, Nat.le_refl _, by unfold maxLen; omega, fun _ => rfl, .inl rfl⟩
  · refine ⟨_, cap, rfl, hc, hm, by simp, .inr ⟨g, 0, cur, _, rfl, hg, fun i hi => ?_⟩⟩
    have h1 : (cur.toList.take (l.length * 1))[i]? = (vals l)[i]? := by rw [ht]
    rw [List.getElem?_take, if_pos (by omega)] at h1
    rw [Nat.zero_add, ← Array.getElem?_toList, h1]
    simp [vals, hi]
/-- All blocks of bytes lie as they lay. -/
def KU (w w' : World) : Prop := w.heap.size ≤ w'.heap.size ∧ ∀ (b : Nat) (cur : Array Value) (fr : Nat × Nat), w.heap[b]? = some (Obj.cells cur 5 fr) → w'.heap[b]? = some (Obj.cells cur 5 fr)
theorem KU.refl (w : World) : KU w w := ⟨Nat.le_refl _, fun _ _ _ h => h⟩
theorem KU.trans {a b c : World} (h : KU a b) (k : KU b c) : KU a c := ⟨Nat.le_trans h.1 k.1, fun i u f hi => k.2 i u f (h.2 i u f hi)⟩
theorem KU.of_below {w w' : World} (h : Below w.heap.size w w') : KU w w' := ⟨h.size, fun b _ _ hb => (h.block b (lt_of_block hb)).trans hb⟩
theorem KU.of_push {w w' : World} {base : Nat} {e : TypeId} {size n : Nat} {v : Value} {xs : List Value} (ho : w.ownsRow base e size v n xs) (he : e ≠ 5) (hg : w.grownBy w' v.ownBlock) : KU w w' := by
  refine ⟨hg.size, fun b cur fr hb => (hg.block b (lt_of_block hb) (fun hx => ?_)).trans hb⟩
  rcases ho.2 with ⟨rfl, _⟩ | ⟨g, cap, cur', rfl, _, hh, _⟩
  · simp [Value.ownBlock] at hx
  · simp [Value.ownBlock] at hx
    subst hx
    rw [hb] at hh
    cases hh
    exact he rfl
theorem BB.kept {w w' : World} {v : Value} {l : List Int} (h : BB w v l) (k : KU w w') : BB w' v l := by
  obtain ⟨hy, a, cap, rfl, hc, hm, hn, hr⟩ := h
  refine ⟨hy, a, cap, rfl, hc, hm, hn, hr.imp id ?_⟩
  rintro ⟨b, off, cur, fr, rfl, hb, hx⟩
  exact ⟨b, off, cur, fr, rfl, k.2 b cur fr hb, hx⟩
/-- Two lists go together, one by one. -/
def All2 {α β : Type} (R : α → β → Prop) : List α → List β → Prop
  | [], [] => True
  | a :: l, b :: m => R a b ∧ All2 R l m
  | _, _ => False
theorem all2_mono {α β : Type} {R S : α → β → Prop} (hi : ∀ a b, R a b → S a b) : ∀ {l : List α} {m : List β}, All2 R l m → All2 S l m
  | [], [], _ => trivial
  | _ :: _, _ :: _, h => ⟨hi _ _ h.1, all2_mono hi h.2⟩
theorem all2_len {α β : Type} {R : α → β → Prop} : ∀ {l : List α} {m : List β}, All2 R l m → l.length = m.length
  | [], [], _ => rfl
  | _ :: _, _ :: _, h => by simp [all2_len h.2]
theorem all2_snoc {α β : Type} {R : α → β → Prop} {a : α} {b : β} (hab : R a b) : ∀ {l : List α} {m : List β}, All2 R l m → All2 R (l ++ [a]) (m ++ [b])
  | [], [], _ => ⟨hab, trivial⟩
  | _ :: _, _ :: _, h => ⟨h.1, all2_snoc hab h.2⟩
theorem all2_at {α β : Type} {R : α → β → Prop} : ∀ {l : List α} {m : List β}, All2 R l m → ∀ i (hi : i < l.length) (hm : i < m.length), R l[i] m[i]
  | _ :: _, _ :: _, h, 0, _, _ => h.1
  | _ :: l, _ :: m, h, i + 1, hi, hm => by
    simp only [List.getElem_cons_succ]
    exact all2_at (l := l) (m := m) h.2 i (by simpa using hi) (by simpa using hm)
/-- v owns a row of slices of bytes, which read ls. -/
def OwnBs (w : World) (lo : Nat) (v : Value) (ls : List (List Int)) : Prop := ∃ xs, w.ownsRow lo 27 1 v ls.length xs ∧ All2 (BB w) xs ls
end Go.Proofs.Ytlljfbakpljenaa
