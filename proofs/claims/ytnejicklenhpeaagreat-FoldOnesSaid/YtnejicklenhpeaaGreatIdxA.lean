/- Which keys of a list come twice, plainly. -/
import Derived.Test.YtnejicklenhpeaaGreatKitA
import Derived.DeepKeys4
import Derived.Maps.AppendAt
namespace Go.Proofs.YtnejicklenhpeaaGreat
section
variable {κ : Type} [DecidableEq κ]
/-- The indexes of a key. -/
def idxs (l : List κ) (a : κ) : List Nat := (List.range l.length).filter (fun i => decide (l[i]? = some a))
theorem idxs_snoc (l : List κ) (x a : κ) : idxs (l ++ [x]) a = idxs l a ++ (if x = a then [l.length] else []) := by
  unfold idxs
  rw [List.length_append, List.length_singleton, List.range_succ, List.filter_append]
  congr 1
  · refine List.filter_congr fun i hi => ?_
    rw [List.getElem?_append_left (by simpa using hi)]
  · by_cases h : x = a <;> simp [h]
theorem idxs_nil (a : κ) : idxs ([] : List κ) a = [] := rfl
theorem idxs_take (l : List κ) (a : κ) (k : Nat) (h : k < l.length) : idxs (l.take (k + 1)) a = idxs (l.take k) a ++ (if l[k] = a then [k] else []) := by
  rw [List.take_succ_eq_append_getElem h, idxs_snoc, List.length_take, Nat.min_eq_left (Nat.le_of_lt h)]
theorem mem_idxs {l : List κ} {a : κ} {i : Nat} : i ∈ idxs l a ↔ l[i]? = some a := by
  unfold idxs
  rw [List.mem_filter, List.mem_range, decide_eq_true_iff]
  refine ⟨fun h => h.2, fun h => ⟨?_, h⟩⟩
  exact (List.getElem?_eq_some_iff.1 h).1
theorem idxs_lt {l : List κ} {a : κ} {i : Nat} (h : i ∈ idxs l a) : i < l.length := (List.getElem?_eq_some_iff.1 (mem_idxs.1 h)).1
theorem idxs_sorted (l : List κ) (a : κ) : (idxs l a).Pairwise (· < ·) := List.Pairwise.filter _ List.pairwise_lt_range
theorem idxs_len (l : List κ) (a : κ) : (idxs l a).length ≤ l.length := Nat.le_trans (List.length_filter_le _ _) (by simp)
def clashAt (l : List κ) (i : Nat) : Option (Nat × Nat) := (l[i]?).bind fun a => ((idxs l a)[1]?).map fun b => (i, b)
theorem clashAt_lone {l : List κ} {i : Nat} {a : κ} (ha : l[i]? = some a) (h : (idxs l a).length ≤ 1) : clashAt l i = none := by
  unfold clashAt
  rw [ha, Option.bind_some, List.getElem?_eq_none (by omega)]
  rfl
/-- The first index whose key comes twice, with the second index of that key. -/
def clashF (l : List κ) : Option (Nat × Nat) := (List.range l.length).findSome? (clashAt l)
/-- No key of the first k comes twice. -/
def lone (l : List κ) (k : Nat) : Prop := ∀ j a, j < k → l[j]? = some a → (idxs l a).length ≤ 1
theorem lone_step {l : List κ} {k : Nat} (h : lone l k) {a : κ} (ha : l[k]? = some a) (h1 : (idxs l a).length ≤ 1) : lone l (k + 1) := fun j b hj hb => by
  by_cases e : j = k
  · subst e; rw [ha] at hb; cases hb; exact h1
  · exact h j b (by omega) hb
theorem clash_none {l : List κ} (h : lone l l.length) : clashF l = none := by
  unfold clashF
  rw [List.findSome?_eq_none_iff]
  intro i hi
  have hl : i < l.length := by simpa using hi
  exact clashAt_lone (List.getElem?_eq_getElem hl) (h i _ hl (List.getElem?_eq_getElem hl))
theorem clash_some {l : List κ} {k b : Nat} (h : lone l k) {a : κ} (ha : l[k]? = some a) (hb : (idxs l a)[1]? = some b) : clashF l = some (k, b) := by
  have hl := (List.getElem?_eq_some_iff.1 ha).1
  unfold clashF
  obtain ⟨m, hm⟩ : ∃ m, l.length = k + 1 + m := ⟨l.length - (k + 1), by omega⟩
  have h0 : (List.range k).findSome? (clashAt l) = none := by
    rw [List.findSome?_eq_none_iff]
    intro i hi
    have hi' : i < k := by simpa using hi
    have hl' : i < l.length := by omega
    exact clashAt_lone (List.getElem?_eq_getElem hl') (h i _ hi' (List.getElem?_eq_getElem hl'))
  have h1 : clashAt l k = some (k, b) := by
    unfold clashAt
    rw [ha, Option.bind_some, hb]
    rfl
  rw [hm, List.range_add, List.findSome?_append, List.range_succ, List.findSome?_append, h0]
  simp [h1]
/-- Where no earlier key comes twice, the first index of this one is this one. -/
theorem clash_head {l : List κ} {k : Nat} (h : lone l k) {a : κ} (ha : l[k]? = some a) : (idxs l a)[0]? = some k := by
  have hk : k ∈ idxs l a := mem_idxs.2 ha
  obtain ⟨n, hn, e⟩ := List.getElem_of_mem hk
  by_cases h0 : n = 0
  · subst h0; rw [List.getElem?_eq_getElem hn, e]
  · exfalso
    have h1 := List.pairwise_iff_getElem.1 (idxs_sorted l a) 0 n (by omega) hn (by omega)
    rw [e] at h1
    have h2 : (idxs l a)[0]'(by omega) ∈ idxs l a := List.getElem_mem _
    have := h _ a h1 (mem_idxs.1 h2)
    omega
theorem clash_one {l : List κ} {k : Nat} {a : κ} (ha : l[k]? = some a) : 1 ≤ (idxs l a).length := List.length_pos_of_mem (mem_idxs.2 ha)
theorem clash_out {l : List κ} {i k : Nat} (h : clashF l = some (i, k)) : i < k ∧ k < l.length ∧ l[i]? = l[k]? := by
  unfold clashF at h
  obtain ⟨l1, j, l2, hl, hj, hn⟩ := List.findSome?_eq_some_iff.1 h
  have hj0 : l1.length = j := by
    have h1 : l1.length < (List.range l.length).length := by rw [hl]; simp
    have h2 : (List.range l.length)[l1.length]'h1 = j := by simp [hl]
    simpa using h2
  have hl1 : l1 = List.range j := by
    have h1 : (List.range l.length).take j = l1 := by rw [hl, ← hj0]; simp
    have h2 : j < l.length := by
      have : l1.length < (List.range l.length).length := by rw [hl]; simp
      simp at this; omega
    rw [← h1, List.take_range, Nat.min_eq_left (Nat.le_of_lt h2)]
  subst hl1
  cases ha : l[j]? with
  | none => simp [clashAt, ha] at hj
  | some a =>
    cases hb : (idxs l a)[1]? with
    | none => simp [clashAt, ha, hb] at hj
    | some b =>
      simp [clashAt, ha, hb] at hj
      obtain ⟨rfl, rfl⟩ := hj
      have hm : b ∈ idxs l a := List.mem_of_getElem? hb
      have hlone : lone l j := fun m c hm' hc => by
        have h3 := hn m (by simpa using hm')
        cases hb2 : (idxs l c)[1]? with
        | none => have := List.getElem?_eq_none_iff.1 hb2; omega
        | some _ => simp [clashAt, hc, hb2] at h3
      have h0 := clash_head hlone ha
      obtain ⟨h4, h5⟩ := List.getElem?_eq_some_iff.1 h0
      obtain ⟨h6, h7⟩ := List.getElem?_eq_some_iff.1 hb
      have h8 := List.pairwise_iff_getElem.1 (idxs_sorted l a) 0 1 h4 h6 (by omega)
      refine ⟨by omega, idxs_lt hm, by rw [ha, mem_idxs.1 hm]⟩
end
theorem clash_inj {κ : Type} [DecidableEq κ] {l : List κ} (h : clashF l = none) {i j : Nat} {a : κ} (hi : l[i]? = some a) (hj : l[j]? = some a) : i = j := by
  have hil := (List.getElem?_eq_some_iff.1 hi).1
  have h1 : clashAt l i = none := by
    have := List.findSome?_eq_none_iff.1 h i (List.mem_range.2 hil)
    exact this
  unfold clashAt at h1
  rw [hi] at h1
  simp only [Option.bind_some, Option.map_eq_none_iff] at h1
  have hlen : (idxs l a).length ≤ 1 := by rw [List.getElem?_eq_none_iff] at h1; exact h1
  have mi := mem_idxs.2 hi
  have mj := mem_idxs.2 hj
  obtain ⟨p, hp, ep⟩ := List.getElem_of_mem mi
  obtain ⟨q, hq, eq⟩ := List.getElem_of_mem mj
  have : p = q := by omega
  subst this
  exact ep.symm.trans eq
end Go.Proofs.YtnejicklenhpeaaGreat
namespace Go.Proofs.YtnejicklenhpeaaGreat
open Go.RowKit Go.WideMaps
/-- 'append(s, x)' of one element that lies in a block of its own, in any world. -/
theorem wpList_pushAt {P : Program} {ops : Array Oper} {rest : List Oper} {o : Oper} {a : Act} {Q : Exit → Act → World → Prop} {w : World} {cs : Array Value} {t0 : TypeId} (hgd : o.guard = none) (s x : Operand) (t : TypeId)
    (ho : o.op = .call { callee := .builtin .append, args := #[s, x], argTypes := #[t, t] })
    {base : Nat} {e : TypeId} {z : Value} {size bytes : Nat} (T : SlT P t e z size bytes)
    {v : Value} {n : Nat} {xs : List Value} (hown : w.ownsRow base e size v n xs) (hs : a.eval s = v)
    {b c : Nat} (hx : a.eval x = .slice (some ⟨b, 0, none⟩) 1 c) (hb : w.heap[b]? = some (.cells cs t0)) (hcs : cs.size = size) (h1 : cs.toList.all Value.oneCell' = true)
    (h63 : n + 1 ≤ 1073741824) (hbytes : bytes ≤ 1024) (hbase : base ≤ w.heap.size)
    (h : ∀ (g c' : Nat) (w' : World), w'.ownsRow base e size (.slice (some ⟨g, 0, none⟩) (n + 1) c') (n + 1) (xs ++ cs.toList) → w.grownBy w' v.ownBlock → (v.ownBlock = some g ∨ w.heap.size ≤ g) → wpList P ops Q rest (a.put o.dst (.slice (some ⟨g, 0, none⟩) (n + 1) c')) w') :
    wpList P ops Q (o :: rest) a w := by
  obtain ⟨ht, hinf, hzs, hsz⟩ := T
  obtain ⟨i, hi, hz, hz1, hz2⟩ := info_parts hinf
  refine wpList_append_own_at _ hgd s x t ho base e i z size bytes ht hi hz hz1 hz2 hzs hsz v n xs hs hown ⟨b, 0, none⟩ 1 c cs.toList hx (by simp [hcs]) ?_ ?_ (by unfold maxLen; omega) ?_ hbase ?_
  · intro j u hj
    have hj' : cs[j]? = some u := by simpa using hj
    have e : (⟨b, 0, none⟩ : Addr).add j = ⟨b, j, none⟩ := by simp only [Addr.add]; split <;> simp_all
    rw [e]
    simp only [World.cell?, hb]
    exact hj'
  · intro u hu
    exact List.all_eq_true.1 h1 u hu
  · have : (n + 1) * bytes ≤ 1073741824 * 1024 := Nat.mul_le_mul h63 hbytes
    omega
  · intro v' w' ho' hg _ hat
    rcases ho'.2 with ⟨_, hn⟩ | ⟨g, cap, cur, rfl, hr⟩
    · omega
    · refine h g cap w' ho' hg ?_
      rcases hat with hat | hat
      · exact .inl hat.symm
      · simp [Value.ownBlock] at hat; exact .inr (by omega)
theorem wf_sm {x : Int} (h : -1000000 ≤ x ∧ x ≤ 1000000) : (Lit.int .i64 x).wf = true := WalkArith.wf_i64 (by omega)
theorem types_some : ∃ m, Tryz.prog.types.size + 1 = m + 3 := ⟨Tryz.prog.types.size - 2, by have : 2 ≤ Tryz.prog.types.size := of_decide_eq_true (by kernel_rfl); omega⟩
def encNat (i : Nat) : List Value := [.int .i64 (i : Int)]
def encInt (z : Int) : List Value := [.int .i64 z]
theorem SlOf.shape {α : Type} {w : World} {B sz : Nat} {enc : α → List Value} {v : Value} {l : List α} (h : SlOf w B sz enc v l) : ∃ a cap, v = .slice a l.length cap ∧ l.length ≤ 9223372036854775807 := by
  obtain ⟨a, cap, rfl, _, h1, h2, _⟩ := h
  unfold maxLen at h2
  exact ⟨a, cap, rfl, by omega⟩
/-- Block b is a map that has for each key of K the indexes at which it comes, each in a row of its own from block base on. -/
def MetG {α : Type} [DecidableEq α] (P : Program) (KT IT : TypeId) (kv : α → Value) (w : World) (base b n : Nat) (K : List α) : Prop :=
  ∃ vf : α → Value, MapV P KT kv w b n (fun a => if idxs K a = [] then none else some (vf a)) ∧
    (∀ a, idxs K a = [] → vf a = .slice none 0 0) ∧
    (∀ a, OwnOf w base IT 1 encNat (vf a) (idxs K a)) ∧
    (∀ a c g, (vf a).ownBlock = some g → (vf c).ownBlock = some g → a = c) ∧
    (∀ a, (vf a).ownBlock ≠ some b)
section
variable {α : Type} [DecidableEq α] {P : Program} {KT IT T ET : TypeId} {kv : α → Value}
theorem MetG.made (w : World) (base : Nat) : MetG P KT IT kv (w.alloc (.map #[] 0)) base w.heap.size 0 [] := by
  refine ⟨fun _ => .slice none 0 0, ?_, fun _ _ => rfl, fun _ => OwnOf.nil _ _ _ _ _, fun a c g h _ => by simp [Value.ownBlock] at h, fun a h => by simp [Value.ownBlock] at h⟩
  have := MapV.made P KT kv w
  simpa [idxs_nil] using this
theorem MetG.kept {w w' : World} {base b n : Nat} {K : List α} (h : MetG P KT IT kv w base b n K) (hb : Below w.heap.size w w') : MetG P KT IT kv w' base b n K := by
  obtain ⟨vf, h1, h2, h3, h4, h5⟩ := h
  exact ⟨vf, h1.kept hb, h2, fun a => (h3 a).kept hb, h4, h5⟩
theorem MetG.lt {w : World} {base b n : Nat} {K : List α} (h : MetG P KT IT kv w base b n K) : b < w.heap.size := by
  obtain ⟨vf, h1, -⟩ := h
  exact h1.lt
set_option maxRecDepth 100000 in
theorem MetG.look {w : World} {base b n : Nat} {K : List α} (h : MetG P KT IT kv w base b n K) (law : KeyLaw P KT) (ht : P.underlying T = some (.map KT ET)) (zv : ∀ u, (zeroValue ET).run P u = .ok (.slice none 0 0) u) (a : α) {kl : Lit} (hk : keyOf P KT (kv a) = some kl) :
    ∃ v, ∀ V, Below w.heap.size w V → (Instr.lookup T (.map (some b)) (kv a) false).run P V = .ok v V ∧ OwnOf V base IT 1 encNat v (idxs K a) := by
  obtain ⟨vf, h1, h2, h3, -⟩ := h
  refine ⟨vf a, fun V hV => ⟨?_, (h3 a).kept hV⟩⟩
  have := (h1.kept hV).look (Maps.Keyed.of_law law) (t := T) ht (zv V) hk
  rw [this]
  by_cases he : idxs K a = []
  · simp [he, h2 a he]
  · simp [he]
set_option maxRecDepth 100000 in
/-- 'met[a] = append(met[a], k)', k the number of keys till now. -/
theorem MetG.step {w : World} {base b n : Nat} {K : List α} (h : MetG P KT IT kv w base b n K) (law : KeyLaw P KT) (ht : P.underlying T = some (.map KT ET)) (zv : ∀ u, (zeroValue ET).run P u = .ok (.slice none 0 0) u) (hinj : ∀ x y, kv x = kv y → x = y) (hn : n < 1000000) (a : α) {kl : Lit} (hk : keyOf P KT (kv a) = some kl) :
    ∃ (v : Value) (st : Nat) (w1 : World), (Instr.mapEntry T (.map (some b)) (kv a)).run P w = .ok (.tuple #[v, goInt st]) w1 ∧ w.grownBy w1 (some b) ∧ OwnOf w1 base IT 1 encNat v (idxs K a) ∧
      ∀ (g c' : Nat) (w2 : World), w2.ownsRow base IT 1 (.slice (some ⟨g, 0, none⟩) ((idxs K a).length + 1) c') ((idxs K a).length + 1) ((idxs K a).flatMap encNat ++ [.int .i64 (K.length : Int)]) → w1.grownBy w2 v.ownBlock → (v.ownBlock = some g ∨ w1.heap.size ≤ g) →
        ∃ w3, (Instr.entryStore T (.map (some b)) (goInt st) (.slice (some ⟨g, 0, none⟩) ((idxs K a).length + 1) c')).run P w2 = .ok () w3 ∧ MetG P KT IT kv w3 base b (n + 1) (K ++ [a]) ∧ w2.grownBy w3 (some b) ∧ ∀ B, B ≤ b → B ≤ base → B ≤ w.heap.size → Below B w w3 := by
  obtain ⟨vf, h1, h2, h3, h4, h5⟩ := h
  have hblt := h1.lt
  obtain ⟨st, w1, hr, hg1, hst⟩ := h1.entry law (t := T) ht hinj hn zv hk
  have hv : ((if idxs K a = [] then none else some (vf a)) : Option Value).getD (.slice none 0 0) = vf a := by
    by_cases he : idxs K a = []
    · simp [he, h2 a he]
    · simp [he]
  rw [hv] at hr
  have h31 : ∀ c, OwnOf w1 base IT 1 encNat (vf c) (idxs K c) := fun c => (h3 c).grown hg1 (.inl (h5 c))
  refine ⟨vf a, st, w1, hr, hg1, h31 a, fun g c' w2 hown hg2 hat => ?_⟩
  have hb2 : w2.heap[b]? = w1.heap[b]? := hg2.block b (Nat.lt_of_lt_of_le hblt hg1.size) (fun e => h5 a e.symm)
  obtain ⟨w3, hr3, hm3, hg3⟩ := hst w2 (.slice (some ⟨g, 0, none⟩) ((idxs K a).length + 1) c') hb2
  have hgb : g ≠ b := by
    rcases hat with e | e
    · exact fun e' => h5 a (by rw [e, e'])
    · have := hg1.size; omega
  refine ⟨w3, hr3, ⟨fun x => if x = a then .slice (some ⟨g, 0, none⟩) ((idxs K a).length + 1) c' else vf x, ?_, ?_, ?_, ?_, ?_⟩, hg3, ?_⟩
  · have e : (fun x => if idxs (K ++ [a]) x = [] then none else some (if x = a then (.slice (some ⟨g, 0, none⟩) ((idxs K a).length + 1) c' : Value) else vf x)) = (fun x => if x = a then some (.slice (some ⟨g, 0, none⟩) ((idxs K a).length + 1) c') else if idxs K x = [] then none else some (vf x)) := by
      funext x
      rw [idxs_snoc]
      by_cases hx : x = a
      · subst hx; simp
      · have : ¬ (a = x) := fun e => hx e.symm
        simp [hx, this]
    rw [e]
    exact hm3
  · intro x hx
    rw [idxs_snoc] at hx
    by_cases hxa : x = a
    · subst hxa; simp at hx
    · have : ¬ (a = x) := fun e => hxa e.symm
      simp only [this, if_false, List.append_nil] at hx
      simp only [hxa, if_false]
      exact h2 x hx
  · intro x
    rw [idxs_snoc]
    by_cases hxa : x = a
    · subst hxa
      simp only [if_true]
      have h6 : OwnOf w2 base IT 1 encNat (.slice (some ⟨g, 0, none⟩) ((idxs K x).length + 1) c') (idxs K x ++ [K.length]) := OwnOf.snoc hown rfl
      exact h6.grown hg3 (.inl (by simpa [Value.ownBlock] using hgb))
    · have : ¬ (a = x) := fun e => hxa e.symm
      simp only [this, if_false, List.append_nil, hxa]
      refine ((h31 x).grown hg2 ?_).grown hg3 (.inl (h5 x))
      cases hvx : (vf x).ownBlock with
      | none => exact .inr rfl
      | some gx =>
        refine .inl fun e => hxa (h4 x a gx hvx e.symm)
  · intro x c q hx hc
    by_cases hxa : x = a <;> by_cases hca : c = a
    · rw [hxa, hca]
    · simp only [hxa, hca, if_true, if_false] at hx hc
      simp [Value.ownBlock] at hx
      subst hx
      rcases hat with e | e
      · exact absurd (h4 c a g hc e) hca
      · have := ((h31 c).lt g hc).2; omega
    · simp only [hxa, hca, if_true, if_false] at hx hc
      simp [Value.ownBlock] at hc
      subst hc
      rcases hat with e | e
      · exact absurd (h4 x a g hx e) hxa
      · have := ((h31 x).lt g hx).2; omega
    · simp only [hxa, hca, if_false] at hx hc
      exact h4 x c q hx hc
  · intro x
    by_cases hxa : x = a
    · simp only [hxa, if_true]
      simpa [Value.ownBlock] using hgb
    · simp only [hxa, if_false]
      exact h5 x
  · intro B hB1 hB2 hB3
    have k1 : Below B w w1 := (Below.refl B w).grown hg1 hB3 (fun r e => by cases e; exact hB1)
    have k2 : Below B w w2 := k1.grown hg2 (Nat.le_trans hB3 hg1.size) (fun r e => Nat.le_trans hB2 ((h31 a).lt r e).1)
    exact k2.grown hg3 (Nat.le_trans hB3 (Nat.le_trans hg1.size hg2.size)) (fun r e => by cases e; exact hB1)
end
end Go.Proofs.YtnejicklenhpeaaGreat
