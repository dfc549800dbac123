/- Tables (plain): the events in order where nothing clashes. The order in which the program puts events: Table$1 and cmp.Or: their walks; what slices.SortFunc does to events: the shelf's contract at this dump. What slices.SortFunc does to events: the shelf's contract at this dump. Conditions: none. -/
import Derived.Test.YtnejicklenhpeaaGreatEvN
import Derived.Test.YtnejicklenhpeaaGreatCelG
import Derived.Test.YtnejicklenhpeaaGreatSortEv
import Derived.Test.YtnejicklenhpeaaGreatCelA
namespace Go.Proofs.YtnejicklenhpeaaGreat
open Go.RowKit Go.Sort
theorem mem_evsL {r : RecD} {s : SchedD} {u : P3} {x : EvD} : x ∈ evsL r s u ↔ ∃ v, v < r.vars.length ∧ ∃ p ∈ ptsL r.n r.l, x = evAt r s u v p := by
  unfold evsL
  simp only [List.mem_flatMap, List.mem_range, List.mem_map]
  constructor
  · rintro ⟨v, hv, p, hp, e⟩; exact ⟨v, hv, p, hp, e.symm⟩
  · rintro ⟨v, hv, p, hp, e⟩; exact ⟨v, hv, p, hp, e.symm⟩
/-- Where nothing clashes the time, the cell and the variable tell the event. -/
theorem ev_inj {r : RecD} {s : SchedD} {u : P3} (h : clashL r s u = none) {x y : EvD} (hx : x ∈ evsL r s u) (hy : y ∈ evsL r s u) (ht : x.t = y.t) (hc : x.c = y.c) (he : x.e.1 = y.e.1) : x = y := by
  obtain ⟨v, hv, p, hp, rfl⟩ := mem_evsL.1 hx
  obtain ⟨v', hv', q, hq, rfl⟩ := mem_evsL.1 hy
  simp only [evAt] at ht hc he
  have hvv : v = v' := by omega
  subst hvv
  have hd : dot3 s.f p = dot3 s.f q := by omega
  obtain ⟨i, hi, rfl⟩ := List.getElem_of_mem hp
  obtain ⟨j, hj, rfl⟩ := List.getElem_of_mem hq
  have : i = j := clash_inj (a := keyS r s u (ptsL r.n r.l)[i]) h (by rw [List.getElem?_map, List.getElem?_eq_getElem hi]; rfl) (by
    rw [List.getElem?_map, List.getElem?_eq_getElem hj]
    show some _ = some _
    congr 1
    unfold keyS
    rw [hd, hc])
  subst this
  rfl
/-- The order in which the program puts events. -/
def cmpE (x y : EvD) : Int := if cmpI x.t y.t ≠ 0 then cmpI x.t y.t else if cmpC x.c y.c ≠ 0 then cmpC x.c y.c else cmpI x.e.1 y.e.1
def ltK (x y : EvD) : Prop := x.t < y.t ∨ (x.t = y.t ∧ (cltC x.c y.c ∨ (x.c = y.c ∧ x.e.1 < y.e.1)))
theorem cmpI_cases (a b : Int) : (a < b ∧ cmpI a b = -1) ∨ (a = b ∧ cmpI a b = 0) ∨ (b < a ∧ cmpI a b = 1) := by
  unfold cmpI; split
  · omega
  · split <;> omega
theorem cmpC_cases (a b : Int × Int) : (cltC a b ∧ cmpC a b = -1) ∨ (a = b ∧ cmpC a b = 0) ∨ (cltC b a ∧ cmpC a b = 1) := by
  obtain ⟨a1, a2⟩ := a; obtain ⟨b1, b2⟩ := b
  unfold cmpC cltC
  simp only [Prod.mk.injEq]
  rcases cmpI_cases a1 b1 with ⟨h, e⟩ | ⟨h, e⟩ | ⟨h, e⟩ <;> rcases cmpI_cases a2 b2 with ⟨h', e'⟩ | ⟨h', e'⟩ | ⟨h', e'⟩ <;> rw [e, e'] <;> simp <;> omega
theorem ltE_iff (x y : EvD) : ltOf cmpE x y = true ↔ ltK x y := by
  unfold ltOf cmpE ltK
  rw [decide_eq_true_iff]
  have hirr := cltC_irr
  rcases cmpI_cases x.t y.t with ⟨h, e⟩ | ⟨h, e⟩ | ⟨h, e⟩
  · rw [e]; simp; omega
  · rw [e]
    rcases cmpC_cases x.c y.c with ⟨h', e'⟩ | ⟨h', e'⟩ | ⟨h', e'⟩
    · rw [e']; simp [h, h']
    · rw [e']
      rcases cmpI_cases x.e.1 y.e.1 with ⟨h2, e2⟩ | ⟨h2, e2⟩ | ⟨h2, e2⟩ <;> rw [e2] <;> simp [h, h', hirr] <;> omega
    · rw [e']
      have n1 : ¬ cltC x.c y.c := fun k => hirr _ (cltC_trans k h')
      have n2 : ¬ x.c = y.c := fun k => hirr _ (k ▸ h')
      simp [h, n1, n2]
  · rw [e]; simp; omega
theorem ltK_irr (x : EvD) : ¬ ltK x x := by
  unfold ltK; intro h
  rcases h with h | ⟨_, h | ⟨_, h⟩⟩
  · omega
  · exact cltC_irr _ h
  · omega
theorem ltK_trans {x y z : EvD} (h : ltK x y) (k : ltK y z) : ltK x z := by
  unfold ltK at *
  rcases h with h | ⟨h, h'⟩ <;> rcases k with k | ⟨k, k'⟩
  · exact .inl (by omega)
  · exact .inl (by omega)
  · exact .inl (by omega)
  · refine .inr ⟨h.trans k, ?_⟩
    rcases h' with h' | ⟨h', h2⟩ <;> rcases k' with k' | ⟨k', k2⟩
    · exact .inl (cltC_trans h' k')
    · exact .inl (k' ▸ h')
    · exact .inl (h' ▸ k')
    · exact .inr ⟨h'.trans k', by omega⟩
theorem ltK_tri (x y : EvD) : ltK x y ∨ (x.t = y.t ∧ x.c = y.c ∧ x.e.1 = y.e.1) ∨ ltK y x := by
  unfold ltK
  rcases Int.lt_trichotomy x.t y.t with h | h | h
  · exact .inl (.inl h)
  · rcases cmpC_cases x.c y.c with ⟨k, _⟩ | ⟨k, _⟩ | ⟨k, _⟩
    · exact .inl (.inr ⟨h, .inl k⟩)
    · rcases Int.lt_trichotomy x.e.1 y.e.1 with j | j | j
      · exact .inl (.inr ⟨h, .inr ⟨k, j⟩⟩)
      · exact .inr (.inl ⟨h, k, j⟩)
      · exact .inr (.inr (.inr ⟨h.symm, .inr ⟨k.symm, j⟩⟩))
    · exact .inr (.inr (.inr ⟨h.symm, .inl k⟩))
  · exact .inr (.inr (.inl h))
theorem ltE_false (x y : EvD) : ltOf cmpE x y = false ↔ ¬ ltK x y := by rw [← ltE_iff]; simp
theorem swoE : SWO (ltOf cmpE) where
  irrefl x := (ltE_false x x).2 (ltK_irr x)
  trans x y z h1 h2 := (ltE_iff x z).2 (ltK_trans ((ltE_iff x y).1 h1) ((ltE_iff y z).1 h2))
  ntrans x y z h1 h2 := by
    rw [ltE_false] at *
    intro h
    rcases ltK_tri x y with k | ⟨k1, k2, k3⟩ | k
    · exact h1 k
    · refine h2 ?_
      unfold ltK at *
      rw [← k1, ← k2, ← k3]; exact h
    · exact h2 (ltK_trans k h)
/-- Events that the program has put in order, where nothing clashes, are in the reference's order. -/
theorem tab_sorted {r : RecD} {s : SchedD} {u : P3} (h : clashL r s u = none) {l : List EvD} (hp : l.Perm (evsL r s u)) (ho : l.Pairwise (fun a b => ¬ ltK b a)) : SortedE l := by
  refine List.Pairwise.imp_of_mem (fun {a b} ha hb hab => ?_) ho
  have hab' : a = b ∨ ltK a b := by
    rcases ltK_tri a b with k | ⟨k1, k2, k3⟩ | k
    · exact .inr k
    · exact .inl (ev_inj h (hp.mem_iff.1 ha) (hp.mem_iff.1 hb) k1 k2 k3)
    · exact absurd k hab
  rcases hab' with rfl | k
  · have := leB_total a a; simpa using this
  · unfold leB
    have : ¬ (beforeB b a = true) := by
      rw [beforeB_iff]
      unfold ltK cltC at k
      obtain ⟨at', ⟨ac1, ac2⟩, ⟨ae, ap⟩⟩ := a
      obtain ⟨bt, ⟨bc1, bc2⟩, ⟨be, bp⟩⟩ := b
      simp only [Prod.mk.injEq] at k ⊢
      omega
    simpa using this
theorem sorted_same {l m : List EvD} (hp : l.Perm m) (h1 : SortedE l) (h2 : SortedE m) : l = m :=
  List.Perm.eq_of_pairwise (le := fun a b => leB a b = true) (fun a b _ _ h1 h2 => leB_anti a b h1 h2) h1 h2 hp
end Go.Proofs.YtnejicklenhpeaaGreat
namespace Go.Proofs.YtnejicklenhpeaaGreat
open Go.RowKit Go.Sort Go.Shelf Go.Lib
def or3 (a b c : Int) : Int := if a ≠ 0 then a else if b ≠ 0 then b else c
set_option maxHeartbeats 4000000 in
theorem or3_l (a b c : Int) (g cap : Nat) (w : World) (h0 : w.cell? ⟨g, 0, none⟩ = some (.int .i64 a)) (h1 : w.cell? ⟨g, 1, none⟩ = some (.int .i64 b)) (h2 : w.cell? ⟨g, 2, none⟩ = some (.int .i64 c)) :
    Calls Tryz.prog 75 #[.slice (some ⟨g, 0, none⟩) 3 cap] w fun e w' => e = .returned (.int .i64 (or3 a b c)) ∧ w' = w := by
  have HO := Lib.hid (show or3 a b c = if a ≠ 0 then a else if b ≠ 0 then b else c from rfl)
  by_cases ha : a = 0
  rotate_left
  · have ha2 : (a != 0) = true := by simpa using ha
    have HE := Lib.hid (show or3 a b c = a by rw [HO.out, if_pos ha])
    clear ha
    go_enter Tryz.func75, Tryz.ntmps75
    go_wp2
    refine wp_loop_rounds 1 ?_
    rw [rounds_succ]
    go_wp2
    go_ret
    exact ⟨ret_int HE.out.symm, rfl⟩
  by_cases hb : b = 0
  rotate_left
  · have hb2 : (b != 0) = true := by simpa using hb
    have HE := Lib.hid (show or3 a b c = b by rw [HO.out, if_neg (by simpa using ha), if_pos hb])
    subst ha
    clear hb
    go_enter Tryz.func75, Tryz.ntmps75
    go_wp2
    refine wp_loop_rounds 2 ?_
    iterate 2 (rw [rounds_succ]; go_wp2)
    go_ret
    exact ⟨ret_int HE.out.symm, rfl⟩
  have HE := Lib.hid (show or3 a b c = c by rw [HO.out, if_neg (by simpa using ha), if_neg (by simpa using hb)])
  subst ha hb
  by_cases hc : c = 0
  · subst hc
    go_enter Tryz.func75, Tryz.ntmps75
    go_wp2
    refine wp_loop_rounds 4 ?_
    iterate 4 (rw [rounds_succ]; go_wp2)
    go_ret
    exact ⟨ret_int HE.out.symm, rfl⟩
  · have hc2 : (c != 0) = true := by simpa using hc
    clear hc
    go_enter Tryz.func75, Tryz.ntmps75
    go_wp2
    refine wp_loop_rounds 3 ?_
    iterate 3 (rw [rounds_succ]; go_wp2)
    go_ret
    exact ⟨ret_int HE.out.symm, rfl⟩
/-- World w' is W with draws and new blocks. -/
def Gw (W w' : World) : Prop := ∃ q os', w' = grow (W.drewN q) os'
theorem Gw.refl (W : World) : Gw W W := ⟨0, #[], by simp [grow]; rfl⟩
theorem Gw.drew {W w' : World} (h : Gw W w') : Gw W w'.drew := by
  obtain ⟨q, os, rfl⟩ := h
  exact ⟨q + 1, os, rfl⟩
theorem Gw.alloc {W w' : World} (h : Gw W w') (o : Obj) : Gw W (w'.alloc o) := by
  obtain ⟨q, os, rfl⟩ := h
  exact ⟨q, os ++ #[o], by rw [alloc_eq_grow, grow_grow]⟩
theorem Gw.trans {W w1 w2 : World} (h : Gw W w1) (k : Gw w1 w2) : Gw W w2 := by
  obtain ⟨q, os, rfl⟩ := h
  obtain ⟨q', os', rfl⟩ := k
  refine ⟨q + q', os ++ os', ?_⟩
  have : (grow (W.drewN q) os).drewN q' = grow (W.drewN (q + q')) os := by
    simp [World.drewN, grow, Nat.add_assoc]
  rw [this, grow_grow]
theorem Gw.below {W w' : World} (h : Gw W w') : Below W.heap.size W w' := by
  obtain ⟨q, os, rfl⟩ := h
  exact ⟨rfl, rfl, rfl, by simp [grow], fun k hk => by show (W.heap ++ os)[k]? = _; rw [Array.getElem?_append_left hk]⟩
theorem cmpE_or (x y : EvD) : cmpE x y = or3 (cmpI x.t y.t) (cmpC x.c y.c) (cmpI x.e.1 y.e.1) := rfl
set_option maxHeartbeats 4000000 in
set_option maxRecDepth 100000 in
theorem tcmp_l (x y : EvD) (W : World) : Calls Tryz.prog 74 #[evD x, evD y] W fun e w' => e = .returned (.int .i64 (cmpE x y)) ∧ ∃ q os', w' = grow (W.drewN q) os' := by
  rw [cmpE_or]
  have HI := Lib.hid (fun (a b : Int) (V : World) => cmpI_l a b V)
  have HC := Lib.hid (fun (V : World) => show Calls Tryz.prog 77 #[.agg #[.int .i64 x.c.1, .int .i64 x.c.2], .agg #[.int .i64 y.c.1, .int .i64 y.c.2]] V fun e w' => e = .returned (.int .i64 (cmpC x.c y.c)) ∧ Gw V w' from compare_l x.c y.c V)
  have HO := Lib.hid (fun (a b c : Int) (g cap : Nat) (V : World) h0 h1 h2 => or3_l a b c g cap V h0 h1 h2)
  obtain ⟨xt, ⟨xa, xb⟩, ⟨xv, x0, x1, x2⟩⟩ := x
  obtain ⟨yt, ⟨ya, yb⟩, ⟨yv, y0, y1, y2⟩⟩ := y
  unfold evD
  simp only at HC ⊢
  generalize cmpC (xa, xb) (ya, yb) = cc at *
  obtain ⟨W2, hW⟩ : ∃ V : World, (W.alloc (Obj.cells #[.int .i64 xt, .int .i64 xa, .int .i64 xb, .int .i64 xv, .int .i64 x0, .int .i64 x1, .int .i64 x2] 54)).alloc (Obj.cells #[.int .i64 yt, .int .i64 ya, .int .i64 yb, .int .i64 yv, .int .i64 y0, .int .i64 y1, .int .i64 y2] 54) = V := ⟨_, rfl⟩
  have hk : W2.heap.size = W.heap.size + 2 := by rw [← hW]; simp
  have KG := Lib.hid (show Gw W W2 by rw [← hW]; exact ((Gw.refl W).alloc _).alloc _)
  have CC := Lib.hid (show ∀ V, Gw W2 V → Gw W2 V ∧ (V.cell? ⟨W.heap.size, 0, none⟩ = some (.int .i64 xt) ∧ V.cell? ⟨W.heap.size, 1, none⟩ = some (.int .i64 xa) ∧ V.cell? ⟨W.heap.size, 2, none⟩ = some (.int .i64 xb) ∧ V.cell? ⟨W.heap.size, 3, none⟩ = some (.int .i64 xv)) ∧ V.cell? ⟨W.heap.size + 1, 0, none⟩ = some (.int .i64 yt) ∧ V.cell? ⟨W.heap.size + 1, 1, none⟩ = some (.int .i64 ya) ∧ V.cell? ⟨W.heap.size + 1, 2, none⟩ = some (.int .i64 yb) ∧ V.cell? ⟨W.heap.size + 1, 3, none⟩ = some (.int .i64 yv) from fun V h => by
    have hb := h.below
    refine ⟨h, ⟨(hb.cell (p := ⟨W.heap.size, 0, none⟩) (by simp; omega)).trans ?_, (hb.cell (p := ⟨W.heap.size, 1, none⟩) (by simp; omega)).trans ?_, (hb.cell (p := ⟨W.heap.size, 2, none⟩) (by simp; omega)).trans ?_, (hb.cell (p := ⟨W.heap.size, 3, none⟩) (by simp; omega)).trans ?_⟩, (hb.cell (p := ⟨W.heap.size + 1, 0, none⟩) (by simp; omega)).trans ?_, (hb.cell (p := ⟨W.heap.size + 1, 1, none⟩) (by simp; omega)).trans ?_, (hb.cell (p := ⟨W.heap.size + 1, 2, none⟩) (by simp; omega)).trans ?_, (hb.cell (p := ⟨W.heap.size + 1, 3, none⟩) (by simp; omega)).trans ?_⟩ <;> (subst hW; go_simp))
  have HW := Lib.hid hW; clear hW
  clear hk
  go_enter Tryz.func74, Tryz.ntmps74
  go_wp2
  rw [HW.out]
  go_region_held3 (fun w' => Gw W2 w' ∧ (w'.cell? ⟨W.heap.size, 0, none⟩ = some (.int .i64 xt) ∧ w'.cell? ⟨W.heap.size, 1, none⟩ = some (.int .i64 xa) ∧ w'.cell? ⟨W.heap.size, 2, none⟩ = some (.int .i64 xb) ∧ w'.cell? ⟨W.heap.size, 3, none⟩ = some (.int .i64 xv)) ∧ w'.cell? ⟨W.heap.size + 1, 0, none⟩ = some (.int .i64 yt) ∧ w'.cell? ⟨W.heap.size + 1, 1, none⟩ = some (.int .i64 ya) ∧ w'.cell? ⟨W.heap.size + 1, 2, none⟩ = some (.int .i64 yb) ∧ w'.cell? ⟨W.heap.size + 1, 3, none⟩ = some (.int .i64 yv)) ((refine CC.out _ ?_; exact (by repeat (first | (with_reducible exact Gw.refl _) | (with_reducible assumption) | (with_reducible refine Gw.drew ?_) | (with_reducible refine Gw.alloc ?_ _) | (refine Gw.trans ?_ (by with_reducible assumption)))))) (first | (go_at_call 76; refine (HI.out _ _ _).mono ?_; go_must (rintro e w1 ⟨rfl, rfl⟩)) | (go_at_call 77; refine (HC.out _).mono ?_; go_must (rintro e w2 ⟨rfl, hg2⟩)) | (go_at_call 75; refine Calls.mono (HO.out (cmpI xt yt) cc (cmpI xv yv) _ 3 _ (by go_simp) (by go_simp) (by go_simp)) ?_; go_must (rintro e w3 ⟨rfl, rfl⟩)))
  all_goals
    go_wp2
    go_ret
    refine ⟨rfl, KG.out.trans ?_⟩
    repeat (first | (with_reducible exact Gw.refl _) | (with_reducible assumption) | (with_reducible refine Gw.drew ?_) | (with_reducible refine Gw.alloc ?_ _) | (refine Gw.trans ?_ (by with_reducible assumption)))
end Go.Proofs.YtnejicklenhpeaaGreat
namespace Go.Proofs.YtnejicklenhpeaaGreat
open Go.RowKit Go.Sort Go.Shelf Go.Lib
instance : Inhabited EvD := ⟨⟨0, (0, 0), (0, (0, 0, 0))⟩⟩
theorem flatK_gen {α : Type} [Inhabited α] (enc : α → List Value) (sz : Nat) (he : ∀ a, (enc a).length = sz) (hsz : 0 < sz) (d : Array α) : (flatK enc sz d).toList = d.toList.flatMap enc := by
  have hfl : (d.toList.flatMap enc).length = d.size * sz := by rw [flat_len he]; simp
  refine List.ext_getElem? (fun j => ?_)
  rcases Nat.lt_or_ge j (d.size * sz) with h | h
  · have hq : j / sz < d.toList.length := by simp; exact (Nat.div_lt_iff_lt_mul hsz).2 h
    have hm := Nat.mod_lt j hsz
    have h1 := flat_at he d.toList (j / sz) (j % sz) hq hm
    rw [Nat.div_add_mod] at h1
    have hd : d[j / sz]! = d.toList[j / sz] := by simp at hq; simp [hq]
    have h2 : (flatK enc sz d).toList[j]? = some ((enc d[j / sz]!)[j % sz]!) := by
      have := get_flatK enc sz d j h
      rw [Array.getElem?_toList, Array.getElem?_eq_getElem (by simpa using h), ← this]
      congr 1
      rw [getElem!_pos _ j (by simpa using h)]
    rw [h2, hd, h1]
    have hl : j % sz < (enc d.toList[j / sz]).length := by rw [he]; exact hm
    rw [List.getElem?_eq_getElem hl, getElem!_pos (enc d.toList[j / sz]) (j % sz) hl]
  · rw [List.getElem?_eq_none (by simpa using h), List.getElem?_eq_none (by rw [hfl]; exact h)]
theorem ins_nilE (cf : FuncId) (w : World) : Calls Tryz.prog 173 #[.slice none 0 0, .int .i64 0, .int .i64 0, .func (.func cf) #[] #[]] w fun e w' => e = .returned (.tuple #[]) ∧ w' = w := by
  go_enter Tryz.func173, Tryz.ntmps173
  go_wp2
  refine wp_loop_rounds 1 ?_
  rw [rounds_succ]
  go_wp2
  go_end0
  exact ⟨rfl, rfl⟩
theorem pdq_nilE (cf : FuncId) (w : World) (k : Int) : Calls Tryz.prog 128 #[.slice none 0 0, .int .i64 0, .int .i64 0, .int .i64 k, .func (.func cf) #[] #[]] w fun e w' => e = .returned (.tuple #[]) ∧ w' = w := by
  go_enter Tryz.func128, Tryz.ntmps128
  go_wp2
  refine wp_loop_rounds 1 ?_
  rw [rounds_succ]
  go_wp2_with (go_at_call 173; refine (ins_nilE _ _).mono ?_; go_must (rintro e w1 ⟨rfl, rfl⟩))
  exact bodyPost_ret (v := .tuple #[]) (by simp only [results, Tryz.results128]; first | (go_simp; done) | (go_simp; rfl)) rfl ⟨rfl, rfl⟩
set_option maxRecDepth 100000 in
theorem sort_nilE (cf : FuncId) (w : World) : Calls Tryz.prog 73 #[.slice none 0 0, .func (.func cf) #[] #[]] w fun e w' => e = .returned (.tuple #[]) ∧ w' = w := by
  go_enter Tryz.func73, Tryz.ntmps73
  go_wp2_with (first | (go_at_call 129; refine (len_nil _).mono ?_; go_must (rintro e w1 ⟨⟨k, rfl⟩, rfl⟩)) | (go_at_call 128; refine (pdq_nilE _ _ _).mono ?_; go_must (rintro e w1 ⟨rfl, rfl⟩)))
  go_end0
  exact ⟨rfl, rfl⟩
theorem cmpLaysE (blk off size : Nat) (w : World) : CmpLays Tryz.prog 74 #[] encE 7 cmpE blk off size w :=
  fun _ _ _ _ x y => tcmp_l x y _
set_option maxHeartbeats 4000000 in
theorem sortsGE (cf : FuncId) (eg : ∀ args w, (callFunc cf args).run Tryz.prog w = .ok (.enter cf args) w) (hlays : ∀ (blk off size : Nat) (w : World), CmpLays Tryz.prog cf #[] encE 7 cmpE blk off size w) (W : World) (lo : Nat) (v : Value) (l : List EvD) (hown : OwnOf W lo 54 7 encE v l) (_ : lo ≤ W.heap.size) (hlen : l.length ≤ 100000) :
    Calls Tryz.prog 73 #[v, .func (.func cf) #[] #[]] W fun e W' => e = .returned (.tuple #[]) ∧ ∃ l' : List EvD, l'.Perm l ∧ l'.Pairwise (fun a b => ¬ ltK b a) ∧ OwnOf W' lo 54 7 encE v l' ∧ W.grownBy W' v.ownBlock := by
  unfold OwnOf at hown
  obtain ⟨hl, ⟨rfl, h0⟩ | ⟨g, cap, cur, rfl, hbg, hg, hc, hm, hs, ht⟩⟩ := id hown
  · obtain rfl : l = [] := List.eq_nil_of_length_eq_zero h0
    refine (sort_nilE cf W).mono ?_
    rintro e w' ⟨rfl, rfl⟩
    exact ⟨rfl, [], List.Perm.refl _, List.Pairwise.nil, OwnOf.nil _ _ _ _ _, World.grownBy.refl _ _⟩
  have hcell := fun i hi => World.ownsRow.cellAt hown i hi
  have hgl := lt_of_block hg
  have hH : HoldsK encE 7 W g 0 l.toArray := by
    intro j hj
    have hj2 : j < l.length * 7 := by simpa using hj
    rw [Nat.zero_add]
    refine ⟨?_, by simp [World.frozen?, hg]⟩
    have e := flatK_gen encE 7 (fun _ => rfl) (by omega) l.toArray
    simp only at e
    rw [hcell j (by simpa using hj2), ← e, Array.getElem?_toList, Array.getElem?_eq_getElem hj, getElem!_pos _ j hj]
    rfl
  have hcon := AnyQ.slices_SortFunc LySort.evs 7 Tryz.isAgg54 Tryz.sizeOf54 encE (fun _ => rfl) (fun x v hv => by simp [encE] at hv; rcases hv with rfl | rfl | rfl | rfl | rfl | rfl | rfl <;> rfl) cmpE swoE cf #[] g 0 cap l.toArray W eg (hlays g 0 _ W) hH hgl (by simp; omega)
  refine (show Calls Tryz.prog 73 #[.slice (some ⟨g, 0, none⟩) l.length cap, .func (.func cf) #[] #[]] W _ from hcon).mono ?_
  rintro e W' ⟨rfl, d', n, os, ⟨hps, -, hpp⟩, hso, rfl⟩
  have hsz : d'.size = l.length := by simpa using hps
  have hperm : d'.toList.Perm l := by
    have e1 : d'.extract 0 l.toArray.size = d' := by rw [← hps]; simp
    have e2 : l.toArray.extract 0 l.toArray.size = l.toArray := by simp
    rw [e1, e2] at hpp
    simpa using hpp
  have hpw : d'.toList.Pairwise (fun a b => ¬ ltK b a) := by
    rw [List.pairwise_iff_getElem]
    intro i j hi hj hij
    simp only [Array.length_toList] at hi hj
    have := hso i j (Nat.zero_le _) hij (by simp; omega)
    rw [ltE_false, getElem!_pos _ j (by omega), getElem!_pos _ i (by omega)] at this
    simpa using this
  have hblk : (sortWorldK encE 7 W g 0 n d' os).heap[g]? = some (.cells (putCells id 0 (flatK encE 7 d') cur) 54 (0, 0)) := by
    simp only [sortWorldK, grow, putRowK, putRow, mapBlock]
    rw [Array.getElem?_append_left (by simpa using hgl), Array.getElem?_modify, if_pos rfl]
    show Option.map _ W.heap[g]? = _
    rw [hg]
    rfl
  have hrest : ∀ k, k < W.heap.size → k ≠ g → (sortWorldK encE 7 W g 0 n d' os).heap[k]? = W.heap[k]? := fun k hk hne => by
    simp only [sortWorldK, grow, putRowK, putRow, mapBlock]
    rw [Array.getElem?_append_left (by simpa using hk), Array.getElem?_modify, if_neg (Ne.symm hne)]
    rfl
  refine ⟨rfl, d'.toList, hperm, hpw, ?_, ?_⟩
  · refine ⟨by rw [flat_len (enc := encE) (sz := 7) (fun _ => rfl)], .inr ⟨g, cap, _, by simp [hsz], hbg, hblk, by simp [hsz]; exact hc, hm, by simp [putCells, hs], ?_⟩⟩
    refine List.ext_getElem? (fun j => ?_)
    rw [← flatK_gen encE 7 (fun _ => rfl) (by omega) d']
    rcases Nat.lt_or_ge j (l.length * 7) with h | h
    · have hj : j < (flatK encE 7 d').size := by simp [hsz]; exact h
      have hjc : j < cur.size := by rw [hs]; omega
      rw [List.getElem?_take_of_lt (by simp [hsz]; exact h), Array.getElem?_toList, Array.getElem?_toList]
      simp only [putCells]
      rw [Array.getElem?_eq_getElem (by simpa using hjc), Array.getElem?_eq_getElem hj]
      simp only [Array.getElem_mapIdx, Nat.zero_le, Nat.zero_add, true_and, Nat.sub_zero, size_flatK, id]
      rw [if_pos (by rw [hsz]; exact h), getElem!_pos _ j hj]
    · rw [List.getElem?_eq_none (by simp [hsz]; omega), List.getElem?_eq_none (by simp [hsz]; exact h)]
  · exact ⟨rfl, rfl, rfl, size_sortWorldK_c _ _ _ _ _ _ _ _, fun k hk hne => hrest k hk (fun e => hne (by rw [e]; rfl))⟩
theorem sorts_okE (W : World) (lo : Nat) (v : Value) (l : List EvD) (hown : OwnOf W lo 54 7 encE v l) (hlo : lo ≤ W.heap.size) (hlen : l.length ≤ 100000) :
    Calls Tryz.prog 73 #[v, .func (.func 74) #[] #[]] W fun e W' => e = .returned (.tuple #[]) ∧ ∃ l' : List EvD, l'.Perm l ∧ l'.Pairwise (fun a b => ¬ ltK b a) ∧ OwnOf W' lo 54 7 encE v l' ∧ W.grownBy W' v.ownBlock :=
  sortsGE 74 (enters_of Tryz.func74 (by kernel_rfl) rfl) cmpLaysE W lo v l hown hlo hlen
end Go.Proofs.YtnejicklenhpeaaGreat
