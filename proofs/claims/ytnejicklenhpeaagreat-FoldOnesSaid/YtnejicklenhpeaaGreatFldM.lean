/- Maps with elements as keys; the order of folded events; a folded array in the making. fold.folding for a table: its walk. Conditions: none. -/
import Derived.Test.YtnejicklenhpeaaGreatFldK
namespace Go.Proofs.YtnejicklenhpeaaGreat
open Go.RowKit Go.Lib Go.Sort Go.WideMaps
set_option linter.unusedVariables false
theorem law_ele : KeyLaw Tryz.prog 51 := deep_law_laid (m := 8) (by kernel_rfl) (by decide) (of_decide_eq_true (by kernel_rfl)) (by kernel_rfl) (by kernel_rfl)
def wfE (e : ElD) : Prop := (Lit.int .i64 e.1).wf = true ∧ (Lit.int .i64 e.2.1).wf = true ∧ (Lit.int .i64 e.2.2.1).wf = true ∧ (Lit.int .i64 e.2.2.2).wf = true
theorem elD_inj (x y : ElD) (h : elD x = elD y) : x = y := by
  obtain ⟨a, b, c, d⟩ := x
  obtain ⟨a', b', c', d'⟩ := y
  simp only [elD, Value.agg.injEq] at h
  have h2 := congrArg Array.toList h
  simp at h2
  obtain ⟨rfl, rfl, rfl, rfl⟩ := h2
  rfl
set_option maxRecDepth 100000 in
theorem key_ele (k : ElD) (h : wfE k) : ∃ kl, keyOf Tryz.prog 51 (elD k) = some kl := by
  obtain ⟨v, x, y, z⟩ := k
  obtain ⟨hv, hx, hy, hz⟩ := h
  simp only at hv hx hy hz
  have e1 : Tryz.prog.cellsOf 3 = 1 := by kernel_rfl
  have e2 : Tryz.prog.cellsOf 29 = 3 := by kernel_rfl
  have e4 : Tryz.prog.cellsOf 51 = 4 := by kernel_rfl
  have e3 : Tryz.prog.keyType 51 = true := by kernel_rfl
  obtain ⟨m, hm⟩ := types_some
  have h2 : Tryz.prog.keyLits (m + 3) 51 [.int .i64 v, .int .i64 x, .int .i64 y, .int .i64 z] = some [.int .i64 v, .int .i64 x, .int .i64 y, .int .i64 z] := by
    simp [Program.keyLits, Tryz.underlying51, Tryz.underlying29, Tryz.underlying3, e1, e2, e4, List.range_succ, hv, hx, hy, hz]
  unfold keyOf
  rw [hm]
  simp [elD, Tryz.underlying51, e4, e3, Value.formed, Value.cells, h2]
/-- The time of each element of a list of events. -/
def timeF (l : List EvD) : ElD → Option Value := l.foldl (fun g x => fun e => if e = x.e then some (.int .i64 x.t) else g e) (fun _ => none)
theorem timeF_snoc (l : List EvD) (x : EvD) : timeF (l ++ [x]) = fun e => if e = x.e then some (.int .i64 x.t) else timeF l e := by simp [timeF]
abbrev TimeM (w : World) (b n : Nat) (l : List EvD) : Prop := MapV Tryz.prog 51 elD w b n (timeF l)
set_option maxRecDepth 100000 in
theorem TimeM.step {w : World} {b n : Nat} {l : List EvD} (h : TimeM w b n l) (hn : n < 1000000) (x : EvD) (hx : wfE x.e) :
    ∃ w1, (Instr.mapUpdate 111 (.map (some b)) (elD x.e) (.int .i64 x.t)).run Tryz.prog w = .ok () w1 ∧ TimeM w1 b (n + 1) (l ++ [x]) ∧ w.grownBy w1 (some b) := by
  obtain ⟨kl, hk⟩ := key_ele x.e hx
  obtain ⟨w1, hr, hm, hg⟩ := MapV.put h (Maps.Keyed.of_law law_ele) (t := 111) Tryz.underlying111 elD_inj hn hk (.int .i64 x.t)
  exact ⟨w1, hr, by unfold TimeM; rw [timeF_snoc]; exact hm, hg⟩
theorem mem_fevsL {r : RecD} {s : SchedD} {u : P3} {f : Int × Int} {x : EvD} : x ∈ fevsL r s u f ↔ ∃ y ∈ evsL r s u, x = foldEv (blocksL r u f) f y := by
  unfold fevsL
  rw [List.mem_map]
  exact ⟨fun ⟨y, h, e⟩ => ⟨y, h, e.symm⟩, fun ⟨y, h, e⟩ => ⟨y, h, e.symm⟩⟩
theorem ftab_sorted {r : RecD} {s : SchedD} {u : P3} {f : Int × Int} (h : clashL r s u = none) {l : List EvD} (hp : l.Perm (fevsL r s u f)) (ho : l.Pairwise (fun a b => ¬ ltK b a)) : SortedE l := by
  refine List.Pairwise.imp_of_mem (fun {a b} ha hb hab => ?_) ho
  have hab' : a = b ∨ ltK a b := by
    rcases ltK_tri a b with k | ⟨k1, k2, k3⟩ | k
    · exact .inr k
    · obtain ⟨x, hx, rfl⟩ := mem_fevsL.1 (hp.mem_iff.1 ha)
      obtain ⟨y, hy, rfl⟩ := mem_fevsL.1 (hp.mem_iff.1 hb)
      exact .inl (by rw [fev_inj h hx hy k1 k2 k3])
    · exact absurd k hab
  rcases hab' with rfl | k
  · have := leB_total a a; simpa using this
  · unfold leB
    have : ¬ (beforeB b a = true) := by
      rw [beforeB_iff]
      unfold ltK cltC at k
      obtain ⟨at', ⟨ac1, ac2⟩, ⟨ae, ap⟩⟩ := a
      obtain ⟨bt, ⟨bc1, bc2⟩, ⟨be, bp⟩⟩ := b
      simp only [Prod.mk.injEq] at k ⊢
      omega
    simpa using this
def foldE (r : RecD) (s : SchedD) (u : P3) (f : Int × Int) : Int := if askS r s u = 0 then (if eachB f.1 f.2 1 8 = true then tabErr r s u else 2) else askS r s u
/-- A folded array. -/
structure ArrAt (w : World) (ab : Nat) (r : RecD) (s : SchedD) (u : P3) (f : Int × Int) : Prop where
  lt : ab < w.heap.size
  ex : ∃ sb mb n ve l, w.cell? ⟨ab, 0, none⟩ = some (.pointer (some ⟨sb, 0, none⟩)) ∧ w.cell? ⟨ab, 1, none⟩ = some ve ∧ w.cell? ⟨ab, 2, none⟩ = some (.map (some mb)) ∧ SheetAt w sb r u f ∧ SlOf w w.heap.size 7 encE ve l ∧ (l.Perm (fevsL r s u f) ∧ SortedE l) ∧ ∃ m, m.Perm (fevsL r s u f) ∧ TimeM w mb n m
def FoldingR (r : RecD) (s : SchedD) (u : P3) (f : Int × Int) (e : Ending) (w' : World) : Prop := ∃ p, e = .returned (.tuple #[p, .int .i64 (foldE r s u f)]) ∧ (if foldE r s u f = 0 then ∃ ab, p = .pointer (some ⟨ab, 0, none⟩) ∧ ArrAt w' ab r s u f else p = .pointer none)
theorem foldingR_err {r : RecD} {s : SchedD} {u : P3} {f : Int × Int} {k : Int} (h : foldE r s u f = k) (hk : k ≠ 0) (w' : World) : FoldingR r s u f (.returned (.tuple #[.pointer none, .int .i64 k])) w' := by
  unfold FoldingR; rw [h]; exact ⟨_, rfl, by rw [if_neg hk]⟩
theorem foldingR_ok {r : RecD} {s : SchedD} {u : P3} {f : Int × Int} (h : foldE r s u f = 0) {w' : World} {ab : Nat} (hs : ArrAt w' ab r s u f) : FoldingR r s u f (.returned (.tuple #[.pointer (some ⟨ab, 0, none⟩), .int .i64 0])) w' := by
  unfold FoldingR; rw [h]; exact ⟨_, rfl, by rw [if_pos rfl]; exact ⟨_, rfl, hs⟩⟩
/-- A folded array that is being made. -/
structure ArrM (W : World) (ab sb mb n : Nat) (ve : Value) (L : List EvD) : Prop where
  blk : W.heap[ab]? = some (.cells #[.pointer (some ⟨sb, 0, none⟩), ve, .map (some mb)] 113 (0, 0))
  mlt : mb < ab
  map : TimeM W mb n L
  ob : OwnOf W (ab + 1) 54 7 encE ve L
section
variable {W W' : World} {ab sb mb n : Nat} {ve : Value} {L : List EvD}
theorem ArrM.lt (h : ArrM W ab sb mb n ve L) : ab < W.heap.size := lt_of_block h.blk
theorem ArrM.below (h : ArrM W ab sb mb n ve L) (hb : Below W.heap.size W W') : ArrM W' ab sb mb n ve L :=
  ⟨(hb.block ab h.lt).trans h.blk, h.mlt, h.map.kept hb, h.ob.kept hb⟩
theorem ArrM.cells (h : ArrM W ab sb mb n ve L) : W.cell? ⟨ab, 0, none⟩ = some (.pointer (some ⟨sb, 0, none⟩)) ∧ W.cell? ⟨ab, 1, none⟩ = some ve ∧ W.cell? ⟨ab, 2, none⟩ = some (.map (some mb)) ∧ W.frozen? ⟨ab, 1, none⟩ = false :=
  ⟨cell_of_row W ab 0 _ _ _ h.blk, cell_of_row W ab 1 _ _ _ h.blk, cell_of_row W ab 2 _ _ _ h.blk, frozen_of_row W ab 1 _ _ h.blk⟩
theorem ArrM.stay (h : ArrM W ab sb mb n ve L) (hg : W.grownBy W' ve.ownBlock) (o : Nat) : W'.cell? ⟨ab, o, none⟩ = W.cell? ⟨ab, o, none⟩ ∧ W'.frozen? ⟨ab, o, none⟩ = W.frozen? ⟨ab, o, none⟩ :=
  have e := hg.block ab h.lt (fun e => by have := (h.ob.lt _ e.symm).1; omega)
  ⟨World.cell?_of_block (a := ⟨ab, o, none⟩) e, World.frozen?_of_block (a := ⟨ab, o, none⟩) e⟩
/-- The array behind the append; its map is one event behind. -/
structure ArrP (W : World) (ab sb mb n : Nat) (ve : Value) (L : List EvD) (x : EvD) : Prop where
  blk : W.heap[ab]? = some (.cells #[.pointer (some ⟨sb, 0, none⟩), ve, .map (some mb)] 113 (0, 0))
  mlt : mb < ab
  map : TimeM W mb n L
  ob : OwnOf W (ab + 1) 54 7 encE ve (L ++ [x])
theorem ArrP.below {x : EvD} (h : ArrP W ab sb mb n ve L x) (hb : Below W.heap.size W W') : ArrP W' ab sb mb n ve L x :=
  ⟨(hb.block ab (lt_of_block h.blk)).trans h.blk, h.mlt, h.map.kept hb, h.ob.kept hb⟩
theorem ArrM.push (h : ArrM W ab sb mb n ve L) {g c : Nat} {x : EvD} (hg : W.grownBy W' ve.ownBlock) (ho : OwnOf W' (ab + 1) 54 7 encE (.slice (some ⟨g, 0, none⟩) (L.length + 1) c) (L ++ [x])) :
    ArrP (W'.setCell ⟨ab, 1, none⟩ (.slice (some ⟨g, 0, none⟩) (L.length + 1) c)) ab sb mb n (.slice (some ⟨g, 0, none⟩) (L.length + 1) c) L x := by
  have hs := h.lt
  have hgl : ab + 1 ≤ g := (ho.lt g rfl).1
  have n1 : ve.ownBlock ≠ some ab := fun e => by have := (h.ob.lt _ e).1; omega
  have n2 : ve.ownBlock ≠ some mb := fun e => by have := (h.ob.lt _ e).1; have := h.mlt; omega
  have hblk := (hg.block ab hs (fun e => n1 e.symm)).trans h.blk
  refine ⟨?_, h.mlt, ?_, ho.otherC (fun e => by have e2 : g = ab := Option.some.inj e; omega) _ _⟩
  · rw [heap_setCell_same W' ab 1 _ _ _ hblk]; rfl
  · exact (h.map.grown hg (fun e => n2 e.symm)).of_block (heap_setCell_other _ _ _ _ (by have := h.mlt; simp only; omega))
theorem ArrM.grow (h : ArrM W ab sb mb n ve L) {N : Nat} (hN : N ≤ ab) (hg : W.grownBy W' ve.ownBlock) (x : Value) : Below N W (W'.setCell ⟨ab, 1, none⟩ x) :=
  ((Below.refl N W).grown hg (by have := h.lt; omega) (fun r e => by have := (h.ob.lt r e).1; omega)).setCell (p := ⟨ab, 1, none⟩) hN x
theorem ArrP.time {x : EvD} (h : ArrP W ab sb mb n ve L x) (hm : TimeM W' mb (n + 1) (L ++ [x])) (hg : W.grownBy W' (some mb)) : ArrM W' ab sb mb (n + 1) ve (L ++ [x]) :=
  ⟨(hg.block ab (lt_of_block h.blk) (fun e => by have := h.mlt; simp only [Option.some.injEq] at e; omega)).trans h.blk, h.mlt, hm, h.ob.grown hg (.inl (fun e => by have := (h.ob.lt _ e).1; have := h.mlt; omega))⟩
end
end Go.Proofs.YtnejicklenhpeaaGreat
namespace Go.Proofs.YtnejicklenhpeaaGreat
open Go.RowKit Go.Lib
set_option linter.unusedVariables false
theorem slEvF : SlT Tryz.prog 59 54 (.agg #[.int .i64 0, .int .i64 0, .int .i64 0, .int .i64 0, .int .i64 0, .int .i64 0, .int .i64 0]) 7 56 := ⟨Tryz.underlying59, by kernel_rfl, rfl, by decide⟩
theorem sz_evF (W : World) : (sizeOf (Tryz.prog.elem 59)).run Tryz.prog W = .ok 7 W := by kernel_rfl
theorem un_evF : Tryz.prog.underlying 59 = some (.slice (Tryz.prog.elem 59)) := by kernel_rfl
theorem foldE_valid {r : RecD} {s : SchedD} {u : P3} {f : Int × Int} (h : validR r.n r.l r.vars = false) : foldE r s u f = 20 := by
  have e : askS r s u = 20 := by unfold askS; rw [h]; rfl
  unfold foldE; rw [e]; rfl
theorem foldE_sched {r : RecD} {s : SchedD} {u : P3} {f : Int × Int} (h : validR r.n r.l r.vars = true) (h2 : schedB r s = false) : foldE r s u f = 30 := by
  have e : askS r s u = 30 := by unfold askS; rw [h, h2]; rfl
  unfold foldE; rw [e]; rfl
theorem foldE_cut {r : RecD} {s : SchedD} {u : P3} {f : Int × Int} (h : validR r.n r.l r.vars = true) (h2 : schedB r s = true) (h3 : cutE r u f ≠ 0) : foldE r s u f = cutE r u f := by
  have e : askS r s u = askE r u := by unfold askS; rw [h, h2]; rfl
  unfold foldE cutE at *
  rw [e]
  by_cases ha : askE r u = 0
  · rw [if_pos ha] at h3 ⊢
    rw [if_pos ha]
    cases hz : eachB f.1 f.2 1 8
    · rfl
    · rw [hz] at h3; simp at h3
  · rw [if_neg ha, if_neg ha]
theorem foldE_tab {r : RecD} {s : SchedD} {u : P3} {f : Int × Int} (h : validR r.n r.l r.vars = true) (h2 : schedB r s = true) (h3 : cutE r u f = 0) : foldE r s u f = tabErr r s u := by
  have e : askS r s u = askE r u := by unfold askS; rw [h, h2]; rfl
  obtain ⟨ha, hz⟩ := cutE_ok h3
  unfold foldE
  rw [e, if_pos ha, if_pos hz]
theorem tab_clash {r : RecD} {s : SchedD} {u : P3} (h : tabErr r s u = 0) : askS r s u = 0 ∧ clashL r s u = none := by
  unfold tabErr at h
  by_cases ha : askS r s u = 0
  · rw [if_pos ha] at h
    refine ⟨ha, ?_⟩
    split at h
    · split at h
      · rename_i hc; exact Option.isNone_iff_eq_none.1 hc
      · omega
    · omega
  · rw [if_neg ha] at h; exact absurd h ha
theorem evs_small {r : RecD} {s : SchedD} {u : P3} (ha : askS r s u = 0) {x : EvD} (hx : x ∈ evsL r s u) : (-100000 ≤ x.t ∧ x.t ≤ 100000) ∧ ((-1000 ≤ x.c.1 ∧ x.c.1 ≤ 1000) ∧ (-1000 ≤ x.c.2 ∧ x.c.2 ≤ 1000)) ∧ wfE x.e := by
  obtain ⟨hv, hs, hd, hae⟩ := askS_ok ha
  obtain ⟨v, hvl, p, hp, rfl⟩ := mem_evsL.1 hx
  have hsm := pts_sm hv hp
  have hcm := cell_small hd hsm
  have hfm := form_sm hs
  have h0 := mul_bd hfm.1 hsm.1
  have h1 := mul_bd hfm.2.1 hsm.2.1
  have h2 := mul_bd hfm.2.2 hsm.2.2
  have ho := off_bd hs
  have hoo := off_get hs v
  have hvl4 := (validR_out hv).2.2.1.2
  obtain ⟨q0, q1, q2⟩ := hsm
  refine ⟨?_, ⟨by simp only [evAt]; omega, by simp only [evAt]; omega⟩, wf_sm (by simp only [evAt]; omega), wf_sm (by simp only [evAt]; omega), wf_sm (by simp only [evAt]; omega), wf_sm (by simp only [evAt]; omega)⟩
  simp only [evAt, dot3]
  omega
set_option maxHeartbeats 16000000 in
set_option maxRecDepth 100000 in
theorem folding_l (r : RecD) (s : SchedD) (u : P3) (f : Int × Int) (w : World) (hr : RecRd w r) (hs : SchedRd w s) :
    Calls Tryz.prog 58 #[.agg #[.int .i64 r.n, r.lv, r.vv], .agg #[.int .i64 s.f.1, .int .i64 s.f.2.1, .int .i64 s.f.2.2, s.ov], .agg #[.int .i64 u.1, .int .i64 u.2.1, .int .i64 u.2.2], .agg #[.int .i64 f.1, .int .i64 f.2], .slice none 0 0] w fun e w' => FoldingR r s u f e w' ∧ Below w.heap.size w w' := by
  have HR := Lib.hid hr
  have HS := Lib.hid hs
  clear hr hs
  have HVL := Lib.hid (fun (W : World) (h : RecRd W r) => rValid_l r W h)
  have HSV := Lib.hid (fun (W : World) (h : RecRd W r) (h2 : SchedRd W s) => sValid_l r s W h h2)
  have HCU := Lib.hid (fun (W : World) (h : RecRd W r) => cut_l r u f W h)
  have HTB := Lib.hid (fun (W : World) (h : RecRd W r) (h2 : SchedRd W s) => Table_l r s u W h h2)
  obtain ⟨W0, hW0⟩ : ∃ W : World, (((w.alloc (Obj.cells #[.int .i64 r.n, r.lv, r.vv] 27)).alloc (Obj.cells #[.int .i64 s.f.1, .int .i64 s.f.2.1, .int .i64 s.f.2.2, s.ov] 47)).alloc (Obj.cells #[.int .i64 u.1, .int .i64 u.2.1, .int .i64 u.2.2] 29)).alloc (Obj.cells #[.int .i64 f.1, .int .i64 f.2] 31) = W := ⟨_, rfl⟩
  have kw0 : Below w.heap.size w W0 := by rw [← hW0]; exact (by repeat (first | exact Below.refl _ _ | assumption | (refine Below.drew ?_) | (refine below_drewN ?_ _) | (refine Below.alloc ?_ (by first | (simp; done) | (simp; omega) | omega) _) | (refine Below.setCell ?_ (by first | (simp; done) | (simp; omega) | omega) _) | (refine Below.trans ?_ (Below.mono (by assumption) (by first | (simp; done) | (simp; omega) | omega)))))
  have ks0 : W0.heap.size = w.heap.size + 4 := by rw [← hW0]; simp
  have RD0 := Lib.hid (show ∀ V, Below W0.heap.size W0 V → V.cell? ⟨w.heap.size, 0, none⟩ = some (.int .i64 r.n) ∧ V.cell? ⟨w.heap.size, 1, none⟩ = some (r.lv) ∧ V.cell? ⟨w.heap.size, 2, none⟩ = some (r.vv) ∧ V.cell? ⟨w.heap.size + 1, 0, none⟩ = some (.int .i64 s.f.1) ∧ V.cell? ⟨w.heap.size + 1, 1, none⟩ = some (.int .i64 s.f.2.1) ∧ V.cell? ⟨w.heap.size + 1, 2, none⟩ = some (.int .i64 s.f.2.2) ∧ V.cell? ⟨w.heap.size + 1, 3, none⟩ = some (s.ov) ∧ V.cell? ⟨w.heap.size + 1 + 1, 0, none⟩ = some (.int .i64 u.1) ∧ V.cell? ⟨w.heap.size + 1 + 1, 1, none⟩ = some (.int .i64 u.2.1) ∧ V.cell? ⟨w.heap.size + 1 + 1, 2, none⟩ = some (.int .i64 u.2.2) ∧ V.cell? ⟨w.heap.size + 1 + 1 + 1, 0, none⟩ = some (.int .i64 f.1) ∧ V.cell? ⟨w.heap.size + 1 + 1 + 1, 1, none⟩ = some (.int .i64 f.2) from fun V h => by
      refine ⟨(h.cell (p := ⟨w.heap.size, 0, none⟩) (by simp; omega)).trans ?_, (h.cell (p := ⟨w.heap.size, 1, none⟩) (by simp; omega)).trans ?_, (h.cell (p := ⟨w.heap.size, 2, none⟩) (by simp; omega)).trans ?_, (h.cell (p := ⟨w.heap.size + 1, 0, none⟩) (by simp; omega)).trans ?_, (h.cell (p := ⟨w.heap.size + 1, 1, none⟩) (by simp; omega)).trans ?_, (h.cell (p := ⟨w.heap.size + 1, 2, none⟩) (by simp; omega)).trans ?_, (h.cell (p := ⟨w.heap.size + 1, 3, none⟩) (by simp; omega)).trans ?_, (h.cell (p := ⟨w.heap.size + 1 + 1, 0, none⟩) (by simp; omega)).trans ?_, (h.cell (p := ⟨w.heap.size + 1 + 1, 1, none⟩) (by simp; omega)).trans ?_, (h.cell (p := ⟨w.heap.size + 1 + 1, 2, none⟩) (by simp; omega)).trans ?_, (h.cell (p := ⟨w.heap.size + 1 + 1 + 1, 0, none⟩) (by simp; omega)).trans ?_, (h.cell (p := ⟨w.heap.size + 1 + 1 + 1, 1, none⟩) (by simp; omega)).trans ?_⟩ <;> (subst hW0; go_simp))
  have HW0 := Lib.hid hW0; have KW0 := Lib.hid kw0; clear hW0 kw0
  have hks : w.heap.size ≤ W0.heap.size := by omega
  cases hv : validR r.n r.l r.vars
  · have HE := Lib.hid (fun w' => foldingR_err (s := s) (u := u) (f := f) (foldE_valid hv) (by omega) w')
    rw [hv] at HVL
    clear hv
    go_enter Tryz.func58, Tryz.ntmps58
    go_wp2_with (go_at_call 112; rw [HW0.out]; refine (HVL.out _ (HR.out.below KW0.out)).mono ?_; go_must (rintro e w1 ⟨rfl, hb1⟩; have K0 := hb1; have HB1 := Lib.hid hb1; clear hb1; obtain ⟨k0_0, k0_1, k0_2, k0_3, k0_4, k0_5, k0_6, k0_7, k0_8, k0_9, k0_10, k0_11⟩ := RD0.out _ K0; skip))
    go_ret2
    exact ⟨HE.out _, (KW0.out.trans (K0.mono (by omega)))⟩
  cases hv2 : schedB r s
  · have HE := Lib.hid (fun w' => foldingR_err (u := u) (f := f) (foldE_sched hv hv2) (by omega) w')
    rw [hv] at HVL
    rw [hv2] at HSV
    clear hv hv2
    go_enter Tryz.func58, Tryz.ntmps58
    go_wp2_with (first | (go_at_call 112; rw [HW0.out]; refine (HVL.out _ (HR.out.below KW0.out)).mono ?_; go_must (rintro e w1 ⟨rfl, hb1⟩; have K0 := hb1; have HB1 := Lib.hid hb1; clear hb1; obtain ⟨k0_0, k0_1, k0_2, k0_3, k0_4, k0_5, k0_6, k0_7, k0_8, k0_9, k0_10, k0_11⟩ := RD0.out _ K0; skip)) | (go_at_call 113; refine (HSV.out _ (HR.out.below (KW0.out.trans (K0.mono (by omega)))) (HS.out.below (KW0.out.trans (K0.mono (by omega))))).mono ?_; go_must (rintro e w2 ⟨rfl, hb2⟩; have K' := (by first | exact below_at K0 (by have := K0.size; omega) hb2 | exact below_at K0 (by have := K0.size; omega) (by repeat (first | exact Below.refl _ _ | assumption | (refine Below.drew ?_) | (refine below_drewN ?_ _) | (refine Below.alloc ?_ (by first | (simp; done) | (simp; omega) | omega) _) | (refine Below.setCell ?_ (by first | (simp; done) | (simp; omega) | omega) _) | (refine Below.trans ?_ (Below.mono (by assumption) (by first | (simp; done) | (simp; omega) | omega))))) : Below W0.heap.size W0 w2); have HB2 := Lib.hid hb2; clear K0 hb2; (try clear k0_0); (try clear k0_1); (try clear k0_2); (try clear k0_3); (try clear k0_4); (try clear k0_5); (try clear k0_6); (try clear k0_7); (try clear k0_8); (try clear k0_9); (try clear k0_10); (try clear k0_11); have K0 := K'; clear K'; obtain ⟨k0_0, k0_1, k0_2, k0_3, k0_4, k0_5, k0_6, k0_7, k0_8, k0_9, k0_10, k0_11⟩ := RD0.out _ K0; skip)))
    go_ret2
    exact ⟨HE.out _, (KW0.out.trans (K0.mono (by omega)))⟩
  by_cases hc : cutE r u f = 0
  rotate_left
  · have HE := Lib.hid (fun w' => foldingR_err (foldE_cut hv hv2 hc) hc w')
    have hnz : (cutE r u f != 0) = true := by simpa using hc
    have HA := Lib.hid hc
    rw [hv] at HVL
    rw [hv2] at HSV
    clear hv hv2 hc
    generalize hA : cutE r u f = A at *
    go_enter Tryz.func58, Tryz.ntmps58
    go_wp2_with (first | (go_at_call 112; rw [HW0.out]; refine (HVL.out _ (HR.out.below KW0.out)).mono ?_; go_must (rintro e w1 ⟨rfl, hb1⟩; have K0 := hb1; have HB1 := Lib.hid hb1; clear hb1; obtain ⟨k0_0, k0_1, k0_2, k0_3, k0_4, k0_5, k0_6, k0_7, k0_8, k0_9, k0_10, k0_11⟩ := RD0.out _ K0; skip)) | (go_at_call 113; refine (HSV.out _ (HR.out.below (KW0.out.trans (K0.mono (by omega)))) (HS.out.below (KW0.out.trans (K0.mono (by omega))))).mono ?_; go_must (rintro e w2 ⟨rfl, hb2⟩; have K' := (by first | exact below_at K0 (by have := K0.size; omega) hb2 | exact below_at K0 (by have := K0.size; omega) (by repeat (first | exact Below.refl _ _ | assumption | (refine Below.drew ?_) | (refine below_drewN ?_ _) | (refine Below.alloc ?_ (by first | (simp; done) | (simp; omega) | omega) _) | (refine Below.setCell ?_ (by first | (simp; done) | (simp; omega) | omega) _) | (refine Below.trans ?_ (Below.mono (by assumption) (by first | (simp; done) | (simp; omega) | omega))))) : Below W0.heap.size W0 w2); have HB2 := Lib.hid hb2; clear K0 hb2; (try clear k0_0); (try clear k0_1); (try clear k0_2); (try clear k0_3); (try clear k0_4); (try clear k0_5); (try clear k0_6); (try clear k0_7); (try clear k0_8); (try clear k0_9); (try clear k0_10); (try clear k0_11); have K0 := K'; clear K'; obtain ⟨k0_0, k0_1, k0_2, k0_3, k0_4, k0_5, k0_6, k0_7, k0_8, k0_9, k0_10, k0_11⟩ := RD0.out _ K0; skip)) | (go_at_call 46; refine (HCU.out _ (HR.out.below (KW0.out.trans (K0.mono (by omega))))).mono ?_; go_must (rintro e w3 ⟨⟨p, rfl, hp⟩, hb3⟩; have K' := (by first | exact below_at K0 (by have := K0.size; omega) hb3 | exact below_at K0 (by have := K0.size; omega) (by repeat (first | exact Below.refl _ _ | assumption | (refine Below.drew ?_) | (refine below_drewN ?_ _) | (refine Below.alloc ?_ (by first | (simp; done) | (simp; omega) | omega) _) | (refine Below.setCell ?_ (by first | (simp; done) | (simp; omega) | omega) _) | (refine Below.trans ?_ (Below.mono (by assumption) (by first | (simp; done) | (simp; omega) | omega))))) : Below W0.heap.size W0 w3); have HB3 := Lib.hid hb3; clear K0 hb3; (try clear k0_0); (try clear k0_1); (try clear k0_2); (try clear k0_3); (try clear k0_4); (try clear k0_5); (try clear k0_6); (try clear k0_7); (try clear k0_8); (try clear k0_9); (try clear k0_10); (try clear k0_11); have K0 := K'; clear K'; obtain ⟨k0_0, k0_1, k0_2, k0_3, k0_4, k0_5, k0_6, k0_7, k0_8, k0_9, k0_10, k0_11⟩ := RD0.out _ K0; rw [hA]; rw [hA, if_neg HA.out] at hp; subst hp)))
    go_ret2
    exact ⟨HE.out _, (KW0.out.trans (K0.mono (by omega)))⟩
  by_cases ht : tabErr r s u = 0
  rotate_left
  · have HE := Lib.hid (fun w' => foldingR_err (foldE_tab hv hv2 hc) ht w')
    have hnz : (tabErr r s u != 0) = true := by simpa using ht
    have HA := Lib.hid ht
    have HC := Lib.hid hc
    rw [hv] at HVL
    rw [hv2] at HSV
    clear hv hv2 hc ht
    generalize hA : tabErr r s u = A at *
    go_enter Tryz.func58, Tryz.ntmps58
    go_wp2_with (first | (go_at_call 112; rw [HW0.out]; refine (HVL.out _ (HR.out.below KW0.out)).mono ?_; go_must (rintro e w1 ⟨rfl, hb1⟩; have K0 := hb1; have HB1 := Lib.hid hb1; clear hb1; obtain ⟨k0_0, k0_1, k0_2, k0_3, k0_4, k0_5, k0_6, k0_7, k0_8, k0_9, k0_10, k0_11⟩ := RD0.out _ K0; skip)) | (go_at_call 113; refine (HSV.out _ (HR.out.below (KW0.out.trans (K0.mono (by omega)))) (HS.out.below (KW0.out.trans (K0.mono (by omega))))).mono ?_; go_must (rintro e w2 ⟨rfl, hb2⟩; have K' := (by first | exact below_at K0 (by have := K0.size; omega) hb2 | exact below_at K0 (by have := K0.size; omega) (by repeat (first | exact Below.refl _ _ | assumption | (refine Below.drew ?_) | (refine below_drewN ?_ _) | (refine Below.alloc ?_ (by first | (simp; done) | (simp; omega) | omega) _) | (refine Below.setCell ?_ (by first | (simp; done) | (simp; omega) | omega) _) | (refine Below.trans ?_ (Below.mono (by assumption) (by first | (simp; done) | (simp; omega) | omega))))) : Below W0.heap.size W0 w2); have HB2 := Lib.hid hb2; clear K0 hb2; (try clear k0_0); (try clear k0_1); (try clear k0_2); (try clear k0_3); (try clear k0_4); (try clear k0_5); (try clear k0_6); (try clear k0_7); (try clear k0_8); (try clear k0_9); (try clear k0_10); (try clear k0_11); have K0 := K'; clear K'; obtain ⟨k0_0, k0_1, k0_2, k0_3, k0_4, k0_5, k0_6, k0_7, k0_8, k0_9, k0_10, k0_11⟩ := RD0.out _ K0; skip)) | (go_at_call 46; refine (HCU.out _ (HR.out.below (KW0.out.trans (K0.mono (by omega))))).mono ?_; go_must (rintro e w3 ⟨⟨p, rfl, hp⟩, hb3⟩; have K' := (by first | exact below_at K0 (by have := K0.size; omega) hb3 | exact below_at K0 (by have := K0.size; omega) (by repeat (first | exact Below.refl _ _ | assumption | (refine Below.drew ?_) | (refine below_drewN ?_ _) | (refine Below.alloc ?_ (by first | (simp; done) | (simp; omega) | omega) _) | (refine Below.setCell ?_ (by first | (simp; done) | (simp; omega) | omega) _) | (refine Below.trans ?_ (Below.mono (by assumption) (by first | (simp; done) | (simp; omega) | omega))))) : Below W0.heap.size W0 w3); have HB3 := Lib.hid hb3; clear K0 hb3; (try clear k0_0); (try clear k0_1); (try clear k0_2); (try clear k0_3); (try clear k0_4); (try clear k0_5); (try clear k0_6); (try clear k0_7); (try clear k0_8); (try clear k0_9); (try clear k0_10); (try clear k0_11); have K0 := K'; clear K'; obtain ⟨k0_0, k0_1, k0_2, k0_3, k0_4, k0_5, k0_6, k0_7, k0_8, k0_9, k0_10, k0_11⟩ := RD0.out _ K0; rw [HC.out]; rw [HC.out, if_pos rfl] at hp; obtain ⟨sb, rfl, hsh⟩ := hp; clear hsh)))
    refine wp_loop_rounds 1 ?_
    rw [rounds_succ]
    go_wp2_with (first | (go_at_call 28; refine (HTB.out _ (HR.out.below (KW0.out.trans (K0.mono (by omega)))) (HS.out.below (KW0.out.trans (K0.mono (by omega))))).mono ?_; go_must (rintro e w4 ⟨⟨v, l, rfl, hsl, hif⟩, hb4⟩; have K' := (by first | exact below_at K0 (by have := K0.size; omega) hb4 | exact below_at K0 (by have := K0.size; omega) (by repeat (first | exact Below.refl _ _ | assumption | (refine Below.drew ?_) | (refine below_drewN ?_ _) | (refine Below.alloc ?_ (by first | (simp; done) | (simp; omega) | omega) _) | (refine Below.setCell ?_ (by first | (simp; done) | (simp; omega) | omega) _) | (refine Below.trans ?_ (Below.mono (by assumption) (by first | (simp; done) | (simp; omega) | omega))))) : Below W0.heap.size W0 w4); have HB4 := Lib.hid hb4; clear K0 hb4; (try clear k0_0); (try clear k0_1); (try clear k0_2); (try clear k0_3); (try clear k0_4); (try clear k0_5); (try clear k0_6); (try clear k0_7); (try clear k0_8); (try clear k0_9); (try clear k0_10); (try clear k0_11); have K0 := K'; clear K'; obtain ⟨k0_0, k0_1, k0_2, k0_3, k0_4, k0_5, k0_6, k0_7, k0_8, k0_9, k0_10, k0_11⟩ := RD0.out _ K0; rw [hA]; obtain ⟨va, vc, hve, -⟩ := hsl.shape; subst hve; clear hsl hif)))
    go_ret2
    exact ⟨HE.out _, (KW0.out.trans (K0.mono (by omega)))⟩
  obtain ⟨hask, hcl⟩ := tab_clash ht
  have HT := Lib.hid ht
  have HC := Lib.hid hc
  have HY := Lib.hid (fun (w' : World) (ab : Nat) (h : ArrAt w' ab r s u f) => foldingR_ok ((foldE_tab hv hv2 hc).trans ht) h)
  have hz := (cutE_ok hc).2
  have hbl : (blocksL r u f).length ≤ 1000 := Nat.le_trans (sortC_len _) (by rw [List.length_map]; exact cellsL_len (cutE_ok hc).1)
  have HSM := Lib.hid (fun (x : EvD) (hx : x ∈ evsL r s u) => evs_small hask hx)
  have HFL := Lib.hid (fun (sb : Nat) (x : EvD) ht hcc (W : World) (h : SheetAt W sb r u f) => folded_l r u f hz hbl sb x ht hcc W h)
  have HSO := Lib.hid (fun (l : List EvD) (hp : l.Perm (fevsL r s u f)) ho => ftab_sorted (f := f) hcl hp ho)
  have HFD := Lib.hid (show fevsL r s u f = (evsL r s u).map (foldEv (blocksL r u f) f) from rfl)
  have hlb : (evsL r s u).length ≤ 4000 := by
    rw [evsL_len]
    have hvo := validR_out (askS_ok hask).1
    exact Nat.mul_le_mul hvo.2.2.1.2 hvo.2.1
  rw [hv] at HVL
  rw [hv2] at HSV
  have hmm := @run_makeMap Tryz.prog
  clear hv hv2 hc ht hask hcl hz hbl
  go_enter Tryz.func58, Tryz.ntmps58
  go_wp2_with (first | (go_at_call 112; rw [HW0.out]; refine (HVL.out _ (HR.out.below KW0.out)).mono ?_; go_must (rintro e w1 ⟨rfl, hb1⟩; have K0 := hb1; have HB1 := Lib.hid hb1; clear hb1; obtain ⟨k0_0, k0_1, k0_2, k0_3, k0_4, k0_5, k0_6, k0_7, k0_8, k0_9, k0_10, k0_11⟩ := RD0.out _ K0; skip)) | (go_at_call 113; refine (HSV.out _ (HR.out.below (KW0.out.trans (K0.mono (by omega)))) (HS.out.below (KW0.out.trans (K0.mono (by omega))))).mono ?_; go_must (rintro e w2 ⟨rfl, hb2⟩; have K' := (by first | exact below_at K0 (by have := K0.size; omega) hb2 | exact below_at K0 (by have := K0.size; omega) (by repeat (first | exact Below.refl _ _ | assumption | (refine Below.drew ?_) | (refine below_drewN ?_ _) | (refine Below.alloc ?_ (by first | (simp; done) | (simp; omega) | omega) _) | (refine Below.setCell ?_ (by first | (simp; done) | (simp; omega) | omega) _) | (refine Below.trans ?_ (Below.mono (by assumption) (by first | (simp; done) | (simp; omega) | omega))))) : Below W0.heap.size W0 w2); have HB2 := Lib.hid hb2; clear K0 hb2; (try clear k0_0); (try clear k0_1); (try clear k0_2); (try clear k0_3); (try clear k0_4); (try clear k0_5); (try clear k0_6); (try clear k0_7); (try clear k0_8); (try clear k0_9); (try clear k0_10); (try clear k0_11); have K0 := K'; clear K'; obtain ⟨k0_0, k0_1, k0_2, k0_3, k0_4, k0_5, k0_6, k0_7, k0_8, k0_9, k0_10, k0_11⟩ := RD0.out _ K0; skip)) | (go_at_call 46; refine (HCU.out _ (HR.out.below (KW0.out.trans (K0.mono (by omega))))).mono ?_; go_must (rintro e w3 ⟨⟨p, rfl, hp⟩, hb3⟩; have K' := (by first | exact below_at K0 (by have := K0.size; omega) hb3 | exact below_at K0 (by have := K0.size; omega) (by repeat (first | exact Below.refl _ _ | assumption | (refine Below.drew ?_) | (refine below_drewN ?_ _) | (refine Below.alloc ?_ (by first | (simp; done) | (simp; omega) | omega) _) | (refine Below.setCell ?_ (by first | (simp; done) | (simp; omega) | omega) _) | (refine Below.trans ?_ (Below.mono (by assumption) (by first | (simp; done) | (simp; omega) | omega))))) : Below W0.heap.size W0 w3); have HB3 := Lib.hid hb3; clear K0 hb3; (try clear k0_0); (try clear k0_1); (try clear k0_2); (try clear k0_3); (try clear k0_4); (try clear k0_5); (try clear k0_6); (try clear k0_7); (try clear k0_8); (try clear k0_9); (try clear k0_10); (try clear k0_11); have K0 := K'; clear K'; obtain ⟨k0_0, k0_1, k0_2, k0_3, k0_4, k0_5, k0_6, k0_7, k0_8, k0_9, k0_10, k0_11⟩ := RD0.out _ K0; rw [HC.out]; rw [HC.out, if_pos rfl] at hp; obtain ⟨sb, rfl, hsh⟩ := hp; have HSH := Lib.hid hsh; clear hsh)))
  refine wp_loop_rounds 1 ?_
  rw [rounds_succ]
  go_wp2_with (first | (go_at_call 28; refine (HTB.out _ (HR.out.below (KW0.out.trans (K0.mono (by omega)))) (HS.out.below (KW0.out.trans (K0.mono (by omega))))).mono ?_; go_must (rintro e w4 ⟨⟨v, l, rfl, hsl, hif⟩, hb4⟩; have K' := (by first | exact below_at K0 (by have := K0.size; omega) hb4 | exact below_at K0 (by have := K0.size; omega) (by repeat (first | exact Below.refl _ _ | assumption | (refine Below.drew ?_) | (refine below_drewN ?_ _) | (refine Below.alloc ?_ (by first | (simp; done) | (simp; omega) | omega) _) | (refine Below.setCell ?_ (by first | (simp; done) | (simp; omega) | omega) _) | (refine Below.trans ?_ (Below.mono (by assumption) (by first | (simp; done) | (simp; omega) | omega))))) : Below W0.heap.size W0 w4); have HB4 := Lib.hid hb4; clear K0 hb4; (try clear k0_0); (try clear k0_1); (try clear k0_2); (try clear k0_3); (try clear k0_4); (try clear k0_5); (try clear k0_6); (try clear k0_7); (try clear k0_8); (try clear k0_9); (try clear k0_10); (try clear k0_11); have K0 := K'; clear K'; obtain ⟨k0_0, k0_1, k0_2, k0_3, k0_4, k0_5, k0_6, k0_7, k0_8, k0_9, k0_10, k0_11⟩ := RD0.out _ K0; rw [HT.out]; rw [if_pos HT.out] at hif; obtain ⟨va, vc, hve, -⟩ := hsl.shape; subst hve; have HSL := Lib.hid hsl; have HIF := Lib.hid hif; clear hsl hif)))
  clear hmm HVL HSV HCU HTB HR HS
  have HBW := Lib.hid (KW0.out.trans (K0.mono (by omega)))
  have HS4 := Lib.hid (HSH.out.below HB4.out)
  have HLM := Lib.hid (fun (x : EvD) (hx : x ∈ l) => HSM.out x (HIF.out.1.mem_iff.1 hx))
  have HLP := Lib.hid (show (l.map (foldEv (blocksL r u f) f)).Perm (fevsL r s u f) from by rw [HFD.out]; exact HIF.out.1.map _)
  have hll : l.length ≤ 4000 := by rw [HIF.out.1.length_eq]; exact hlb
  obtain ⟨xa, xc, g, off, he, hlc, hcm, hx⟩ := SlOf.at (enc := encE) (fun _ => rfl) un_evF sz_evF HSL.out
  cases he
  have HX := Lib.hid hx
  clear hx HSL HSM HIF hlb
  (try clear k0_0); (try clear k0_1); (try clear k0_2); (try clear k0_3); (try clear k0_4); (try clear k0_5); (try clear k0_6); (try clear k0_7); (try clear k0_8); (try clear k0_9); (try clear k0_10); (try clear k0_11)
  clear K0
  refine forgetW (fun V => ArrM V (w4.heap.size + 1) sb w4.heap.size 0 (.slice none 0 0) [] ∧ Below w4.heap.size w4 V) ⟨⟨(alloc_twoF w4 _ _).2, by omega, (MapV.made Tryz.prog 51 elD w4).kept ((Below.refl _ _).alloc (Nat.le_refl _) _), OwnOf.nil _ _ _ _ _⟩, by exact (by repeat (first | exact Below.refl _ _ | assumption | (refine Below.drew ?_) | (refine below_drewN ?_ _) | (refine Below.alloc ?_ (by first | (simp; done) | (simp; omega) | omega) _) | (refine Below.setCell ?_ (by first | (simp; done) | (simp; omega) | omega) _) | (refine Below.trans ?_ (Below.mono (by assumption) (by first | (simp; done) | (simp; omega) | omega)))))⟩ ?_
  rintro V ⟨hvm, hvb⟩
  have HFE := Lib.hid (show ∀ x, (foldEv (blocksL r u f) f x).e = x.e from fun x => rfl)
  generalize foldEv (blocksL r u f) f = FE at *
  go_loopw [21, 22, 76] (fun t21 t22 t76 wr => ∃ (k n : Nat) (ve : Value), k ≤ l.length ∧ n ≤ k ∧ t76 = .int .i64 (k : Int) ∧ Hid (ArrM wr (w4.heap.size + 1) sb w4.heap.size n ve ((l.take k).map FE)) ∧ Hid (Below w4.heap.size w4 wr)) (fun _ _ t76 _ => l.length - (intOf t76).toNat)
  case atStart => exact ⟨0, 0, _, Nat.zero_le _, Nat.le_refl _, rfl, Lib.hid hvm, Lib.hid hvb⟩
  case round =>
    clear hvm hvb
    obtain ⟨k, n, ve, hk, hn, rfl, HM, HB⟩ := hrel
    have hs3 := HB.out.size
    by_cases hlt : k < l.length
    rotate_left
    · have hke : k = l.length := by omega
      subst hke
      rw [List.take_length] at HM
      obtain ⟨m0, m1, m2, m3⟩ := HM.out.cells
      have hml : (l.map FE).length ≤ 100000 := by rw [List.length_map]; omega
      have HLP2 := HLP
      clear HLP HX HLM hk hlt
      generalize l.map FE = LL at *
      obtain ⟨ea, ec, hee⟩ := HM.out.ob.shape
      subst hee
      have hlta := HM.out.lt
      go_wp2_with (go_at_call 73; refine (fsortE_l wr (w4.heap.size + 1 + 1) _ LL HM.out.ob HM.out.lt hml).mono ?_; go_must (rintro e w7 ⟨rfl, l7, hp7, hs7, ho7, hg7⟩; have HP7 := Lib.hid hp7; have HS7 := Lib.hid hs7; have HO7 := Lib.hid ho7; have HG7 := Lib.hid hg7; clear hp7 hs7 ho7 hg7))
      have HQ := Lib.hid (HP7.out.trans HLP2.out)
      have hb7 : Below w4.heap.size w4 w7 := HB.out.grown HG7.out (by omega) (fun r e => by have := (HM.out.ob.lt r e).1; omega)
      have hbk := HG7.out.block (w4.heap.size + 1) hlta (fun e => by have := (HM.out.ob.lt _ e.symm).1; omega)
      have HA := Lib.hid (show ArrAt w7 (w4.heap.size + 1) r s u f from ⟨by have := HG7.out.size; omega, sb, w4.heap.size, n, .slice ea LL.length ec, l7, (World.cell?_of_block (a := ⟨w4.heap.size + 1, 0, none⟩) hbk).trans m0, (World.cell?_of_block (a := ⟨w4.heap.size + 1, 1, none⟩) hbk).trans m1, (World.cell?_of_block (a := ⟨w4.heap.size + 1, 2, none⟩) hbk).trans m2, HS4.out.below hb7, HO7.out.sl, ⟨HQ.out, HSO.out _ HQ.out HS7.out⟩, LL, HLP2.out, HM.out.map.grown HG7.out (fun e => by have := (HM.out.ob.lt _ e.symm).1; omega)⟩)
      have HBE := Lib.hid (HBW.out.trans (hb7.mono (by have := HBW.out.size; omega)))
      clear hb7 hbk m0 m1 m2 m3
      go_ret2
      exact ⟨HY.out _ _ HA.out, HBE.out⟩
    have hkl : (k : Int) < (l.length : Int) := by omega
    have hk0 : (0 : Int) ≤ (k : Int) := by omega
    obtain ⟨-, hi, hgw, hcx⟩ := HX.out k hlt
    have rd := fun j hj => (HB.out.cell (p := ⟨g, off + 7 * k + j, none⟩) hgw).trans (hcx j hj)
    have r0 : wr.cell? ⟨g, off + 7 * k, none⟩ = some (.int .i64 l[k].t) := rd 0 (by omega)
    have r1 : wr.cell? ⟨g, off + 7 * k + 1, none⟩ = some (.int .i64 l[k].c.1) := rd 1 (by omega)
    have r2 : wr.cell? ⟨g, off + 7 * k + 2, none⟩ = some (.int .i64 l[k].c.2) := rd 2 (by omega)
    have r3 : wr.cell? ⟨g, off + 7 * k + 3, none⟩ = some (.int .i64 l[k].e.1) := rd 3 (by omega)
    have r4 : wr.cell? ⟨g, off + 7 * k + 4, none⟩ = some (.int .i64 l[k].e.2.1) := rd 4 (by omega)
    have r5 : wr.cell? ⟨g, off + 7 * k + 5, none⟩ = some (.int .i64 l[k].e.2.2.1) := rd 5 (by omega)
    have r6 : wr.cell? ⟨g, off + 7 * k + 6, none⟩ = some (.int .i64 l[k].e.2.2.2) := rd 6 (by omega)
    clear rd hcx
    obtain ⟨hxt, hxc, hxe⟩ := HLM.out l[k] (List.getElem_mem hlt)
    have HFK := Lib.hid (fun (W : World) (h : Below w4.heap.size w4 W) => HFL.out sb l[k] hxt hxc W (HS4.out.below h))
    have HWE := Lib.hid (show wfE (FE l[k]).e from by rw [HFE.out]; exact hxe)
    have HTK := Lib.hid (show (l.take (k + 1)).map FE = (l.take k).map FE ++ [FE l[k]] by rw [List.take_succ_eq_append_getElem hlt, List.map_append]; rfl)
    have hlb : ((l.take k).map FE).length + 1 ≤ 1073741824 := by rw [List.length_map, List.length_take]; omega
    have HLT := Lib.hid hlt
    clear hxt hxc hxe
    generalize (l.take k).map FE = LL at *
    generalize FE l[k] = y at *
    generalize l[k] = x at *
    clear hlt
    obtain ⟨xt, ⟨xa2, xb2⟩, ⟨xv, x0, x1, x2⟩⟩ := x
    obtain ⟨yt, ⟨ya, yb⟩, ⟨yv, y0, y1, y2⟩⟩ := y
    simp only at r0 r1 r2 r3 r4 r5 r6
    unfold evD at HFK
    simp only at HFK
    have hw4 : w4.heap.size ≤ wr.heap.size := hs3
    go_wp2_with (go_at_call 115; refine (HFK.out _ (by have hb := HB.out; exact hb.trans (Below.mono (show Below wr.heap.size wr _ from (by repeat (first | (with_reducible exact Below.refl _ _) | (with_reducible assumption) | (with_reducible refine Below.drew ?_) | (with_reducible refine Below.setCell ?_ (by first | (simp; done) | (simp; omega) | omega) _) | (with_reducible refine Below.alloc ?_ (by first | (simp; done) | (simp; omega) | omega) _) | (with_reducible refine below_drewN ?_ _) | (refine Below.trans ?_ (Below.mono (by with_reducible assumption) (by first | (simp; done) | (simp; omega) | omega)))))) hw4))).mono ?_; go_must (rintro e w6 ⟨rfl, hb6⟩; have hs6 := hb6.size; (try simp at hs6); have HB6 := Lib.hid hb6; clear hb6))
    refine forgetW (fun V => Below wr.heap.size wr V ∧ wr.heap.size ≤ w6.heap.size ∧ V.heap[w6.heap.size]? = some (.cells #[.int .i64 yt, .int .i64 ya, .int .i64 yb, .int .i64 yv, .int .i64 y0, .int .i64 y1, .int .i64 y2] 54 (0, 0))) ⟨by have hb6 := HB6.out; exact (by repeat (first | exact Below.refl _ _ | assumption | (refine Below.drew ?_) | (refine below_drewN ?_ _) | (refine Below.alloc ?_ (by first | (simp; done) | (simp; omega) | omega) _) | (refine Below.setCell ?_ (by first | (simp; done) | (simp; omega) | omega) _) | (refine Below.trans ?_ (Below.mono (by assumption) (by first | (simp; done) | (simp; omega) | omega))))), by omega, alloc_atF w6 _⟩ ?_
    rintro V1 ⟨hv1, hq1, hyb⟩
    have hsv := hv1.size
    have HMV := Lib.hid (HM.out.below hv1)
    obtain ⟨m0, m1, m2, m3⟩ := HMV.out.cells
    have HBV := Lib.hid (HB.out.trans (hv1.mono hs3))
    obtain ⟨ea, ec, hee⟩ := HMV.out.ob.shape
    subst hee
    have HRO := Lib.hid (show (Value.slice ea LL.length ec).ownBlock ≠ some w6.heap.size from fun e => by have := (HM.out.ob.lt _ e).2; omega)
    have h6l := lt_of_block hyb
    have y0c := cell_of_row V1 w6.heap.size 0 _ _ _ hyb
    have y1c := cell_of_row V1 w6.heap.size 1 _ _ _ hyb
    have y2c := cell_of_row V1 w6.heap.size 2 _ _ _ hyb
    have y3c := cell_of_row V1 w6.heap.size 3 _ _ _ hyb
    have y4c := cell_of_row V1 w6.heap.size 4 _ _ _ hyb
    have y5c := cell_of_row V1 w6.heap.size 5 _ _ _ hyb
    have y6c := cell_of_row V1 w6.heap.size 6 _ _ _ hyb
    have za := z1 (show w4.heap.size + 1 + 1 ≤ V1.heap.size by have := HMV.out.lt; omega)
    have zb := z1 (show w6.heap.size + 1 ≤ V1.heap.size by omega)
    have hbs : w4.heap.size + 1 + 1 ≤ V1.heap.size := by have := HMV.out.lt; omega
    have HYB := Lib.hid hyb
    have hlt4 := HM.out.lt
    clear r0 r1 r2 r3 r4 r5 r6 hi hgw hyb
    go_cut [76] from 76 to 101 (fun t76 wx => ∃ ve', t76 = .int .i64 (k : Int) ∧ Hid (ArrP wx (w4.heap.size + 1) sb w4.heap.size n ve' LL ⟨yt, (ya, yb), (yv, (y0, y1, y2))⟩) ∧ Hid (Below w4.heap.size w4 wx) ∧ V1.heap.size ≤ wx.heap.size ∧ wx.heap[w6.heap.size]? = some (.cells #[.int .i64 yt, .int .i64 ya, .int .i64 yb, .int .i64 yv, .int .i64 y0, .int .i64 y1, .int .i64 y2] 54 (0, 0)))
    case first =>
      go_region_law (refine step_push (w0 := V1) rfl _ _ _ (by rfl) slEvF HMV.out.ob (by rfl) (by rfl) (heap_alloc_new _ _) rfl rfl hlb (by omega) hbs (grown_drew (World.grownBy_alloc _ _ _)) ?_; intro g7 c7 w7 hown7 hg7 hat7; have n3 := (HMV.out.stay hg7 1).1.trans m1; have nf := (HMV.out.stay hg7 1).2.trans m3; have HG7 := Lib.hid hg7; have HO7 := Lib.hid hown7; clear hown7 hg7 hat7)
      all_goals (try go_wp2_with fail)
      all_goals go_meet
      all_goals exact ⟨_, rfl, Lib.hid (HMV.out.push HG7.out (OwnOf.snoc (x := (⟨yt, (ya, yb), (yv, (y0, y1, y2))⟩ : EvD)) (enc := encE) (by simpa [encE] using HO7.out) rfl)), Lib.hid (HBV.out.trans (HMV.out.grow (by omega) HG7.out _)), by have := HG7.out.size; simpa using this, (heap_setCell_other w7 ⟨w4.heap.size + 1, 1, none⟩ w6.heap.size _ (by show w6.heap.size ≠ w4.heap.size + 1; omega)).trans ((HG7.out.block w6.heap.size h6l (fun e => HRO.out e.symm)).trans HYB.out)⟩
    case rest =>
      clear HMV m0 m1 m2 m3 y0c y1c y2c y3c y4c y5c y6c za zb HBV HYB
      obtain ⟨ve', rfl, HMV, HBV, hsx, hyb⟩ := hcut
      have m2 := cell_of_row wc (w4.heap.size + 1) 2 _ _ _ HMV.out.blk
      have y0c := cell_of_row wc w6.heap.size 0 _ _ _ hyb
      have y3c := cell_of_row wc w6.heap.size 3 _ _ _ hyb
      have y4c := cell_of_row wc w6.heap.size 4 _ _ _ hyb
      have y5c := cell_of_row wc w6.heap.size 5 _ _ _ hyb
      have y6c := cell_of_row wc w6.heap.size 6 _ _ _ hyb
      have hm5 := HMV.out.below ((Below.refl _ wc).drew)
      obtain ⟨w9, hr9, hm9, hg9⟩ := TimeM.step hm5.map (by omega) (⟨yt, (ya, yb), (yv, (y0, y1, y2))⟩ : EvD) HWE.out
      have HA9 := Lib.hid (hm5.time hm9 hg9)
      have HB9 := Lib.hid ((HBV.out.drew).grown hg9 (by have := HBV.out.size; simp; omega) (fun r e => by cases e; exact Nat.le_refl _))
      simp only [elD] at hr9
      clear hm5 hm9 hg9 hyb
      go_wp2_with fail
      go_region
      go_wp2_with fail
      go_roundw
      case rel => exact ⟨k + 1, n + 1, _, HLT.out, by omega, by simp, Lib.hid (by rw [HTK.out]; exact HA9.out), HB9⟩
      case measure => simp only [intOf]; have := HLT.out; omega
end Go.Proofs.YtnejicklenhpeaaGreat
