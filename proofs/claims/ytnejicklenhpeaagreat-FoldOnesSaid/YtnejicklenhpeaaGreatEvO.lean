/- A range over a method value: the iterator's arguments that come ahead of the body. The walk of the iterator plan.all: it gives just the events of all elements, by variable and then by point. Conditions: none. -/
import Derived.Test.YtnejicklenhpeaaGreatKitA
import Derived.Shelf.Abstract
import Derived.Shelf.RegionOpen
import Derived.OwnWalkIn
import Derived.TacticsInMore
import Derived.LoopNIn
import Derived.LoopIn
import Derived.Test.YtnejicklenhpeaaGreatEvN
namespace Go.Proofs.YtnejicklenhpeaaGreat
open Go.RowKit
/-- The iterator's contract: it gives just L, or a part of it where a round has said 'no more'. -/
def SeqMineF {α : Type} (F : Fence) (n : Nat) (P : Program) (g : Nat) (fa lb : Array Value) (encs : α → Array Value) (Mine : World → Nat → Prop) (L : List α) (w : World) : Prop :=
  ∀ (l : Nat) (J Jx : List α → World → Prop) (W : World), Below w.heap.size w W → (∀ b, Mine W b → b < W.heap.size) →
    (∀ s A A', J s A → StepQ W.heap.size Mine A A' → J s A') → (∀ s A A', Jx s A → StepQ W.heap.size Mine A A' → Jx s A') →
    (∀ pre x W1, J pre W1 → pre ++ [x] <+: L → YieldAt F (n - 1) P l (encs x) W1 fun e W' =>
      (e = .returned (.bool true) ∧ J (pre ++ [x]) W' ∧ KpM Mine W1 W') ∨ (e = .returned (.bool false) ∧ Jx (pre ++ [x]) W')) →
    J [] W →
    CallsIn F n P g (fa ++ #[.func (.yield l) #[] #[]] ++ lb) W fun e W' => (∃ v, e = .returned v) ∧ (J L W' ∨ ∃ pre, pre <+: L ∧ Jx pre W')
variable {F : Fence} {n : Nat} {P : Program}
/-- **The law.** -/
theorem wpIn_range_mineF {α : Type} {g : Operand} {ps : Array Tmp} {assign body : Code} {Q : Exit → Act → World → Prop} {a : Act} {w : World}
    (hro : F.round = none) (h1 : 1 ≤ n) {gf : Nat} {fa lb : Array Value} (hg : a.eval g = .func (.func gf) fa lb) (hFg : F.fn gf) (eg : ∀ args w, (callFunc gf args).run P w = .ok (.enter gf args) w)
    {encs : α → Array Value} {Mine : World → Nat → Prop} {L : List α} {w0 : World} (hseq : SeqMineF F (n - 1) P gf fa lb encs Mine L w0)
    (hMp : ∀ (W : World) (l : Nat) (o o' : Obj), w.heap.size ≤ l → W.heap[l]? = some o → o.isCells = false → o.isWalk = false → ∀ b, Mine (W.putObj l o') b → Mine W b)
    (hm0 : ∀ W, Below w.heap.size w W → ∀ b, Mine W b → b < W.heap.size)
    (hb0 : Below w0.heap.size w0 w) (hps : ∀ x, (encs x).size = ps.size)
    (I : List α → World → Prop) (Ix : Code → List α → World → Prop) (hI : OwnFrom w.heap.size I) (hIx : ∀ c, OwnFrom w.heap.size (Ix c))
    (hIq : ∀ s A A', I s A → StepQ w.heap.size Mine A A' → I s A') (hIxq : ∀ c s A A', Ix c s A → StepQ w.heap.size Mine A A' → Ix c s A')
    (h0 : I [] w) (Ax : α → Act → World → Prop) (hAx : ∀ x a', OwnFrom w.heap.size (fun (_ : Unit) W => Ax x a' W))
    (hassign : ∀ (l : Nat) (pre : List α) (x : α) (W : World) (K : Act → World → Prop), I pre W → (∀ a' W', KeepsFrom w.heap.size W W' → KpM Mine W W' → I pre W' → Ax x a' W' → K a' W') →
      assign.wpIn (F.inRound l) (n - 1 - 1) P (Exit.then K (fun _ _ _ => False)) { tmps := (ps.zip (encs x)).foldl (fun t (p, v) => t.setIfInBounds p v) a.tmps, defers := [] } W)
    (hbody : ∀ (l : Nat) (pre : List α) (x : α) (a' : Act) (W : World), w.heap.size ≤ l → I pre W → Ax x a' W → pre ++ [x] <+: L → body.wpIn (F.inRound l) (n - 1 - 1) P (ownPostG w.heap.size (KpM Mine) I Ix (pre ++ [x]) W) a' W)
    (hdone : ∀ (D : Nat) (W : World), w.heap.size ≤ D → I L W → W.heap[D]? = some (.deferred (some [])) → Q .normal { a with defers := { target := .collected D, args := #[] } :: a.defers } W)
    (hstop : ∀ (D : Nat) (c : Code) (pre : List α) (W : World), w.heap.size ≤ D → pre <+: L → Ix c pre W → W.heap[D]? = some (.deferred (some [])) → c.wpIn F n P Q { a with defers := { target := .collected D, args := #[] } :: a.defers } W) :
    (Code.rangeFunc g ps assign body).wpIn F n P Q a w := by
  refine wpIn_rangeFunc fun fn hfn => ?_
  rw [hro]
  obtain ⟨rec, hrec⟩ : ∃ rec : LoopState → Option Code → Loop, rec = fun st pe => { state := st, pending := pe, fn, tmps := a.tmps, params := ps, assign, body, defers := w.heap.size } := ⟨_, rfl⟩
  obtain ⟨W1, hW1⟩ : ∃ W1, (w.alloc (.deferred (some []))).alloc (.loop (rec .ready none)) = W1 := ⟨_, rfl⟩
  have hsz : W1.heap.size = w.heap.size + 2 := by rw [← hW1]; simp
  have hL1 : W1.heap[w.heap.size + 1]? = some (.loop (rec .ready none)) := by
    rw [← hW1]; have := World.alloc_heap_new (w.alloc (.deferred (some []))) (.loop (rec .ready none)); rwa [World.size_alloc] at this
  have hK1 : W1.heap[w.heap.size]? = some (.deferred (some [])) := by
    rw [← hW1]; exact (Below.heap_alloc _ _ _ (by simp)).trans (World.alloc_heap_new w _)
  have hI1 : I [] W1 := by rw [← hW1]; exact hI.alloc _ (hI.alloc _ h0)
  have hb1 : Below w0.heap.size w0 W1 := by
    rw [← hW1]; exact hb0.trans ((((Below.refl _ w).alloc (Nat.le_refl _) _).alloc (by simp) _).mono hb0.size)
  refine ⟨w.heap.size + 1, [{ target := .collected w.heap.size, args := #[] }], W1, { target := .fn (.func gf) lb, args := fa ++ #[.func (.yield (w.heap.size + 1)) #[] #[]] }, W1, gf,
    fa ++ #[.func (.yield (w.heap.size + 1)) #[] #[]] ++ lb, W1, ?_, ?_, ?_, ?_, fun _ => h1, ?_⟩
  · rw [← hW1, hrec]; exact run_enterLoop_outer _ _ _ _ _
  · simp only [resolve, hg]
    simp [go_sem]
  · intro f' hf'; simp [Target.leads] at hf'; subst hf'; exact hFg
  · simp [invoke, go_sem, eg]
  refine (hseq (w.heap.size + 1)
    (fun pre W => I pre W ∧ W.heap[w.heap.size + 1]? = some (.loop (rec .ready none)) ∧ W.heap[w.heap.size]? = some (.deferred (some [])))
    (fun pre W => ∃ c, Ix c pre W ∧ W.heap[w.heap.size + 1]? = some (.loop (rec .done (some c))) ∧ W.heap[w.heap.size]? = some (.deferred (some [])))
    W1 hb1 (hm0 W1 (by rw [← hW1]; exact ((Below.refl _ w).alloc (Nat.le_refl _) _).alloc (by simp) _))
    (fun s A A' hs hq => ⟨hIq s A A' hs.1 (hq.mono (by omega)), hq.2 _ _ hs.2.1 (.inr ⟨rfl, rfl⟩), hq.2 _ _ hs.2.2 (.inr ⟨rfl, rfl⟩)⟩)
    (fun s A A' hs hq => by
      obtain ⟨c, hc, hl, hk⟩ := hs
      exact ⟨c, hIxq c s A A' hc (hq.mono (by omega)), hq.2 _ _ hl (.inr ⟨rfl, rfl⟩), hq.2 _ _ hk (.inr ⟨rfl, rfl⟩)⟩)
    ?_ ⟨hI1, hL1, hK1⟩).mono ?_
  · rintro pre x W ⟨hi, hl, hk⟩ hpre
    have hy := run_yield (P := P) (args := encs x) hl (by rw [hrec]; exact hps x)
    rw [hrec] at hy
    refine ⟨fn, _, assign, body, hy, roundIn_of_wpIn hfn (hassign _ pre x W _ hi ?_)⟩
    clear hy
    intro a' V hkf hkp hia hax
    have hlV := hkf.same _ _ (by omega) hl rfl
    have hkV := hkf.same _ _ (Nat.le_refl _) hk rfl
    have hltV : w.heap.size + 1 < V.heap.size := (Array.getElem?_eq_some_iff.1 hlV).1
    refine ⟨_, run_beginRound hlV (by rw [hrec]), ?_⟩
    have hl2 : (V.putObj (w.heap.size + 1) (.loop { rec .ready none with state := .busy })).heap[w.heap.size + 1]? = some (.loop { rec .ready none with state := .busy }) := World.putObj_heap_same hltV
    have hk2 : (V.putObj (w.heap.size + 1) (.loop { rec .ready none with state := .busy })).heap[w.heap.size]? = some (.deferred (some [])) := (World.putObj_heap_other (by omega)).trans hkV
    have hw2 : KpM Mine V (V.putObj (w.heap.size + 1) (.loop { rec .ready none with state := .busy })) := kpM_putObj _ _ _ _ (hMp _ _ _ _ (by omega) hlV rfl rfl) hlV rfl rfl
    refine wpIn_mono (hbody _ pre x a' _ (by omega) (hI.putObj _ hia (by omega) hlV rfl) ((hAx x a').putObj (s := ()) _ hax (by omega) hlV rfl) hpre) ?_
    have fin : ∀ (jump : Option Code) (W3 : World), KeepsFrom w.heap.size (V.putObj (w.heap.size + 1) (.loop { rec .ready none with state := .busy })) W3 →
        (Instr.endRound (w.heap.size + 1) jump).run P W3 = .ok (.bool jump.isNone) (W3.putObj (w.heap.size + 1) (.loop (rec (if jump.isNone then .ready else .done) jump))) ∧
        W3.heap[w.heap.size + 1]? = some (.loop { rec .ready none with state := .busy }) ∧
        (W3.putObj (w.heap.size + 1) (.loop (rec (if jump.isNone then .ready else .done) jump))).heap[w.heap.size + 1]? = some (.loop (rec (if jump.isNone then .ready else .done) jump)) ∧
        (W3.putObj (w.heap.size + 1) (.loop (rec (if jump.isNone then .ready else .done) jump))).heap[w.heap.size]? = some (.deferred (some [])) := fun jump W3 hk3 => by
      have hl3 := hk3.same _ _ (by omega) hl2 rfl
      have := run_endRound (P := P) jump hl3
      rw [hrec] at this ⊢
      exact ⟨this, by rw [hrec] at hl3; exact hl3, World.putObj_heap_same (Array.getElem?_eq_some_iff.1 hl3).1, (World.putObj_heap_other (by omega)).trans (hk3.same _ _ (Nat.le_refl _) hk2 rfl)⟩
    rintro e a3 W3 hp
    cases e with
    | normal =>
      obtain ⟨hk3, hkp3, hi3⟩ := hp
      obtain ⟨hr, hl3, hl4, hk4⟩ := fin none W3 hk3
      exact ⟨_, _, hr, .inl ⟨rfl, ⟨hI.putObj _ hi3 (by omega) hl3 rfl, hl4, hk4⟩, hkp.trans ((hw2.trans hkp3).trans (kpM_putObj _ _ _ _ (hMp _ _ _ _ (by omega) hl3 rfl rfl) hl3 rfl rfl))⟩⟩
    | ret =>
      obtain ⟨hk3, hi3⟩ := hp
      obtain ⟨hr, hl3, hl4, hk4⟩ := fin (some .ret) W3 hk3
      exact ⟨_, _, hr, .inr ⟨rfl, .ret, (hIx _).putObj _ hi3 (by omega) hl3 rfl, hl4, hk4⟩⟩
    | exit id =>
      obtain ⟨hk3, hi3⟩ := hp
      obtain ⟨hr, hl3, hl4, hk4⟩ := fin (some (.exit id)) W3 hk3
      exact ⟨_, _, hr, .inr ⟨rfl, .exit id, (hIx _).putObj _ hi3 (by omega) hl3 rfl, hl4, hk4⟩⟩
    | goto t =>
      obtain ⟨hk3, hi3⟩ := hp
      obtain ⟨hr, hl3, hl4, hk4⟩ := fin (some (.goto t)) W3 hk3
      exact ⟨_, _, hr, .inr ⟨rfl, .goto t, (hIx _).putObj _ hi3 (by omega) hl3 rfl, hl4, hk4⟩⟩
    | panic ch => exact hp.elim
    | outgrown => exact hp.elim
  · rintro e W2 ⟨⟨v, rfl⟩, (⟨hi, hl, hk⟩ | ⟨pre, hSp, c, hi, hl, hk⟩)⟩
    · exact ⟨none, _, by have := run_endLoop (P := P) hl (by rw [hrec]; simp); rw [hrec] at this; exact this, hdone _ _ (Nat.le_refl _) (hI.putObj _ hi (by omega) hl rfl) ((World.putObj_heap_other (by omega)).trans hk)⟩
    · exact ⟨some c, _, by have := run_endLoop (P := P) hl (by rw [hrec]; simp); rw [hrec] at this; exact this, hstop _ c pre _ (Nat.le_refl _) hSp ((hIx c).putObj _ hi (by omega) hl rfl) ((World.putObj_heap_other (by omega)).trans hk)⟩
end Go.Proofs.YtnejicklenhpeaaGreat
namespace Go.Proofs.YtnejicklenhpeaaGreat
open Go.RowKit Go.Shelf
attribute [local go_sem] Oper.semAt_some
set_option linter.unusedVariables false
def encEv (x : EvD) : Array Value := #[evD x]
theorem FX.size_sl {S : Nat → Prop} {α : Type} {enc : α → List Value} {N0 B sz : Nat} {W wr : World} (h : FX S N0 W wr) {v : Value} {l : List α} (hB : B ≤ N0) (hs : ∀ b, S b → B ≤ b) (hv : SlOf W B sz enc v l) (he : ∀ a, (enc a).length = sz) (hz : B ≤ wr.heap.size) : SlOf wr wr.heap.size sz enc v l := (h.sl hB hs hv he).mono hz
theorem PlanAt.fx {S : Nat → Prop} {N0 : Nat} {w0 W wr : World} {bp bv : Nat} {r : RecD} {s : SchedD} {u : P3} {pv : Value} (hp : PlanAt w0 bp bv r s u pv) (hb : Below w0.heap.size w0 W) (hx : FX S N0 W wr) (hB : w0.heap.size ≤ N0) (hS : ∀ b, S b → w0.heap.size ≤ b) (hz : w0.heap.size ≤ wr.heap.size) : PlanAt wr bp bv r s u pv := by
  have hl := hp.lt
  have hv := hp.view.lt
  have sp : ¬ S bp := fun e => by have := hS _ e; omega
  have sv : ¬ S bv := fun e => by have := hS _ e; omega
  have kp := fun o => hb.cell (p := ⟨bp, o, none⟩) hl
  have kv := fun o => hb.cell (p := ⟨bv, o, none⟩) hv
  exact ⟨by omega, hx.cell (by omega) sp ((kp _).trans hp.c0), hx.cell (by omega) sp ((kp _).trans hp.c1), hx.cell (by omega) sp ((kp _).trans hp.c2), hx.cell (by omega) sp ((kp _).trans hp.c3), hx.cell (by omega) sp ((kp _).trans hp.c4),
    ⟨by omega, hx.cell (by omega) sv ((kv _).trans hp.view.c0), hx.cell (by omega) sv ((kv _).trans hp.view.c1), hx.cell (by omega) sv ((kv _).trans hp.view.c2), hx.cell (by omega) sv ((kv _).trans hp.view.c3), hx.cell (by omega) sv ((kv _).trans hp.view.c4), hx.cell (by omega) sv ((kv _).trans hp.view.c5), hx.cell (by omega) sv ((kv _).trans hp.view.c6), hx.cell (by omega) sv ((kv _).trans hp.view.c7), hx.cell (by omega) sv ((kv _).trans hp.view.c8), hx.size_sl hB hS (hp.view.pts.kept hb) (fun _ => rfl) hz⟩⟩
set_option maxHeartbeats 4000000 in
set_option maxRecDepth 100000 in
theorem all_stops (m : Nat) (hm : 3 ≤ m) (r : RecD) (s : SchedD) (u : P3) (ha : askS r s u = 0) (S : Nat → Prop) (N0 bp bv : Nat) (pv : Value) (w0 w : World) (hN : N0 ≤ w.heap.size) (hB0 : w0.heap.size ≤ N0) (s3 : ∀ b, S b → w0.heap.size ≤ b)
    (hpl : PlanAt w0 bp bv r s u pv) (hs : SchedRd w0 s) (hvv : ∃ a c, r.vv = .slice a r.vars.length c) (hb0 : Below w0.heap.size w0 w) :
    SeqMineF Fence.wide m Tryz.prog 72 #[.pointer (some ⟨bp, 0, none⟩)] #[] encEv (MineFrom S N0) (evsL r s u) w := by
  intro ly J Jx W hW hmlt hJ hJx hY h0
  have hn1 : 1 ≤ m := by omega
  have h88 : Fence.wide.fn 127 := trivial
  have HJ := Lib.hid hJ; clear hJ
  have HJx := Lib.hid hJx; clear hJx
  have HY := Lib.hid hY; clear hY
  have hNW : N0 ≤ W.heap.size := Nat.le_trans hN hW.size
  have hbW : Below w0.heap.size w0 W := hb0.trans (hW.mono (by omega))
  obtain ⟨va, vc, hvv⟩ := hvv
  obtain ⟨qa, qc, g, off, hqe, hlc, hcm, hx⟩ := SlOf.at (enc := encP) (fun _ => rfl) un_pts sz_pts hpl.view.pts
  subst hqe
  unfold maxLen at hcm
  have PL := Lib.hid (show ∀ wr, FX S N0 W wr → W.heap.size ≤ wr.heap.size → PlanAt wr bp bv r s u (.slice qa (ptsL r.n r.l).length qc) from fun wr h hz => hpl.fx hbW h hB0 s3 (by omega))
  have SL := Lib.hid (show ∀ wr, FX S N0 W wr → W.heap.size ≤ wr.heap.size → SchedRd wr s from fun wr h hz => h.size_sl hB0 s3 (SlOf.kept hs hbW) (fun _ => rfl) (by omega))
  have HPT := Lib.hid (show ∀ wr, FX S N0 W wr → ∀ k (hk : k < (ptsL r.n r.l).length), (∀ W, (Instr.indexAt 75 (.slice qa (ptsL r.n r.l).length qc) (.int .i64 (k : Int))).run Tryz.prog W = .ok (.pointer (some ⟨g, off + 3 * k, none⟩)) W) ∧ ∀ j, j < 3 → wr.cell? ⟨g, off + 3 * k + j, none⟩ = (encP (ptsL r.n r.l)[k])[j]? from fun wr h k hk => by
    obtain ⟨_, h2, h3, h4⟩ := hx k hk
    refine ⟨h2, fun j hj => ?_⟩
    have hlen : j < (encP (ptsL r.n r.l)[k]).length := by simpa [encP] using hj
    rw [List.getElem?_eq_getElem hlen]
    exact h.cell (by omega) (fun e => by have := s3 _ e; omega) ((hbW.cell (p := ⟨g, off + 3 * k + j, none⟩) h3).trans ((h4 j hj).trans (List.getElem?_eq_getElem hlen))))
  have HEV := Lib.hid (fun (v : Nat) (hv : v < r.vars.length) (k : Nat) (hk : k < (ptsL r.n r.l).length) (Z : World) (h1 : PlanAt Z bp bv r s u (.slice qa (ptsL r.n r.l).length qc)) (h2 : SchedRd Z s) => event_l r s u ha v hv (ptsL r.n r.l)[k] (List.getElem_mem hk) bp bv _ Z h1 h2)
  have hvo := validR_out (askS_ok ha).1
  have hnp : (ptsL r.n r.l).length ≤ 1000 := hvo.2.1
  have hnv : r.vars.length ≤ 4 := hvo.2.2.1.2
  have HTK := Lib.hid (fun v k (hv : v < r.vars.length) (hk : k < (ptsL r.n r.l).length) => evsL_take r s u v k hv hk)
  have HLE := Lib.hid (evsL_len r s u)
  clear hx hpl hs hb0 ha hvo
  generalize evsL r s u = E at *
  refine callsIn_of_wp Tryz.func72 rfl trivial ?_ rfl
  simp only [Tryz.ntmps72, List.size_toArray, List.length_cons, List.length_nil, Nat.reduceAdd, Nat.reduceSub, Array.replicate_succ, Array.replicate_zero, List.push_toArray, List.append_toArray, List.nil_append, List.cons_append]
  have hp0 := PL.out W (FX.refl _ _ _) (Nat.le_refl _)
  have c0 := hp0.c0
  have c7 := hp0.view.c7
  rw [hvv] at c7
  clear hp0
  gi_wp2
  clear c0 c7
  gi_loopw [16] (fun v16 wr => ∃ (v : Nat), v ≤ r.vars.length ∧ v16 = .int .i64 (v : Int) ∧ J (E.take (v * (ptsL r.n r.l).length)) wr ∧ FX S N0 W wr ∧ W.heap.size ≤ wr.heap.size) (fun v16 _ => r.vars.length - (intOf v16).toNat)
  case atStart => exact ⟨0, Nat.zero_le _, rfl, by simpa using h0, FX.refl _ _ _, Nat.le_refl _⟩
  case round =>
    clear h0
    obtain ⟨v, hv, rfl, hJ, K, ks⟩ := hrel
    obtain ⟨w2, rfl⟩ : ∃ x : World, x = wr := ⟨_, rfl⟩
    have hp2 := PL.out w2 K ks
    have c0 := hp2.c0
    have c8 := hp2.view.c8
    clear hp2
    by_cases hlt : v < r.vars.length
    rotate_left
    · have HI := Lib.hid (show v = r.vars.length by omega)
      have HJJ := Lib.hid hJ; clear hJ
      gi_wp2
      go_end0
      refine ⟨⟨_, rfl⟩, .inl ?_⟩
      have := HJJ.out
      rwa [HI.out, List.take_of_length_le (by rw [HLE.out]; exact Nat.le_refl _)] at this
    have HVLT := Lib.hid hlt
    gi_wp2
    clear c0 c8
    gi_loopw [27] (fun v27 wr => ∃ (k : Nat), k ≤ (ptsL r.n r.l).length ∧ v27 = .int .i64 (k : Int) ∧ J (E.take (v * (ptsL r.n r.l).length + k)) wr ∧ FX S N0 W wr ∧ W.heap.size ≤ wr.heap.size) (fun v27 _ => (ptsL r.n r.l).length - (intOf v27).toNat)
    case atStart => exact ⟨0, Nat.zero_le _, rfl, by simpa using hJ, K, ks⟩
    case round =>
      clear hJ K ks
      obtain ⟨k, hk, rfl, hJ, K, ks⟩ := hrel
      obtain ⟨w3, rfl⟩ : ∃ x : World, x = wr := ⟨_, rfl⟩
      by_cases hlt2 : k < (ptsL r.n r.l).length
      rotate_left
      · have HI := Lib.hid (show k = (ptsL r.n r.l).length by omega)
        have HJJ := Lib.hid hJ; clear hJ
        gi_wp2
        go_roundw
        case rel =>
          refine ⟨v + 1, HVLT.out, by simp, ?_, K, ks⟩
          have := HJJ.out
          rw [HI.out] at this
          rwa [Nat.succ_mul]
        case measure => simp only [intOf]; have := HVLT.out; omega
      have HKLT := Lib.hid hlt2
      obtain ⟨hi, hc⟩ := HPT.out w3 K k hlt2
      have HTV := Lib.hid (HTK.out v k HVLT.out hlt2)
      have HEL := Lib.hid (HEV.out v HVLT.out k hlt2)
      generalize (ptsL r.n r.l)[k] = p at *
      generalize hev : evAt r s u v p = ev at *
      clear hev
      obtain ⟨p0, p1, p2⟩ := p
      have r0 : w3.cell? ⟨g, off + 3 * k, none⟩ = some (.int .i64 p0) := hc 0 (by omega)
      have r1 : w3.cell? ⟨g, off + 3 * k + 1, none⟩ = some (.int .i64 p1) := hc 1 (by omega)
      have r2 : w3.cell? ⟨g, off + 3 * k + 2, none⟩ = some (.int .i64 p2) := hc 2 (by omega)
      clear hc
      have hpre : E.take (v * (ptsL r.n r.l).length + k) ++ [ev] <+: E := by rw [← HTV.out]; exact List.take_prefix _ _
      have HPRE := Lib.hid hpre; clear hpre
      have HJJ := Lib.hid hJ; clear hJ
      have HP3 := Lib.hid (PL.out w3 K ks)
      have HS3 := Lib.hid (SL.out w3 K ks)
      have hb3 := (Below.refl w3.heap.size w3).alloc (Nat.le_refl _) (.cells #[.int .i64 p0, .int .i64 p1, .int .i64 p2] 29)
      have HB3 := Lib.hid hb3; clear hb3
      gi_wp2_with (first | (gi_at_call 127; refine (callsIn_wide.2 (HEL.out _ (HP3.out.below HB3.out) (HS3.out.below HB3.out))).mono ?_; go_must (rintro e w5 ⟨rfl, hb5⟩; have hz5 := hb5.size; (try simp at hz5); have hbE : Below w3.heap.size w3 w5 := HB3.out.trans (hb5.mono (by simp)); have hJ3 := HJ.out _ _ _ HJJ.out (stepQ_from hbE ks); obtain ⟨fn, tmps, assign, body, hy, hR⟩ := HY.out _ _ _ hJ3 HPRE.out; have HR := Lib.hid hR; clear hR hJ3; simp only [encEv] at hy)))
      have hs5 := hbE.size
      refine HR.out.mono ?_
      rintro e w6 (⟨rfl, hJ6, hk6⟩ | ⟨rfl, hJx6⟩)
      rotate_left
      · gi_wp2
        refine bodyPost_ret (results_none rfl _ _ _) rfl ?_
        exact ⟨⟨_, rfl⟩, .inr ⟨_, HPRE.out, hJx6⟩⟩
      have K6 := (K.below (hbE.mono (by omega))).round hk6
      have hs6 := hk6.1
      have HJ6 := Lib.hid hJ6; clear hJ6
      clear r0 r1 r2 hy
      gi_wp2
      go_roundw
      case rel =>
        refine ⟨k + 1, HKLT.out, by simp, ?_, K6, by omega⟩
        have := HJ6.out
        rw [← HTV.out] at this
        rwa [Nat.add_assoc] at this
      case measure => simp only [intOf]; have := HKLT.out; omega
end Go.Proofs.YtnejicklenhpeaaGreat
