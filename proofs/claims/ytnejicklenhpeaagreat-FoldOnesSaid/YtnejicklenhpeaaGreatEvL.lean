/- Events in order: the reference's Arranged: its walk. Events in order: the walk of the reference's Arranged. Conditions: none. -/
import Derived.Deep.CutRange
import Derived.Test.YtnejicklenhpeaaGreatEvJ
namespace Go.Proofs.YtnejicklenhpeaaGreat
open Go.RowKit
theorem beforeB_iff (a b : EvD) : beforeB a b = true ↔ (a.t < b.t ∨ (a.t = b.t ∧ (a.c.1 < b.c.1 ∨ (a.c.1 = b.c.1 ∧ (a.c.2 < b.c.2 ∨ (a.c.2 = b.c.2 ∧ (a.e.1 < b.e.1 ∨ (a.e.1 = b.e.1 ∧ (a.e.2.1 < b.e.2.1 ∨ (a.e.2.1 = b.e.2.1 ∧ (a.e.2.2.1 < b.e.2.2.1 ∨ (a.e.2.2.1 = b.e.2.2.1 ∧ a.e.2.2.2 < b.e.2.2.2)))))))))))) := by
  obtain ⟨t, ⟨c0, c1⟩, ⟨v, x, y, z⟩⟩ := a
  obtain ⟨t', ⟨d0, d1⟩, ⟨v', x', y', z'⟩⟩ := b
  simp only [beforeB, lessC, ltE, Prod.mk.injEq]
  by_cases h1 : t = t'
  · by_cases h2 : c0 = d0
    · by_cases h3 : c1 = d1
      · by_cases h4 : v = v'
        · by_cases h5 : x = x'
          · by_cases h6 : y = y' <;> simp [h1, h2, h3, h4, h5, h6] <;> omega
          · simp [h1, h2, h3, h4, h5] <;> omega
        · simp [h1, h2, h3, h4] <;> omega
      · simp [h1, h2, h3] <;> omega
    · simp [h1, h2] <;> omega
  · simp [h1] <;> omega
def leB (a b : EvD) : Bool := !beforeB b a
theorem leB_total (a b : EvD) : (leB a b || leB b a) = true := by
  unfold leB
  cases h1 : beforeB b a
  · rfl
  · cases h2 : beforeB a b
    · rfl
    · exfalso
      rw [beforeB_iff] at h1 h2
      omega
theorem leB_trans (a b c : EvD) (h1 : leB a b = true) (h2 : leB b c = true) : leB a c = true := by
  unfold leB at *
  simp only [Bool.not_eq_true'] at *
  have e1 : ¬ (beforeB b a = true) := by rw [h1]; simp
  have e2 : ¬ (beforeB c b = true) := by rw [h2]; simp
  have e3 : ¬ (beforeB c a = true) := by
    rw [beforeB_iff] at *
    omega
  simpa using e3
theorem leB_anti (a b : EvD) (h1 : leB a b = true) (h2 : leB b a = true) : a = b := by
  unfold leB at *
  simp only [Bool.not_eq_true'] at *
  have e1 : ¬ (beforeB b a = true) := by rw [h1]; simp
  have e2 : ¬ (beforeB a b = true) := by rw [h2]; simp
  rw [beforeB_iff] at *
  obtain ⟨t, ⟨c0, c1⟩, ⟨v, x, y, z⟩⟩ := a
  obtain ⟨t', ⟨d0, d1⟩, ⟨v', x', y', z'⟩⟩ := b
  simp only at e1 e2
  simp only [EvD.mk.injEq, Prod.mk.injEq]
  omega
def SortedE (l : List EvD) : Prop := l.Pairwise (fun a b => leB a b = true)
def encE (x : EvD) : List Value := [.int .i64 x.t, .int .i64 x.c.1, .int .i64 x.c.2, .int .i64 x.e.1, .int .i64 x.e.2.1, .int .i64 x.e.2.2.1, .int .i64 x.e.2.2.2]
theorem sz_evs (W : World) : (sizeOf (Tryz.prog.elem 59)).run Tryz.prog W = .ok 7 W := by kernel_rfl
theorem un_evs : Tryz.prog.underlying 59 = some (.slice (Tryz.prog.elem 59)) := by kernel_rfl
theorem slEv : SlT Tryz.prog 59 54 (.agg #[.int .i64 0, .int .i64 0, .int .i64 0, .int .i64 0, .int .i64 0, .int .i64 0, .int .i64 0]) 7 56 := ⟨Tryz.underlying59, by kernel_rfl, rfl, by decide⟩
section
variable {α : Type} {P : Program} {t : TypeId} {sz : Nat} {enc : α → List Value} {w : World} {B : Nat} {v : Value} {l : List α}
theorem drop_flat (he : ∀ a, (enc a).length = sz) : ∀ (l : List α) (i : Nat), (l.drop i).flatMap enc = (l.flatMap enc).drop (i * sz)
  | [], i => by simp
  | a :: r, 0 => by simp
  | a :: r, i + 1 => by
    rw [List.drop_succ_cons, drop_flat he r i, List.flatMap_cons, Nat.succ_mul, Nat.add_comm (i * sz) sz, ← List.drop_drop]
    congr 1
    rw [List.drop_left' (he a)]
theorem take_flat7 (he : ∀ a, (enc a).length = sz) (l : List α) (i : Nat) (hi : i ≤ l.length) : (l.take i).flatMap enc = (l.flatMap enc).take (i * sz) := by
  have h1 : l.flatMap enc = (l.take i).flatMap enc ++ (l.drop i).flatMap enc := by rw [← List.flatMap_append, List.take_append_drop]
  rw [h1, List.take_left']
  rw [flat_len he, List.length_take, Nat.min_eq_left hi]
theorem SlOf.drop (he : ∀ a, (enc a).length = sz) (hu : P.underlying t = some (.slice (P.elem t))) (hsz : ∀ W, (sizeOf (P.elem t)).run P W = .ok sz W) (h : SlOf w B sz enc v l) (i : Nat) (hi : i ≤ l.length) :
    ∃ a' c', (∀ W, (Instr.slice t v (some (.int .i64 (i : Int))) none none).run P W = .ok (.slice a' (l.length - i) c') W) ∧ SlOf w B sz enc (.slice a' (l.length - i) c') (l.drop i) := by
  obtain ⟨a, cap, rfl, hl, hc, hm, h0, hr⟩ := h
  refine ⟨if cap = i then a else a.map (·.add (i * sz)), cap - i, fun W => ?_, ?_⟩
  · rw [run_slice_l (P := P) (w := W) t a l.length cap hu .i64 (i : Int) (by omega) (by omega), hsz]
    simp only [Result.andThen, sliced, Int.toNat_natCast]
  · refine ⟨_, cap - i, by rw [List.length_drop], ?_, by rw [List.length_drop]; omega, by omega, ?_, ?_⟩
    · rw [flat_len he]
    · intro hn
      split at hn
      · have := h0 hn; omega
      · have : a = none := by simpa using hn
        have := h0 this; omega
    · rw [List.length_drop]
      rcases hr with h1 | ⟨b, off, rfl, hlt, hx⟩
      · exact .inl (by omega)
      · by_cases hci : l.length - i = 0
        · exact .inl hci
        refine .inr ⟨b, off + i * sz, ?_, hlt, fun j hj => ?_⟩
        · rw [if_neg (by omega)]
          simp only [Option.map_some, Addr.add]
          split <;> simp_all
        · rw [drop_flat he, List.getElem?_drop, Nat.add_assoc]
          refine hx _ ?_
          rw [Nat.sub_mul] at hj
          have : i * sz ≤ l.length * sz := Nat.mul_le_mul_right sz hi
          omega
theorem SlOf.take (he : ∀ a, (enc a).length = sz) (hu : P.underlying t = some (.slice (P.elem t))) (hsz : ∀ W, (sizeOf (P.elem t)).run P W = .ok sz W) (h : SlOf w B sz enc v l) (i : Nat) (hi : i ≤ l.length) :
    ∃ a' c', (∀ W, (Instr.slice t v none (some (.int .i64 (i : Int))) none).run P W = .ok (.slice a' i c') W) ∧ SlOf w B sz enc (.slice a' i c') (l.take i) := by
  obtain ⟨a, cap, rfl, hl, hc, hm, h0, hr⟩ := h
  refine ⟨if cap = 0 then a else a.map (·.add (0 * sz)), cap, fun W => ?_, ?_⟩
  · rw [run_slice_h (P := P) (w := W) t a l.length cap hu .i64 (i : Int) (by omega) (by omega), hsz]
    simp only [Result.andThen, sliced, Int.toNat_natCast, Nat.sub_zero]
  · have hli : (l.take i).length = i := by rw [List.length_take]; omega
    refine ⟨_, cap, by rw [hli], ?_, by rw [hli]; omega, hm, ?_, ?_⟩
    · rw [flat_len he]
    · intro hn
      split at hn
      · exact h0 hn
      · have : a = none := by simpa using hn
        exact h0 this
    · rw [hli]
      rcases hr with h1 | ⟨b, off, rfl, hlt, hx⟩
      · exact .inl (by omega)
      · by_cases hci : i = 0
        · exact .inl hci
        refine .inr ⟨b, off, ?_, hlt, fun j hj => ?_⟩
        · rw [if_neg (by omega)]
          simp only [Option.map_some, Addr.add, Nat.zero_mul, Nat.add_zero]
          split <;> simp_all
        · rw [take_flat7 he l i hi, List.getElem?_take, if_pos hj]
          refine hx _ ?_
          have : i * sz ≤ l.length * sz := Nat.mul_le_mul_right sz hi
          omega
end
end Go.Proofs.YtnejicklenhpeaaGreat
namespace Go.Proofs.YtnejicklenhpeaaGreat
open Go.RowKit
def slLen (v : Value) : Nat := match v with
  | .slice _ n _ => n
  | _ => 0
def ArrR (l : List EvD) (e : Ending) (w' : World) : Prop := ∃ v' l', e = .returned v' ∧ SlOf w' w'.heap.size 7 encE v' l' ∧ l'.Perm l ∧ SortedE l'
abbrev OwnE (w : World) (base : Nat) (v : Value) (l : List EvD) : Prop := OwnOf w base 54 7 encE v l
theorem SlOf.head {w : World} {B n c : Nat} {a : Option Addr} {x : EvD} {l : List EvD} (h : SlOf w B 7 encE (.slice a n c) (x :: l)) :
    n = l.length + 1 ∧ ∃ g o, a = some ⟨g, o, none⟩ ∧ g < B ∧ (∀ W, (Instr.indexAt 59 (.slice a n c) (.int .i64 0)).run Tryz.prog W = .ok (.pointer (some ⟨g, o, none⟩)) W) ∧ ∀ j, j < 7 → w.cell? ⟨g, o + j, none⟩ = (encE x)[j]? := by
  obtain ⟨a', c', g, o, he, hlc, hcm, hx⟩ := SlOf.at (enc := encE) (fun _ => rfl) un_evs sz_evs h
  cases he
  obtain ⟨h1, h2, h3, h4⟩ := hx 0 (by simp)
  refine ⟨rfl, g, o, h1, h3, fun W => by simpa using h2 W, fun j hj => by simpa using h4 j hj⟩
theorem SlOf.tail {w : World} {B n c : Nat} {a : Option Addr} {x : EvD} {l : List EvD} (h : SlOf w B 7 encE (.slice a n c) (x :: l)) :
    ∃ a' c', (∀ W, (Instr.sliceAt 59 (.slice a n c) (some (.int .i64 1)) none none).run Tryz.prog W = .ok (.slice a' l.length c') W) ∧ SlOf w B 7 encE (.slice a' l.length c') l := by
  obtain ⟨a', c', hr, hs⟩ := SlOf.drop (enc := encE) (fun _ => rfl) un_evs sz_evs h 1 (by simp)
  refine ⟨a', c', fun W => ?_, by simpa using hs⟩
  rw [run_sliceAt_slice (h := un_evs)]
  simpa using hr W
set_option maxHeartbeats 8000000 in
set_option maxRecDepth 100000 in
theorem arr_step (l : List EvD) (h2 : 2 ≤ l.length) (hb0 : l.length ≤ 100000) (w : World) (v : Value) (hv : SlOf w w.heap.size 7 encE v l)
    (IH : ∀ l' : List EvD, l'.length < l.length → ∀ (W : World) (u : Value), SlOf W W.heap.size 7 encE u l' → Calls Tryz.prog 134 #[u] W fun e w' => ArrR l' e w' ∧ Below W.heap.size W w') :
    Calls Tryz.prog 134 #[v] w fun e w' => ArrR l e w' ∧ Below w.heap.size w w' := by
  obtain ⟨a1, c1, hr1, hs1⟩ := SlOf.take (enc := encE) (fun _ => rfl) un_evs sz_evs hv (l.length / 2) (by omega)
  obtain ⟨a2, c2, hr2, hs2⟩ := SlOf.drop (enc := encE) (fun _ => rfl) un_evs sz_evs hv (l.length / 2) (by omega)
  have HI1 := Lib.hid (fun (W : World) (hW : Below w.heap.size w W) => IH (l.take (l.length / 2)) (by rw [List.length_take]; omega) W _ (hs1.below hW))
  have HI2 := Lib.hid (fun (W : World) (hW : Below w.heap.size w W) => IH (l.drop (l.length / 2)) (by rw [List.length_drop]; omega) W _ (hs2.below hW))
  have HP := Lib.hid (show (l.take (l.length / 2) ++ l.drop (l.length / 2)).Perm l by rw [List.take_append_drop])
  obtain ⟨qa, qc, hqe, hql⟩ := hv.shape
  subst hqe
  have hr1' : ∀ W, (Instr.sliceAt 59 (.slice qa l.length qc) none (some (.int .i64 ((l.length / 2 : Nat) : Int))) none).run Tryz.prog W = .ok (.slice a1 (l.length / 2) c1) W := fun W => by rw [run_sliceAt_slice (h := un_evs)]; exact hr1 W
  have hr2' : ∀ W, (Instr.sliceAt 59 (.slice qa l.length qc) (some (.int .i64 ((l.length / 2 : Nat) : Int))) none none).run Tryz.prog W = .ok (.slice a2 (l.length - l.length / 2) c2) W := fun W => by rw [run_sliceAt_slice (h := un_evs)]; exact hr2 W
  clear IH hs1 hs2 hv hr1 hr2
  have hq : ((l.length : Nat) : Int).tdiv 2 = ((l.length / 2 : Nat) : Int) := by rw [Int.tdiv_eq_ediv_of_nonneg (by omega)]; rfl
  have h2' : ¬ ((l.length : Int) < 2) := by omega
  have hbd : ((l.length / 2 : Nat) : Int) ≤ (l.length : Int) := by omega
  have hb1 : (0 : Int) ≤ ((l.length / 2 : Nat) : Int) := by omega
  generalize l.take (l.length / 2) = L1 at *
  generalize l.drop (l.length / 2) = L2 at *
  generalize hm : l.length / 2 = m at *
  generalize hnn : l.length = n at *
  have hwm : IntKind.i64.wrap (m : Int) = (m : Int) := by rw [IntKind.wrap_i64]; omega
  go_enter Tryz.func134, Tryz.ntmps134
  go_upto_region 3 with fail
  go_region_held3 (fun w' => Below w.heap.size w w') ((exact (by repeat (first | (with_reducible exact Below.refl _ _) | (with_reducible assumption) | (with_reducible refine Below.drew ?_) | (with_reducible refine Below.setCell ?_ (by first | (simp; done) | (simp; omega) | omega) _) | (with_reducible refine Below.alloc ?_ (by first | (simp; done) | (simp; omega) | omega) _) | (with_reducible refine below_drewN ?_ _) | (refine Below.trans ?_ (Below.mono (by with_reducible assumption) (by first | (simp; done) | (simp; omega) | omega))))))) (first | (go_at_call 134; refine (HI1.out _ (by repeat (first | (with_reducible exact Below.refl _ _) | (with_reducible assumption) | (with_reducible refine Below.drew ?_) | (with_reducible refine Below.setCell ?_ (by first | (simp; done) | (simp; omega) | omega) _) | (with_reducible refine Below.alloc ?_ (by first | (simp; done) | (simp; omega) | omega) _) | (with_reducible refine below_drewN ?_ _) | (refine Below.trans ?_ (Below.mono (by with_reducible assumption) (by first | (simp; done) | (simp; omega) | omega)))))).mono ?_; go_must (rintro e w5 ⟨⟨v5, l5, rfl, hsl5, hp5, ho5⟩, hb5⟩; clear HI1; have hs5 := hb5.size; (try simp at hs5); have HSL5 := Lib.hid hsl5; clear hsl5; have HP5 := Lib.hid hp5; have HO5 := Lib.hid ho5; clear hp5 ho5)) | (go_at_call 134; refine (HI2.out _ (by repeat (first | (with_reducible exact Below.refl _ _) | (with_reducible assumption) | (with_reducible refine Below.drew ?_) | (with_reducible refine Below.setCell ?_ (by first | (simp; done) | (simp; omega) | omega) _) | (with_reducible refine Below.alloc ?_ (by first | (simp; done) | (simp; omega) | omega) _) | (with_reducible refine below_drewN ?_ _) | (refine Below.trans ?_ (Below.mono (by with_reducible assumption) (by first | (simp; done) | (simp; omega) | omega)))))).mono ?_; go_must (rintro e w6 ⟨⟨v6, l6, rfl, hsl6, hp6, ho6⟩, hb6⟩; clear HI2; have hs6 := hb6.size; (try simp at hs6); have HSL6 := Lib.hid hsl6; clear hsl6; have HP6 := Lib.hid hp6; have HO6 := Lib.hid ho6; clear hp6 ho6)))
  all_goals (try go_wp2_with fail)
  have hs65 := hb6.size
  have HB6 := Lib.hid hb6
  have HA0 := Lib.hid ((HSL5.out.kept (show Below w5.heap.size w5 w6 from by first | exact hb6 | exact (by repeat (first | (with_reducible exact Below.refl _ _) | (with_reducible assumption) | (with_reducible refine Below.drew ?_) | (with_reducible refine Below.setCell ?_ (by first | (simp; done) | (simp; omega) | omega) _) | (with_reducible refine Below.alloc ?_ (by first | (simp; done) | (simp; omega) | omega) _) | (with_reducible refine below_drewN ?_ _) | (refine Below.trans ?_ (Below.mono (by with_reducible assumption) (by first | (simp; done) | (simp; omega) | omega))))))).mono hs6)
  have HM := Lib.hid (show (l5.merge l6 leB).Perm l ∧ SortedE (l5.merge l6 leB) from ⟨(List.merge_perm_append leB).trans ((HP5.out.append HP6.out).trans HP.out), List.pairwise_merge leB_trans leB_total _ _ HO5.out HO6.out⟩)
  have HLN := Lib.hid (show (l5.merge l6 leB).length ≤ 100000 by rw [HM.out.1.length_eq, hnn]; exact hb0)
  have HKW := Lib.hid (show Below w.heap.size w w6 from (by repeat (first | (with_reducible exact Below.refl _ _) | (with_reducible assumption) | (with_reducible refine Below.drew ?_) | (with_reducible refine Below.setCell ?_ (by first | (simp; done) | (simp; omega) | omega) _) | (with_reducible refine Below.alloc ?_ (by first | (simp; done) | (simp; omega) | omega) _) | (with_reducible refine below_drewN ?_ _) | (refine Below.trans ?_ (Below.mono (by with_reducible assumption) (by first | (simp; done) | (simp; omega) | omega))))))
  clear HP HP5 HP6 HO5 HO6 hr1' hr2' hq hbd hb1 hwm
  generalize hMM : l5.merge l6 leB = M at *
  have HMM := Lib.hid hMM; clear hMM
  go_loopw [3, 4, 5] (fun t3 t4 t5 wr => ∃ la lb acc, Hid (SlOf wr w6.heap.size 7 encE t3 la) ∧ Hid (SlOf wr w6.heap.size 7 encE t4 lb) ∧ Hid (OwnE wr w6.heap.size t5 acc) ∧ Hid (acc ++ la.merge lb leB = M) ∧ Below w6.heap.size w6 wr) (fun t3 t4 _ _ => slLen t3 + slLen t4)
  case atStart => exact ⟨l5, l6, [], HA0, Lib.hid HSL6.out, Lib.hid (OwnOf.nil _ _ _ _ _), Lib.hid (by rw [List.nil_append]; exact HMM.out), Below.refl _ _⟩
  case round =>
    obtain ⟨la, lb, acc, HA, HBB, HO, HE, hb⟩ := hrel
    have hs6w := hb.size
    obtain ⟨pa, pc, hpe, -⟩ := HA.out.shape
    subst hpe
    obtain ⟨pb, pd, hpe, -⟩ := HBB.out.shape
    subst hpe
    have hacc : acc.length + 1 ≤ 1073741824 := by
      have h1 := HLN.out
      rw [← HE.out, List.length_append] at h1
      omega
    cases la with
    | nil =>
      cases lb with
      | nil =>
        obtain ⟨oa, oc, hoe⟩ := HO.out.shape
        subst hoe
        simp only [List.length_nil]
        go_wp2
        refine bodyPost_ret (v := .slice oa acc.length oc) (by simp only [results, Tryz.results134]; first | (go_simp; done) | (go_simp; rfl)) rfl ⟨⟨_, acc, rfl, HO.out.sl, ?_⟩, HKW.out.trans (hb.mono (by have := HKW.out.size; omega))⟩
        have := HE.out
        simp at this
        rw [this]
        exact HM.out
      | cons y lb2 =>
        obtain ⟨-, gb, ob, rfl, hgb, hib, hcb⟩ := SlOf.head HBB.out
        obtain ⟨tb, kb, htb, hstb⟩ := SlOf.tail HBB.out
        have HTB := Lib.hid hstb; clear hstb
        have PB := Lib.hid (show ∀ V, Below w6.heap.size wr V → V.cell? ⟨gb, ob + 0, none⟩ = some (.int .i64 y.t) ∧ V.cell? ⟨gb, ob + 1, none⟩ = some (.int .i64 y.c.1) ∧ V.cell? ⟨gb, ob + 2, none⟩ = some (.int .i64 y.c.2) ∧ V.cell? ⟨gb, ob + 3, none⟩ = some (.int .i64 y.e.1) ∧ V.cell? ⟨gb, ob + 4, none⟩ = some (.int .i64 y.e.2.1) ∧ V.cell? ⟨gb, ob + 5, none⟩ = some (.int .i64 y.e.2.2.1) ∧ V.cell? ⟨gb, ob + 6, none⟩ = some (.int .i64 y.e.2.2.2) from fun V h => ⟨(h.cell (p := ⟨gb, ob + 0, none⟩) hgb).trans (hcb 0 (by omega)), (h.cell (p := ⟨gb, ob + 1, none⟩) hgb).trans (hcb 1 (by omega)), (h.cell (p := ⟨gb, ob + 2, none⟩) hgb).trans (hcb 2 (by omega)), (h.cell (p := ⟨gb, ob + 3, none⟩) hgb).trans (hcb 3 (by omega)), (h.cell (p := ⟨gb, ob + 4, none⟩) hgb).trans (hcb 4 (by omega)), (h.cell (p := ⟨gb, ob + 5, none⟩) hgb).trans (hcb 5 (by omega)), (h.cell (p := ⟨gb, ob + 6, none⟩) hgb).trans (hcb 6 (by omega))⟩)
        clear hcb
        simp only [List.length_nil, List.length_cons] at *
        generalize lb2.length = nb at *
        have hnb0 : (0 : Int) < (nb : Int) + 1 := by omega
        have hnz : ((nb : Int) + 1 == 0) = false := by simp; omega
        go_upto_region 6 with fail
        go_quiet (fail)
        go_wp2_with fail
        refine forgetW (fun V => Below wr.heap.size wr V) (by first | exact (by repeat (first | (with_reducible exact Below.refl _ _) | (with_reducible assumption) | (with_reducible refine Below.drew ?_) | (with_reducible refine Below.setCell ?_ (by first | (simp; done) | (simp; omega) | omega) _) | (with_reducible refine Below.alloc ?_ (by first | (simp; done) | (simp; omega) | omega) _) | (with_reducible refine below_drewN ?_ _) | (refine Below.trans ?_ (Below.mono (by with_reducible assumption) (by first | (simp; done) | (simp; omega) | omega)))))) ?_
        intro W8 hb8
        have hb68 : Below w6.heap.size wr W8 := hb8.mono hs6w
        have hs8 := hb8.size
        have HO8 := Lib.hid (HO.out.kept hb8)
        have hw68 : w6.heap.size ≤ W8.heap.size := by omega
        go_wp2_with fail
        go_region_held3 (fun w' => Below w6.heap.size W8 w' ∧ w'.cell? ⟨gb, ob, none⟩ = some (.int .i64 y.t) ∧ w'.cell? ⟨gb, ob + 1, none⟩ = some (.int .i64 y.c.1) ∧ w'.cell? ⟨gb, ob + 2, none⟩ = some (.int .i64 y.c.2) ∧ w'.cell? ⟨gb, ob + 3, none⟩ = some (.int .i64 y.e.1) ∧ w'.cell? ⟨gb, ob + 4, none⟩ = some (.int .i64 y.e.2.1) ∧ w'.cell? ⟨gb, ob + 5, none⟩ = some (.int .i64 y.e.2.2.1) ∧ w'.cell? ⟨gb, ob + 6, none⟩ = some (.int .i64 y.e.2.2.2)) (((refine (fun kb => ⟨kb, by have q := PB.out _ (hb68.trans kb); simpa using q⟩) (?_ : Below w6.heap.size W8 _); first | exact hbE | exact (by repeat (first | (with_reducible exact Below.refl _ _) | (with_reducible assumption) | (with_reducible refine Below.drew ?_) | (with_reducible refine Below.setCell ?_ (by first | (simp; done) | (simp; omega) | omega) _) | (with_reducible refine Below.alloc ?_ (by first | (simp; done) | (simp; omega) | omega) _) | (with_reducible refine below_drewN ?_ _) | (refine Below.trans ?_ (Below.mono (by with_reducible assumption) (by first | (simp; done) | (simp; omega) | omega)))))))) (first | (refine step_push rfl _ _ _ (by rfl) slEv HO8.out (by rfl) (by rfl) (heap_alloc_new _ _) rfl rfl hacc (by omega) hw68 (grown_drew (World.grownBy_alloc _ _ _)) ?_; intro g7 c7 w7 hown7 hg7 hat7; have hbE : Below w6.heap.size W8 w7 := below_push (Below.refl _ _) HO8.out (Nat.le_refl _) hw68 hg7))
        go_wp2
        have hbR : Below w6.heap.size wr w7 := hb68.trans hbE
        go_roundw
        case rel => exact ⟨[], lb2, acc ++ [y], Lib.hid (HA.out.kept hbR), Lib.hid (HTB.out.kept hbR), Lib.hid (OwnOf.snoc (l := acc) (enc := encE) (by simpa [encE] using hown7) rfl), Lib.hid (by have := HE.out; simpa using this), hb.trans hbR⟩
        case measure => simp only [slLen]; omega
    | cons x la2 =>
      cases lb with
      | nil =>
        obtain ⟨-, ga, oa, rfl, hga, hia, hca⟩ := SlOf.head HA.out
        obtain ⟨ta, ka, hta, hsta⟩ := SlOf.tail HA.out
        have HTA := Lib.hid hsta; clear hsta
        have PA := Lib.hid (show ∀ V, Below w6.heap.size wr V → V.cell? ⟨ga, oa + 0, none⟩ = some (.int .i64 x.t) ∧ V.cell? ⟨ga, oa + 1, none⟩ = some (.int .i64 x.c.1) ∧ V.cell? ⟨ga, oa + 2, none⟩ = some (.int .i64 x.c.2) ∧ V.cell? ⟨ga, oa + 3, none⟩ = some (.int .i64 x.e.1) ∧ V.cell? ⟨ga, oa + 4, none⟩ = some (.int .i64 x.e.2.1) ∧ V.cell? ⟨ga, oa + 5, none⟩ = some (.int .i64 x.e.2.2.1) ∧ V.cell? ⟨ga, oa + 6, none⟩ = some (.int .i64 x.e.2.2.2) from fun V h => ⟨(h.cell (p := ⟨ga, oa + 0, none⟩) hga).trans (hca 0 (by omega)), (h.cell (p := ⟨ga, oa + 1, none⟩) hga).trans (hca 1 (by omega)), (h.cell (p := ⟨ga, oa + 2, none⟩) hga).trans (hca 2 (by omega)), (h.cell (p := ⟨ga, oa + 3, none⟩) hga).trans (hca 3 (by omega)), (h.cell (p := ⟨ga, oa + 4, none⟩) hga).trans (hca 4 (by omega)), (h.cell (p := ⟨ga, oa + 5, none⟩) hga).trans (hca 5 (by omega)), (h.cell (p := ⟨ga, oa + 6, none⟩) hga).trans (hca 6 (by omega))⟩)
        clear hca
        simp only [List.length_nil, List.length_cons] at *
        generalize la2.length = na at *
        have hna0 : (0 : Int) < (na : Int) + 1 := by omega
        go_upto_region 6 with fail
        go_quiet (fail)
        go_wp2_with fail
        refine forgetW (fun V => Below wr.heap.size wr V) (by first | exact (by repeat (first | (with_reducible exact Below.refl _ _) | (with_reducible assumption) | (with_reducible refine Below.drew ?_) | (with_reducible refine Below.setCell ?_ (by first | (simp; done) | (simp; omega) | omega) _) | (with_reducible refine Below.alloc ?_ (by first | (simp; done) | (simp; omega) | omega) _) | (with_reducible refine below_drewN ?_ _) | (refine Below.trans ?_ (Below.mono (by with_reducible assumption) (by first | (simp; done) | (simp; omega) | omega)))))) ?_
        intro W8 hb8
        have hb68 : Below w6.heap.size wr W8 := hb8.mono hs6w
        have hs8 := hb8.size
        have HO8 := Lib.hid (HO.out.kept hb8)
        have hw68 : w6.heap.size ≤ W8.heap.size := by omega
        go_wp2_with fail
        go_region_held3 (fun w' => Below w6.heap.size W8 w' ∧ w'.cell? ⟨ga, oa, none⟩ = some (.int .i64 x.t) ∧ w'.cell? ⟨ga, oa + 1, none⟩ = some (.int .i64 x.c.1) ∧ w'.cell? ⟨ga, oa + 2, none⟩ = some (.int .i64 x.c.2) ∧ w'.cell? ⟨ga, oa + 3, none⟩ = some (.int .i64 x.e.1) ∧ w'.cell? ⟨ga, oa + 4, none⟩ = some (.int .i64 x.e.2.1) ∧ w'.cell? ⟨ga, oa + 5, none⟩ = some (.int .i64 x.e.2.2.1) ∧ w'.cell? ⟨ga, oa + 6, none⟩ = some (.int .i64 x.e.2.2.2)) (((refine (fun kb => ⟨kb, by have q := PA.out _ (hb68.trans kb); simpa using q⟩) (?_ : Below w6.heap.size W8 _); first | exact hbE | exact (by repeat (first | (with_reducible exact Below.refl _ _) | (with_reducible assumption) | (with_reducible refine Below.drew ?_) | (with_reducible refine Below.setCell ?_ (by first | (simp; done) | (simp; omega) | omega) _) | (with_reducible refine Below.alloc ?_ (by first | (simp; done) | (simp; omega) | omega) _) | (with_reducible refine below_drewN ?_ _) | (refine Below.trans ?_ (Below.mono (by with_reducible assumption) (by first | (simp; done) | (simp; omega) | omega)))))))) (first | (refine step_push rfl _ _ _ (by rfl) slEv HO8.out (by rfl) (by rfl) (heap_alloc_new _ _) rfl rfl hacc (by omega) hw68 (grown_drew (World.grownBy_alloc _ _ _)) ?_; intro g7 c7 w7 hown7 hg7 hat7; have hbE : Below w6.heap.size W8 w7 := below_push (Below.refl _ _) HO8.out (Nat.le_refl _) hw68 hg7))
        go_wp2
        have hbR : Below w6.heap.size wr w7 := hb68.trans hbE
        go_roundw
        case rel => exact ⟨la2, [], acc ++ [x], Lib.hid (HTA.out.kept hbR), Lib.hid (HBB.out.kept hbR), Lib.hid (OwnOf.snoc (l := acc) (enc := encE) (by simpa [encE] using hown7) rfl), Lib.hid (by have := HE.out; simpa using this), hb.trans hbR⟩
        case measure => simp only [slLen]; omega
      | cons y lb2 =>
        obtain ⟨-, ga, oa, rfl, hga, hia, hca⟩ := SlOf.head HA.out
        obtain ⟨ta, ka, hta, hsta⟩ := SlOf.tail HA.out
        have HTA := Lib.hid hsta; clear hsta
        have PA := Lib.hid (show ∀ V, Below w6.heap.size wr V → V.cell? ⟨ga, oa + 0, none⟩ = some (.int .i64 x.t) ∧ V.cell? ⟨ga, oa + 1, none⟩ = some (.int .i64 x.c.1) ∧ V.cell? ⟨ga, oa + 2, none⟩ = some (.int .i64 x.c.2) ∧ V.cell? ⟨ga, oa + 3, none⟩ = some (.int .i64 x.e.1) ∧ V.cell? ⟨ga, oa + 4, none⟩ = some (.int .i64 x.e.2.1) ∧ V.cell? ⟨ga, oa + 5, none⟩ = some (.int .i64 x.e.2.2.1) ∧ V.cell? ⟨ga, oa + 6, none⟩ = some (.int .i64 x.e.2.2.2) from fun V h => ⟨(h.cell (p := ⟨ga, oa + 0, none⟩) hga).trans (hca 0 (by omega)), (h.cell (p := ⟨ga, oa + 1, none⟩) hga).trans (hca 1 (by omega)), (h.cell (p := ⟨ga, oa + 2, none⟩) hga).trans (hca 2 (by omega)), (h.cell (p := ⟨ga, oa + 3, none⟩) hga).trans (hca 3 (by omega)), (h.cell (p := ⟨ga, oa + 4, none⟩) hga).trans (hca 4 (by omega)), (h.cell (p := ⟨ga, oa + 5, none⟩) hga).trans (hca 5 (by omega)), (h.cell (p := ⟨ga, oa + 6, none⟩) hga).trans (hca 6 (by omega))⟩)
        clear hca
        obtain ⟨-, gb, ob, rfl, hgb, hib, hcb⟩ := SlOf.head HBB.out
        obtain ⟨tb, kb, htb, hstb⟩ := SlOf.tail HBB.out
        have HTB := Lib.hid hstb; clear hstb
        have PB := Lib.hid (show ∀ V, Below w6.heap.size wr V → V.cell? ⟨gb, ob + 0, none⟩ = some (.int .i64 y.t) ∧ V.cell? ⟨gb, ob + 1, none⟩ = some (.int .i64 y.c.1) ∧ V.cell? ⟨gb, ob + 2, none⟩ = some (.int .i64 y.c.2) ∧ V.cell? ⟨gb, ob + 3, none⟩ = some (.int .i64 y.e.1) ∧ V.cell? ⟨gb, ob + 4, none⟩ = some (.int .i64 y.e.2.1) ∧ V.cell? ⟨gb, ob + 5, none⟩ = some (.int .i64 y.e.2.2.1) ∧ V.cell? ⟨gb, ob + 6, none⟩ = some (.int .i64 y.e.2.2.2) from fun V h => ⟨(h.cell (p := ⟨gb, ob + 0, none⟩) hgb).trans (hcb 0 (by omega)), (h.cell (p := ⟨gb, ob + 1, none⟩) hgb).trans (hcb 1 (by omega)), (h.cell (p := ⟨gb, ob + 2, none⟩) hgb).trans (hcb 2 (by omega)), (h.cell (p := ⟨gb, ob + 3, none⟩) hgb).trans (hcb 3 (by omega)), (h.cell (p := ⟨gb, ob + 4, none⟩) hgb).trans (hcb 4 (by omega)), (h.cell (p := ⟨gb, ob + 5, none⟩) hgb).trans (hcb 5 (by omega)), (h.cell (p := ⟨gb, ob + 6, none⟩) hgb).trans (hcb 6 (by omega))⟩)
        clear hcb
        simp only [List.length_cons] at *
        generalize lb2.length = nb at *
        generalize la2.length = na at *
        have hnb0 : (0 : Int) < (nb : Int) + 1 := by omega
        have hnz : ((nb : Int) + 1 == 0) = false := by simp; omega
        have hna0 : (0 : Int) < (na : Int) + 1 := by omega
        have hmz : ((na : Int) + 1 == 0) = false := by simp; omega
        have HBF := Lib.hid (fun (W : World) => before_l y x W)
        cases hB : beforeB y x
        · have HBV := Lib.hid hB
          have hle : leB x y = true := by unfold leB; rw [hB]; rfl
          have HLE := Lib.hid hle
          clear hB hle
          go_upto_region 6 with fail
          go_region_held3 (fun w' => Below wr.heap.size wr w' ∧ (w'.cell? ⟨ga, oa, none⟩ = some (.int .i64 x.t) ∧ w'.cell? ⟨ga, oa + 1, none⟩ = some (.int .i64 x.c.1) ∧ w'.cell? ⟨ga, oa + 2, none⟩ = some (.int .i64 x.c.2) ∧ w'.cell? ⟨ga, oa + 3, none⟩ = some (.int .i64 x.e.1) ∧ w'.cell? ⟨ga, oa + 4, none⟩ = some (.int .i64 x.e.2.1) ∧ w'.cell? ⟨ga, oa + 5, none⟩ = some (.int .i64 x.e.2.2.1) ∧ w'.cell? ⟨ga, oa + 6, none⟩ = some (.int .i64 x.e.2.2.2)) ∧ (w'.cell? ⟨gb, ob, none⟩ = some (.int .i64 y.t) ∧ w'.cell? ⟨gb, ob + 1, none⟩ = some (.int .i64 y.c.1) ∧ w'.cell? ⟨gb, ob + 2, none⟩ = some (.int .i64 y.c.2) ∧ w'.cell? ⟨gb, ob + 3, none⟩ = some (.int .i64 y.e.1) ∧ w'.cell? ⟨gb, ob + 4, none⟩ = some (.int .i64 y.e.2.1) ∧ w'.cell? ⟨gb, ob + 5, none⟩ = some (.int .i64 y.e.2.2.1) ∧ w'.cell? ⟨gb, ob + 6, none⟩ = some (.int .i64 y.e.2.2.2))) (((refine (fun kb => ⟨kb, by have q := PA.out _ (kb.mono hs6w); simpa using q, by have q := PB.out _ (kb.mono hs6w); simpa using q⟩) (?_ : Below wr.heap.size wr _); exact (by repeat (first | (with_reducible exact Below.refl _ _) | (with_reducible assumption) | (with_reducible refine Below.drew ?_) | (with_reducible refine Below.setCell ?_ (by first | (simp; done) | (simp; omega) | omega) _) | (with_reducible refine Below.alloc ?_ (by first | (simp; done) | (simp; omega) | omega) _) | (with_reducible refine below_drewN ?_ _) | (refine Below.trans ?_ (Below.mono (by with_reducible assumption) (by first | (simp; done) | (simp; omega) | omega)))))))) (first | (go_at_call 183; refine (HBF.out _).mono ?_; go_must (rintro e w9 ⟨rfl, hb9⟩; rw [HBV.out]; have hs9 := hb9.size; (try simp at hs9))))
          go_wp2_with fail
          refine forgetW (fun V => Below wr.heap.size wr V) (by first | exact (by repeat (first | (with_reducible exact Below.refl _ _) | (with_reducible assumption) | (with_reducible refine Below.drew ?_) | (with_reducible refine Below.setCell ?_ (by first | (simp; done) | (simp; omega) | omega) _) | (with_reducible refine Below.alloc ?_ (by first | (simp; done) | (simp; omega) | omega) _) | (with_reducible refine below_drewN ?_ _) | (refine Below.trans ?_ (Below.mono (by with_reducible assumption) (by first | (simp; done) | (simp; omega) | omega)))))) ?_
          intro W8 hb8
          have hb68 : Below w6.heap.size wr W8 := hb8.mono hs6w
          have hs8 := hb8.size
          have HO8 := Lib.hid (HO.out.kept hb8)
          have hw68 : w6.heap.size ≤ W8.heap.size := by omega
          go_wp2_with fail
          go_region_held3 (fun w' => Below w6.heap.size W8 w' ∧ w'.cell? ⟨ga, oa, none⟩ = some (.int .i64 x.t) ∧ w'.cell? ⟨ga, oa + 1, none⟩ = some (.int .i64 x.c.1) ∧ w'.cell? ⟨ga, oa + 2, none⟩ = some (.int .i64 x.c.2) ∧ w'.cell? ⟨ga, oa + 3, none⟩ = some (.int .i64 x.e.1) ∧ w'.cell? ⟨ga, oa + 4, none⟩ = some (.int .i64 x.e.2.1) ∧ w'.cell? ⟨ga, oa + 5, none⟩ = some (.int .i64 x.e.2.2.1) ∧ w'.cell? ⟨ga, oa + 6, none⟩ = some (.int .i64 x.e.2.2.2)) (((refine (fun kb => ⟨kb, by have q := PA.out _ (hb68.trans kb); simpa using q⟩) (?_ : Below w6.heap.size W8 _); first | exact hbE | exact (by repeat (first | (with_reducible exact Below.refl _ _) | (with_reducible assumption) | (with_reducible refine Below.drew ?_) | (with_reducible refine Below.setCell ?_ (by first | (simp; done) | (simp; omega) | omega) _) | (with_reducible refine Below.alloc ?_ (by first | (simp; done) | (simp; omega) | omega) _) | (with_reducible refine below_drewN ?_ _) | (refine Below.trans ?_ (Below.mono (by with_reducible assumption) (by first | (simp; done) | (simp; omega) | omega)))))))) (first | (refine step_push rfl _ _ _ (by rfl) slEv HO8.out (by rfl) (by rfl) (heap_alloc_new _ _) rfl rfl hacc (by omega) hw68 (grown_drew (World.grownBy_alloc _ _ _)) ?_; intro g7 c7 w7 hown7 hg7 hat7; have hbE : Below w6.heap.size W8 w7 := below_push (Below.refl _ _) HO8.out (Nat.le_refl _) hw68 hg7))
          go_wp2
          have hbR : Below w6.heap.size wr w7 := hb68.trans hbE
          go_roundw
          case rel => exact ⟨la2, y :: lb2, acc ++ [x], Lib.hid (HTA.out.kept hbR), Lib.hid (HBB.out.kept hbR), Lib.hid (OwnOf.snoc (l := acc) (enc := encE) (by simpa [encE] using hown7) rfl), Lib.hid (by have := HE.out; rw [List.cons_merge_cons, HLE.out] at this; simpa using this), hb.trans hbR⟩
          case measure => simp only [slLen]; omega
        · have HBV := Lib.hid hB
          have hle : leB x y = false := by unfold leB; rw [hB]; rfl
          have HLE := Lib.hid hle
          clear hB hle
          go_upto_region 6 with fail
          go_region_held3 (fun w' => Below wr.heap.size wr w' ∧ (w'.cell? ⟨ga, oa, none⟩ = some (.int .i64 x.t) ∧ w'.cell? ⟨ga, oa + 1, none⟩ = some (.int .i64 x.c.1) ∧ w'.cell? ⟨ga, oa + 2, none⟩ = some (.int .i64 x.c.2) ∧ w'.cell? ⟨ga, oa + 3, none⟩ = some (.int .i64 x.e.1) ∧ w'.cell? ⟨ga, oa + 4, none⟩ = some (.int .i64 x.e.2.1) ∧ w'.cell? ⟨ga, oa + 5, none⟩ = some (.int .i64 x.e.2.2.1) ∧ w'.cell? ⟨ga, oa + 6, none⟩ = some (.int .i64 x.e.2.2.2)) ∧ (w'.cell? ⟨gb, ob, none⟩ = some (.int .i64 y.t) ∧ w'.cell? ⟨gb, ob + 1, none⟩ = some (.int .i64 y.c.1) ∧ w'.cell? ⟨gb, ob + 2, none⟩ = some (.int .i64 y.c.2) ∧ w'.cell? ⟨gb, ob + 3, none⟩ = some (.int .i64 y.e.1) ∧ w'.cell? ⟨gb, ob + 4, none⟩ = some (.int .i64 y.e.2.1) ∧ w'.cell? ⟨gb, ob + 5, none⟩ = some (.int .i64 y.e.2.2.1) ∧ w'.cell? ⟨gb, ob + 6, none⟩ = some (.int .i64 y.e.2.2.2))) (((refine (fun kb => ⟨kb, by have q := PA.out _ (kb.mono hs6w); simpa using q, by have q := PB.out _ (kb.mono hs6w); simpa using q⟩) (?_ : Below wr.heap.size wr _); exact (by repeat (first | (with_reducible exact Below.refl _ _) | (with_reducible assumption) | (with_reducible refine Below.drew ?_) | (with_reducible refine Below.setCell ?_ (by first | (simp; done) | (simp; omega) | omega) _) | (with_reducible refine Below.alloc ?_ (by first | (simp; done) | (simp; omega) | omega) _) | (with_reducible refine below_drewN ?_ _) | (refine Below.trans ?_ (Below.mono (by with_reducible assumption) (by first | (simp; done) | (simp; omega) | omega)))))))) (first | (go_at_call 183; refine (HBF.out _).mono ?_; go_must (rintro e w9 ⟨rfl, hb9⟩; rw [HBV.out]; have hs9 := hb9.size; (try simp at hs9))))
          go_wp2_with fail
          refine forgetW (fun V => Below wr.heap.size wr V) (by first | exact (by repeat (first | (with_reducible exact Below.refl _ _) | (with_reducible assumption) | (with_reducible refine Below.drew ?_) | (with_reducible refine Below.setCell ?_ (by first | (simp; done) | (simp; omega) | omega) _) | (with_reducible refine Below.alloc ?_ (by first | (simp; done) | (simp; omega) | omega) _) | (with_reducible refine below_drewN ?_ _) | (refine Below.trans ?_ (Below.mono (by with_reducible assumption) (by first | (simp; done) | (simp; omega) | omega)))))) ?_
          intro W8 hb8
          have hb68 : Below w6.heap.size wr W8 := hb8.mono hs6w
          have hs8 := hb8.size
          have HO8 := Lib.hid (HO.out.kept hb8)
          have hw68 : w6.heap.size ≤ W8.heap.size := by omega
          go_wp2_with fail
          go_region_held3 (fun w' => Below w6.heap.size W8 w' ∧ w'.cell? ⟨gb, ob, none⟩ = some (.int .i64 y.t) ∧ w'.cell? ⟨gb, ob + 1, none⟩ = some (.int .i64 y.c.1) ∧ w'.cell? ⟨gb, ob + 2, none⟩ = some (.int .i64 y.c.2) ∧ w'.cell? ⟨gb, ob + 3, none⟩ = some (.int .i64 y.e.1) ∧ w'.cell? ⟨gb, ob + 4, none⟩ = some (.int .i64 y.e.2.1) ∧ w'.cell? ⟨gb, ob + 5, none⟩ = some (.int .i64 y.e.2.2.1) ∧ w'.cell? ⟨gb, ob + 6, none⟩ = some (.int .i64 y.e.2.2.2)) (((refine (fun kb => ⟨kb, by have q := PB.out _ (hb68.trans kb); simpa using q⟩) (?_ : Below w6.heap.size W8 _); first | exact hbE | exact (by repeat (first | (with_reducible exact Below.refl _ _) | (with_reducible assumption) | (with_reducible refine Below.drew ?_) | (with_reducible refine Below.setCell ?_ (by first | (simp; done) | (simp; omega) | omega) _) | (with_reducible refine Below.alloc ?_ (by first | (simp; done) | (simp; omega) | omega) _) | (with_reducible refine below_drewN ?_ _) | (refine Below.trans ?_ (Below.mono (by with_reducible assumption) (by first | (simp; done) | (simp; omega) | omega)))))))) (first | (refine step_push rfl _ _ _ (by rfl) slEv HO8.out (by rfl) (by rfl) (heap_alloc_new _ _) rfl rfl hacc (by omega) hw68 (grown_drew (World.grownBy_alloc _ _ _)) ?_; intro g7 c7 w7 hown7 hg7 hat7; have hbE : Below w6.heap.size W8 w7 := below_push (Below.refl _ _) HO8.out (Nat.le_refl _) hw68 hg7))
          go_wp2
          have hbR : Below w6.heap.size wr w7 := hb68.trans hbE
          go_roundw
          case rel => exact ⟨x :: la2, lb2, acc ++ [y], Lib.hid (HA.out.kept hbR), Lib.hid (HTB.out.kept hbR), Lib.hid (OwnOf.snoc (l := acc) (enc := encE) (by simpa [encE] using hown7) rfl), Lib.hid (by have := HE.out; rw [List.cons_merge_cons, HLE.out] at this; simpa using this), hb.trans hbR⟩
          case measure => simp only [slLen]; omega
end Go.Proofs.YtnejicklenhpeaaGreat
