/- The walks of the reference's hops and Hops. -/
import Derived.Test.YtpoofjioeljigaaLinkAJ
namespace Go.Proofs.Ytpoofjioeljigaa
open Go.RowKit
theorem below_setCells {B : Nat} {a : World} {b : Nat} (hB : B ≤ b) : ∀ (vs : List Value) (o : Nat) {w : World}, Below B a w → Below B a (w.setCells b o vs)
  | [], _, _, h => h
  | v :: r, o, w, h => by
    rw [World.setCells]
    exact below_setCells hB r (o + 1) (h.setCell (p := ⟨b, o, none⟩) hB v)
theorem wpList_alloc_z {P : Program} {ops : Array Oper} {rest : List Oper} {o : Oper} {a : Act} {w : World} {Q : Exit → Act → World → Prop} (hgd : o.guard = none) (ty : TypeId) (ho : o.op = .alloc ty) {Z : Array Value}
    (hrun : ∀ W, (Instr.alloc ty true (.tuple #[])).run P W = .ok (.pointer (some ⟨W.heap.size, 0, none⟩)) (W.alloc (.cells Z ty)))
    (h : wpList P ops Q rest (a.put o.dst (.pointer (some ⟨w.heap.size, 0, none⟩))) (w.alloc (.cells Z ty))) : wpList P ops Q (o :: rest) a w :=
  wpList_plain hgd fun _ hK => by
    unfold Oper.wp execOp
    simp only [ho, Sem.run_bind, Sem.run_pure, Result.andThen_ok, hrun]
    exact hK _ _ h
theorem alloc_tab : ∃ Z : Array Value, (∀ W, (Instr.alloc 118 true (.tuple #[])).run Try.prog W = .ok (.pointer (some ⟨W.heap.size, 0, none⟩)) (W.alloc (.cells Z 118))) ∧ Z.size = 5329 := by
  have hz := tab_zero
  cases hi : Try.prog.info? 118 with
  | none => rw [hi] at hz; cases hz
  | some i =>
    rw [hi] at hz
    simp only [Option.map_some, Option.some.injEq, Prod.mk.injEq] at hz
    obtain ⟨h1, h2, h3⟩ := hz
    cases hz2 : i.zero with
    | none => rw [hz2] at h3; cases h3
    | some z =>
      rw [hz2] at h3
      simp only [Option.map_some, Option.some.injEq, Prod.mk.injEq] at h3
      exact ⟨z.cells, fun W => by simp [Instr.alloc, zeroValue, typeInfo, hi, hz2, newVar, newRow], h3.1⟩
theorem Tab.range {w : World} {b N : Nat} {T : Nat → Nat → Nat → Bool} (h : Tab w b N T) {k : Nat} (hk : k < N) :
    ∃ cs : List Value, cs.length = 5329 ∧ w.rangeAt b (5329 * k) cs ∧ (∀ x y, x < 73 → y < 73 → cs[73 * x + y]? = some (.bool (T k x y))) ∧ ∀ v ∈ cs, v.oneCell' = true := by
  refine ⟨(List.range 5329).map fun j => .bool (T k (j / 73) (j % 73)), by simp, fun j v hv => ?_, fun x y hx hy => ?_, fun v hv => ?_⟩
  · obtain ⟨hj, hv⟩ := List.getElem?_eq_some_iff.1 hv
    have hj' : j < 5329 := by simpa using hj
    have := h.cell hk (show j / 73 < 73 by omega) (show j % 73 < 73 by omega)
    rw [show 5329 * k + 73 * (j / 73) + j % 73 = 5329 * k + j by omega] at this
    rw [this, ← hv]
    simp
  · have h1 : (73 * x + y) / 73 = x := by omega
    have h2 : (73 * x + y) % 73 = y := by omega
    have h3 : 73 * x + y < 5329 := by omega
    simp [h1, h2, h3]
  · obtain ⟨j, -, rfl⟩ := List.mem_map.1 hv
    rfl
theorem tab_size : (Try.prog.info? 118).map (·.size) = some 5329 := by
  have hz := tab_zero
  cases hi : Try.prog.info? 118 with
  | none => rw [hi] at hz; cases hz
  | some i =>
    rw [hi] at hz
    simp only [Option.map_some, Option.some.injEq, Prod.mk.injEq] at hz
    simp [hz.1]
set_option maxHeartbeats 4000000 in
set_option maxRecDepth 100000 in
theorem hopsR_l (links : List C2) (hl : links.length ≤ 1000) (hn : ∀ l ∈ links, Near 3 l) (m0 m1 : Int) (hm : Near 20 (m0, m1)) (w : World) (g off : Nat) (v : Value) (hv : CRd w v g off links) :
    Calls Try.prog 76 #[v, .agg #[.int .i64 (m0), .int .i64 (m1)]] w fun e w' => ((∃ k, k ≤ 12 ∧ Dist links (m0, m1) k ∧ e = .returned (.tuple #[.int .i64 (k : Nat), .bool true])) ∨ ((∀ k, k ≤ 12 → ¬ Dist links (m0, m1) k) ∧ e = .returned (.tuple #[.int .i64 0, .bool false]))) ∧ Below w.heap.size w w' := by
  have HV := Lib.hid hv
  obtain ⟨a, cap, rfl, hx⟩ := hv.at
  clear hx hv
  have HF := Lib.hid (fun w' (hb : Below w.heap.size w w') => from_l links hl hn 12 (Nat.le_refl _) w' g off (.slice a links.length cap) (HV.out.below hb))
  obtain ⟨X, hX⟩ : ∃ X : Nat, m0 + 36 = X := ⟨(m0 + 36).toNat, by have := hm.1; simp only at this; omega⟩
  obtain ⟨Y, hY⟩ : ∃ Y : Nat, m1 + 36 = Y := ⟨(m1 + 36).toNat, by have := hm.2.2.1; simp only at this; omega⟩
  have hX5 : X < 73 := by have := hm.2.1; simp only at this; omega
  have hY5 : Y < 73 := by have := hm.2.2.2; simp only at this; omega
  have HP := Lib.hid (show plc X Y = (m0, m1) by simp only [plc]; apply Prod.ext <;> simp <;> omega)
  have e1 : IntKind.i64.wrap (m0 + 36) = X := by rw [IntWalk.i64_in _ (by omega)]; exact hX
  have e2 : IntKind.i64.wrap (m1 + 36) = Y := by rw [IntWalk.i64_in _ (by omega)]; exact hY
  have E1 := Lib.hid e1; have E2 := Lib.hid e2
  clear e1 e2 hX hY hm hn hl
  obtain ⟨Z, hal, hZs⟩ := alloc_tab
  have HAL := Lib.hid hal; have HZS := Lib.hid hZs
  clear hal hZs
  have K := Below.refl (w.heap.size + 1) (w.alloc (.cells #[.int .i64 m0, .int .i64 m1] 23))
  go_enter Try.func76, Try.ntmps76
  go_wp2_with (go_at_call 97; refine (HF.out _ (by repeat (first | exact Below.refl _ _ | assumption | (refine Below.drew ?_) | (refine below_drewN ?_ _) | (refine Below.alloc ?_ (by first | (simp; done) | (simp; omega) | omega) _) | (refine Below.setCell ?_ (by first | (simp; done) | (simp; omega) | omega) _) | (refine Below.trans ?_ (Below.mono (by assumption) (by first | (simp; done) | (simp; omega) | omega)))))).mono ?_; go_must (rintro e w1 ⟨rfl, hT, hb1⟩; have HT := Lib.hid hT; clear hT; have K' := K.trans (c := w1) (by repeat (first | exact Below.refl _ _ | assumption | (refine Below.drew ?_) | (refine below_drewN ?_ _) | (refine Below.alloc ?_ (by first | (simp; done) | (simp; omega) | omega) _) | (refine Below.setCell ?_ (by first | (simp; done) | (simp; omega) | omega) _) | (refine Below.trans ?_ (Below.mono (by assumption) (by first | (simp; done) | (simp; omega) | omega))))); clear K; (try clear hc); (try clear hf); (try clear hz); (try clear hz0); have K := K'; clear K'; obtain ⟨hc, hf⟩ := bcellB K; have hz0 := K.size; (try simp at hz0); have hz := z1 hz0; clear hb1))
  obtain ⟨T, ht, hi⟩ := HT.out
  simp only [show (w.alloc (.cells #[.int .i64 m0, .int .i64 m1] 23)).heap.size = w.heap.size + 1 by simp] at ht
  have HTB := Lib.hid ht; have HIB := Lib.hid hi
  clear HT ht hi hc hf
  have KM := K; clear K
  go_loopw [11] (fun i wr => ∃ k : Nat, k ≤ 13 ∧ i = .int .i64 (k : Nat) ∧ (∀ j, j < k → ¬ Sums links j (m0, m1)) ∧ Below w1.heap.size w1 wr) (fun i _ => 13 - (intOf i).toNat)
  case atStart => exact ⟨0, by omega, rfl, fun j h => absurd h (by omega), Below.refl _ _⟩
  case round =>
    obtain ⟨k, hk, rfl, hno, hb⟩ := hrel
    have HNO := Lib.hid hno; clear hno
    have hsz := hb.size
    have hb0 : Below w.heap.size w wr := ((Below.refl _ _).alloc (Nat.le_refl _) _).trans ((KM.mono (by omega)).trans (hb.mono (by omega)))
    by_cases hlt : k < 13
    rotate_left
    · obtain rfl : k = 13 := by omega
      go_wp2
      refine bodyPost_ret (v := .tuple #[.int .i64 0, .bool false]) (by simp only [results, Try.results76]; first | (go_simp; done) | (go_simp; rfl)) rfl ⟨.inr ⟨fun j hj hd => HNO.out j (by omega) hd.1, rfl⟩, hb0⟩
    have htb := (HTB.out.kept hb (by have := HTB.out.lt; exact this))
    obtain ⟨cs, hcl, hcr, hcg, hco⟩ := htb.range (show k < 12 + 1 by omega)
    have hmark := hcg X Y hX5 hY5
    have HMK := Lib.hid hmark; have HCL := Lib.hid hcl; have HCO := Lib.hid hco; have HCR := Lib.hid hcr
    clear hcg hmark hcl hco hcr htb
    have hTT := HIB.out.old k (by omega) X Y hX5 hY5
    rw [HP.out] at hTT
    have j1 := fun W => idx_tabs (w.heap.size + 1) 13 (k : Int) k rfl (by omega) W
    have hsz2 : w.heap.size + 1 ≤ wr.heap.size := by omega
    have hz := z1 hsz2
    have c0 : wr.cell? ⟨w.heap.size, 0, none⟩ = some (.int .i64 m0) := (hb.cell (p := ⟨w.heap.size, 0, none⟩) (by simp; omega)).trans ((KM.cell (p := ⟨w.heap.size, 0, none⟩) (by simp)).trans (by go_simp))
    have c1 : wr.cell? ⟨w.heap.size, 1, none⟩ = some (.int .i64 m1) := (hb.cell (p := ⟨w.heap.size, 1, none⟩) (by simp; omega)).trans ((KM.cell (p := ⟨w.heap.size, 1, none⟩) (by simp)).trans (by go_simp))
    have hthere : (wr.alloc (.cells Z 118)).there wr.heap.size 0 cs.toArray.size := fun j hj => by
      have hj2 : j < Z.size := by rw [HZS.out]; rw [← HCL.out]; simpa using hj
      simp only [Nat.zero_add]
      refine ⟨?_, ?_⟩
      · simp only [World.cell?, heap_alloc_new]
        simp [hj2]
      · simp only [World.frozen?, heap_alloc_new]
        simp
    have HTH := Lib.hid hthere; clear hthere
    go_wp2_with (first | (refine wpList_load_mid rfl 118 _ rfl (w.heap.size + 1) (5329 * k) rfl cs _ HCR.out Try.underlying118 rfl (by rw [HCL.out]; exact tab_size) ?_) | (refine wpList_alloc_z rfl 118 rfl HAL.out ?_) | (refine wpList_store_mid rfl 118 _ _ rfl wr.heap.size 0 cs.toArray rfl rfl HTH.out (by simp only [List.size_toArray]; rw [HCL.out]; exact tab_size) (all_oneCell_toArray HCO.out) ?_))
    simp only [Act.put]
    refine forgetW (fun W => Below wr.heap.size wr W ∧ W.cell? ⟨wr.heap.size, 73 * X + Y, none⟩ = some (.bool (T k X Y))) ⟨?_, ?_⟩ ?_
    · exact below_setCells (Nat.le_refl _) _ _ ((Below.refl _ _).alloc (Nat.le_refl _) _)
    · have := World.rangeAt_setCells_same _ wr.heap.size 0 cs (by have := HTH.out; simpa using this) (73 * X + Y) _ HMK.out
      simpa using this
    rintro W ⟨hW, hc⟩
    have hWs := hW.size
    have k0 := (hW.cell (p := ⟨w.heap.size, 0, none⟩) hz.1).trans c0
    have k1 := (hW.cell (p := ⟨w.heap.size, 1, none⟩) hz.1).trans c1
    clear c0 c1 HTH HCR HCO HMK HCL j1
    have e1 := E1.out; have e2 := E2.out
    have j2 := fun W => idx_row wr.heap.size 0 (X : Int) X rfl hX5 W
    have j3 := fun W => idx_col wr.heap.size (73 * X) (Y : Int) Y rfl hY5 W
    simp only [Nat.zero_add] at j2
    cases hTv : T k X Y
    all_goals
      rw [hTv] at hc hTT
      have HTT := Lib.hid hTT; clear hTT hTv
      go_quiet (fail)
      clear e1 e2
      go_wp2
    · go_roundw
      case rel =>
        refine ⟨k + 1, by omega, by simp, fun j hj => ?_, hb.trans (below_drewN (hW.mono (by omega)) _)⟩
        rcases Nat.lt_or_ge j k with h1 | h1
        · exact HNO.out j h1
        · obtain rfl : j = k := by omega
          intro hs
          have := HTT.out.2 hs
          cases this
      case measure => simp only [intOf]; omega
    · refine bodyPost_ret (v := .tuple #[.int .i64 (k : Nat), .bool true]) (by simp only [results, Try.results76]; first | (go_simp; done) | (go_simp; rfl)) rfl ⟨.inl ⟨k, by omega, ⟨(by simpa using HTT.out), fun j hj => HNO.out j hj⟩, rfl⟩, hb0.trans (below_drewN (hW.mono (by omega)) _)⟩
end Go.Proofs.Ytpoofjioeljigaa
