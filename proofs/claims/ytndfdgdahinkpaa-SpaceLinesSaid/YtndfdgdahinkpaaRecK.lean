/- Package rec: beyond and validVar's test of an argument: their walks. -/
import Derived.Test.YtndfdgdahinkpaaRecJ
namespace Go.Proofs.Ytndfdgdahinkpaa
open Go.RowKit
def encInt (z : Int) : List Value := [.int .i64 z]
theorem v11_l (x : Int) (w : World) : Calls Try.prog 112 #[.int .i64 x] w fun e w' => e = .returned (.bool (!btw (-3) x 3)) ∧ Below w.heap.size w w' := by
  generalize hb : btw (-3) x 3 = b
  have HB := Lib.hid hb; clear hb
  go_enter Try.func112, Try.ntmps112
  go_wp2_with (go_at_call 91; refine (rbetween_l _ _ _ _).mono ?_; go_must (rintro e w1 ⟨rfl, rfl⟩; rw [HB.out]))
  go_ret
  exact ⟨rfl, by repeat (first | exact Below.refl _ _ | assumption | (refine Below.drew ?_) | (refine below_drewN ?_ _) | (refine Below.alloc ?_ (by first | (simp; done) | (simp; omega) | omega) _) | (refine Below.setCell ?_ (by first | (simp; done) | (simp; omega) | omega) _) | (refine Below.trans ?_ (Below.mono (by assumption) (by first | (simp; done) | (simp; omega) | omega))))⟩
theorem by1_l (x : Int) (w : World) : Calls Try.prog 137 #[.int .i64 x] w fun e w' => e = .returned (.bool (!decide (x = 0))) ∧ Below w.heap.size w w' := by
  by_cases h : x = 0
  · subst h
    go_enter Try.func137, Try.ntmps137
    go_wp2
    go_ret
    exact ⟨by simp, by repeat (first | exact Below.refl _ _ | assumption | (refine Below.drew ?_) | (refine below_drewN ?_ _) | (refine Below.alloc ?_ (by first | (simp; done) | (simp; omega) | omega) _) | (refine Below.setCell ?_ (by first | (simp; done) | (simp; omega) | omega) _) | (refine Below.trans ?_ (Below.mono (by assumption) (by first | (simp; done) | (simp; omega) | omega))))⟩
  · go_enter Try.func137, Try.ntmps137
    go_wp2
    go_ret
    exact ⟨ret_bool (by simp [h]), by repeat (first | exact Below.refl _ _ | assumption | (refine Below.drew ?_) | (refine below_drewN ?_ _) | (refine Below.alloc ?_ (by first | (simp; done) | (simp; omega) | omega) _) | (refine Below.setCell ?_ (by first | (simp; done) | (simp; omega) | omega) _) | (refine Below.trans ?_ (Below.mono (by assumption) (by first | (simp; done) | (simp; omega) | omega))))⟩
theorem sz_v11 (W : World) : (sizeOf (Try.prog.elem 40)).run Try.prog W = .ok 1 W := by kernel_rfl
theorem un_v11 : Try.prog.underlying 40 = some (.slice (Try.prog.elem 40)) := by kernel_rfl
set_option maxHeartbeats 4000000 in
set_option maxRecDepth 100000 in
theorem idx_v11  (l : List Int) (p : Int → Bool) (w : World) (v : Value) (hv : SlOf w w.heap.size 1 encInt v l)
    (hf : ∀ q ∈ l, ∀ W, Below w.heap.size w W → Calls Try.prog 112 #[.int .i64 q] W fun e W' => e = .returned (.bool (p q)) ∧ Below W.heap.size W W') :
    Calls Try.prog 105 #[v, .func (.func 112) #[] #[]] w fun e w' => (∃ z : Int, e = .returned (.int .i64 z) ∧ decide (0 ≤ z) = l.any p) ∧ Below w.heap.size w w' := by
  obtain ⟨a, cap, g, off, rfl, hlc, hcm, hx⟩ := SlOf.at (enc := encInt) (fun _ => rfl) un_v11 sz_v11 hv
  have HX := Lib.hid hx; clear hx hv
  have HF := Lib.hid hf; clear hf
  unfold maxLen at hcm
  go_enter Try.func105, Try.ntmps105
  go_wp2
  go_loopw [8] (fun i wr => ∃ k : Nat, k ≤ l.length ∧ i = .int .i64 (k : Nat) ∧ (∀ j (h : j < l.length), j < k → p l[j] = false) ∧ Below w.heap.size w wr) (fun i _ => l.length - (intOf i).toNat)
  case atStart => exact ⟨0, Nat.zero_le _, rfl, fun j _ h => absurd h (by omega), Below.refl _ _⟩
  case round =>
    obtain ⟨k, hk, rfl, hno, hb⟩ := hrel
    have HNO := Lib.hid hno; clear hno
    by_cases hlt : k < l.length
    rotate_left
    · go_wp2
      go_ret
      refine ⟨⟨-1, rfl, ?_⟩, hb⟩
      have : l.any p = false := List.any_eq_false.2 (fun c hc => by
        obtain ⟨j, hj, rfl⟩ := List.getElem_of_mem hc
        rw [HNO.out j hj (by omega)]
        simp)
      rw [this]; rfl
    obtain ⟨-, hi, hg, hc⟩ := HX.out k hlt
    have rd := fun j hj => (hb.cell (p := ⟨g, off + 1 * k + j, none⟩) hg).trans (hc j hj)
    clear hc
    have HFK := Lib.hid (HF.out l[k] (List.getElem_mem hlt) wr hb)
    cases hbd : p l[k]
    · have HBD := Lib.hid hbd; clear hbd
      have HFK2 := Lib.hid (HBD.out ▸ HFK.out); clear HFK
      generalize l[k] = q at HFK2 rd
      skip
      have r0 : wr.cell? ⟨g, off + k, none⟩ = some (.int .i64 q) := by have := rd 0 (by omega); simpa [encInt] using this
      simp only [Nat.one_mul] at hi
      clear rd
      go_wp2_with (go_at_call 112; refine HFK2.out.mono ?_; go_must (rintro e w1 ⟨rfl, hb1⟩))
      go_roundw
      case rel =>
        refine ⟨k + 1, hlt, by simp, fun j h hj => ?_, hb.trans (hb1.mono hb.size)⟩
        by_cases he : j = k
        · subst he; exact HBD.out
        · exact HNO.out j h (by omega)
      case measure => simp only [intOf]; omega
    · have HBD := Lib.hid hbd; clear hbd
      have HFK2 := Lib.hid (HBD.out ▸ HFK.out); clear HFK
      generalize l[k] = q at HFK2 rd
      skip
      have r0 : wr.cell? ⟨g, off + k, none⟩ = some (.int .i64 q) := by have := rd 0 (by omega); simpa [encInt] using this
      simp only [Nat.one_mul] at hi
      clear rd
      go_wp2_with (go_at_call 112; refine HFK2.out.mono ?_; go_must (rintro e w1 ⟨rfl, hb1⟩))
      go_ret
      refine ⟨⟨(k : Int), rfl, ?_⟩, hb.trans (hb1.mono hb.size)⟩
      have : l.any p = true := List.any_eq_true.2 ⟨_, List.getElem_mem hlt, HBD.out⟩
      rw [this]; simp
set_option maxHeartbeats 4000000 in
theorem con_v11  (l : List Int) (p : Int → Bool) (w : World) (v : Value) (hv : SlOf w w.heap.size 1 encInt v l)
    (hf : ∀ q ∈ l, ∀ W, Below w.heap.size w W → Calls Try.prog 112 #[.int .i64 q] W fun e W' => e = .returned (.bool (p q)) ∧ Below W.heap.size W W') :
    Calls Try.prog 111 #[v, .func (.func 112) #[] #[]] w fun e w' => e = .returned (.bool (l.any p)) ∧ Below w.heap.size w w' := by
  have H := Lib.hid ((idx_v11 (l := l) (p := p) (w := w) (v := v) (hv := hv) (hf := hf)))
  clear hv hf
  go_enter Try.func111, Try.ntmps111
  go_wp2_with (go_at_call 105; refine H.out.mono ?_; clear H; go_must (rintro e w1 ⟨⟨z, rfl, hz⟩, hb1⟩; have HZ := Lib.hid hz; clear hz))
  go_ret
  exact ⟨ret_bool HZ.out, hb1⟩
theorem sz_by1 (W : World) : (sizeOf (Try.prog.elem 40)).run Try.prog W = .ok 1 W := by kernel_rfl
theorem un_by1 : Try.prog.underlying 40 = some (.slice (Try.prog.elem 40)) := by kernel_rfl
set_option maxHeartbeats 4000000 in
set_option maxRecDepth 100000 in
theorem idx_by1  (l : List Int) (p : Int → Bool) (w : World) (v : Value) (hv : SlOf w w.heap.size 1 encInt v l)
    (hf : ∀ q ∈ l, ∀ W, Below w.heap.size w W → Calls Try.prog 137 #[.int .i64 q] W fun e W' => e = .returned (.bool (p q)) ∧ Below W.heap.size W W') :
    Calls Try.prog 105 #[v, .func (.func 137) #[] #[]] w fun e w' => (∃ z : Int, e = .returned (.int .i64 z) ∧ decide (0 ≤ z) = l.any p) ∧ Below w.heap.size w w' := by
  obtain ⟨a, cap, g, off, rfl, hlc, hcm, hx⟩ := SlOf.at (enc := encInt) (fun _ => rfl) un_by1 sz_by1 hv
  have HX := Lib.hid hx; clear hx hv
  have HF := Lib.hid hf; clear hf
  unfold maxLen at hcm
  go_enter Try.func105, Try.ntmps105
  go_wp2
  go_loopw [8] (fun i wr => ∃ k : Nat, k ≤ l.length ∧ i = .int .i64 (k : Nat) ∧ (∀ j (h : j < l.length), j < k → p l[j] = false) ∧ Below w.heap.size w wr) (fun i _ => l.length - (intOf i).toNat)
  case atStart => exact ⟨0, Nat.zero_le _, rfl, fun j _ h => absurd h (by omega), Below.refl _ _⟩
  case round =>
    obtain ⟨k, hk, rfl, hno, hb⟩ := hrel
    have HNO := Lib.hid hno; clear hno
    by_cases hlt : k < l.length
    rotate_left
    · go_wp2
      go_ret
      refine ⟨⟨-1, rfl, ?_⟩, hb⟩
      have : l.any p = false := List.any_eq_false.2 (fun c hc => by
        obtain ⟨j, hj, rfl⟩ := List.getElem_of_mem hc
        rw [HNO.out j hj (by omega)]
        simp)
      rw [this]; rfl
    obtain ⟨-, hi, hg, hc⟩ := HX.out k hlt
    have rd := fun j hj => (hb.cell (p := ⟨g, off + 1 * k + j, none⟩) hg).trans (hc j hj)
    clear hc
    have HFK := Lib.hid (HF.out l[k] (List.getElem_mem hlt) wr hb)
    cases hbd : p l[k]
    · have HBD := Lib.hid hbd; clear hbd
      have HFK2 := Lib.hid (HBD.out ▸ HFK.out); clear HFK
      generalize l[k] = q at HFK2 rd
      skip
      have r0 : wr.cell? ⟨g, off + k, none⟩ = some (.int .i64 q) := by have := rd 0 (by omega); simpa [encInt] using this
      simp only [Nat.one_mul] at hi
      clear rd
      go_wp2_with (go_at_call 137; refine HFK2.out.mono ?_; go_must (rintro e w1 ⟨rfl, hb1⟩))
      go_roundw
      case rel =>
        refine ⟨k + 1, hlt, by simp, fun j h hj => ?_, hb.trans (hb1.mono hb.size)⟩
        by_cases he : j = k
        · subst he; exact HBD.out
        · exact HNO.out j h (by omega)
      case measure => simp only [intOf]; omega
    · have HBD := Lib.hid hbd; clear hbd
      have HFK2 := Lib.hid (HBD.out ▸ HFK.out); clear HFK
      generalize l[k] = q at HFK2 rd
      skip
      have r0 : wr.cell? ⟨g, off + k, none⟩ = some (.int .i64 q) := by have := rd 0 (by omega); simpa [encInt] using this
      simp only [Nat.one_mul] at hi
      clear rd
      go_wp2_with (go_at_call 137; refine HFK2.out.mono ?_; go_must (rintro e w1 ⟨rfl, hb1⟩))
      go_ret
      refine ⟨⟨(k : Int), rfl, ?_⟩, hb.trans (hb1.mono hb.size)⟩
      have : l.any p = true := List.any_eq_true.2 ⟨_, List.getElem_mem hlt, HBD.out⟩
      rw [this]; simp
set_option maxHeartbeats 4000000 in
theorem con_by1  (l : List Int) (p : Int → Bool) (w : World) (v : Value) (hv : SlOf w w.heap.size 1 encInt v l)
    (hf : ∀ q ∈ l, ∀ W, Below w.heap.size w W → Calls Try.prog 137 #[.int .i64 q] W fun e W' => e = .returned (.bool (p q)) ∧ Below W.heap.size W W') :
    Calls Try.prog 111 #[v, .func (.func 137) #[] #[]] w fun e w' => e = .returned (.bool (l.any p)) ∧ Below w.heap.size w w' := by
  have H := Lib.hid ((idx_by1 (l := l) (p := p) (w := w) (v := v) (hv := hv) (hf := hf)))
  clear hv hf
  go_enter Try.func111, Try.ntmps111
  go_wp2_with (go_at_call 105; refine H.out.mono ?_; clear H; go_must (rintro e w1 ⟨⟨z, rfl, hz⟩, hb1⟩; have HZ := Lib.hid hz; clear hz))
  go_ret
  exact ⟨ret_bool HZ.out, hb1⟩
theorem sl_ints {W : World} {b off n cap : Nat} (l : List Int) (hn : n = l.length) (hc : n ≤ cap) (hm : cap ≤ 1000) (hb : b < W.heap.size) (h : ∀ i (hi : i < l.length), W.cell? ⟨b, off + i, none⟩ = some (.int .i64 l[i])) : SlOf W W.heap.size 1 encInt (.slice (some ⟨b, off, none⟩) n cap) l := by
  subst hn
  refine ⟨_, cap, rfl, flat_len (enc := encInt) (sz := 1) (fun _ => rfl) l, hc, by unfold maxLen; omega, by simp, .inr ⟨b, off, rfl, hb, fun i hi => ?_⟩⟩
  have hi2 : i < l.length := by simpa using hi
  have h2 := flat_at (enc := encInt) (sz := 1) (fun _ => rfl) l i 0 hi2 (by omega)
  simp only [Nat.one_mul, Nat.add_zero] at h2
  rw [h i hi2, h2]; rfl
def beyB (n x1 x2 : Int) : Bool := (decide (1 < n) || decide (x1 = 0)) && (decide (2 < n) || decide (x2 = 0))
set_option maxHeartbeats 4000000 in
set_option maxRecDepth 100000 in
theorem beyond_l (n x0 x1 x2 : Int) (hn : 1 ≤ n ∧ n ≤ 3) (w : World) : Calls Try.prog 113 #[.agg #[.int .i64 x0, .int .i64 x1, .int .i64 x2], .int .i64 n] w fun e w' => e = .returned (.bool (!beyB n x1 x2)) ∧ Below w.heap.size w w' := by
  obtain ⟨W, hW⟩ : ∃ W : World, w.alloc (Obj.cells #[.int .i64 x0, .int .i64 x1, .int .i64 x2] 29) = W := ⟨_, rfl⟩
  have kw : Below w.heap.size w W := by rw [← hW]; exact (by repeat (first | exact Below.refl _ _ | assumption | (refine Below.drew ?_) | (refine below_drewN ?_ _) | (refine Below.alloc ?_ (by first | (simp; done) | (simp; omega) | omega) _) | (refine Below.setCell ?_ (by first | (simp; done) | (simp; omega) | omega) _) | (refine Below.trans ?_ (Below.mono (by assumption) (by first | (simp; done) | (simp; omega) | omega)))))
  have ks : W.heap.size = w.heap.size + 1 := by rw [← hW]; simp
  have y1 : W.cell? ⟨w.heap.size, 1, none⟩ = some (.int .i64 x1) := by subst hW; go_simp
  have y2 : W.cell? ⟨w.heap.size, 2, none⟩ = some (.int .i64 x2) := by subst hW; go_simp
  have HW := Lib.hid hW; have KW := Lib.hid kw; clear hW kw
  obtain rfl | rfl | rfl : n = 1 ∨ n = 2 ∨ n = 3 := by omega
  · have H := Lib.hid (con_by1 [x1, x2] (fun x => !decide (x = 0)) W (.slice (some ⟨w.heap.size, 1, none⟩) 2 2) (sl_ints [x1, x2] rfl (by omega) (by omega) (by omega) (fun i hi => by
      have : i = 0 ∨ i = 1 := by simp at hi; omega
      rcases this with rfl | rfl
      · exact y1
      · exact y2)) (fun q _ V _ => by1_l q V))
    have HR := Lib.hid (show ([x1, x2].any fun x => !decide (x = 0)) = !beyB 1 x1 x2 by simp [beyB])
    clear y1 y2
    go_enter Try.func113, Try.ntmps113
    go_wp2_with (go_at_call 111; rw [HW.out]; refine H.out.mono ?_; go_must (rintro e w1 ⟨rfl, hb1⟩; rw [HR.out]))
    go_ret
    exact ⟨rfl, below_at KW.out (by omega) hb1⟩
  · have H := Lib.hid (con_by1 [x2] (fun x => !decide (x = 0)) W (.slice (some ⟨w.heap.size, 2, none⟩) 1 1) (sl_ints [x2] rfl (by omega) (by omega) (by omega) (fun i hi => by
      have : i = 0 := by simp at hi; omega
      subst this; exact y2)) (fun q _ V _ => by1_l q V))
    have HR := Lib.hid (show ([x2].any fun x => !decide (x = 0)) = !beyB 2 x1 x2 by simp [beyB])
    clear y1 y2
    go_enter Try.func113, Try.ntmps113
    go_wp2_with (go_at_call 111; rw [HW.out]; refine H.out.mono ?_; go_must (rintro e w1 ⟨rfl, hb1⟩; rw [HR.out]))
    go_ret
    exact ⟨rfl, below_at KW.out (by omega) hb1⟩
  · have H := Lib.hid (fun o => con_by1 [] (fun x => !decide (x = 0)) W (.slice (some ⟨w.heap.size, o, none⟩) 0 0) (sl_ints [] rfl (by omega) (by omega) (by omega) (fun i hi => by simp at hi)) (fun q _ V _ => by1_l q V))
    have HR := Lib.hid (show (([] : List Int).any fun x => !decide (x = 0)) = !beyB 3 x1 x2 by simp [beyB])
    clear y1 y2
    go_enter Try.func113, Try.ntmps113
    go_wp2_with (go_at_call 111; rw [HW.out]; refine (H.out _).mono ?_; go_must (rintro e w1 ⟨rfl, hb1⟩; rw [HR.out]))
    go_ret
    exact ⟨rfl, below_at KW.out (by omega) hb1⟩
theorem argB_eq (n nv : Int) (a : ArgD) : argB n nv a = ((btw (-3) a.at_.1 3 && (btw (-3) a.at_.2.1 3 && btw (-3) a.at_.2.2 3)) && (beyB n a.at_.2.1 a.at_.2.2 && btw 0 a.var (nv - 1))) := by
  simp only [argB, flatB, beyB]
  cases btw (-3) a.at_.1 3 <;> cases btw (-3) a.at_.2.1 3 <;> cases btw (-3) a.at_.2.2 3 <;> simp [Bool.and_assoc]
set_option maxHeartbeats 4000000 in
set_option maxRecDepth 100000 in
theorem vv1_l (n nv : Int) (hn : 1 ≤ n ∧ n ≤ 3) (hv : 0 ≤ nv ∧ nv ≤ 1000000) (a : ArgD) (bn bv : Nat) (w : World) (l1 : bn < w.heap.size) (l2 : bv < w.heap.size) (c1 : w.cell? ⟨bn, 0, none⟩ = some (.int .i64 n)) (c2 : w.cell? ⟨bv, 0, none⟩ = some (.int .i64 nv)) :
    Calls Try.prog 110 #[.agg #[.int .i64 a.var, .int .i64 a.at_.1, .int .i64 a.at_.2.1, .int .i64 a.at_.2.2], .pointer (some ⟨bn, 0, none⟩), .pointer (some ⟨bv, 0, none⟩)] w fun e w' => e = .returned (.bool (!argB n nv a)) ∧ Below w.heap.size w w' := by
  rw [argB_eq n nv a]
  obtain ⟨av, x0, x1, x2⟩ := a
  simp only
  obtain ⟨hv0, hv1⟩ := hv
  have hz1 := z1 (show bn + 1 ≤ w.heap.size by omega)
  have hz2 := z1 (show bv + 1 ≤ w.heap.size by omega)
  obtain ⟨W, hW⟩ : ∃ W : World, w.alloc (Obj.cells #[.int .i64 av, .int .i64 x0, .int .i64 x1, .int .i64 x2] 123) = W := ⟨_, rfl⟩
  have kw : Below w.heap.size w W := by rw [← hW]; exact (by repeat (first | exact Below.refl _ _ | assumption | (refine Below.drew ?_) | (refine below_drewN ?_ _) | (refine Below.alloc ?_ (by first | (simp; done) | (simp; omega) | omega) _) | (refine Below.setCell ?_ (by first | (simp; done) | (simp; omega) | omega) _) | (refine Below.trans ?_ (Below.mono (by assumption) (by first | (simp; done) | (simp; omega) | omega)))))
  have ks : W.heap.size = w.heap.size + 1 := by rw [← hW]; simp
  have y0 : W.cell? ⟨w.heap.size, 0, none⟩ = some (.int .i64 av) := by subst hW; go_simp
  have y1 : W.cell? ⟨w.heap.size, 1, none⟩ = some (.int .i64 x0) := by subst hW; go_simp
  have y2 : W.cell? ⟨w.heap.size, 2, none⟩ = some (.int .i64 x1) := by subst hW; go_simp
  have y3 : W.cell? ⟨w.heap.size, 3, none⟩ = some (.int .i64 x2) := by subst hW; go_simp
  have d1 := (kw.cell (p := ⟨bn, 0, none⟩) l1).trans c1
  have d2 := (kw.cell (p := ⟨bv, 0, none⟩) l2).trans c2
  have HW := Lib.hid hW; have KW := Lib.hid kw; clear hW kw
  have H := Lib.hid (con_v11 [x0, x1, x2] (fun x => !btw (-3) x 3) W (.slice (some ⟨w.heap.size, 1, none⟩) 3 3) (sl_ints [x0, x1, x2] rfl (by omega) (by omega) (by omega) (fun i hi => by
      have : i = 0 ∨ i = 1 ∨ i = 2 := by simp at hi; omega
      rcases this with rfl | rfl | rfl
      · exact y1
      · exact y2
      · exact y3)) (fun q _ V _ => v11_l q V))
  have HR := Lib.hid (show ([x0, x1, x2].any fun x => !btw (-3) x 3) = !(btw (-3) x0 3 && (btw (-3) x1 3 && btw (-3) x2 3)) by simp [Bool.not_and])
  generalize hA : (btw (-3) x0 3 && (btw (-3) x1 3 && btw (-3) x2 3)) = A at *
  generalize hB : beyB n x1 x2 = B at *
  generalize hC : btw 0 av (nv - 1) = C at *
  have HB := Lib.hid hB; have HC := Lib.hid hC
  clear hA hB hC c1 c2
  have RD := Lib.hid (show ∀ V, Below W.heap.size W V → V.cell? ⟨w.heap.size, 0, none⟩ = some (.int .i64 av) ∧ V.cell? ⟨w.heap.size, 1, none⟩ = some (.int .i64 x0) ∧ V.cell? ⟨w.heap.size, 2, none⟩ = some (.int .i64 x1) ∧ V.cell? ⟨w.heap.size, 3, none⟩ = some (.int .i64 x2) ∧ V.cell? ⟨bn, 0, none⟩ = some (.int .i64 n) ∧ V.cell? ⟨bv, 0, none⟩ = some (.int .i64 nv) from
    fun V hV => ⟨(hV.cell (p := ⟨w.heap.size, 0, none⟩) (by simp; omega)).trans y0, (hV.cell (p := ⟨w.heap.size, 1, none⟩) (by simp; omega)).trans y1, (hV.cell (p := ⟨w.heap.size, 2, none⟩) (by simp; omega)).trans y2, (hV.cell (p := ⟨w.heap.size, 3, none⟩) (by simp; omega)).trans y3, (hV.cell (p := ⟨bn, 0, none⟩) (by simp; omega)).trans d1, (hV.cell (p := ⟨bv, 0, none⟩) (by simp; omega)).trans d2⟩)
  clear y0 y1 y2 y3 d1 d2
  cases A <;> cases B
  all_goals
    go_enter Try.func110, Try.ntmps110
    go_wp2_with (first | (go_at_call 111; rw [HW.out]; refine H.out.mono ?_; go_must (rintro e w1 ⟨rfl, hb1⟩; rw [HR.out]; have K := hb1; obtain ⟨q0, q1, q2, q3, q4, q5⟩ := RD.out _ K)) | (go_at_call 113; refine (beyond_l _ _ _ _ hn _).mono ?_; go_must (rintro e w2 ⟨rfl, hb2⟩; rw [HB.out]; have K' := below_at K (by have := hb1.size; omega) hb2; clear K q0 q1 q2 q3 q4 q5; have K := K'; clear K'; obtain ⟨q0, q1, q2, q3, q4, q5⟩ := RD.out _ K)) | (go_at_call 91; refine (rbetween_l _ _ _ _).mono ?_; go_must (rintro e w3 ⟨rfl, rfl⟩; rw [HC.out])))
    go_ret
    exact ⟨by simp, below_at KW.out (by omega) K⟩
end Go.Proofs.Ytndfdgdahinkpaa
