/- The reference's Sorted: its walk. -/
import Derived.Test.YtnejicklenhpeaaGreatCelG
import Derived.Test.YtnejicklenhpeaaGreatEvJ
namespace Go.Proofs.YtnejicklenhpeaaGreat
open Go.RowKit Go.Lib
set_option linter.unusedVariables false
theorem slCe2 : SlT Tryz.prog 34 31 (.agg #[.int .i64 0, .int .i64 0]) 2 16 := ⟨Tryz.underlying34, by kernel_rfl, rfl, by decide⟩
theorem sz_ce (W : World) : (sizeOf (Tryz.prog.elem 34)).run Tryz.prog W = .ok 2 W := by kernel_rfl
theorem un_ce : Tryz.prog.underlying 34 = some (.slice (Tryz.prog.elem 34)) := by kernel_rfl
theorem lessC_lt (a b : Int × Int) : lessC a b = decide (cltC a b) := by
  unfold lessC
  rw [Bool.eq_iff_iff, decide_eq_true_iff]; unfold cltC; simp
theorem flatC_set : ∀ (l : List (Int × Int)) (k : Nat) (x : Int × Int), k < l.length → ((l.flatMap encC).set (k * 2) (.int .i64 x.1)).set (k * 2 + 1) (.int .i64 x.2) = (l.set k x).flatMap encC
  | [], k, x, h => by simp at h
  | y :: t, 0, x, _ => by simp [encC]
  | y :: t, k + 1, x, h => by
    have := flatC_set t k x (by simpa using h)
    rw [List.set_cons_succ, List.flatMap_cons, List.flatMap_cons, ← this, show (k + 1) * 2 = k * 2 + 1 + 1 by omega]
    simp [encC]
theorem OwnOf.setC {w : World} {lo g cap : Nat} {l : List (Int × Int)} (h : OwnOf w lo 31 2 encC (.slice (some ⟨g, 0, none⟩) l.length cap) l) (k : Nat) (hk : k < l.length) (x : Int × Int) :
    OwnOf ((w.setCell ⟨g, k * 2, none⟩ (.int .i64 x.1)).setCell ⟨g, k * 2 + 1, none⟩ (.int .i64 x.2)) lo 31 2 encC (.slice (some ⟨g, 0, none⟩) l.length cap) (l.set k x) := by
  have h0 : w.ownsRow lo 31 2 (.slice (some ⟨g, 0, none⟩) l.length cap) l.length (l.flatMap encC) := h
  have h1 := (h0.stored (k * 2) (.int .i64 x.1)).1
  have h2 := (h1.stored (k * 2 + 1) (.int .i64 x.2)).1
  unfold OwnOf
  rw [← flatC_set l k x hk, List.length_set]
  exact h2
theorem OwnOf.setN {w : World} {lo g cap n : Nat} {l : List (Int × Int)} (h : OwnOf w lo 31 2 encC (.slice (some ⟨g, 0, none⟩) n cap) l) (hn : l.length = n) (k : Nat) (hk : k < n) (x : Int × Int) :
    OwnOf ((w.setCell ⟨g, k * 2, none⟩ (.int .i64 x.1)).setCell ⟨g, k * 2 + 1, none⟩ (.int .i64 x.2)) lo 31 2 encC (.slice (some ⟨g, 0, none⟩) n cap) (l.set k x) := by
  subst hn; exact h.setC k hk x
theorem OwnOf.atN {w : World} {lo g cap n : Nat} {l : List (Int × Int)} (h : OwnOf w lo 31 2 encC (.slice (some ⟨g, 0, none⟩) n cap) l) (hn : l.length = n) (k : Nat) (hk : k < n) (z : Int × Int) (hz : l[k]? = some z) :
    w.cell? ⟨g, k * 2, none⟩ = some (.int .i64 z.1) ∧ w.cell? ⟨g, k * 2 + 1, none⟩ = some (.int .i64 z.2) ∧ w.frozen? ⟨g, k * 2, none⟩ = false ∧ w.frozen? ⟨g, k * 2 + 1, none⟩ = false := by
  subst hn
  obtain ⟨g', c', he, -, -, -, hr⟩ := h.row (by omega)
  simp only [Value.slice.injEq, Option.some.injEq, Addr.mk.injEq, and_true, true_and] at he
  obtain ⟨rfl, rfl⟩ := he
  have := hr.2 k (by simpa using hk)
  have e : l.toArray[k]! = z := by
    rw [toArr_get l k hk]
    exact (List.getElem?_eq_some_iff.1 hz).2
  rwa [e] at this
def SortedR (l : List (Int × Int)) (e : Ending) (w' : World) : Prop := ∃ v, e = .returned v ∧ SlOf w' w'.heap.size 2 encC v (sortC l)
set_option maxHeartbeats 4000000 in
set_option maxRecDepth 100000 in
theorem Sorted_l (l : List (Int × Int)) (hl : l.length ≤ 1000) (w : World) (v : Value) (hv : SlOf w w.heap.size 2 encC v l) :
    Calls Tryz.prog 103 #[v] w fun e w' => SortedR l e w' ∧ Below w.heap.size w w' := by
  obtain ⟨qa, qc, g, off, rfl, hlc, hcm, hx⟩ := SlOf.at (enc := encC) (fun _ => rfl) un_ce sz_ce hv
  unfold maxLen at hcm
  have HX := Lib.hid hx; clear hx hv
  have HLS := Lib.hid (fun (a b : Int × Int) (W : World) => Less_l a b W)
  have HRR := Lib.hid (fun (e : Ending) (w' : World) (v : Value) (he : e = .returned v) (hs : SlOf w' w'.heap.size 2 encC v (sortC l)) => show SortedR l e w' from ⟨v, he, hs⟩)
  go_enter Tryz.func103, Tryz.ntmps103
  go_wp2
  go_loopw [3, 4] (fun t3 t4 wr => ∃ i : Nat, i ≤ l.length ∧ t4 = .int .i64 (i : Nat) ∧ Hid (OwnOf wr w.heap.size 31 2 encC t3 (sortC (l.take i))) ∧ Below w.heap.size w wr) (fun _ t4 _ => l.length - (intOf t4).toNat)
  case atStart => exact ⟨0, Nat.zero_le _, rfl, Lib.hid (OwnOf.nil _ _ _ _ _), Below.refl _ _⟩
  case round =>
    obtain ⟨i, hi, rfl, HO, hb⟩ := hrel
    have hs := hb.size
    by_cases hlt : i < l.length
    rotate_left
    · have HK := Lib.hid (show i = l.length by omega)
      have HO2 := Lib.hid (show OwnOf wr w.heap.size 31 2 encC u3 (sortC l) by have := HO.out; rwa [HK.out, List.take_length] at this)
      go_wp2
      refine bodyPost_ret (v := u3) (by simp only [results, Tryz.results103]; first | (go_simp; done) | (go_simp; rfl)) rfl ⟨HRR.out _ _ _ rfl HO2.out.sl, hb⟩
    obtain ⟨-, hii, hg, hc⟩ := HX.out i hlt
    have RC := Lib.hid (show ∀ W, Below w.heap.size w W → W.cell? ⟨g, off + 2 * i, none⟩ = some (.int .i64 l[i].1) ∧ W.cell? ⟨g, off + 2 * i + 1, none⟩ = some (.int .i64 l[i].2) from fun W hW => ⟨(hW.cell (p := ⟨g, off + 2 * i, none⟩) hg).trans (hc 0 (by omega)), (hW.cell (p := ⟨g, off + 2 * i + 1, none⟩) hg).trans (hc 1 (by omega))⟩)
    clear hc
    have HT := Lib.hid (show sortC (l.take (i + 1)) = insC l[i] (sortC (l.take i)) by rw [List.take_succ_eq_append_getElem hlt, sortC_snoc])
    have hDl : (sortC (l.take i)).length ≤ 1000 := Nat.le_trans (sortC_len _) (by rw [List.length_take]; omega)
    have hi1000 : i < 1000 := by omega
    have HLT := Lib.hid hlt
    have hilt : (i : Int) < (l.length : Int) := by omega
    generalize sortC (l.take i) = D at *
    generalize l[i] = c at *
    obtain ⟨c0, c1⟩ := c
    obtain ⟨da, dc, hde⟩ := HO.out.shape
    subst hde
    clear HX
    obtain ⟨wo, rfl⟩ : ∃ x : World, x = wr := ⟨_, rfl⟩
    go_wp2
    go_loopw [5] (fun t5 wr => ∃ a : Nat, a ≤ D.length ∧ t5 = .int .i64 (a : Nat) ∧ Hid (∀ j (h : j < D.length), j < a → cltC D[j] (c0, c1)) ∧ Below wo.heap.size wo wr) (fun t5 _ => D.length - (intOf t5).toNat)
    case atStart => exact ⟨0, Nat.zero_le _, rfl, Lib.hid (fun j _ h => absurd h (by omega)), Below.refl _ _⟩
    case round =>
      obtain ⟨a, ha, rfl, HL, hb1⟩ := hrel
      have hs1 := hb1.size
      have hkk : Below w.heap.size w wr := below_at hb hs hb1
      have HO1 := Lib.hid (HO.out.kept hb1)
      by_cases hal : a < D.length
      · obtain ⟨gd, cd, hee, hlo, hlc1, hcm1, hrow⟩ := HO1.out.row (by omega)
        simp only [Value.slice.injEq, true_and] at hee
        obtain ⟨rfl, rfl⟩ := hee
        have hgd := hrow.1
        have DC := Lib.hid (show ∀ W, Below wr.heap.size wr W → W.cell? ⟨gd, a * 2, none⟩ = some (.int .i64 D[a].1) ∧ W.cell? ⟨gd, a * 2 + 1, none⟩ = some (.int .i64 D[a].2) from fun W hW => by
          obtain ⟨a0, a1, -, -⟩ := hrow.2 a (by simpa using hal)
          rw [toArr_get D a hal] at a0 a1
          exact ⟨(hW.cell (p := ⟨gd, a * 2, none⟩) hgd).trans a0, (hW.cell (p := ⟨gd, a * 2 + 1, none⟩) hgd).trans a1⟩)
        clear hrow
        have RC2 := Lib.hid (show ∀ W, Below wr.heap.size wr W → W.cell? ⟨g, off + 2 * i, none⟩ = some (.int .i64 c0) ∧ W.cell? ⟨g, off + 2 * i + 1, none⟩ = some (.int .i64 c1) from fun W hW => RC.out W (below_at hkk (by omega) hW))
        have HL2 := Lib.hid (show cltC D[a] (c0, c1) → ∀ j (h : j < D.length), j < a + 1 → cltC D[j] (c0, c1) from fun hless j h hj => by
          by_cases e : j = a
          · subst e; exact hless
          · exact HL.out j h (by omega))
        have HIN := Lib.hid (show ¬ cltC D[a] (c0, c1) → insC (c0, c1) D = if D[a] = (c0, c1) then D else (shiftC D (c0, c1) a).set a (c0, c1) from fun hless => by
          rw [insC_at (c0, c1) D a ha HL.out (fun _ => hless), shiftC_end D (c0, c1) a ha]
          by_cases e : D[a] = (c0, c1)
          · rw [if_pos ⟨hal, e⟩, if_pos e]
          · rw [if_neg (fun h => e h.2), if_neg e])
        clear HL
        have hal0 : (a : Int) < (D.length : Int) := by omega
        generalize D[a] = z at *
        obtain ⟨z0, z1⟩ := z
        obtain ⟨d0, d1⟩ := DC.out wr (Below.refl _ _)
        obtain ⟨q0, q1⟩ := RC2.out wr (Below.refl _ _)
        have HAL := Lib.hid hal
        by_cases hless : cltC (z0, z1) (c0, c1)
        · have HLE := Lib.hid (fun (W : World) => show Calls Tryz.prog 147 #[.agg #[.int .i64 z0, .int .i64 z1], .agg #[.int .i64 c0, .int .i64 c1]] W fun e w' => e = .returned (.bool true) ∧ Below W.heap.size W w' from by have := HLS.out (z0, z1) (c0, c1) W; rwa [lessC_lt, decide_eq_true hless] at this)
          have HLL := Lib.hid hless
          clear hless
          go_wp2
          go_region_held3 (fun w' => Below wr.heap.size wr w' ∧ w'.cell? ⟨gd, a * 2, none⟩ = some (.int .i64 z0) ∧ w'.cell? ⟨gd, a * 2 + 1, none⟩ = some (.int .i64 z1) ∧ w'.cell? ⟨g, off + 2 * i, none⟩ = some (.int .i64 c0) ∧ w'.cell? ⟨g, off + 2 * i + 1, none⟩ = some (.int .i64 c1)) (((refine (fun kb => ⟨kb, (DC.out _ kb).1, (DC.out _ kb).2, (RC2.out _ kb).1, (RC2.out _ kb).2⟩) (?_ : Below wr.heap.size wr _); exact (by repeat (first | (with_reducible exact Below.refl _ _) | (with_reducible assumption) | (with_reducible refine Below.drew ?_) | (with_reducible refine Below.setCell ?_ (by first | (simp; done) | (simp; omega) | omega) _) | (with_reducible refine Below.alloc ?_ (by first | (simp; done) | (simp; omega) | omega) _) | (with_reducible refine below_drewN ?_ _) | (refine Below.trans ?_ (Below.mono (by with_reducible assumption) (by first | (simp; done) | (simp; omega) | omega)))))))) (first | (go_at_call 147; refine (HLE.out _).mono ?_; go_must (rintro e w5 ⟨rfl, hb5⟩)))
          go_wp2
          go_roundw
          case rel => exact ⟨a + 1, HAL.out, by simp, Lib.hid (HL2.out HLL.out), hb1.trans ((show Below wr.heap.size wr _ from (by repeat (first | (with_reducible exact Below.refl _ _) | (with_reducible assumption) | (with_reducible refine Below.drew ?_) | (with_reducible refine Below.setCell ?_ (by first | (simp; done) | (simp; omega) | omega) _) | (with_reducible refine Below.alloc ?_ (by first | (simp; done) | (simp; omega) | omega) _) | (with_reducible refine below_drewN ?_ _) | (refine Below.trans ?_ (Below.mono (by with_reducible assumption) (by first | (simp; done) | (simp; omega) | omega)))))).mono hs1)⟩
          case measure => simp only [intOf]; have := HAL.out; omega
        have HLE := Lib.hid (fun (W : World) => show Calls Tryz.prog 147 #[.agg #[.int .i64 z0, .int .i64 z1], .agg #[.int .i64 c0, .int .i64 c1]] W fun e w' => e = .returned (.bool false) ∧ Below W.heap.size W w' from by have := HLS.out (z0, z1) (c0, c1) W; rwa [lessC_lt, decide_eq_false hless] at this)
        have hins := HIN.out hless
        clear hless HIN HL2
        by_cases heqz : (z0, z1) = (c0, c1)
        · have HINS := Lib.hid (show insC (c0, c1) D = D by rw [hins, if_pos heqz])
          clear hins
          simp only [Prod.mk.injEq] at heqz
          obtain ⟨rfl, rfl⟩ := heqz
          have heq : ∀ W : World, (Op.equalIn 10000 31 (.agg #[.int .i64 z0, .int .i64 z1]) (.agg #[.int .i64 z0, .int .i64 z1])).run Tryz.prog W = .ok true W := fun W => by simpa using eq_cell z0 z1 z0 z1 W
          go_wp2
          go_region_held3 (fun w' => Below wr.heap.size wr w' ∧ w'.cell? ⟨gd, a * 2, none⟩ = some (.int .i64 z0) ∧ w'.cell? ⟨gd, a * 2 + 1, none⟩ = some (.int .i64 z1) ∧ w'.cell? ⟨g, off + 2 * i, none⟩ = some (.int .i64 z0) ∧ w'.cell? ⟨g, off + 2 * i + 1, none⟩ = some (.int .i64 z1)) (((refine (fun kb => ⟨kb, (DC.out _ kb).1, (DC.out _ kb).2, (RC2.out _ kb).1, (RC2.out _ kb).2⟩) (?_ : Below wr.heap.size wr _); exact (by repeat (first | (with_reducible exact Below.refl _ _) | (with_reducible assumption) | (with_reducible refine Below.drew ?_) | (with_reducible refine Below.setCell ?_ (by first | (simp; done) | (simp; omega) | omega) _) | (with_reducible refine Below.alloc ?_ (by first | (simp; done) | (simp; omega) | omega) _) | (with_reducible refine below_drewN ?_ _) | (refine Below.trans ?_ (Below.mono (by with_reducible assumption) (by first | (simp; done) | (simp; omega) | omega)))))))) (first | (go_at_call 147; refine (HLE.out _).mono ?_; go_must (rintro e w5 ⟨rfl, hb5⟩)))
          clear d0 d1 q0 q1
          go_wp2
          refine forgetW (fun V => Below wr.heap.size wr V) (by first | exact (by repeat (first | (with_reducible exact Below.refl _ _) | (with_reducible assumption) | (with_reducible refine Below.drew ?_) | (with_reducible refine Below.setCell ?_ (by first | (simp; done) | (simp; omega) | omega) _) | (with_reducible refine Below.alloc ?_ (by first | (simp; done) | (simp; omega) | omega) _) | (with_reducible refine below_drewN ?_ _) | (refine Below.trans ?_ (Below.mono (by with_reducible assumption) (by first | (simp; done) | (simp; omega) | omega)))))) ?_
          intro W8 hb8
          obtain ⟨d0, d1⟩ := DC.out W8 hb8
          obtain ⟨q0, q1⟩ := RC2.out W8 hb8
          go_wp2
          go_quiet (fail)
          go_wp2
          go_roundw
          case rel => exact ⟨i + 1, HLT.out, by simp, Lib.hid (by rw [HT.out, HINS.out]; exact HO1.out.kept (show Below wr.heap.size wr _ from (by repeat (first | (with_reducible exact Below.refl _ _) | (with_reducible assumption) | (with_reducible refine Below.drew ?_) | (with_reducible refine Below.setCell ?_ (by first | (simp; done) | (simp; omega) | omega) _) | (with_reducible refine Below.alloc ?_ (by first | (simp; done) | (simp; omega) | omega) _) | (with_reducible refine below_drewN ?_ _) | (refine Below.trans ?_ (Below.mono (by with_reducible assumption) (by first | (simp; done) | (simp; omega) | omega))))))), below_at hkk (by omega) (show Below wr.heap.size wr _ from (by repeat (first | (with_reducible exact Below.refl _ _) | (with_reducible assumption) | (with_reducible refine Below.drew ?_) | (with_reducible refine Below.setCell ?_ (by first | (simp; done) | (simp; omega) | omega) _) | (with_reducible refine Below.alloc ?_ (by first | (simp; done) | (simp; omega) | omega) _) | (with_reducible refine below_drewN ?_ _) | (refine Below.trans ?_ (Below.mono (by with_reducible assumption) (by first | (simp; done) | (simp; omega) | omega))))))⟩
          case measure => simp only [intOf]; have := HLT.out; omega
        have HINS := Lib.hid (show insC (c0, c1) D = (shiftC D (c0, c1) a).set a (c0, c1) by rw [hins, if_neg heqz])
        clear hins
        have hne : (decide (z0 = c0) && decide (z1 = c1)) = false := by rw [← Bool.decide_and, decide_eq_false (fun h => heqz (Prod.ext_iff.2 h))]
        have heq : ∀ W : World, (Op.equalIn 10000 31 (.agg #[.int .i64 z0, .int .i64 z1]) (.agg #[.int .i64 c0, .int .i64 c1])).run Tryz.prog W = .ok false W := fun W => by rw [eq_cell z0 z1 c0 c1 W, hne]
        clear hne heqz
        go_wp2
        go_region_held3 (fun w' => Below wr.heap.size wr w' ∧ w'.cell? ⟨gd, a * 2, none⟩ = some (.int .i64 z0) ∧ w'.cell? ⟨gd, a * 2 + 1, none⟩ = some (.int .i64 z1) ∧ w'.cell? ⟨g, off + 2 * i, none⟩ = some (.int .i64 c0) ∧ w'.cell? ⟨g, off + 2 * i + 1, none⟩ = some (.int .i64 c1)) (((refine (fun kb => ⟨kb, (DC.out _ kb).1, (DC.out _ kb).2, (RC2.out _ kb).1, (RC2.out _ kb).2⟩) (?_ : Below wr.heap.size wr _); exact (by repeat (first | (with_reducible exact Below.refl _ _) | (with_reducible assumption) | (with_reducible refine Below.drew ?_) | (with_reducible refine Below.setCell ?_ (by first | (simp; done) | (simp; omega) | omega) _) | (with_reducible refine Below.alloc ?_ (by first | (simp; done) | (simp; omega) | omega) _) | (with_reducible refine below_drewN ?_ _) | (refine Below.trans ?_ (Below.mono (by with_reducible assumption) (by first | (simp; done) | (simp; omega) | omega)))))))) (first | (go_at_call 147; refine (HLE.out _).mono ?_; go_must (rintro e w5 ⟨rfl, hb5⟩)))
        clear d0 d1 q0 q1
        go_wp2
        refine forgetW (fun V => Below wr.heap.size wr V) (by first | exact (by repeat (first | (with_reducible exact Below.refl _ _) | (with_reducible assumption) | (with_reducible refine Below.drew ?_) | (with_reducible refine Below.setCell ?_ (by first | (simp; done) | (simp; omega) | omega) _) | (with_reducible refine Below.alloc ?_ (by first | (simp; done) | (simp; omega) | omega) _) | (with_reducible refine below_drewN ?_ _) | (refine Below.trans ?_ (Below.mono (by with_reducible assumption) (by first | (simp; done) | (simp; omega) | omega)))))) ?_
        intro W8 hb8
        obtain ⟨d0, d1⟩ := DC.out W8 hb8
        obtain ⟨q0, q1⟩ := RC2.out W8 hb8
        go_wp2
        go_quiet (fail)
        go_upto_region 9 with fail
        clear heq d0 d1 q0 q1
        refine forgetW (fun V => Below wr.heap.size wr V) (by first | exact (by repeat (first | (with_reducible exact Below.refl _ _) | (with_reducible assumption) | (with_reducible refine Below.drew ?_) | (with_reducible refine Below.setCell ?_ (by first | (simp; done) | (simp; omega) | omega) _) | (with_reducible refine Below.alloc ?_ (by first | (simp; done) | (simp; omega) | omega) _) | (with_reducible refine below_drewN ?_ _) | (refine Below.trans ?_ (Below.mono (by with_reducible assumption) (by first | (simp; done) | (simp; omega) | omega)))))) ?_
        intro W9 hb9
        have hk9 := below_at hkk (by omega) hb9
        have HO9 := Lib.hid (HO1.out.kept hb9)
        have hs9 := hk9.size
        obtain ⟨q0, q1⟩ := RC.out W9 hk9
        clear RC2 DC
        go_wp2_with (at_builtin; refine wpList_push rfl _ _ _ rfl slCe2 HO9.out rfl rfl (by first | rfl | simp) rfl rfl (by omega) (by omega) (by omega) ?_; intro g5 c5 w6 hown6 hg6 hat6)
        have hk6 : Below w.heap.size w w6 := OwnOf.push hk9 HO9.out (Nat.le_refl _) (by omega) hg6
        have HO6 := Lib.hid (show OwnOf w6 w.heap.size 31 2 encC (.slice (some ⟨g5, 0, none⟩) (D.length + 1) c5) (shiftC D (c0, c1) D.length) from by rw [shiftC_start]; exact OwnOf.snoc (l := D) (x := (c0, c1)) (enc := encC) (by simpa [encC] using hown6) rfl)
        have hg5 := (HO6.out.lt g5 rfl).1
        clear hown6 hg6 hat6 q0 q1 HO9 hk9 hs9 hb9
        clear HO HO1 hkk hb1 hs1
        obtain ⟨w2, rfl⟩ : ∃ x : World, x = wr := ⟨_, rfl⟩
        go_loopw [6] (fun t6 wr => ∃ k : Nat, a ≤ k ∧ k ≤ D.length ∧ t6 = .int .i64 (k : Nat) ∧ Hid (OwnOf wr w.heap.size 31 2 encC (.slice (some ⟨g5, 0, none⟩) (D.length + 1) c5) (shiftC D (c0, c1) k)) ∧ Below w.heap.size w wr) (fun t6 _ => (intOf t6).toNat - a)
        case atStart => exact ⟨D.length, ha, Nat.le_refl _, (by simp), HO6, hk6⟩
        case round =>
          obtain ⟨k, hak, hkl, rfl, HOk, hbk⟩ := hrel
          have hsk := hbk.size
          by_cases hgt : a < k
          · rcases Nat.lt_or_ge a D.length with hal3 | hal3
            rotate_left
            · omega
            clear hal3
            obtain ⟨kk, rfl⟩ : ∃ kk, k = kk + 1 := ⟨k - 1, by omega⟩
            have hkd : kk < D.length := by omega
            obtain ⟨e0, e1, -, -⟩ := HOk.out.atN (shiftC_len D (c0, c1) (kk + 1) (by omega)) kk (by omega) D[kk] (by rw [shiftC_get D (c0, c1) (kk + 1) (by omega), if_pos (by omega), List.getElem?_append_left (by omega)]; simp)
            obtain ⟨y, hy⟩ : ∃ y, (shiftC D (c0, c1) (kk + 1))[kk + 1]? = some y := ⟨_, List.getElem?_eq_getElem (by rw [shiftC_len D (c0, c1) (kk + 1) (by omega)]; omega)⟩
            obtain ⟨e2, e3, f0, f1⟩ := HOk.out.atN (shiftC_len D (c0, c1) (kk + 1) (by omega)) (kk + 1) (by omega) y hy
            clear hy
            have HST := Lib.hid (shiftC_step D (c0, c1) kk hkd)
            have HLN := Lib.hid (shiftC_len D (c0, c1) (kk + 1) (by omega))
            generalize D[kk] = z at *
            obtain ⟨z0, z1⟩ := z
            have hz0 : (0 : Int) ≤ (kk : Int) + 1 := by omega
            have hz1 : (kk : Int) + 1 < (D.length : Int) + 1 := by omega
            have hz2 : (kk : Int) < (D.length : Int) + 1 := by omega
            have hz3 : (a : Int) < (kk : Int) + 1 := by omega
            go_wp2
            go_roundw
            case rel => exact ⟨kk, by omega, by omega, by simp, Lib.hid (by rw [← HST.out]; exact HOk.out.setN HLN.out (kk + 1) (by omega) (z0, z1)), (hbk.setCell (p := ⟨g5, (kk + 1) * 2, none⟩) hg5 _).setCell (p := ⟨g5, (kk + 1) * 2 + 1, none⟩) hg5 _⟩
            case measure => simp only [intOf]; omega
          · obtain rfl : k = a := by omega
            obtain ⟨q0, q1⟩ := RC.out wr hbk
            obtain ⟨y, hy⟩ : ∃ y, (shiftC D (c0, c1) k)[k]? = some y := ⟨_, List.getElem?_eq_getElem (by rw [shiftC_len D (c0, c1) k hkl]; omega)⟩
            obtain ⟨e2, e3, f0, f1⟩ := HOk.out.atN (shiftC_len D (c0, c1) k hkl) k (by omega) y hy
            clear hy
            have HLN := Lib.hid (shiftC_len D (c0, c1) k hkl)
            have hz2 : (k : Int) < (D.length : Int) + 1 := by omega
            go_wp2
            go_roundw
            case rel => exact ⟨i + 1, HLT.out, by simp, Lib.hid (by rw [HT.out, HINS.out]; exact HOk.out.setN HLN.out k (by omega) (c0, c1)), (hbk.setCell (p := ⟨g5, k * 2, none⟩) hg5 _).setCell (p := ⟨g5, k * 2 + 1, none⟩) hg5 _⟩
            case measure => simp only [intOf]; have := HLT.out; omega
      · have HINS := Lib.hid (show insC (c0, c1) D = (shiftC D (c0, c1) a).set a (c0, c1) by rw [insC_at (c0, c1) D a ha HL.out (fun h => absurd h hal), if_neg (fun e => absurd e.1 hal), shiftC_end D (c0, c1) a ha])
        have RC2 := Lib.hid (show True from trivial)
        have DC := Lib.hid (show True from trivial)
        have hd1 : decide ((a : Int) < (D.length : Int)) = false := by rw [decide_eq_false_iff_not]; omega
        have hd2 : decide (a < D.length) = false := by rw [decide_eq_false_iff_not]; omega
        clear HL
        go_wp2
        go_quiet (fail)
        go_wp2
        go_quiet (fail)
        go_upto_region 9 with fail
        clear hd1 hd2 hal
        refine forgetW (fun V => Below wr.heap.size wr V) (by first | exact (by repeat (first | (with_reducible exact Below.refl _ _) | (with_reducible assumption) | (with_reducible refine Below.drew ?_) | (with_reducible refine Below.setCell ?_ (by first | (simp; done) | (simp; omega) | omega) _) | (with_reducible refine Below.alloc ?_ (by first | (simp; done) | (simp; omega) | omega) _) | (with_reducible refine below_drewN ?_ _) | (refine Below.trans ?_ (Below.mono (by with_reducible assumption) (by first | (simp; done) | (simp; omega) | omega)))))) ?_
        intro W9 hb9
        have hk9 := below_at hkk (by omega) hb9
        have HO9 := Lib.hid (HO1.out.kept hb9)
        have hs9 := hk9.size
        obtain ⟨q0, q1⟩ := RC.out W9 hk9
        clear RC2 DC
        go_wp2_with (at_builtin; refine wpList_push rfl _ _ _ rfl slCe2 HO9.out rfl rfl (by first | rfl | simp) rfl rfl (by omega) (by omega) (by omega) ?_; intro g5 c5 w6 hown6 hg6 hat6)
        have hk6 : Below w.heap.size w w6 := OwnOf.push hk9 HO9.out (Nat.le_refl _) (by omega) hg6
        have HO6 := Lib.hid (show OwnOf w6 w.heap.size 31 2 encC (.slice (some ⟨g5, 0, none⟩) (D.length + 1) c5) (shiftC D (c0, c1) D.length) from by rw [shiftC_start]; exact OwnOf.snoc (l := D) (x := (c0, c1)) (enc := encC) (by simpa [encC] using hown6) rfl)
        have hg5 := (HO6.out.lt g5 rfl).1
        clear hown6 hg6 hat6 q0 q1 HO9 hk9 hs9 hb9
        clear HO HO1 hkk hb1 hs1
        obtain ⟨w2, rfl⟩ : ∃ x : World, x = wr := ⟨_, rfl⟩
        go_loopw [6] (fun t6 wr => ∃ k : Nat, a ≤ k ∧ k ≤ D.length ∧ t6 = .int .i64 (k : Nat) ∧ Hid (OwnOf wr w.heap.size 31 2 encC (.slice (some ⟨g5, 0, none⟩) (D.length + 1) c5) (shiftC D (c0, c1) k)) ∧ Below w.heap.size w wr) (fun t6 _ => (intOf t6).toNat - a)
        case atStart => exact ⟨D.length, ha, Nat.le_refl _, (by simp), HO6, hk6⟩
        case round =>
          obtain ⟨k, hak, hkl, rfl, HOk, hbk⟩ := hrel
          have hsk := hbk.size
          by_cases hgt : a < k
          · rcases Nat.lt_or_ge a D.length with hal3 | hal3
            rotate_left
            · omega
            clear hal3
            obtain ⟨kk, rfl⟩ : ∃ kk, k = kk + 1 := ⟨k - 1, by omega⟩
            have hkd : kk < D.length := by omega
            obtain ⟨e0, e1, -, -⟩ := HOk.out.atN (shiftC_len D (c0, c1) (kk + 1) (by omega)) kk (by omega) D[kk] (by rw [shiftC_get D (c0, c1) (kk + 1) (by omega), if_pos (by omega), List.getElem?_append_left (by omega)]; simp)
            obtain ⟨y, hy⟩ : ∃ y, (shiftC D (c0, c1) (kk + 1))[kk + 1]? = some y := ⟨_, List.getElem?_eq_getElem (by rw [shiftC_len D (c0, c1) (kk + 1) (by omega)]; omega)⟩
            obtain ⟨e2, e3, f0, f1⟩ := HOk.out.atN (shiftC_len D (c0, c1) (kk + 1) (by omega)) (kk + 1) (by omega) y hy
            clear hy
            have HST := Lib.hid (shiftC_step D (c0, c1) kk hkd)
            have HLN := Lib.hid (shiftC_len D (c0, c1) (kk + 1) (by omega))
            generalize D[kk] = z at *
            obtain ⟨z0, z1⟩ := z
            have hz0 : (0 : Int) ≤ (kk : Int) + 1 := by omega
            have hz1 : (kk : Int) + 1 < (D.length : Int) + 1 := by omega
            have hz2 : (kk : Int) < (D.length : Int) + 1 := by omega
            have hz3 : (a : Int) < (kk : Int) + 1 := by omega
            go_wp2
            go_roundw
            case rel => exact ⟨kk, by omega, by omega, by simp, Lib.hid (by rw [← HST.out]; exact HOk.out.setN HLN.out (kk + 1) (by omega) (z0, z1)), (hbk.setCell (p := ⟨g5, (kk + 1) * 2, none⟩) hg5 _).setCell (p := ⟨g5, (kk + 1) * 2 + 1, none⟩) hg5 _⟩
            case measure => simp only [intOf]; omega
          · obtain rfl : k = a := by omega
            obtain ⟨q0, q1⟩ := RC.out wr hbk
            obtain ⟨y, hy⟩ : ∃ y, (shiftC D (c0, c1) k)[k]? = some y := ⟨_, List.getElem?_eq_getElem (by rw [shiftC_len D (c0, c1) k hkl]; omega)⟩
            obtain ⟨e2, e3, f0, f1⟩ := HOk.out.atN (shiftC_len D (c0, c1) k hkl) k (by omega) y hy
            clear hy
            have HLN := Lib.hid (shiftC_len D (c0, c1) k hkl)
            have hz2 : (k : Int) < (D.length : Int) + 1 := by omega
            go_wp2
            go_roundw
            case rel => exact ⟨i + 1, HLT.out, by simp, Lib.hid (by rw [HT.out, HINS.out]; exact HOk.out.setN HLN.out k (by omega) (c0, c1)), (hbk.setCell (p := ⟨g5, k * 2, none⟩) hg5 _).setCell (p := ⟨g5, k * 2 + 1, none⟩) hg5 _⟩
            case measure => simp only [intOf]; have := HLT.out; omega
end Go.Proofs.YtnejicklenhpeaaGreat
