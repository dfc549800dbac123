/- The walk of the reference's from. -/
import Derived.Test.YtjceppinjeehiaaLinkAI
namespace Go.Proofs.Ytjceppinjeehiaa
open Go.RowKit
theorem under_ts : Try.prog.underlying 56 = some (.slice (Try.prog.elem 56)) := by kernel_rfl
theorem size_ts (W : World) : (sizeOf (Try.prog.elem 56)).run Try.prog W = .ok 5329 W := by kernel_rfl
theorem under_tb : Try.prog.underlying 60 = some (.array (Try.prog.arrayLen 60) (Try.prog.elem 60)) := by kernel_rfl
theorem size_tb (W : World) : (sizeOf (Try.prog.elem 60)).run Try.prog W = .ok 73 W := by kernel_rfl
theorem len_tb : Try.prog.arrayLen 60 = 73 := by kernel_rfl
theorem under_tr : Try.prog.underlying 58 = some (.array (Try.prog.arrayLen 58) (Try.prog.elem 58)) := by kernel_rfl
theorem size_tr (W : World) : (sizeOf (Try.prog.elem 58)).run Try.prog W = .ok 1 W := by kernel_rfl
theorem len_tr : Try.prog.arrayLen 58 = 73 := by kernel_rfl
theorem idx_tabs (b N : Nat) (i : Int) (k : Nat) (hi : i = k) (hk : k < N) (W : World) : (Instr.indexAt 56 (.slice (some ⟨b, 0, none⟩) N N) (.int .i64 i)).run Try.prog W = .ok (.pointer (some ⟨b, 5329 * k, none⟩)) W := by
  subst hi
  have := idx_any (e := 0) under_ts size_ts b 0 N N k hk W
  rwa [Nat.zero_add] at this
theorem idx_row (b o : Nat) (i : Int) (x : Nat) (hi : i = x) (hx : x < 73) (W : World) : (Instr.indexAt 60 (.pointer (some ⟨b, o, none⟩)) (.int .i64 i)).run Try.prog W = .ok (.pointer (some ⟨b, o + 73 * x, none⟩)) W := by
  subst hi
  rw [run_indexAt_array (P := Try.prog) (w := W) _ _ _ _ under_tb, len_tb, if_pos (by omega), size_tb]
  simp only [Result.andThen, Int.toNat_natCast, Addr.add, Nat.mul_comm]
  split <;> simp_all
theorem idx_col (b o : Nat) (i : Int) (x : Nat) (hi : i = x) (hx : x < 73) (W : World) : (Instr.indexAt 58 (.pointer (some ⟨b, o, none⟩)) (.int .i64 i)).run Try.prog W = .ok (.pointer (some ⟨b, o + x, none⟩)) W := by
  subst hi
  rw [run_indexAt_array (P := Try.prog) (w := W) _ _ _ _ under_tr, len_tr, if_pos (by omega), size_tr]
  simp only [Result.andThen, Int.toNat_natCast, Addr.add, Nat.mul_one]
  split <;> simp_all
def isF : Value → Bool
  | .bool false => true
  | _ => false
set_option maxRecDepth 100000 in
theorem tab_zero : (Try.prog.info? 60).map (fun i => (i.size, i.bytes, i.zero.map fun z => (z.cells.size, z.cells.toList.all isF))) = some (5329, 5329, some (5329, true)) := by kernel_rfl
theorem make_tabs (h : Nat) (hh : h ≤ 12) : ∃ Z : Array Value, (∀ W, (Instr.makeSlice 56 (.int .i64 ((h : Int) + 1)) (.int .i64 ((h : Int) + 1))).run Try.prog W = .ok (.slice (some ⟨W.heap.size, 0, none⟩) (h + 1) (h + 1)) (W.alloc (.cells Z 60))) ∧ Z.size = (h + 1) * 5329 ∧ ∀ i, i < (h + 1) * 5329 → Z[i]? = some (.bool false) := by
  have hz := tab_zero
  cases hi : Try.prog.info? 60 with
  | none => rw [hi] at hz; cases hz
  | some i =>
    rw [hi] at hz
    simp only [Option.map_some, Option.some.injEq, Prod.mk.injEq] at hz
    obtain ⟨h1, h2, h3⟩ := hz
    cases hz2 : i.zero with
    | none => rw [hz2] at h3; cases h3
    | some z =>
      rw [hz2] at h3
      simp only [Option.map_some, Option.some.injEq, Prod.mk.injEq] at h3
      obtain ⟨h4, h5⟩ := h3
      refine ⟨madeCells z.cells ((h + 1) * 5329), fun W => ?_, size_madeCells _ _, fun j hj => ?_⟩
      · have := run_make (P := Try.prog) W 56 60 i z Try.underlying56 hi hz2 .i64 .i64 ((h : Int) + 1) ((h : Int) + 1) (by omega) (by omega) (by rw [h2]; omega) (by omega)
        rw [show ((h : Int) + 1).toNat = h + 1 by omega, h1] at this
        exact this
      · have hm : j % z.cells.size < z.cells.size := Nat.mod_lt _ (by omega)
        have ha := List.all_eq_true.1 h5 (z.cells[j % z.cells.size]) (by simp)
        have hb : z.cells[j % z.cells.size] = .bool false := by
          generalize z.cells[j % z.cells.size] = u at ha
          cases u with
          | bool q => cases q <;> simp_all [isF]
          | _ => simp_all [isF]
        simp only [madeCells]
        simp [hj, hm, hb]
set_option maxHeartbeats 4000000 in
set_option maxRecDepth 100000 in
theorem from_l (links : List C2) (hl : links.length ≤ 1000) (hn : ∀ l ∈ links, Near 3 l) (h : Nat) (hh : h ≤ 12) (w : World) (g off : Nat) (v : Value) (hv : CRd w v g off links) :
    Calls Try.prog 33 #[v, .int .i64 (h : Nat)] w fun e w' => e = .returned (.slice (some ⟨w.heap.size, 0, none⟩) (h + 1) (h + 1)) ∧ (∃ T, Tab w' w.heap.size (h + 1) T ∧ Inb links (h + 1) h T) ∧ Below w.heap.size w w' := by
  have HV := Lib.hid hv
  obtain ⟨a, cap, rfl, hx⟩ := hv.at
  have HX := Lib.hid hx
  have HN := Lib.hid hn
  clear hv hx hn
  obtain ⟨Z, hmk, hZs, hZ⟩ := make_tabs h hh
  have hz0 := hZ 2664 (by omega)
  have HZ := Lib.hid hZ; have HZS := Lib.hid hZs
  clear hZ hZs
  have hi0 := fun W => idx_tabs w.heap.size (h + 1) 0 0 rfl (by omega) W
  go_enter Try.func33, Try.ntmps33
  go_wp2
  clear hmk hi0
  refine forgetW (fun W => (∃ T, Tab W w.heap.size (h + 1) T ∧ Inb links (h + 1) 0 T) ∧ Below w.heap.size w W) ⟨⟨fun n x y => decide (n = 0 ∧ x = 36 ∧ y = 36), ⟨_, heap_alloc_new _ _, by rw [Array.size_setIfInBounds]; exact HZS.out, fun n x y hn hx hy => ?_⟩, Inb.start (fun _ _ _ _ _ _ => rfl) (by omega)⟩, by repeat (first | exact Below.refl _ _ | assumption | (refine Below.drew ?_) | (refine below_drewN ?_ _) | (refine Below.alloc ?_ (by first | (simp; done) | (simp; omega) | omega) _) | (refine Below.setCell ?_ (by first | (simp; done) | (simp; omega) | omega) _) | (refine Below.trans ?_ (Below.mono (by assumption) (by first | (simp; done) | (simp; omega) | omega))))⟩ ?_
  · by_cases he : n = 0 ∧ x = 36 ∧ y = 36
    · obtain ⟨rfl, rfl, rfl⟩ := he
      have := (Array.getElem?_eq_some_iff.1 (HZ.out 2664 (by omega))).1
      simp [this]
    · show _ = some (Value.bool (decide (n = 0 ∧ x = 36 ∧ y = 36)))
      rw [decide_eq_false he, Array.getElem?_setIfInBounds_ne (by omega)]
      exact HZ.out _ (by omega)
  rintro W0 ⟨hT0, hb0⟩
  clear hz0 HZ HZS
  have HT0 := Lib.hid hT0; clear hT0
  go_loopw [20] (fun i wr => ∃ n : Nat, n ≤ h ∧ i = .int .i64 (n : Nat) ∧ (∃ T, Tab wr w.heap.size (h + 1) T ∧ Inb links (h + 1) n T) ∧ Below w.heap.size w wr) (fun i _ => h - (intOf i).toNat)
  case atStart => exact ⟨0, by omega, rfl, HT0.out, hb0⟩
  case round =>
    obtain ⟨n, hnh, rfl, hT, hb⟩ := hrel
    obtain ⟨w1, rfl⟩ : ∃ x : World, x = wr := ⟨_, rfl⟩
    have HT := Lib.hid hT; clear hT HT0 hb0
    by_cases hlt : n < h
    rotate_left
    · obtain rfl : n = h := by omega
      go_wp2
      go_ret
      exact ⟨rfl, HT.out, hb⟩
    have hn12 : n ≤ 11 := by omega
    have HSN := Lib.hid (fun b (hs : Sums links n b) => hs.near HN.out)
    go_wp2
    go_loopw [8] (fun x wr => ∃ X : Nat, 36 - 3 * n ≤ X ∧ X ≤ 36 + 3 * n + 1 ∧ x = .int .i64 (X : Nat) ∧ (∃ T, Tab wr w.heap.size (h + 1) T ∧ Ins links (h + 1) n (fun b _ => b.1 < (X : Int) - 36) T) ∧ Below w.heap.size w wr) (fun x _ => 200 - (intOf x).toNat)
    case atStart =>
      refine ⟨36 - 3 * n, by omega, by omega, by congr 1; omega, ?_, hb⟩
      obtain ⟨T, ht, hi⟩ := HT.out
      exact ⟨T, ht, hi.open (by omega) (fun b l hs => by have := (HSN.out b hs).1; omega)⟩
    case round =>
      obtain ⟨X, hX1, hX2, rfl, hT, hb⟩ := hrel
      obtain ⟨w2, rfl⟩ : ∃ x : World, x = wr := ⟨_, rfl⟩
      have HT2 := Lib.hid hT; clear hT
      by_cases hlt2 : X ≤ 36 + 3 * n
      rotate_left
      · have hf : ¬ ((X : Int) ≤ 36 + 3 * (n : Int)) := by omega
        go_wp2
        go_roundw
        case rel =>
          obtain ⟨T, ht, hi⟩ := HT2.out
          exact ⟨n + 1, by omega, by simp, ⟨T, ht, hi.shut (fun b l hs => by have := (HSN.out b hs).2.1; omega)⟩, hb⟩
        case measure => simp only [intOf]; omega
      have hX3 : (X : Int) ≤ 36 + 3 * (n : Int) := by omega
      have hX4 : X < 73 := by omega
      go_wp2
      go_loopw [9] (fun y wr => ∃ Y : Nat, 36 - 3 * n ≤ Y ∧ Y ≤ 36 + 3 * n + 1 ∧ y = .int .i64 (Y : Nat) ∧ (∃ T, Tab wr w.heap.size (h + 1) T ∧ Ins links (h + 1) n (fun b _ => b.1 < (X : Int) - 36 ∨ (b.1 = (X : Int) - 36 ∧ b.2 < (Y : Int) - 36)) T) ∧ Below w.heap.size w wr) (fun y _ => 200 - (intOf y).toNat)
      case atStart =>
        refine ⟨36 - 3 * n, by omega, by omega, by congr 1; omega, ?_, hb⟩
        obtain ⟨T, ht, hi⟩ := HT2.out
        exact ⟨T, ht, hi.congr (fun b l hs _ => by have := (HSN.out b hs).2.2.1; omega)⟩
      case round =>
        obtain ⟨Y, hY1, hY2, rfl, hT, hb⟩ := hrel
        obtain ⟨w3, rfl⟩ : ∃ x : World, x = wr := ⟨_, rfl⟩
        by_cases hlt3 : Y ≤ 36 + 3 * n
        rotate_left
        · have hf : ¬ ((Y : Int) ≤ 36 + 3 * (n : Int)) := by omega
          have HT3 := Lib.hid hT; clear hT
          go_wp2
          go_roundw
          case rel =>
            obtain ⟨T, ht, hi⟩ := HT3.out
            exact ⟨X + 1, by omega, by omega, by simp, ⟨T, ht, hi.congr (fun b l hs _ => by have := (HSN.out b hs).2.2.2; omega)⟩, hb⟩
          case measure => simp only [intOf]; omega
        have hY3 : (Y : Int) ≤ 36 + 3 * (n : Int) := by omega
        have hY4 : Y < 73 := by omega
        obtain ⟨T, ht, hi⟩ := hT
        have hcell := ht.cell (show n < h + 1 by omega) hX4 hY4
        have hold := hi.old n (Nat.le_refl _) X Y hX4 hY4
        have HTAB := Lib.hid ht; have HINS := Lib.hid hi
        clear ht hi
        have j1 := fun W => idx_tabs w.heap.size (h + 1) (n : Int) n rfl (by omega) W
        have j2 := fun W => idx_row w.heap.size (5329 * n) (X : Int) X rfl hX4 W
        have j3 := fun W => idx_col w.heap.size (5329 * n + 73 * X) (Y : Int) Y rfl hY4 W
        cases hTv : T n X Y
        · rw [hTv] at hcell hold
          have HNS := Lib.hid (show ¬ Sums links n (plc X Y) from fun hs => by have := hold.2 hs; cases this)
          clear hold hTv
          go_wp2
          go_roundw
          case rel =>
            exact ⟨Y + 1, by omega, by omega, by simp, ⟨T, HTAB.out, HINS.out.congr (fun b l hs _ => by
              have hne : b ≠ plc X Y := fun e => HNS.out (e ▸ hs)
              have hne2 : ¬ (b.1 = (X : Int) - 36 ∧ b.2 = (Y : Int) - 36) := fun e => hne (Prod.ext e.1 e.2)
              omega)⟩, hb⟩
          case measure => simp only [intOf]; omega
        rw [hTv] at hcell hold
        have HS := Lib.hid (hold.1 rfl)
        clear hold hTv
        go_wp2
        clear j1 j2 j3 hcell
        go_loopw [52] (fun i wr => ∃ i' : Nat, i' ≤ links.length ∧ i = .int .i64 (i' : Nat) ∧ (∃ T, Tab wr w.heap.size (h + 1) T ∧ Ins links (h + 1) n (fun b l => (b.1 < (X : Int) - 36 ∨ (b.1 = (X : Int) - 36 ∧ b.2 < (Y : Int) - 36)) ∨ (b = plc X Y ∧ l ∈ links.take i')) T) ∧ Below w.heap.size w wr) (fun i _ => links.length - (intOf i).toNat)
        case atStart => exact ⟨0, Nat.zero_le _, rfl, ⟨T, HTAB.out, HINS.out.congr (fun b l _ _ => by simp)⟩, hb⟩
        case round =>
          clear HTAB HINS
          obtain ⟨i, hi1, rfl, ⟨T, ht, hi⟩, hb⟩ := hrel
          have HTAB := Lib.hid ht; have HINS := Lib.hid hi
          clear ht hi
          by_cases hlt4 : i < links.length
          rotate_left
          · obtain rfl : i = links.length := by omega
            go_wp2
            go_roundw
            case rel =>
              refine ⟨Y + 1, by omega, by omega, by simp, ⟨T, HTAB.out, HINS.out.congr (fun b l hs hl => ?_)⟩, hb⟩
              rw [List.take_length]
              have e : b = plc X Y ↔ b.1 = (X : Int) - 36 ∧ b.2 = (Y : Int) - 36 := by rw [Prod.ext_iff]; rfl
              rw [e]
              simp only [hl, and_true]
              omega
            case measure => simp only [intOf]; omega
          obtain ⟨hi, hg, d0, d1⟩ := HX.out i hlt4
          have r0 := (hb.cell (p := ⟨g, off + 2 * i, none⟩) hg).trans d0
          have r1 := (hb.cell (p := ⟨g, off + 2 * i + 1, none⟩) hg).trans d1
          clear d0 d1
          have hnc := HN.out _ (List.getElem_mem hlt4)
          have HM := Lib.hid (List.getElem_mem hlt4)
          have HTK := Lib.hid (show links.take (i + 1) = links.take i ++ [links[i]] from List.take_succ_eq_append_getElem hlt4)
          generalize links[i] = c at *
          obtain ⟨q1, q2, q3, q4⟩ := hnc
          obtain ⟨X', hX'⟩ : ∃ X' : Nat, (X : Int) + c.1 = X' := ⟨((X : Int) + c.1).toNat, by omega⟩
          obtain ⟨Y', hY'⟩ : ∃ Y' : Nat, (Y : Int) + c.2 = Y' := ⟨((Y : Int) + c.2).toNat, by omega⟩
          have hX5 : X' < 73 := by omega
          have hY5 : Y' < 73 := by omega
          have e1 : IntKind.i64.wrap ((X : Int) + c.1) = X' := by rw [IntWalk.i64_in _ (by omega)]; exact hX'
          have e2 : IntKind.i64.wrap ((Y : Int) + c.2) = Y' := by rw [IntWalk.i64_in _ (by omega)]; exact hY'
          have e3 : IntKind.i64.wrap ((n : Int) + 1) = (n : Int) + 1 := by rw [IntWalk.i64_in _ (by omega)]
          have j1 := fun W => idx_tabs w.heap.size (h + 1) ((n : Int) + 1) (n + 1) (by omega) (by omega) W
          have j2 := fun W => idx_row w.heap.size (5329 * (n + 1)) (X' : Int) X' rfl hX5 W
          have j3 := fun W => idx_col w.heap.size (5329 * (n + 1) + 73 * X') (Y' : Int) Y' rfl hY5 W
          have c0 := HTAB.out.cell (show n + 1 < h + 1 by omega) hX5 hY5
          have f0 := HTAB.out.frozen (5329 * (n + 1) + 73 * X' + Y')
          have HXY := Lib.hid (show plc X' Y' = add2 (plc X Y) c by simp only [plc, add2]; apply Prod.ext <;> simp <;> omega)
          have hblt := HTAB.out.lt
          have hz := yy hblt
          clear hX' hY'
          have E1 := Lib.hid e1; have E2 := Lib.hid e2; have E3 := Lib.hid e3
          clear e1 e2 e3
          go_wp2
          have e1 := E1.out; have e2 := E2.out; have e3 := E3.out
          (refine stilld 14 (by kernel_rfl) (by kernel_rfl) ?_; simp only [List.take_succ_cons, List.take_zero, List.drop_succ_cons, List.drop_zero]; repeat (first | still_step | (refine wpStill_step (fun K hK => ?_); go_simp; refine ⟨_, fail, hK _ ?_⟩; clear hK K)); (try refine wpStill_nil ?_))
          go_wp2
          clear e1 e2 e3
          go_roundw
          case rel =>
            refine ⟨i + 1, hlt4, by simp, ⟨_, ?_, HINS.out.mark HS.out HM.out HXY.out (fun b l => ?_)⟩, ?_⟩
            · exact (HTAB.out.set hX5 hY5).kept (Below.drew ((Below.refl _ _).alloc (Nat.le_refl _) _)) (by simp; exact hblt)
            · rw [HTK.out, List.mem_append, List.mem_singleton]
              constructor
              · rintro (h | ⟨h1, h2 | h2⟩)
                · exact .inl (.inl h)
                · exact .inl (.inr ⟨h1, h2⟩)
                · exact .inr ⟨h1, h2⟩
              · rintro ((h | ⟨h1, h2⟩) | ⟨h1, h2⟩)
                · exact .inl h
                · exact .inr ⟨h1, .inl h2⟩
                · exact .inr ⟨h1, .inr h2⟩
            · exact (by repeat (first | exact Below.refl _ _ | assumption | (refine Below.drew ?_) | (refine below_drewN ?_ _) | (refine Below.alloc ?_ (by first | (simp; done) | (simp; omega) | omega) _) | (refine Below.setCell ?_ (by first | (simp; done) | (simp; omega) | omega) _) | (refine Below.trans ?_ (Below.mono (by assumption) (by first | (simp; done) | (simp; omega) | omega)))))
          case measure => simp only [intOf]; omega
end Go.Proofs.Ytjceppinjeehiaa
