/- Package mach: arrival, slacks, Waits, ready: their walks. -/
import Derived.Test.YtbjbdochffocoaaMachF
namespace Go.Proofs.Ytbjbdochffocoaa
open Go.RowKit Go.Lib
set_option linter.unusedVariables false
/-- One more source, at the end. -/
def arrStep (tm : Nat → Int) (acc : Option Int) (s : SrcD) : Option Int := if s.op < 0 then acc else match acc with
  | none => some (tm s.op.toNat + max 1 s.hops)
  | some a => some (max a (tm s.op.toNat + max 1 s.hops))
theorem arrF_foldr (tm : Nat → Int) : ∀ l : List SrcD, arrF tm l = l.foldr (fun s acc => arrStep tm acc s) none
  | [] => rfl
  | s :: l => by
    rw [List.foldr_cons, ← arrF_foldr tm l]
    rw [arrF]
    unfold arrStep
    by_cases h : s.op < 0
    · rw [if_pos h, if_pos h]
    · rw [if_neg h, if_neg h]
      cases arrF tm l with
      | none => rfl
      | some a => simp only; congr 1; omega
theorem arrStep_comm (tm : Nat → Int) (acc : Option Int) (s t : SrcD) : arrStep tm (arrStep tm acc s) t = arrStep tm (arrStep tm acc t) s := by
  unfold arrStep
  by_cases h : s.op < 0 <;> by_cases h2 : t.op < 0 <;> simp only [h, h2, if_true, if_false]
  cases acc with
  | none => simp only; congr 1; omega
  | some a => simp only; congr 1; omega
theorem arrF_foldl (tm : Nat → Int) (l : List SrcD) : arrF tm l = l.foldl (arrStep tm) none := by
  have key : ∀ (l : List SrcD) (acc : Option Int), l.foldl (arrStep tm) acc = l.foldr (fun s a => arrStep tm a s) acc := by
    intro l
    induction l with
    | nil => intro acc; rfl
    | cons s l ih =>
      intro acc
      rw [List.foldl_cons, List.foldr_cons, ih]
      have : ∀ (l : List SrcD) (acc : Option Int), l.foldr (fun s a => arrStep tm a s) (arrStep tm acc s) = arrStep tm (l.foldr (fun s a => arrStep tm a s) acc) s := by
        intro l
        induction l with
        | nil => intro acc; rfl
        | cons t l ih => intro acc; rw [List.foldr_cons, List.foldr_cons, ih, arrStep_comm]
      exact this l acc
  rw [arrF_foldr, key]
theorem foldl_take {α β : Type} (f : β → α → β) (b : β) (l : List α) (k : Nat) (hk : k < l.length) : (l.take (k + 1)).foldl f b = f ((l.take k).foldl f b) l[k] := by
  rw [List.take_succ_eq_append_getElem hk, List.foldl_append]; rfl
def optV (o : Option Int) : Value := .tuple #[.int .i64 (o.getD 0), .bool o.isSome]
theorem src_at {w : World} {v : Value} {l : List SrcD} {B : Nat} (h : SlOf w B 3 encSr v l) : ∃ a cap g off, v = .slice a l.length cap ∧ l.length ≤ cap ∧ cap ≤ 9223372036854775807 ∧ ∀ k (hk : k < l.length), (∀ W, (Instr.indexAt 35 (.slice a l.length cap) (.int .i64 (k : Int))).run Try.prog W = .ok (.pointer (some ⟨g, off + 3 * k, none⟩)) W) ∧ g < B ∧
    (w.cell? ⟨g, off + 3 * k, none⟩ = some (.int .i64 l[k].op) ∧ w.cell? ⟨g, off + 3 * k + 1, none⟩ = some (.int .i64 l[k].val) ∧ w.cell? ⟨g, off + 3 * k + 2, none⟩ = some (.int .i64 l[k].hops)) := by
  obtain ⟨a, cap, g, off, rfl, hl, hm, hx⟩ := SlOf.at (enc := encSr) (fun _ => rfl) un_src sz_src h
  unfold maxLen at hm
  refine ⟨a, cap, g, off, rfl, hl, by omega, fun k hk => ?_⟩
  obtain ⟨-, h1, h2, h3⟩ := hx k hk
  exact ⟨h1, h2, h3 0 (by omega), h3 1 (by omega), h3 2 (by omega)⟩
set_option maxHeartbeats 8000000 in
set_option maxRecDepth 100000 in
/-- arrival: the function value tells the time of each operation that is a source. -/
theorem arrival_l (o : OpD) (g : Nat) (cb : Array Value) (eg : ∀ args w, (callFunc g args).run Try.prog w = .ok (.enter g args) w) (tm : Nat → Int) (w : World) (ho : SlOf w w.heap.size 3 encSr o.fv o.src)
    (hb : ∀ s ∈ o.src, 0 ≤ s.op → (-1000000000 ≤ tm s.op.toNat ∧ tm s.op.toNat ≤ 1000000000) ∧ (-1000000000 ≤ s.hops ∧ s.hops ≤ 1000000000))
    (hf : ∀ s ∈ o.src, 0 ≤ s.op → ∀ V, Below w.heap.size w V → Calls Try.prog g (#[.int .i64 s.op] ++ cb) V fun e w' => e = .returned (.int .i64 (tm s.op.toNat)) ∧ w' = V) :
    Calls Try.prog 52 #[.agg #[.int .i64 o.t, .int .i64 o.c.1, .int .i64 o.c.2, .int .i64 o.unit, .int .i64 o.kind, o.fv], .func (.func g) #[] cb] w fun e w' => e = .returned (optV (arrF tm o.src)) ∧ Below w.heap.size w w' := by
  obtain ⟨t, ⟨c0, c1⟩, u, k, fv, src⟩ := o
  simp only at ho hf hb ⊢
  obtain ⟨fa, fc, fg, fo, rfl, hl, hm, hat⟩ := src_at ho
  have HX := Lib.hid hat; have HF := Lib.hid hf; have HB := Lib.hid hb
  have HFO := Lib.hid (arrF_foldl tm src)
  have HMX := Lib.hid (show ∀ (k : Nat) (z : Int), k ≤ src.length → (src.take k).foldl (arrStep tm) none = some z → -2000000001 ≤ z ∧ z ≤ 2000000001 from fun k z hk hz => by
    rw [← arrF_foldl] at hz
    obtain ⟨s, hs, h0, e⟩ := (arrF_le hz).2
    have := hb s (List.mem_of_mem_take hs) h0
    omega)
  clear hat ho hf hb
  obtain ⟨W0, hW0⟩ : ∃ W : World, w.alloc (Obj.cells #[.int .i64 t, .int .i64 c0, .int .i64 c1, .int .i64 u, .int .i64 k, .slice fa src.length fc] 37) = W := ⟨_, rfl⟩
  have kw0 : Below w.heap.size w W0 := by rw [← hW0]; exact (by repeat (first | exact Below.refl _ _ | assumption | (refine Below.drew ?_) | (refine below_drewN ?_ _) | (refine Below.alloc ?_ (by first | (simp; done) | (simp; omega) | omega) _) | (refine Below.setCell ?_ (by first | (simp; done) | (simp; omega) | omega) _) | (refine Below.trans ?_ (Below.mono (by assumption) (by first | (simp; done) | (simp; omega) | omega)))))
  have ks0 : W0.heap.size = w.heap.size + 1 := by rw [← hW0]; simp
  have RD0 := Lib.hid (show ∀ V, Below W0.heap.size W0 V → V.cell? ⟨w.heap.size, 0, none⟩ = some (.int .i64 t) ∧ V.cell? ⟨w.heap.size, 1, none⟩ = some (.int .i64 c0) ∧ V.cell? ⟨w.heap.size, 2, none⟩ = some (.int .i64 c1) ∧ V.cell? ⟨w.heap.size, 3, none⟩ = some (.int .i64 u) ∧ V.cell? ⟨w.heap.size, 4, none⟩ = some (.int .i64 k) ∧ V.cell? ⟨w.heap.size, 5, none⟩ = some (.slice fa src.length fc) from fun V h => by
      refine ⟨(h.cell (p := ⟨w.heap.size, 0, none⟩) (by simp; omega)).trans ?_, (h.cell (p := ⟨w.heap.size, 1, none⟩) (by simp; omega)).trans ?_, (h.cell (p := ⟨w.heap.size, 2, none⟩) (by simp; omega)).trans ?_, (h.cell (p := ⟨w.heap.size, 3, none⟩) (by simp; omega)).trans ?_, (h.cell (p := ⟨w.heap.size, 4, none⟩) (by simp; omega)).trans ?_, (h.cell (p := ⟨w.heap.size, 5, none⟩) (by simp; omega)).trans ?_⟩ <;> (subst hW0; go_simp))
  have HW0 := Lib.hid hW0; have KW0 := Lib.hid kw0; clear hW0 kw0
  have hsW : w.heap.size ≤ W0.heap.size := by omega
  go_enter Try.func52, Try.ntmps52
  go_upto_region 2 with fail
  rw [HW0.out]
  have K0 := Below.refl W0.heap.size W0
  obtain ⟨k0_0, k0_1, k0_2, k0_3, k0_4, k0_5⟩ := RD0.out _ K0
  go_wp2_with fail
  go_loopw [6, 7, 14] (fun t6 t7 t14 wr => ∃ (i : Nat) (acc : Option Int), i ≤ src.length ∧ t14 = .int .i64 (i : Nat) ∧ t6 = .int .i64 (acc.getD 0) ∧ t7 = .bool acc.isSome ∧ Hid ((src.take i).foldl (arrStep tm) none = acc) ∧ Below W0.heap.size W0 wr) (fun t6 t7 t14 _ => src.length - (intOf t14).toNat)
  case atStart => exact ⟨0, none, Nat.zero_le _, rfl, rfl, rfl, Lib.hid rfl, Below.refl _ _⟩
  case round =>
    obtain ⟨i, acc, hi, rfl, rfl, rfl, HA, hb⟩ := hrel
    have hs := hb.size
    by_cases hlt : i < src.length
    rotate_left
    · have hie : i = src.length := by omega
      have hlz : ¬ (i : Int) < (src.length : Int) := by omega
      have HE := Lib.hid (show optV (arrF tm src) = .tuple #[.int .i64 (acc.getD 0), .bool acc.isSome] by rw [HFO.out, ← HA.out, hie, List.take_length]; rfl)
      clear hie hlt
      go_wp2
      go_ret2
      exact ⟨by rw [HE.out]; rfl, KW0.out.trans (hb.mono hsW)⟩
    have hlz : (i : Int) < (src.length : Int) := by omega
    obtain ⟨hix, hg, hc0, hc1, hc2⟩ := HX.out i hlt
    have hbw := KW0.out.trans (hb.mono hsW)
    have r0 := (hbw.cell (p := ⟨fg, fo + 3 * i, none⟩) hg).trans hc0
    have r1 := (hbw.cell (p := ⟨fg, fo + 3 * i + 1, none⟩) hg).trans hc1
    have r2 := (hbw.cell (p := ⟨fg, fo + 3 * i + 2, none⟩) hg).trans hc2
    clear hc0 hc1 hc2
    have HFI := Lib.hid (HF.out src[i] (List.getElem_mem hlt))
    have HBI := Lib.hid (HB.out src[i] (List.getElem_mem hlt))
    have HT := Lib.hid (foldl_take (arrStep tm) none src i hlt)
    have HLT := Lib.hid hlt
    have HMI := Lib.hid (fun z h => HMX.out i z hi (HA.out.trans h))
    rw [HA.out] at HT
    generalize src[i] = s at *
    obtain ⟨op, val, hops⟩ := s
    simp only at r0 r1 r2 HFI HBI
    by_cases hop : op < 0
    · have hop2 : decide (op < 0) = true := decide_eq_true hop
      have HT2 := Lib.hid (show (src.take (i + 1)).foldl (arrStep tm) none = acc by rw [HT.out]; unfold arrStep; rw [if_pos hop])
      go_wp2
      go_roundw
      case rel => exact ⟨i + 1, acc, HLT.out, by simp, rfl, rfl, HT2, hb.alloc (by omega) _⟩
      case measure => simp only [intOf]; have := HLT.out; omega
    · obtain ⟨⟨hb1, hb2⟩, hb3, hb4⟩ := HBI.out (by omega)
      have HTM := Lib.hid (HFI.out (by omega))
      have HT2 := Lib.hid (show ∀ ac, acc = ac → (src.take (i + 1)).foldl (arrStep tm) none = (match ac with
        | none => some (tm op.toNat + max 1 hops)
        | some a => some (max a (tm op.toNat + max 1 hops))) from fun ac e => by rw [HT.out, e]; unfold arrStep; rw [if_neg hop])
      clear HFI HBI HT
      generalize tm op.toNat = tv at *
      have hop2 : decide (op < 0) = false := decide_eq_false hop
      have hq1 : IntKind.i64.wrap (tv + max 1 hops) = tv + max 1 hops := IntWalk.i64_in _ (by omega)
      cases acc with
      | none =>
        have HT3 := Lib.hid (show (src.take (i + 1)).foldl (arrStep tm) none = some (tv + max 1 hops) from HT2.out none rfl)
        clear HT2 hop
        go_wp2
        go_quiet ((go_at_fn g; exact Calls.quiet_of_same (HTM.out _ (by first | exact (by repeat (first | (with_reducible exact Below.refl _ _) | (with_reducible assumption) | (with_reducible refine Below.drew ?_) | (with_reducible refine Below.setCell ?_ (by first | (simp; done) | (simp; omega) | omega) _) | (with_reducible refine Below.alloc ?_ (by first | (simp; done) | (simp; omega) | omega) _) | (with_reducible refine below_drewN ?_ _) | (refine Below.trans ?_ (Below.mono (by with_reducible assumption) (by first | (simp; done) | (simp; omega) | omega)))))))))
        go_wp2
        go_roundw
        case rel => exact ⟨i + 1, some (tv + max 1 hops), HLT.out, by simp, rfl, rfl, HT3, by exact (by repeat (first | (with_reducible exact Below.refl _ _) | (with_reducible assumption) | (with_reducible refine Below.drew ?_) | (with_reducible refine Below.setCell ?_ (by first | (simp; done) | (simp; omega) | omega) _) | (with_reducible refine Below.alloc ?_ (by first | (simp; done) | (simp; omega) | omega) _) | (with_reducible refine below_drewN ?_ _) | (refine Below.trans ?_ (Below.mono (by with_reducible assumption) (by first | (simp; done) | (simp; omega) | omega)))))⟩
        case measure => simp only [intOf]; have := HLT.out; omega
      | some a =>
        obtain ⟨ha1, ha2⟩ := HMI.out a rfl
        by_cases hm : a < tv + max 1 hops
        · have HT3 := Lib.hid (show (src.take (i + 1)).foldl (arrStep tm) none = some (tv + max 1 hops) by rw [HT2.out (some a) rfl]; simp only; congr 1; omega)
          have hm2 : decide (a < tv + max 1 hops) = true := decide_eq_true hm
          clear HT2 hop
          go_wp2
          go_quiet ((go_at_fn g; exact Calls.quiet_of_same (HTM.out _ (by first | exact (by repeat (first | (with_reducible exact Below.refl _ _) | (with_reducible assumption) | (with_reducible refine Below.drew ?_) | (with_reducible refine Below.setCell ?_ (by first | (simp; done) | (simp; omega) | omega) _) | (with_reducible refine Below.alloc ?_ (by first | (simp; done) | (simp; omega) | omega) _) | (with_reducible refine below_drewN ?_ _) | (refine Below.trans ?_ (Below.mono (by with_reducible assumption) (by first | (simp; done) | (simp; omega) | omega)))))))))
          go_wp2
          go_roundw
          case rel => exact ⟨i + 1, some (tv + max 1 hops), HLT.out, by simp, rfl, rfl, HT3, by exact (by repeat (first | (with_reducible exact Below.refl _ _) | (with_reducible assumption) | (with_reducible refine Below.drew ?_) | (with_reducible refine Below.setCell ?_ (by first | (simp; done) | (simp; omega) | omega) _) | (with_reducible refine Below.alloc ?_ (by first | (simp; done) | (simp; omega) | omega) _) | (with_reducible refine below_drewN ?_ _) | (refine Below.trans ?_ (Below.mono (by with_reducible assumption) (by first | (simp; done) | (simp; omega) | omega)))))⟩
          case measure => simp only [intOf]; have := HLT.out; omega
        · have HT3 := Lib.hid (show (src.take (i + 1)).foldl (arrStep tm) none = some a by rw [HT2.out (some a) rfl]; simp only; congr 1; omega)
          have hm2 : decide (a < tv + max 1 hops) = false := decide_eq_false hm
          clear HT2 hop
          go_wp2
          go_quiet ((go_at_fn g; exact Calls.quiet_of_same (HTM.out _ (by first | exact (by repeat (first | (with_reducible exact Below.refl _ _) | (with_reducible assumption) | (with_reducible refine Below.drew ?_) | (with_reducible refine Below.setCell ?_ (by first | (simp; done) | (simp; omega) | omega) _) | (with_reducible refine Below.alloc ?_ (by first | (simp; done) | (simp; omega) | omega) _) | (with_reducible refine below_drewN ?_ _) | (refine Below.trans ?_ (Below.mono (by with_reducible assumption) (by first | (simp; done) | (simp; omega) | omega)))))))))
          go_wp2
          go_roundw
          case rel => exact ⟨i + 1, some a, HLT.out, by simp, rfl, rfl, HT3, by exact (by repeat (first | (with_reducible exact Below.refl _ _) | (with_reducible assumption) | (with_reducible refine Below.drew ?_) | (with_reducible refine Below.setCell ?_ (by first | (simp; done) | (simp; omega) | omega) _) | (with_reducible refine Below.alloc ?_ (by first | (simp; done) | (simp; omega) | omega) _) | (with_reducible refine below_drewN ?_ _) | (refine Below.trans ?_ (Below.mono (by with_reducible assumption) (by first | (simp; done) | (simp; omega) | omega)))))⟩
          case measure => simp only [intOf]; have := HLT.out; omega
theorem slInts : SlT Try.prog 25 3 (.int .i64 0) 1 8 := ⟨Try.underlying25, by kernel_rfl, rfl, by decide⟩
theorem slacks1_l (p : List OpD) (v : Value) (pb : Nat) (w : World) (hp : ProgRd w v p) (hlt : pb < w.heap.size) (c0 : w.cell? ⟨pb, 0, none⟩ = some v) (x : Nat) (hx : x < p.length) :
    Calls Try.prog 57 #[.int .i64 (x : Int), .pointer (some ⟨pb, 0, none⟩)] w fun e w' => e = .returned (.int .i64 (timeP p x)) ∧ w' = w := by
  obtain ⟨a, cap, g, off, rfl, hl, hm, hat⟩ := ops_at hp
  obtain ⟨i1, g1, t1, -⟩ := hat x hx
  rw [timeP_at hx]
  clear hat hp
  generalize p[x].t = tx at *
  generalize p.length = n at *
  have hx1 : (x : Int) < (n : Int) := by omega
  go_enter Try.func57, Try.ntmps57
  go_wp2
  go_ret
  exact ⟨rfl, rfl⟩
end Go.Proofs.Ytbjbdochffocoaa
