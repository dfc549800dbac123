/- The walk of link.waves$1: it gives just the waves. -/
import Derived.Shelf.Abstract
import Derived.Shelf.RegionOpen
import Derived.WalkKit
import Derived.OwnWalkIn
import Derived.TacticsInMore
import Derived.LoopNIn
import Derived.LoopIn
import Derived.Maps.AppendAt
import Derived.Test.YtjceppinjeehiaaLinkU
namespace Go.Proofs.Ytjceppinjeehiaa
open Go.RowKit Go.Shelf
attribute [local go_sem] Oper.semAt_some
def encW (x : C2 × Nat) : Array Value := #[.agg #[.int .i64 x.1.1, .int .i64 x.1.2], .int .i64 (x.2 : Nat)]
set_option maxHeartbeats 4000000 in
set_option maxRecDepth 100000 in
theorem waves_stops (F : Fence) (n : Nat) (h101 : F.fn 37) (h87 : F.fn 26) (hro : F.round = none) (hn : 3 ≤ n) (Mine : World → Nat → Prop) (links : List C2) (hl8 : links.length ≤ 8) (hln : ∀ l ∈ links, Near 3 l) (most : Nat) (hmo : most ≤ 12)
    (w : World) (hMine : ∀ B, w.heap.size ≤ B → MineOk B Mine) (b1 b2 g off : Nat) (v : Value) (h1 : w.cell? ⟨b1, 0, none⟩ = some v) (h2 : w.cell? ⟨b2, 0, none⟩ = some (.int .i64 (most : Nat))) (hv : CRd w v g off links)
    (hD : ∀ W b, Mine W b → b ≠ b1 ∧ b ≠ b2 ∧ b ≠ g) :
    SeqMine F n Try.prog 37 #[.pointer (some ⟨b1, 0, none⟩), .pointer (some ⟨b2, 0, none⟩)] encW Mine (wavesL links most) w := by
  intro l J Jx W hW hmlt hJ hJx hY h0
  have hl1 : b1 < w.heap.size := World.block_lt_of_cell? w ⟨b1, 0, none⟩ h1
  have hl2 : b2 < w.heap.size := World.block_lt_of_cell? w ⟨b2, 0, none⟩ h2
  have hM := hMine W.heap.size hW.size
  have hn1 : 1 ≤ n := by omega
  have HJ := Lib.hid hJ; clear hJ
  have HJx := Lib.hid hJx; clear hJx
  have HY := Lib.hid hY; clear hY
  refine callsIn_of_wp Try.func37 rfl h101 ?_ hro
  simp only [Try.ntmps37, List.size_toArray, List.length_cons, List.length_nil, Nat.reduceAdd, Nat.reduceSub, Array.replicate_succ, Array.replicate_zero, List.push_toArray, List.append_toArray, List.nil_append, List.cons_append]
  have hmm := @run_makeMap Try.prog
  obtain ⟨va, vc, rfl, hlk⟩ := hv.at
  have HLK := Lib.hid hlk; clear hlk hv
  obtain ⟨w1, hr1, hs1, hg1⟩ := (Seen.made W).put (by simp) 0 0 (by decide) (by decide)
  have hz1 := hg1.size
  rw [World.size_alloc] at hz1
  have q1 : StepQ W.heap.size Mine W (W.alloc (.map #[] 0)) := stepQ_below ((Below.refl _ _).alloc (Nat.le_refl _) _) (Nat.le_refl _)
  obtain ⟨D, hDd⟩ : ∃ D : Nat → Prop, D = fun b => b = b1 ∨ b = b2 ∨ (links ≠ [] ∧ b = g) := ⟨_, rfl⟩
  have hgl : links ≠ [] → g < w.heap.size := fun h => (HLK.out 0 (List.length_pos_iff.2 h)).2.1
  have DLT := Lib.hid (show ∀ b, D b → b < W.heap.size by
    rw [hDd]; rintro b (rfl | rfl | ⟨h, rfl⟩)
    · exact Nat.lt_of_lt_of_le hl1 hW.size
    · exact Nat.lt_of_lt_of_le hl2 hW.size
    · exact Nat.lt_of_lt_of_le (hgl h) hW.size)
  have DC := Lib.hid (show ∀ b, D b → (∀ A, ¬ Mine A b) ∧ ∃ o, W.heap[b]? = some o ∧ o.isCells = true by
    rw [hDd]; rintro b (rfl | rfl | ⟨h, rfl⟩)
    · exact ⟨fun A hm => (hD A _ hm).1 rfl, by rw [hW.block _ hl1]; exact isCells_of_cell h1⟩
    · exact ⟨fun A hm => (hD A _ hm).2.1 rfl, by rw [hW.block _ hl2]; exact isCells_of_cell h2⟩
    · exact ⟨fun A hm => (hD A _ hm).2.2 rfl, by rw [hW.block _ (hgl h)]; exact isCells_of_cell (HLK.out 0 (List.length_pos_iff.2 h)).2.2.1⟩)
  have D1 : D b1 := by rw [hDd]; exact .inl rfl
  have D2 : D b2 := by rw [hDd]; exact .inr (.inl rfl)
  have Dg : links ≠ [] → D g := fun h => by rw [hDd]; exact .inr (.inr ⟨h, rfl⟩)
  have RD := Lib.hid (show ∀ wr : World, (∀ b, D b → wr.heap[b]? = W.heap[b]?) → wr.cell? ⟨b1, 0, none⟩ = some (.slice va links.length vc) ∧ wr.cell? ⟨b2, 0, none⟩ = some (.int .i64 (most : Nat)) ∧ ∀ k (hk : k < links.length), wr.cell? ⟨g, off + 2 * k, none⟩ = some (.int .i64 links[k].1) ∧ wr.cell? ⟨g, off + 2 * k + 1, none⟩ = some (.int .i64 links[k].2) by
    intro wr hf
    refine ⟨(World.cell?_of_block ((hf b1 D1).trans (hW.block _ hl1))).trans h1, (World.cell?_of_block ((hf b2 D2).trans (hW.block _ hl2))).trans h2, fun k hk => ?_⟩
    have hne : links ≠ [] := fun e => by rw [e] at hk; simp at hk
    obtain ⟨_, _, e1, e2⟩ := HLK.out k hk
    exact ⟨(World.cell?_of_block ((hf g (Dg hne)).trans (hW.block _ (hgl hne)))).trans e1, (World.cell?_of_block ((hf g (Dg hne)).trans (hW.block _ (hgl hne)))).trans e2⟩)
  clear hDd hgl D1 D2 Dg hD hMine
  gi_wp2
  gi_loopw [5, 6] (fun v5 v6 wr => ∃ (pre : List (C2 × Nat)) (nn : Nat) (cs S : List C2), v6 = .int .i64 (nn : Nat) ∧ nn ≤ most + 1 ∧ (cs = [] ∨ nn ≤ most) ∧ Hid (wavesL links most = pre ++ wavesF links most (most + 1 - nn) nn cs S) ∧ J pre wr ∧ RowN Mine W.heap.size wr v5 cs ∧ Seen wr W.heap.size S ∧ ¬ Mine wr W.heap.size ∧ Hid (∀ b, D b → wr.heap[b]? = W.heap[b]?) ∧ Hid (∀ b, Mine wr b → b < wr.heap.size) ∧ W.heap.size < wr.heap.size ∧ Lev (3 * nn) (S, cs)) (fun _ v6 _ => most + 1 - (intOf v6).toNat)
  case atStart =>
    have hm1 : ¬ Mine (W.alloc (.map #[] 0)) W.heap.size := fun h => by have := hmlt _ ((hM.1 _ _ q1 _).1 h); omega
    have q2 : StepQ W.heap.size Mine (W.alloc (.map #[] 0)) w1 := StepQ.grown hg1 (by simp) (fun r e => by cases e; exact ⟨Nat.le_refl _, hm1, _, World.alloc_heap_new _ _, .inr rfl⟩)
    have hb3 : Below w1.heap.size w1 (w1.alloc (.cells #[.int .i64 0, .int .i64 0] 24)) := (Below.refl _ _).alloc (Nat.le_refl _) _
    have q3 := stepQ_below (B := W.heap.size) (Mine := Mine) hb3 (by omega)
    have hm2 : ¬ Mine w1 W.heap.size := fun h => hm1 ((hM.1 _ _ q2 _).1 h)
    refine ⟨[], 0, [(0, 0)], [(0, 0)], by simp, by omega, .inr (by omega), Lib.hid rfl, HJ.out _ _ _ (HJ.out _ _ _ (HJ.out _ _ _ h0 q1) q2) q3, ⟨?_, ?_⟩, hs1.of_block (hb3.block _ (by omega)), fun h => hm2 ((hM.1 _ _ q3 _).1 h), Lib.hid ?_, Lib.hid (fun b hm => by have := hmlt b ((hM.1 _ _ q1 _).1 ((hM.1 _ _ q2 _).1 ((hM.1 _ _ q3 _).1 hm))); have := hb3.size; omega), by simp; omega, ?_⟩
    · exact row_full w1 #[.int .i64 0, .int .i64 0] 1 w1.heap.size rfl (by omega) (by unfold maxLen; omega) rfl
    · intro g hg hm
      simp [Value.ownBlock] at hg
      subst hg
      have := hmlt _ ((hM.1 _ _ q1 _).1 ((hM.1 _ _ q2 _).1 ((hM.1 _ _ q3 _).1 hm)))
      omega
    · intro b hb
      have hlt := DLT.out b hb
      rw [hb3.block b (by omega), hg1.block b (by simp; omega) (fun e => by cases e; omega), Below.heap_alloc _ _ _ hlt]
    · exact ⟨by simp, by simp [Near], by simp [Near], by simp, by simp⟩
  case round =>
    obtain ⟨pre, nn, cs, S, rfl, hnn, hcs, HL, hJ, h5, hs, hsm, hfx, hml, hsz, hlev⟩ := hrel
    obtain ⟨a5, c5, rfl, hx5⟩ := h5.at
    have HX5 := Lib.hid hx5; clear hx5
    by_cases hlt : cs.length = 0
    · gi_wp2
      go_end0
      have hn : cs = [] := List.eq_nil_of_length_eq_zero hlt
      have hL := HL.out
      rw [hn, wavesF_nil, List.append_nil] at hL
      rw [hL]
      exact ⟨⟨_, rfl⟩, .inl hJ⟩
    have hcl : cs.length ≤ 6241 := nodup_len (m := 39) hlev.nd2 (fun c hc => (hlev.nx c hc).mono (by omega))
    have hlp : 0 < cs.length := by omega
    have hnm : nn ≤ most := hcs.resolve_left (fun e => hlt (by rw [e]; rfl))
    obtain ⟨w2, rfl⟩ : ∃ x : World, x = wr := ⟨_, rfl⟩
    have hP0 : Pre Mine W.heap.size w2.heap.size W D w2 W.heap.size (.slice a5 cs.length c5) (.slice none 0 0) cs S [] :=
      ⟨h5, fun g hg => (h5.1.lt g hg).2, hs, hsm, Nat.le_refl _, hsz, RowN.nil _ _ _, hfx.out, DLT.out, Nat.le_refl _, Nat.le_of_lt hsz, hml.out⟩
    have HP0 := Lib.hid hP0
    clear hP0 hs hsm h5
    obtain ⟨go, hgo⟩ : ∃ go, go = decide (nn < most) := ⟨_, rfl⟩
    gi_wp2
    gi_loopw [7, 25] (fun v7 v25 wr => ∃ k : Nat, k ≤ cs.length ∧ v25 = .int .i64 (k : Nat) ∧ J (pre ++ (cs.take k).map fun c => (c, nn)) wr ∧ Pre Mine W.heap.size w2.heap.size W D wr W.heap.size (.slice a5 cs.length c5) v7 cs (level go links (cs.take k) (S, [])).1 (level go links (cs.take k) (S, [])).2) (fun _ v25 _ => cs.length - (intOf v25).toNat)
    case atStart => exact ⟨0, Nat.zero_le _, rfl, by simpa using hJ, HP0.out⟩
    case round =>
      obtain ⟨k, hk, rfl, hJ2, hP⟩ := hrel
      obtain ⟨a7, c7, rfl⟩ := hP.next.shape
      by_cases hlk : k < cs.length
      rotate_left
      · obtain rfl : k = cs.length := by omega
        gi_wp2
        go_roundw
        case rel =>
          rw [List.take_length] at hJ2 hP
          have hlv2 : Lev (3 * nn + 3) (level go links cs (S, [])) := Lev.level go links cs (Lev.mono hlev (by omega) rfl) (fun c hc l hl => (hlev.nx c hc).add (hln l hl))
          refine ⟨pre ++ cs.map (fun c => (c, nn)), nn + 1, (level go links cs (S, [])).2, (level go links cs (S, [])).1, by simp, by omega, ?_, Lib.hid ?_, hJ2, ?_, hP.seen, hP.seenm, Lib.hid hP.fixed, Lib.hid hP.mlt, ?_, ?_⟩
          · by_cases hg : nn < most
            · exact .inr (by omega)
            · left
              rw [hgo, decide_eq_false hg, level_stop]
          · have hL := HL.out
            rw [show most + 1 - nn = (most - nn) + 1 by omega, wavesF, if_neg (fun e => hlt (by rw [e]; rfl)), ← hgo] at hL
            rw [hL, List.append_assoc, show most + 1 - (nn + 1) = most - nn by omega]
          · rw [List.take_length]; exact ⟨row_mono hP.next.1 hP.base, hP.next.2⟩
          · exact Nat.lt_of_lt_of_le hsz hP.size
          · have e : (3 * ((nn + 1 : Nat) : Int)) = 3 * nn + 3 := by omega
            rw [e]; exact hlv2
        case measure => simp only [intOf]; omega
      obtain ⟨w2b, rfl⟩ : ∃ x : World, x = wr := ⟨_, rfl⟩
      obtain ⟨a5', c5', he5, hx5⟩ := hP.now.at
      cases he5
      obtain ⟨g5, hi5, hg5, hc50, hc51⟩ := hx5 k hlk
      clear hx5
      have hpre : (pre ++ (cs.take k).map fun c => (c, nn)) ++ [(cs[k], nn)] <+: wavesL links most := by
        have hL := HL.out
        rw [show most + 1 - nn = (most - nn) + 1 by omega, wavesF, if_neg (fun e => hlt (by rw [e]; rfl))] at hL
        rw [hL]
        exact pre_of_take (fun c => (c, nn)) pre cs _ k hlk
      have hB2 : W.heap.size ≤ w2b.heap.size := Nat.le_trans hP.base hP.size
      have hH := hP.box hM cs[k] 24
      have hJ3 := HJ.out _ _ _ hJ2 (stepQ_below (B := W.heap.size) (Mine := Mine) ((Below.refl w2b.heap.size w2b).alloc (Nat.le_refl _) (.cells #[.int .i64 cs[k].1, .int .i64 cs[k].2] 24)) hB2)
      obtain ⟨fn, tmps, assign, body, hy, hR⟩ := HY.out _ _ _ hJ3 hpre
      simp only [encW] at hy
      have HR := Lib.hid hR; clear hR
      have HPRE := Lib.hid hpre; clear hpre
      have HH := Lib.hid hH; clear hH hJ3 hJ2 hP
      have HLK2 := Lib.hid hlk
      have HCN := Lib.hid (hlev.nx cs[k] (List.getElem_mem hlk))
      have HLV := Lib.hid (level_take go links cs (S, []) k hlk)
      have HTK := Lib.hid (show (pre ++ (cs.take (k + 1)).map fun c => (c, nn)) = (pre ++ (cs.take k).map fun c => (c, nn)) ++ [(cs[k], nn)] by rw [List.take_succ_eq_append_getElem hlk]; simp only [List.map_append, List.map_cons, List.map_nil, List.append_assoc]; rfl)
      generalize cs[k] = c at *
      gi_wp2
      refine HR.out.mono ?_
      rintro e w3 (⟨rfl, hJ3, hk3⟩ | ⟨rfl, hJx3⟩)
      rotate_left
      · gi_wp2
        refine bodyPost_ret (results_none rfl _ _ _) rfl ?_
        exact ⟨⟨_, rfl⟩, .inr ⟨_, HPRE.out, hJx3⟩⟩
      have hH3 := HH.out.round hk3 (fun b hd => ⟨(DC.out b hd).1 _, by rw [HH.out.fixed b hd]; exact (DC.out b hd).2⟩)
      have HH3 := Lib.hid hH3
      obtain ⟨r1, r2, -⟩ := RD.out w3 hH3.fixed
      clear hH3 hk3
      have HLEV := Lib.hid (show Lev (3 * nn + 3) (level go links (cs.take k) (S, [])) from Lev.level go links (cs.take k) (Lev.mono hlev (by omega) rfl) (fun c hc l hl => (hlev.nx c (List.mem_of_mem_take hc)).add (hln l hl)))
      generalize hst : level go links (cs.take k) (S, []) = st at *
      generalize hpre2 : (pre ++ (cs.take k).map fun c => (c, nn)) ++ [(c, nn)] = pre2 at *
      have HST := Lib.hid hst; clear hst
      have HPRE2 := Lib.hid hpre2; clear hpre2
      gi_wp2
      gi_loopw [7, 36] (fun v7 v36 wr => ∃ j : Nat, j ≤ links.length ∧ v36 = .int .i64 (j : Nat) ∧ J pre2 wr ∧ Hold Mine W.heap.size w2.heap.size W D wr W.heap.size w2b.heap.size c (.slice a5 cs.length c5) v7 cs (stepC go (links.take j) st c).1 (stepC go (links.take j) st c).2) (fun _ v36 _ => links.length - (intOf v36).toNat)
      case atStart => exact ⟨0, Nat.zero_le _, rfl, hJ3, HH3.out⟩
      case round =>
        obtain ⟨j, hj, rfl, hJ4, hH⟩ := hrel
        have HH4 := Lib.hid hH; clear hH HH3 HH hJ3
        obtain ⟨a8, c8, rfl⟩ := HH4.out.next.shape
        by_cases hjl : j < links.length
        rotate_left
        · have hjj := Lib.hid (show j = links.length by omega)
          gi_wp2
          go_roundw
          case rel =>
            refine ⟨k + 1, HLK2.out, by simp, ?_, ?_⟩
            · rw [HTK.out]; exact hJ4
            · rw [HLV.out]
              have := HH4.out.pre
              rw [hjj.out, List.take_length] at this ⊢
              exact this
          case measure => change cs.length - ((k : Int) + 1).toNat < cs.length - (k : Int).toNat; have := HLK2.out; omega
        obtain ⟨-, -, hrl⟩ := RD.out wr HH4.out.fixed
        obtain ⟨ll, hll⟩ : ∃ ll, ll = links[j] := ⟨_, rfl⟩
        have hl0 := (hrl j hjl).1
        have hl1' := (hrl j hjl).2
        have hil := fun W => (HLK.out j hjl).1 W
        have HLN := Lib.hid (hln links[j] (List.getElem_mem hjl))
        have HST3 := Lib.hid (stepC_take go links c st j hjl)
        have HDN := Lib.hid (HCN.out.add HLN.out)
        rw [← hll] at hl0 hl1' HLN HST3 HDN
        clear hll hrl
        have hB4 : W.heap.size ≤ wr.heap.size := Nat.le_trans HH4.out.base HH4.out.size
        have hcb : -36 ≤ c.1 ∧ c.1 ≤ 36 ∧ -36 ≤ c.2 ∧ c.2 ≤ 36 := by obtain ⟨h1, h2, h3, h4⟩ := HCN.out; omega
        have hlb : -3 ≤ ll.1 ∧ ll.1 ≤ 3 ∧ -3 ≤ ll.2 ∧ ll.2 ≤ 3 := HLN.out
        have hb0 := HH4.out.box0
        have hb1' := HH4.out.box1
        have hne9 : w2b.heap.size < wr.heap.size := World.block_lt_of_cell? wr ⟨w2b.heap.size, 0, none⟩ hb0
        have HLEV3 := Lib.hid (show Lev (3 * nn + 3) (stepC go (links.take j) st c) from HLEV.out.stepC go c (links.take j) (fun l hl => HCN.out.add (hln l (List.mem_of_mem_take hl))))
        generalize hs3 : stepC go (links.take j) st c = st3 at *
        have HS3 := Lib.hid hs3; clear hs3
        by_cases hg : nn < most
        rotate_left
        · have hgi : ¬ (nn : Int) < most := by omega
          gi_wp2_with (gi_at_call 26; refine (plus_in F _ h87 hro c.1 c.2 ll.1 ll.2 (by omega) (by omega) (by omega) (by omega) _).mono ?_; go_must (rintro e w5 ⟨rfl, hb5⟩; have hbE := (((Below.refl wr.heap.size wr).alloc (Nat.le_refl _) (.cells #[.int .i64 ll.1, .int .i64 ll.2] 24)).trans (hb5.mono (by simp))).alloc (by have := hb5.size; simp at this; omega) (.cells #[.int .i64 (c.1 + ll.1), .int .i64 (c.2 + ll.2)] 24); have hHE := HH4.out.below hM hbE; obtain ⟨-, r2E, -⟩ := RD.out _ hHE.fixed))
          go_roundw
          case rel =>
            refine ⟨j + 1, hjl, by simp, ?_, ?_⟩
            · exact HJ.out _ _ _ hJ4 (stepQ_below hbE hB4)
            · rw [HST3.out, hgo, decide_eq_false hg, stepL_stop]
              exact hHE
          case measure => simp only [intOf]; omega
        have hgi : (nn : Int) < most := by omega
        by_cases hd : add2 c ll ∈ st3.1
        · have hdc : decide ((c.1 + ll.1, c.2 + ll.2) ∈ st3.1) = true := decide_eq_true hd
          gi_wp2_with (gi_at_call 26; refine (plus_in F _ h87 hro c.1 c.2 ll.1 ll.2 (by omega) (by omega) (by omega) (by omega) _).mono ?_; go_must (rintro e w5 ⟨rfl, hb5⟩; have hbE := (((Below.refl wr.heap.size wr).alloc (Nat.le_refl _) (.cells #[.int .i64 ll.1, .int .i64 ll.2] 24)).trans (hb5.mono (by simp))).alloc (by have := hb5.size; simp at this; omega) (.cells #[.int .i64 (c.1 + ll.1), .int .i64 (c.2 + ll.2)] 24); have hHE := Lib.hid (HH4.out.below hM hbE); obtain ⟨-, r2E, -⟩ := RD.out _ hHE.out.fixed; have hlook := hHE.out.seen.look (c.1 + ll.1) (c.2 + ll.2) (wf_small (by omega)) (wf_small (by omega)); rw [hdc] at hlook))
          go_roundw
          case rel =>
            refine ⟨j + 1, hjl, by simp, ?_, ?_⟩
            · exact HJ.out _ _ _ hJ4 (stepQ_below hbE hB4)
            · have : stepL go c st3 ll = st3 := by unfold stepL; rw [if_neg (fun h => h.2 hd)]
              rw [HST3.out, this]
              exact hHE.out
          case measure => simp only [intOf]; omega
        have hdc : decide ((c.1 + ll.1, c.2 + ll.2) ∈ st3.1) = false := decide_eq_false hd
        have hle1 : st3.1.length ≤ 6241 := nodup_len (m := 39) HLEV3.out.nd (fun c hc => (HLEV3.out.ns c hc).mono (by omega))
        have hle2 : st3.2.length ≤ 6241 := nodup_len (m := 39) HLEV3.out.nd2 (fun c hc => (HLEV3.out.nx c hc).mono (by omega))
        gi_wp2_with (first | (gi_at_call 26; refine (plus_in F _ h87 hro c.1 c.2 ll.1 ll.2 (by omega) (by omega) (by omega) (by omega) _).mono ?_; go_must (rintro e w5 ⟨rfl, hb5⟩; have hbE := (((Below.refl wr.heap.size wr).alloc (Nat.le_refl _) (.cells #[.int .i64 ll.1, .int .i64 ll.2] 24)).trans (hb5.mono (by simp))).alloc (by have := hb5.size; simp at this; omega) (.cells #[.int .i64 (c.1 + ll.1), .int .i64 (c.2 + ll.2)] 24); have hHE := Lib.hid (HH4.out.below hM hbE); obtain ⟨-, r2E, -⟩ := RD.out _ hHE.out.fixed; have hlook := hHE.out.seen.look (c.1 + ll.1) (c.2 + ll.2) (wf_small (by omega)) (wf_small (by omega)); rw [hdc] at hlook; obtain ⟨w6, hr6, hs6, hg6⟩ := hHE.out.seen.put (by omega) (c.1 + ll.1) (c.2 + ll.2) (wf_small (by omega)) (wf_small (by omega)); have hH6 := Lib.hid (hHE.out.put hM hg6 hs6); have hw5 : W.heap.size < w5.heap.size := (by have h1 := hb5.size; simp at h1; have h2 := HH4.out.seenlt; have h3 := HH4.out.size; omega); have hnew := World.alloc_heap_new w5 (.cells #[.int .i64 (c.1 + ll.1), .int .i64 (c.2 + ll.2)] 24); have hc60 : w6.cell? ⟨w5.heap.size, 0, none⟩ = some (.int .i64 (c.1 + ll.1)) := hg6.cell (by simp only [World.cell?, hnew]; rfl) (by simp; omega); have hc61 : w6.cell? ⟨w5.heap.size, 1, none⟩ = some (.int .i64 (c.2 + ll.2)) := hg6.cell (by simp only [World.cell?, hnew]; rfl) (by simp; omega); clear hnew hs6; have hz6 := hH6.out.size)) | (gi_at_builtin; refine wpListIn_push rfl _ _ _ rfl slCs hH6.out.next.1 rfl rfl (by first | rfl | simp) rfl rfl (by omega) (by omega) hz6 ?_; intro g7 c7' w7 hown7 hg7 hat7))
        go_roundw
        case rel =>
          have hH7 := hH6.out.below hM ((Below.refl w6.heap.size w6).alloc (Nat.le_refl _) (.cells #[.int .i64 (c.1 + ll.1), .int .i64 (c.2 + ll.2)] 24))
          have hB6 : W.heap.size ≤ w6.heap.size := Nat.le_trans hH6.out.base hH6.out.size
          have hstep : stepL go c st3 ll = (st3.1 ++ [add2 c ll], st3.2 ++ [add2 c ll]) := by unfold stepL; rw [if_pos ⟨by rw [hgo]; exact decide_eq_true hg, hd⟩]
          refine ⟨j + 1, hjl, by simp, ?_, ?_⟩
          · have j1 := HJ.out _ _ _ hJ4 (stepQ_below hbE hB4)
            have j2 := HJ.out _ _ _ j1 (hHE.out.stepPut hg6)
            have j3 := HJ.out _ _ _ j2 (stepQ_below ((Below.refl w6.heap.size w6).alloc (Nat.le_refl _) (.cells #[.int .i64 (c.1 + ll.1), .int .i64 (c.2 + ll.2)] 24)) hB6)
            exact HJ.out _ _ _ j3 (hH7.stepPush hg7)
          · rw [HST3.out, hstep]
            refine hH7.push hM hg7 (nx' := st3.2 ++ [add2 c ll]) ?_ ?_
            · rw [flatC_snoc, List.length_append]; exact hown7
            · rcases hat7 with h | h
              · exact .inl h.symm
              · refine .inr (fun g h' => ?_)
                simp [Value.ownBlock] at h'
                omega
        case measure => simp only [intOf]; omega
end Go.Proofs.Ytjceppinjeehiaa
