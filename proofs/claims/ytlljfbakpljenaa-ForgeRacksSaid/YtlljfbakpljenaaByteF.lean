/- What is told of the parts of an entry and of three parts; the walks of lengthOf, sizes, forge.Parts and of the reference's Parts at entries that are too long. -/
import Derived.Test.YtlljfbakpljenaaByteE
namespace Go.Proofs.Ytlljfbakpljenaa
open Go.RowKit
theorem rd_idx {w : World} {B : Nat} {a : Option Addr} {l : List Int} (h : Rd w B a l) {z : Int} (h0 : 0 ≤ z) (h1 : z < l.length) :
    ∃ p : Addr, (∀ cap W, (Instr.indexAt 27 (.slice a l.length cap) (.int .i64 z)).run Try.prog W = .ok (.pointer (some p)) W) ∧ p.block < B ∧ w.cell? p = some (.int .u8 (l.getD z.toNat 0)) := by
  obtain ⟨p, hx, hp⟩ := reads2 h
  obtain ⟨k, rfl⟩ := Int.eq_ofNat_of_zero_le h0
  exact ⟨p k, hx k (by omega), (hp k (by omega)).1, (hp k (by omega)).2⟩
/-- The length of a part of an entry with so many bytes. -/
def partLen (i n : Nat) : Nat := if i = 1 then n / 2 else (n + 1) / 2
/-- lengthOf in the machine's numbers. -/
def pl (i n : Int) : Int := if i = 1 then n / 2 else (n + 1) / 2
theorem pl_nat (i n : Nat) : pl i n = (partLen i n : Nat) := by
  unfold pl partLen
  by_cases h : i = 1
  · subst h; simp
  · rw [if_neg (by omega), if_neg h]; omega
theorem Parts_any (v : Value) (l : List Int) (hl : l.length ≤ 200) (w : World) (hv : BSl w w.heap.size v l) :
    Calls Try.prog 41 #[v] w fun e w' => ∃ v0 v1 v2, e = .returned (.tuple #[.agg #[v0, v1, v2], .int .i64 0]) ∧ Below w.heap.size w w' ∧ BOwn w' w.heap.size v0 (evs l l.length) ∧ BOwn w' w.heap.size v1 (ods l l.length) ∧ BOwn w' w.heap.size v2 (mixL (evs l l.length) (ods l l.length) (evs l l.length).length) := by
  have hv' : ∀ o, BSl (w.alloc o) (w.alloc o).heap.size v l := fun o => (hv.kept ((Below.refl _ _).alloc (Nat.le_refl _) o)).mono (by simp)
  obtain ⟨a, cap, rfl, -⟩ := hv.rd
  have hg : ¬ (200 : Int) < l.length := by omega
  clear hv
  have HV := Lib.hid hv'; clear hv'
  go_enter Try.func41, Try.ntmps41
  go_wp2_with (go_at_call 76; refine (parts_any _ l (by omega) _ (HV.out _)).mono ?_; go_must (rintro e w1 ⟨v0, v1, v2, rfl, hb1, s0, s1, s2⟩; obtain ⟨hc1, hf1⟩ := bcell hb1; obtain ⟨b0, e0, rfl, -⟩ := s0.rd; obtain ⟨b1, e1, rfl, -⟩ := s1.rd; obtain ⟨b2, e2, rfl, -⟩ := s2.rd))
  refine bodyPost_ret (v := .tuple #[.agg #[.slice b0 (evs l l.length).length e0, .slice b1 (ods l l.length).length e1, .slice b2 (mixL (evs l l.length) (ods l l.length) (evs l l.length).length).length e2], .int .i64 0]) ?h rfl ⟨_, _, _, rfl, ?b, ?s0, ?s1, ?s2⟩
  case h => (simp only [results, Try.results41]; first | (go_simp; done) | (go_simp; rfl))
  case b => exact by repeat (first | exact Below.refl _ _ | assumption | (refine Below.drew ?_) | (refine below_drewN ?_ _) | (refine Below.alloc ?_ (by first | (simp; done) | (simp; omega) | omega) _) | (refine Below.setCell ?_ (by first | (simp; done) | (simp; omega) | omega) _) | (refine Below.trans ?_ (Below.mono (by assumption) (by first | (simp; done) | (simp; omega) | omega))))
  case s0 => exact (((s0.set (by simp) _).set (by simp) _).set (by simp) _).mono (by simp)
  case s1 => exact (((s1.set (by simp) _).set (by simp) _).set (by simp) _).mono (by simp)
  case s2 => exact (((s2.set (by simp) _).set (by simp) _).set (by simp) _).mono (by simp)
theorem Parts_bad (a : Option Addr) (n cap : Nat) (hn : 200 < n) (w : World) :
    Calls Try.prog 41 #[.slice a n cap] w fun e w' => e = .returned (.tuple #[.agg #[.slice none 0 0, .slice none 0 0, .slice none 0 0], .int .i64 2]) ∧ Below w.heap.size w w' := by
  have hg : (200 : Int) < n := by omega
  go_enter Try.func41, Try.ntmps41
  go_wp2
  (refine bodyPost_ret (v := ?v) ?h rfl ⟨?e, ?b⟩; (case h => (simp only [results, Try.results41]; first | (go_simp; done) | (go_simp; rfl))); (case e => (rfl)); (case b => exact (by repeat (first | exact Below.refl _ _ | assumption | (refine Below.drew ?_) | (refine below_drewN ?_ _) | (refine Below.alloc ?_ (by first | (simp; done) | (simp; omega) | omega) _) | (refine Below.setCell ?_ (by first | (simp; done) | (simp; omega) | omega) _) | (refine Below.trans ?_ (Below.mono (by assumption) (by first | (simp; done) | (simp; omega) | omega)))))))
/-- May three parts of these lengths, of which one is not known, be joined? -/
def joinB (n : Int) (n0 n1 n2 : Nat) (lost : Int) : Bool :=
  decide (0 ≤ n ∧ n ≤ 200 ∧ 0 ≤ lost ∧ lost ≤ 2) && (decide (lost = 0) || decide (n0 = partLen 0 n.toNat)) && (decide (lost = 1) || decide (n1 = partLen 1 n.toNat)) && (decide (lost = 2) || decide (n2 = partLen 2 n.toNat))
/-- A byte of the joined entry. -/
def joinAt (p0 p1 p2 : List Int) (lost i : Nat) : Int :=
  if i % 2 = 0 then (if lost = 0 then xb (p1.getD (i / 2) 0) (p2.getD (i / 2) 0) else p0.getD (i / 2) 0)
  else (if lost = 1 then xb (p0.getD (i / 2) 0) (p2.getD (i / 2) 0) else p1.getD (i / 2) 0)
def joinL (p0 p1 p2 : List Int) (lost n : Nat) : List Int := (List.range n).map (joinAt p0 p1 p2 lost)
theorem joinL_succ (p0 p1 p2 : List Int) (lost n : Nat) : joinL p0 p1 p2 lost (n + 1) = joinL p0 p1 p2 lost n ++ [joinAt p0 p1 p2 lost n] := by simp [joinL, List.range_succ]
theorem joinAt_byte {p0 p1 p2 : List Int} (h0 : Byts p0) (h1 : Byts p1) (h2 : Byts p2) (lost i : Nat) : 0 ≤ joinAt p0 p1 p2 lost i ∧ joinAt p0 p1 p2 lost i < 256 := by
  unfold joinAt
  split <;> split
  · exact xb_byte (h1.at _).2 (h2.at _).2
  · exact h0.at _
  · exact xb_byte (h0.at _).2 (h2.at _).2
  · exact h1.at _
theorem joinL_byts {p0 p1 p2 : List Int} (h0 : Byts p0) (h1 : Byts p1) (h2 : Byts p2) (lost n : Nat) : Byts (joinL p0 p1 p2 lost n) := by
  intro z hz
  simp only [joinL, List.mem_map] at hz
  obtain ⟨i, _, rfl⟩ := hz
  exact joinAt_byte h0 h1 h2 _ _
theorem ixp0 (a b c : Value) (w : World) : (Instr.index 28 (.agg #[a, b, c]) (.int .i64 0)).run Try.prog w = .ok a w := by kernel_rfl
theorem ixp1 (a b c : Value) (w : World) : (Instr.index 28 (.agg #[a, b, c]) (.int .i64 1)).run Try.prog w = .ok b w := by kernel_rfl
theorem ixp2 (a b c : Value) (w : World) : (Instr.index 28 (.agg #[a, b, c]) (.int .i64 2)).run Try.prog w = .ok c w := by kernel_rfl
end Go.Proofs.Ytlljfbakpljenaa
