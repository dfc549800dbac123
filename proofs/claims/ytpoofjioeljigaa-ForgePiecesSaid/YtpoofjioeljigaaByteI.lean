/- What the last loop of forge.Joined puts together; a byte read at a place that is reckoned. -/
import Derived.Test.YtpoofjioeljigaaByteF
namespace Go.Proofs.Ytpoofjioeljigaa
open Go.RowKit
/-- Bytes taken in turn from two lists. -/
def weaveAt (q0 q1 : List Int) (i : Nat) : Int := if i % 2 = 0 then q0.getD (i / 2) 0 else q1.getD (i / 2) 0
def weave (q0 q1 : List Int) (n : Nat) : List Int := (List.range n).map (weaveAt q0 q1)
theorem weave_succ (q0 q1 : List Int) (n : Nat) : weave q0 q1 (n + 1) = weave q0 q1 n ++ [weaveAt q0 q1 n] := by simp [weave, List.range_succ]
theorem weave_byts {q0 q1 : List Int} (h0 : Byts q0) (h1 : Byts q1) (n : Nat) : Byts (weave q0 q1 n) := by
  intro z hz
  simp only [weave, List.mem_map] at hz
  obtain ⟨i, _, rfl⟩ := hz
  unfold weaveAt
  split
  · exact h0.at _
  · exact h1.at _
theorem weave_congr {q0 q1 p0 p1 p2 : List Int} {lost n : Nat} (h : ∀ i, i < n → weaveAt q0 q1 i = joinAt p0 p1 p2 lost i) : weave q0 q1 n = joinL p0 p1 p2 lost n := by
  unfold weave joinL
  exact List.map_congr_left fun i hi => h i (List.mem_range.1 hi)
theorem mixL_at {l1 l2 : List Int} {n i : Nat} (h : i < n) : (mixL l1 l2 n).getD i 0 = xb (l1.getD i 0) (l2.getD i 0) := by simp [mixL, h]
theorem weave0 (p0 p1 p2 : List Int) (n : Nat) : weave (mixL p1 p2 (partLen 0 n)) p1 n = joinL p0 p1 p2 0 n := by
  refine weave_congr fun i hi => ?_
  unfold weaveAt joinAt
  split
  · rw [mixL_at (by simp [partLen]; omega)]; simp
  · simp
theorem weave1 (p0 p1 p2 : List Int) (n : Nat) : weave p0 (mixL p0 p2 (partLen 1 n)) n = joinL p0 p1 p2 1 n := by
  refine weave_congr fun i hi => ?_
  unfold weaveAt joinAt
  split
  · simp
  · rw [mixL_at (by simp [partLen]; omega)]; simp
theorem weave2 (p0 p1 p2 : List Int) (n : Nat) : weave p0 p1 n = joinL p0 p1 p2 2 n := by
  refine weave_congr fun i hi => ?_
  unfold weaveAt joinAt
  split <;> simp
theorem rd_own {w : World} {base m n cap : Nat} {a : Option Addr} {l : List Int} (h : w.ownsRow base 5 1 (.slice a m cap) n (vals l)) (hy : Byts l) : Rd w w.heap.size a l := by
  obtain ⟨a', c', he, _, _, hr⟩ := (BSl.of_own h hy).rd
  simp only [Value.slice.injEq] at he
  rw [he.1]; exact hr
end Go.Proofs.Ytpoofjioeljigaa
