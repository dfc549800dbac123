/- What the loop of SpaceAdds keeps. Conditions: none. -/
import Derived.Test.YtpoofjioeljigaaSpaceN
import Derived.Test.YtpoofjioeljigaaKitB
import Derived.Deep.RegionHeld3
namespace Go.Proofs.Ytpoofjioeljigaa
open Go.RowKit
structure AddsS (w w1 W : World) (u0 u1 u2 c0 c1 c2 c3 c4 c5 A0 A1 A2 B0 B1 B2 S0 S1 S2 T0 T1 T2 : Int) : Prop where
  bel : Below w.heap.size w W
  siz : w1.heap.size + 1 + 1 + 1 + 1 ≤ W.heap.size
  hu0 : W.cell? ⟨w.heap.size, 0, none⟩ = some (.int .i64 u0)
  hu1 : W.cell? ⟨w.heap.size, 1, none⟩ = some (.int .i64 u1)
  hu2 : W.cell? ⟨w.heap.size, 2, none⟩ = some (.int .i64 u2)
  hc0 : W.cell? ⟨w.heap.size + 1, 0, none⟩ = some (.int .i16 c0)
  hc1 : W.cell? ⟨w.heap.size + 1, 1, none⟩ = some (.int .i16 c1)
  hc2 : W.cell? ⟨w.heap.size + 1, 2, none⟩ = some (.int .i16 c2)
  hc3 : W.cell? ⟨w.heap.size + 1, 3, none⟩ = some (.int .i16 c3)
  hc4 : W.cell? ⟨w.heap.size + 1, 4, none⟩ = some (.int .i16 c4)
  hc5 : W.cell? ⟨w.heap.size + 1, 5, none⟩ = some (.int .i16 c5)
  hA0 : W.cell? ⟨w1.heap.size, 0, none⟩ = some (.int .i64 A0)
  hA1 : W.cell? ⟨w1.heap.size, 1, none⟩ = some (.int .i64 A1)
  hA2 : W.cell? ⟨w1.heap.size, 2, none⟩ = some (.int .i64 A2)
  hB0 : W.cell? ⟨w1.heap.size + 1, 0, none⟩ = some (.int .i64 B0)
  hB1 : W.cell? ⟨w1.heap.size + 1, 1, none⟩ = some (.int .i64 B1)
  hB2 : W.cell? ⟨w1.heap.size + 1, 2, none⟩ = some (.int .i64 B2)
  hS0 : W.cell? ⟨w1.heap.size + 1 + 1, 0, none⟩ = some (.int .i64 S0)
  hS1 : W.cell? ⟨w1.heap.size + 1 + 1, 1, none⟩ = some (.int .i64 S1)
  hS2 : W.cell? ⟨w1.heap.size + 1 + 1, 2, none⟩ = some (.int .i64 S2)
  hT0 : W.cell? ⟨w1.heap.size + 1 + 1 + 1, 0, none⟩ = some (.int .i64 T0)
  hT1 : W.cell? ⟨w1.heap.size + 1 + 1 + 1, 1, none⟩ = some (.int .i64 T1)
  hT2 : W.cell? ⟨w1.heap.size + 1 + 1 + 1, 2, none⟩ = some (.int .i64 T2)
  f0 : ∀ o, W.frozen? ⟨w1.heap.size, o, none⟩ = false
  f1 : ∀ o, W.frozen? ⟨w1.heap.size + 1, o, none⟩ = false
  f2 : ∀ o, W.frozen? ⟨w1.heap.size + 1 + 1, o, none⟩ = false
  f3 : ∀ o, W.frozen? ⟨w1.heap.size + 1 + 1 + 1, o, none⟩ = false
theorem forgetR {P : Program} {c : Code} {Q : Exit → Act → World → Prop} {n : Nat} {a : Act} {W : World} (S : World → Prop) (hS : S W) (h : ∀ W, S W → Code.rounds P c Q n a W) : Code.rounds P c Q n a W := h W hS
end Go.Proofs.Ytpoofjioeljigaa
