/- What is told of a slice of bytes: its list of numbers; the laws that the walks use. Conditions: none. -/
import Derived.Test.YtlljfbakpljenaaKitA
import Derived.Laws.BytesArg
import Derived.Laws.OwnMore
import Derived.Below
import Derived.OpenShut
namespace Go.Proofs.Ytlljfbakpljenaa
open Go.RowKit
/-- In world w the slice that begins at 'a' reads the list l, and its cells lie below block B. -/
def Rd (w : World) (B : Nat) (a : Option Addr) (l : List Int) : Prop :=
  l = [] ∨ ∃ b off, a = some ⟨b, off, none⟩ ∧ b < B ∧ ∀ i, i < l.length → w.cell? ⟨b, off + i, none⟩ = some (.int .u8 (l.getD i 0))
theorem Rd.kept {w w' : World} {B : Nat} {a : Option Addr} {l : List Int} (h : Rd w B a l) (hb : Below B w w') : Rd w' B a l := by
  rcases h with h | ⟨b, off, rfl, hlt, hc⟩
  · exact .inl h
  · exact .inr ⟨b, off, rfl, hlt, fun i hi => (hb.cell (p := ⟨b, off + i, none⟩) hlt).trans (hc i hi)⟩
theorem Rd.mono {w : World} {B B' : Nat} {a : Option Addr} {l : List Int} (h : Rd w B a l) (hB : B ≤ B') : Rd w B' a l := by
  rcases h with h | ⟨b, off, rfl, hlt, hc⟩
  · exact .inl h
  · exact .inr ⟨b, off, rfl, Nat.lt_of_lt_of_le hlt hB, hc⟩
theorem idx_at (b off len cap i : Nat) (hi : i < len) (W : World) : (Instr.indexAt 27 (.slice (some ⟨b, off, none⟩) len cap) (.int .i64 (i : Int))).run Try.prog W = .ok (.pointer (some ⟨b, off + i, none⟩)) W := by
  have h1 : (0 : Int) ≤ (i : Int) ∧ (i : Int) < (len : Int) := by omega
  rw [Go.run_indexAt_slice W 27 _ len cap _ _ (by kernel_rfl), if_pos h1]
  have h2 : ((sizeOf (Try.prog.elem 27)).run Try.prog W) = .ok 1 W := by kernel_rfl
  rw [h2]
  simp [Result.andThen, Addr.add]
theorem Rd.reads {w : World} {B : Nat} {a : Option Addr} {l : List Int} (h : Rd w B a l) :
    ∃ p : Nat → Addr, (∀ k : Nat, k < l.length → ∀ cap W, (Instr.indexAt 27 (.slice a l.length cap) (.int .i64 (k : Int))).run Try.prog W = .ok (.pointer (some (p k))) W) ∧ ∀ (W : World), Below B w W → ∀ k, k < l.length → W.cell? (p k) = some (.int .u8 (l.getD k 0)) := by
  rcases h with rfl | ⟨b, off, rfl, hlt, hc⟩
  · exact ⟨fun _ => ⟨0, 0, none⟩, fun k hk => absurd hk (by simp), fun _ _ k hk => absurd hk (by simp)⟩
  · exact ⟨fun k => ⟨b, off + k, none⟩, fun k hk cap W => idx_at b off l.length cap k hk W, fun W hb k hk => (hb.cell (p := ⟨b, off + k, none⟩) hlt).trans (hc k hk)⟩
end Go.Proofs.Ytlljfbakpljenaa
