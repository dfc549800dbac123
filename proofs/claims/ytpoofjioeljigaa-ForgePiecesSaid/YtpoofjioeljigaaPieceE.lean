/- The walks of piece.bytes and of forge.written. -/
import Derived.Test.YtpoofjioeljigaaPieceD
namespace Go.Proofs.Ytpoofjioeljigaa
open Go.RowKit
theorem ownsRow_full {base : Nat} {e : TypeId} {size : Nat} (w : World) (cur : Array Value) (n : Nat) (g : Nat) (hgw : g = w.heap.size) (hb : base ≤ w.heap.size) (hm : n ≤ maxLen) (hs : cur.size = n * size) :
    (w.alloc (.cells cur e)).ownsRow base e size (.slice (some ⟨g, 0, none⟩) n n) n cur.toList := by
  subst hgw
  exact   ⟨by simpa [Nat.mul_comm] using hs, .inr ⟨w.heap.size, n, cur, rfl, hb, heap_alloc_new w _, Nat.le_refl _, hm, hs, by rw [← hs, ← Array.length_toList, List.take_length]⟩⟩
set_option maxHeartbeats 4000000 in
set_option maxRecDepth 100000 in
theorem bytes_any (n : Int) (h0 : 0 ≤ n) (h1 : n ≤ 200) (vp : Value) (part : List Int) (hl : part.length ≤ 100000) (w : World) (hv : BSl w w.heap.size vp part) :
    Calls Try.prog 73 #[.agg #[.int .i64 n, vp]] w fun e w' => ∃ v', e = .returned v' ∧ Below w.heap.size w w' ∧ BOwn w' w.heap.size v' (n :: part ++ [165]) := by
  have hy := hv.2
  have ho := fun o1 o2 => hv.1.kept (((Below.refl _ w).alloc (Nat.le_refl _) o1).alloc (by simp) o2)
  have hq : IntKind.u8.wrap n = n := by unfold IntKind.wrap; simp [IntKind.bits, IntKind.signed]; omega
  obtain ⟨a, cap, rfl, -, -, hr⟩ := hv.rd
  have HO := Lib.hid ho; clear ho hv hr
  go_enter Try.func73, Try.ntmps73
  go_wp2_with (first | (at_builtin; refine wpList_concat rfl _ _ _ rfl slU8 (ownsRow_full (base := w.heap.size) _ #[.int .u8 n] 1 (w.heap.size + 1) (by simp) (by simp <;> omega) (by unfold maxLen; omega) rfl) rfl (HO.out _ _) rfl (oneCell_vals _) (by omega) (by omega) (by simp <;> omega) ?_; intro b2 e2 w1 hown hg hat; have hs1 := hg.size; simp at hs1; have hs2 : w.heap.size ≤ w1.heap.size := by omega) | (at_builtin; refine wpList_push rfl _ _ _ rfl slU8 hown rfl rfl (by first | rfl | simp) rfl rfl (by omega) (by omega) hs2 ?_; intro g c' w2 hown2 hg2 hat2))
  go_ret
  have hb0 := ((Below.refl w.heap.size w).alloc (Nat.le_refl _) (.cells #[.int .i64 n, .slice a part.length cap] 97))
  have o1 := ownsRow_full (base := w.heap.size) (e := 5) (size := 1) (w.alloc (.cells #[.int .i64 n, .slice a part.length cap] 97)) #[.int .u8 n] 1 (w.heap.size + 1) (by simp) (by simp <;> omega) (by unfold maxLen; omega) rfl
  have hb1 := below_push (hb0.alloc (by simp) (.cells #[.int .u8 n] 5)) o1 (Nat.le_refl _) (by simp; omega) hg
  have hb2 := below_push hb1 hown (Nat.le_refl _) hs2 hg2
  refine ⟨_, rfl, hb2, BOwn.mk' (n := 1 + part.length + 1) (by simpa [vals] using hown2) ?_⟩
  intro z hz
  simp at hz
  rcases hz with rfl | hz | rfl
  · omega
  · exact hy z hz
  · omega
end Go.Proofs.Ytpoofjioeljigaa
