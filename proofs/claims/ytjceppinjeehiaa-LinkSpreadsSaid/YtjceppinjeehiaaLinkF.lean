/- The walks of the products and of the greatest product, and of the reference's Valid and asked. -/
import Derived.Test.YtjceppinjeehiaaLinkE
namespace Go.Proofs.Ytjceppinjeehiaa
open Go.RowKit
theorem bcellB {B : Nat} {W w1 : World} (hb : Below B W w1) : (∀ b o, b < B → w1.cell? ⟨b, o, none⟩ = W.cell? ⟨b, o, none⟩) ∧ (∀ b o, b < B → w1.frozen? ⟨b, o, none⟩ = W.frozen? ⟨b, o, none⟩) :=
  ⟨fun b o h => hb.cell (p := ⟨b, o, none⟩) h, fun b o h => hb.frozen (p := ⟨b, o, none⟩) h⟩
theorem mul_bd {a b A B : Int} (ha : -A ≤ a ∧ a ≤ A) (hb : -B ≤ b ∧ b ≤ B) : -(A * B) ≤ a * b ∧ a * b ≤ A * B := by
  have h1 := Int.mul_nonneg (show 0 ≤ A - a by omega) (show 0 ≤ B - b by omega)
  have h2 := Int.mul_nonneg (show 0 ≤ A + a by omega) (show 0 ≤ B + b by omega)
  have h3 := Int.mul_nonneg (show 0 ≤ A - a by omega) (show 0 ≤ B + b by omega)
  have h4 := Int.mul_nonneg (show 0 ≤ A + a by omega) (show 0 ≤ B - b by omega)
  simp only [Int.sub_mul, Int.mul_sub, Int.add_mul, Int.mul_add] at h1 h2 h3 h4
  omega
def dotL (a b : C2) : Int := a.1 * b.1 + a.2 * b.2
theorem dotL_bd {a b : C2} {A B : Int} (ha : Near A a) (hb : Near B b) : -(A * B + A * B) ≤ dotL a b ∧ dotL a b ≤ A * B + A * B := by
  obtain ⟨h1, h2, h3, h4⟩ := ha; obtain ⟨k1, k2, k3, k4⟩ := hb
  have x := mul_bd ⟨h1, h2⟩ ⟨k1, k2⟩
  have y := mul_bd ⟨h3, h4⟩ ⟨k3, k4⟩
  unfold dotL
  omega
set_option maxHeartbeats 4000000 in
theorem times_l (a b c d : Int) (h1 : -1000000 ≤ a * c ∧ a * c ≤ 1000000) (h2 : -1000000 ≤ b * d ∧ b * d ≤ 1000000) (w : World) :
    Calls Try.prog 23 #[.agg #[.int .i64 (a), .int .i64 (b)], .agg #[.int .i64 (c), .int .i64 (d)]] w fun e w' => e = .returned (.int .i64 (dotL (a, b) (c, d))) ∧ Below w.heap.size w w' := by
  obtain ⟨h3, h4⟩ := h1; obtain ⟨h5, h6⟩ := h2
  go_enter Try.func23, Try.ntmps23
  go_wp2
  go_ret
  exact ⟨rfl, by repeat (first | exact Below.refl _ _ | assumption | (refine Below.drew ?_) | (refine below_drewN ?_ _) | (refine Below.alloc ?_ (by first | (simp; done) | (simp; omega) | omega) _) | (refine Below.setCell ?_ (by first | (simp; done) | (simp; omega) | omega) _) | (refine Below.trans ?_ (Below.mono (by assumption) (by first | (simp; done) | (simp; omega) | omega))))⟩
def mostL (links : List C2) (w : C2) (least : Int) : Int := links.foldl (fun m l => max m (dotL w l)) least
theorem mostL_snoc (l : List C2) (x : C2) (w : C2) (m : Int) : mostL (l ++ [x]) w m = max (mostL l w m) (dotL w x) := by simp [mostL, List.foldl_append]
theorem mostL_bd {links : List C2} {w : C2} (hl : ∀ l ∈ links, Near 3 l) (hw : Near 100 w) {m : Int} (hm : -1000 ≤ m ∧ m ≤ 1000) : m ≤ mostL links w m ∧ mostL links w m ≤ 1000 := by
  unfold mostL
  induction links generalizing m with
  | nil => simp only [List.foldl_nil]; omega
  | cons l r ih =>
    have hd := dotL_bd hw (hl l (by simp))
    have := ih (fun x hx => hl x (by simp [hx])) (m := max m (dotL w l)) (by omega)
    simp only [List.foldl_cons]
    omega
end Go.Proofs.Ytjceppinjeehiaa
