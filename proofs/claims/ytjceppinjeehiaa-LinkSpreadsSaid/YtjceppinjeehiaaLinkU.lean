/- link.plus, inside a fence. -/
import Derived.Shelf.Abstract
import Derived.Shelf.RegionOpen
import Derived.WalkKit
import Derived.OwnWalkIn
import Derived.TacticsInMore
import Derived.LoopNIn
import Derived.LoopIn
import Derived.Maps.OwnIn
import Derived.Maps.AppendAt
import Derived.Test.YtjceppinjeehiaaLinkI
namespace Go.Proofs.Ytjceppinjeehiaa
open Go.RowKit Go.Shelf
set_option maxHeartbeats 4000000 in
set_option maxRecDepth 100000 in
theorem plus_in (F : Fence) (n : Nat) (h87 : F.fn 26) (hro : F.round = none) (a b c d : Int) (ha : -100 ≤ a ∧ a ≤ 100) (hb : -100 ≤ b ∧ b ≤ 100) (hc : -100 ≤ c ∧ c ≤ 100) (hd : -100 ≤ d ∧ d ≤ 100) (w : World) :
    CallsIn F n Try.prog 26 #[.agg #[.int .i64 a, .int .i64 b], .agg #[.int .i64 c, .int .i64 d]] w fun e w' => e = .returned (.agg #[.int .i64 (a + c), .int .i64 (b + d)]) ∧ Below w.heap.size w w' := by
  refine callsIn_of_wp Try.func26 rfl h87 ?_ hro
  simp only [Try.ntmps26, List.size_toArray, List.length_cons, List.length_nil, Nat.reduceAdd, Nat.reduceSub, Array.replicate_succ, Array.replicate_zero, List.push_toArray, List.append_toArray, List.nil_append, List.cons_append]
  gi_wp2
  refine bodyPost_ret (v := .agg #[.int .i64 (a + c), .int .i64 (b + d)]) (by simp only [results, Try.results26]; first | (go_simp; done) | (go_simp; rfl)) rfl ⟨rfl, by repeat (first | exact Below.refl _ _ | assumption | (refine Below.drew ?_) | (refine below_drewN ?_ _) | (refine Below.alloc ?_ (by first | (simp; done) | (simp; omega) | omega) _) | (refine Below.setCell ?_ (by first | (simp; done) | (simp; omega) | omega) _) | (refine Below.trans ?_ (Below.mono (by assumption) (by first | (simp; done) | (simp; omega) | omega))))⟩
theorem wf_small {x : Int} (h : -1000 ≤ x ∧ x ≤ 1000) : (Lit.int .i64 x).wf = true := by
  have : IntKind.i64.min = -9223372036854775808 := by decide
  simp [Lit.wf]
  omega
/-- 'append(s, x)' of one element, inside a fence. -/
theorem wpListIn_push {F : Fence} {nF : Nat} {P : Program} {ops : Array Oper} {rest : List Oper} {o : Oper} {a : Act} {Q : Exit → Act → World → Prop} {w0 : World} {cs : Array Value} {t0 : TypeId} (hgd : o.guard = none) (s x : Operand) (t : TypeId)
    (ho : o.op = .call { callee := .builtin .append, args := #[s, x], argTypes := #[t, t] })
    {base : Nat} {e : TypeId} {z : Value} {size bytes : Nat} (T : SlT P t e z size bytes)
    {v : Value} {n : Nat} {xs : List Value} (hown : w0.ownsRow base e size v n xs) (hs : a.eval s = v)
    {b c : Nat} (hx : a.eval x = .slice (some ⟨b, 0, none⟩) 1 c) (hb : b = w0.heap.size) (hcs : cs.size = size) (h1 : cs.toList.all Value.oneCell' = true)
    (h63 : n + 1 ≤ 1073741824) (hbytes : bytes ≤ 1024) (hbase : base ≤ w0.heap.size)
    (h : ∀ (g c' : Nat) (w' : World), w'.ownsRow base e size (.slice (some ⟨g, 0, none⟩) (n + 1) c') (n + 1) (xs ++ cs.toList) → (w0.alloc (.cells cs t0)).grownBy w' v.ownBlock → (v.ownBlock = some g ∨ (w0.alloc (.cells cs t0)).heap.size ≤ g) → wpListIn F nF P ops Q rest (a.put o.dst (.slice (some ⟨g, 0, none⟩) (n + 1) c')) w') :
    wpListIn F nF P ops Q (o :: rest) a (w0.alloc (.cells cs t0)) := by
  obtain ⟨ht, hinf, hzs, hsz⟩ := T
  obtain ⟨i, hi, hz, hz1, hz2⟩ := info_parts hinf
  subst hb
  refine wpListIn_append_own_at _ hgd s x t ho base e i z size bytes ht hi hz hz1 hz2 hzs hsz v n xs hs (hown.alloc _) ⟨w0.heap.size, 0, none⟩ 1 c cs.toList hx (by simp [hcs]) ?_ ?_ (by unfold maxLen; omega) ?_ (by simp; omega) ?_
  · intro j u hj
    have hj' : cs[j]? = some u := by simpa using hj
    have e : (⟨w0.heap.size, 0, none⟩ : Addr).add j = ⟨w0.heap.size, j, none⟩ := by simp only [Addr.add]; split <;> simp_all
    rw [e]
    simp only [World.cell?, heap_alloc_new]
    exact hj'
  · intro u hu
    exact List.all_eq_true.1 h1 u hu
  · have : (n + 1) * bytes ≤ 1073741824 * 1024 := Nat.mul_le_mul h63 hbytes
    omega
  · intro v' w' ho' hg _ hat
    rcases ho'.2 with ⟨_, hn⟩ | ⟨g, cap, cur, rfl, hr⟩
    · omega
    · refine h g cap w' ho' hg ?_
      rcases hat with hat | hat
      · exact .inl hat.symm
      · simp [Value.ownBlock] at hat; exact .inr (by simp; omega)
theorem row_full {base : Nat} {e : TypeId} {size : Nat} (w : World) (cur : Array Value) (n : Nat) (g : Nat) (hgw : g = w.heap.size) (hb : base ≤ w.heap.size) (hm : n ≤ maxLen) (hs : cur.size = n * size) :
    (w.alloc (.cells cur e)).ownsRow base e size (.slice (some ⟨g, 0, none⟩) n n) n cur.toList := by
  subst hgw
  exact ⟨by simpa [Nat.mul_comm] using hs, .inr ⟨w.heap.size, n, cur, rfl, hb, heap_alloc_new w _, Nat.le_refl _, hm, hs, by rw [← hs, ← Array.length_toList, List.take_length]⟩⟩
theorem row_mono {w : World} {base base' : Nat} {e : TypeId} {size n : Nat} {v : Value} {xs : List Value} (h : w.ownsRow base e size v n xs) (hb : base' ≤ base) : w.ownsRow base' e size v n xs :=
  ⟨h.1, h.2.imp id fun ⟨g, cap, cur, e1, h1, r⟩ => ⟨g, cap, cur, e1, Nat.le_trans hb h1, r⟩⟩
end Go.Proofs.Ytjceppinjeehiaa
