/- The map from elements to their events. -/
import Derived.Test.YtndfdgdahinkpaaGreatOrdB
namespace Go.Proofs.YtndfdgdahinkpaaGreat
open Go.RowKit Go.WideMaps
def evF (K : List EvD) (e : ElD) : Option Value := (K.find? (fun x => decide (x.e = e))).map evD
theorem evF_snoc (K : List EvD) (x : EvD) (h : ∀ y ∈ K, y.e ≠ x.e) : evF (K ++ [x]) = fun e => if e = x.e then some (evD x) else evF K e := by
  funext e
  unfold evF
  rw [List.find?_append]
  by_cases he : e = x.e
  · subst he
    rw [if_pos rfl, List.find?_eq_none.2 (fun y hy => by simpa using h y hy)]
    simp
  · rw [if_neg he]
    have : List.find? (fun y => decide (y.e = e)) [x] = none := by
      simp only [List.find?_cons, List.find?_nil, decide_eq_false (fun h' : x.e = e => he h'.symm)]
    rw [this]; simp
theorem evF_new {K : List EvD} {x : EvD} (h : ∀ y ∈ K, y.e ≠ x.e) : evF K x.e = none := by
  unfold evF
  rw [List.find?_eq_none.2 (fun y hy => by simpa using h y hy)]; rfl
abbrev EvMap (w : World) (b n : Nat) (K : List EvD) : Prop := MapN Tryz.prog 55 elD w b n (evF K)
theorem EvMap.made (w : World) : EvMap (w.alloc (.map #[] 0)) w.heap.size 0 [] := by
  have := MapN.made Tryz.prog 55 elD w
  simpa [EvMap, show (evF ([] : List EvD)) = fun _ => none from by funext a; simp [evF]] using this
theorem elD_inj : ∀ a b : ElD, elD a = elD b → a = b := by
  rintro ⟨a, x, y, z⟩ ⟨b, x', y', z'⟩ h
  simp only [elD, Value.agg.injEq, Array.mk.injEq, List.cons.injEq, Value.int.injEq, true_and, and_true] at h
  simpa using h
set_option maxRecDepth 100000 in
theorem EvMap.step {w : World} {b n : Nat} {K : List EvD} (h : EvMap w b n K) (hn : n < 1000000) (x : EvD) (hx : wfE x.e) (hnew : ∀ y ∈ K, y.e ≠ x.e) :
    ∃ w1, (Instr.mapUpdate 51 (.map (some b)) (elD x.e) (evD x)).run Tryz.prog w = .ok () w1 ∧ EvMap w1 b (n + 1) (K ++ [x]) ∧ w.grownBy w1 (some b) := by
  obtain ⟨kl, hk⟩ := key_el x.e hx
  obtain ⟨w1, hr, hm, hg⟩ := MapN.put_new h (Maps.Keyed.of_law law_el) (t := 51) Tryz.underlying51 elD_inj hn (evF_new hnew) hk (evD x)
  exact ⟨w1, hr, by unfold EvMap; rw [evF_snoc K x hnew]; exact hm, hg⟩
theorem zv_evt (u : World) : (zeroValue 57).run Tryz.prog u = .ok (.agg #[.int .i64 0, .int .i64 0, .int .i64 0, .int .i64 0, .int .i64 0, .int .i64 0, .int .i64 0]) u := by kernel_rfl
set_option maxRecDepth 100000 in
theorem EvMap.look {w : World} {b n : Nat} {K : List EvD} (h : EvMap w b n K) (a : ElD) (ha : wfE a) (V : World) (hV : Below w.heap.size w V) :
    (Instr.lookup 51 (.map (some b)) (elD a) true).run Tryz.prog V = .ok (.tuple #[(evF K a).getD (.agg #[.int .i64 0, .int .i64 0, .int .i64 0, .int .i64 0, .int .i64 0, .int .i64 0, .int .i64 0]), .bool (evF K a).isSome]) V := by
  obtain ⟨kl, hk⟩ := key_el a ha
  exact MapV.lookOk (MapV.kept h.mapV hV) (Maps.Keyed.of_law law_el) (t := 51) Tryz.underlying51 (zv_evt V) hk
end Go.Proofs.YtndfdgdahinkpaaGreat
