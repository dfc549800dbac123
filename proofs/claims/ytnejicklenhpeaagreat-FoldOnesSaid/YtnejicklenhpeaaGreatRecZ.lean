/- Which recurrences are valid, plainly; and the small walks of package rec. Package rec: beyond and validVar's test of an argument: their walks. Package rec: validVar: its walk. Package rec: Valid: its walk. Conditions: none. -/
import Derived.Test.YtnejicklenhpeaaGreatRecY
import Derived.Test.YtnejicklenhpeaaGreatKitA
import Derived.Laws.EntriesVeiled
import Derived.Deep.MidRow
import Derived.StringKeys
namespace Go.Proofs.YtnejicklenhpeaaGreat
open Go.RowKit
def needsI (op : Int) : Int := if op = 1 then 1 else if op = 5 then 3 else if 1 ≤ op ∧ op ≤ 7 then 2 else 0
def chr0 (s : ByteArray) : Int := if h : 0 < s.size then (s[0].toNat : Int) else 0
def nameB (s : ByteArray) : Bool := decide (s.size = 1) && (decide (97 ≤ chr0 s) && decide (chr0 s ≤ 122))
def initB (n : Int) (v : VarD) : Bool := btw 0 v.i0 10006 && btw 0 v.i1 10006 && (btw 0 v.i2 10006 && (decide (1 < n) || decide (v.i2 = 0))) && (btw 0 v.i3 10006 && (decide (2 < n) || decide (v.i3 = 0)))
def argB (n nv : Int) (a : ArgD) : Bool := flatB n a.at_.1 a.at_.2.1 a.at_.2.2 3 && btw 0 a.var (nv - 1)
def varB (n nv : Int) (v : VarD) : Bool := btw 1 v.op 7 && (nameB v.name && (decide ((v.args.length : Int) = needsI v.op) && (initB n v && v.args.all (argB n nv))))
def names (l : List VarD) : List ByteArray := l.map (·.name)
def validR (n : Int) (l : List IneqD) (vs : List VarD) : Bool := validD n l && (decide ((ptsL n l).length ≤ 1000) && (decide (1 ≤ vs.length ∧ vs.length ≤ 4) && (vs.all (varB n vs.length) && decide (names vs).Nodup)))
def kindZ : Array Value := #[.string ⟨#[]⟩, .int .i64 0, .nilFunc, .string ⟨#[]⟩, .int .i64 0, .nilFunc, .string ⟨#[]⟩, .int .i64 0, .nilFunc, .string ⟨#[]⟩, .int .i64 0, .nilFunc, .string ⟨#[]⟩, .int .i64 0, .nilFunc, .string ⟨#[]⟩, .int .i64 0, .nilFunc, .string ⟨#[]⟩, .int .i64 0, .nilFunc, .string ⟨#[]⟩, .int .i64 0, .nilFunc]
def kindC : Array Value := #[.string ⟨#[]⟩, .int .i64 0, .nilFunc, .string ⟨#[99, 111, 112, 121]⟩, .int .i64 1, .func (.func 247) #[] #[], .string ⟨#[97, 100, 100]⟩, .int .i64 2, .func (.func 248) #[] #[], .string ⟨#[115, 117, 98]⟩, .int .i64 2, .func (.func 249) #[] #[], .string ⟨#[109, 117, 108]⟩, .int .i64 2, .func (.func 250) #[] #[], .string ⟨#[102, 109, 97]⟩, .int .i64 3, .func (.func 251) #[] #[], .string ⟨#[109, 97, 120]⟩, .int .i64 2, .func (.func 252) #[] #[], .string ⟨#[109, 105, 110]⟩, .int .i64 2, .func (.func 253) #[] #[]]
/-- The world in which the table of the operations lies. -/
def kindW0 (w : World) : World := (w.alloc (.cells #[.string ⟨#[]⟩, .int .i64 0, .nilFunc] 287)).alloc (.cells kindZ 318)
def kindW (w : World) : World := (kindW0 w).setCells (w.heap.size + 1) 0 kindC.toList
theorem kind_there (w : World) : (kindW0 w).there (w.heap.size + 1) 0 kindC.size := fun j hj => by
  have hj2 : j < kindZ.size := hj
  have hn := heap_alloc_new (w.alloc (.cells #[.string ⟨#[]⟩, .int .i64 0, .nilFunc] 287)) (.cells kindZ 318)
  rw [World.size_alloc] at hn
  simp only [Nat.zero_add]
  unfold kindW0
  refine ⟨?_, ?_⟩
  · simp only [World.cell?, hn]
    simp [hj2]
  · simp only [World.frozen?, hn]
    simp
theorem kindW_size (w : World) : (kindW w).heap.size = w.heap.size + 2 := by
  have h : ∀ (vs : List Value) (b o : Nat) (w : World), (w.setCells b o vs).heap.size = w.heap.size := fun vs => by
    induction vs with
    | nil => intro b o w; rfl
    | cons v r ih => intro b o w; rw [World.setCells, ih]; simp
  unfold kindW
  rw [h]
  unfold kindW0
  simp
theorem kindW_at (w : World) (j : Nat) (v : Value) (h : kindC.toList[j]? = some v) : (kindW w).cell? ⟨w.heap.size + 1, j, none⟩ = some v := by
  have := World.rangeAt_setCells_same (kindW0 w) (w.heap.size + 1) 0 kindC.toList (kind_there w) j v h
  rwa [Nat.zero_add] at this
theorem kindW0_below (w : World) : Below w.heap.size w (kindW0 w) := by
  unfold kindW0
  exact ((Below.refl _ _).alloc (Nat.le_refl _) _).alloc (by simp) _
theorem setCells_below {B : Nat} {a : World} {b : Nat} (hB : B ≤ b) : ∀ (vs : List Value) (o : Nat) {w : World}, Below B a w → Below B a (w.setCells b o vs)
  | [], _, _, h => h
  | v :: r, o, w, h => by
    rw [World.setCells]
    exact setCells_below hB r (o + 1) (h.setCell hB v)
theorem kindW_below (w : World) : Below w.heap.size w (kindW w) := setCells_below (by omega) _ _ (kindW0_below w)
theorem kindW_below1 (w : World) : Below (w.heap.size + 1) (w.alloc (.cells #[.string ⟨#[]⟩, .int .i64 0, .nilFunc] 287)) (kindW w) :=
  setCells_below (by omega) _ _ (by unfold kindW0; exact (Below.refl _ _).alloc (by simp) _)
def KindR (n : Int) (e : Ending) : Prop := ∃ (wd : ByteArray) (fn : Nat), e = .returned (.tuple #[.agg #[.string wd, .int .i64 n, .func (.func fn) #[] #[]], .bool true])
def KindAny (op : Int) (e : Ending) : Prop := if btw 1 op 7 = true then KindR (needsI op) e else e = .returned (.tuple #[.agg #[.string ⟨#[]⟩, .int .i64 0, .nilFunc], .bool false])
set_option maxHeartbeats 4000000 in
theorem kindOf_l (op : Int) (w : World) :
    Calls Tryz.prog 214 #[.int .i64 op] w fun e w' => KindAny op e ∧ Below w.heap.size w w' := by
  go_enter Tryz.func214, Tryz.ntmps214
  go_wp2_with (first | ((with_reducible refine wpList_store_mid (op := ⟨none, .store 318 (.tmp 4) (.tmp 12), _, _, _, _⟩) ?g1 318 (.tmp 4) (.tmp 12) ?g2 (w.heap.size + 1) 0 kindC ?g3 ?g4 ?g5 ?g6 ?g7 ?g8); go_must (case g1 => rfl); go_must (case g2 => rfl); go_must (case g3 => rfl); go_must (case g4 => rfl); go_must (case g5 => exact kind_there w); go_must (case g6 => kernel_rfl); go_must (case g7 => kernel_rfl); go_must (change wpList _ _ _ _ _ (kindW w))))
  have hsz := kindW_size w
  have KW := Lib.hid (kindW_below w)
  have y0 : (kindW w).cell? ⟨w.heap.size, 0, none⟩ = some (.string ⟨#[]⟩) := ((kindW_below1 w).cell (p := ⟨w.heap.size, 0, none⟩) (by simp)).trans (by go_simp)
  have y1 : (kindW w).cell? ⟨w.heap.size, 1, none⟩ = some (.int .i64 0) := ((kindW_below1 w).cell (p := ⟨w.heap.size, 1, none⟩) (by simp)).trans (by go_simp)
  have y2 : (kindW w).cell? ⟨w.heap.size, 2, none⟩ = some .nilFunc := ((kindW_below1 w).cell (p := ⟨w.heap.size, 2, none⟩) (by simp)).trans (by go_simp)
  have g0 : (kindW w).frozen? ⟨w.heap.size, 0, none⟩ = false := ((kindW_below1 w).frozen (p := ⟨w.heap.size, 0, none⟩) (by simp)).trans (by go_simp)
  have g1 : (kindW w).frozen? ⟨w.heap.size, 1, none⟩ = false := ((kindW_below1 w).frozen (p := ⟨w.heap.size, 1, none⟩) (by simp)).trans (by go_simp)
  have g2 : (kindW w).frozen? ⟨w.heap.size, 2, none⟩ = false := ((kindW_below1 w).frozen (p := ⟨w.heap.size, 2, none⟩) (by simp)).trans (by go_simp)
  refine (rbetween_l _ _ _ _).mono ?_
  rintro e w1 ⟨rfl, rfl⟩
  have hat := fun j v h => kindW_at w j v h
  generalize kindW w = W at *
  cases hb : btw 1 op 7
  · have HB := Lib.hid hb
    clear hat hb
    go_wp2
    refine bodyPost_ret (v := .tuple #[.agg #[.string ⟨#[]⟩, .int .i64 0, .nilFunc], .bool false]) (by simp only [results, Tryz.results214]; first | (go_simp; done) | (go_simp; rfl)) rfl ⟨by unfold KindAny; rw [HB.out]; simp, ?_⟩
    exact ((KW.out.setCell (p := ⟨w.heap.size, 0, none⟩) (by simp) _).setCell (p := ⟨w.heap.size, 1, none⟩) (by simp) _).setCell (p := ⟨w.heap.size, 2, none⟩) (by simp) _
  have HB := Lib.hid hb
  have hb2 := btw_out hb
  clear hb
  obtain rfl | rfl | rfl | rfl | rfl | rfl | rfl : op = 1 ∨ op = 2 ∨ op = 3 ∨ op = 4 ∨ op = 5 ∨ op = 6 ∨ op = 7 := by omega
  · have k0 := hat 3 (.string ⟨#[99, 111, 112, 121]⟩) rfl
    have k1 := hat 4 (.int .i64 1) rfl
    have k2 := hat 5 (.func (.func 247) #[] #[]) rfl
    clear hat
    go_wp2
    refine bodyPost_ret (v := .tuple #[.agg #[.string ⟨#[99, 111, 112, 121]⟩, .int .i64 1, .func (.func 247) #[] #[]], .bool true]) (by simp only [results, Tryz.results214]; first | (go_simp; done) | (go_simp; rfl)) rfl ⟨by unfold KindAny; rw [HB.out, if_pos rfl]; exact ⟨_, _, rfl⟩, ?_⟩
    exact ((KW.out.setCell (p := ⟨w.heap.size, 0, none⟩) (by simp) _).setCell (p := ⟨w.heap.size, 1, none⟩) (by simp) _).setCell (p := ⟨w.heap.size, 2, none⟩) (by simp) _
  · have k0 := hat 6 (.string ⟨#[97, 100, 100]⟩) rfl
    have k1 := hat 7 (.int .i64 2) rfl
    have k2 := hat 8 (.func (.func 248) #[] #[]) rfl
    clear hat
    go_wp2
    refine bodyPost_ret (v := .tuple #[.agg #[.string ⟨#[97, 100, 100]⟩, .int .i64 2, .func (.func 248) #[] #[]], .bool true]) (by simp only [results, Tryz.results214]; first | (go_simp; done) | (go_simp; rfl)) rfl ⟨by unfold KindAny; rw [HB.out, if_pos rfl]; exact ⟨_, _, rfl⟩, ?_⟩
    exact ((KW.out.setCell (p := ⟨w.heap.size, 0, none⟩) (by simp) _).setCell (p := ⟨w.heap.size, 1, none⟩) (by simp) _).setCell (p := ⟨w.heap.size, 2, none⟩) (by simp) _
  · have k0 := hat 9 (.string ⟨#[115, 117, 98]⟩) rfl
    have k1 := hat 10 (.int .i64 2) rfl
    have k2 := hat 11 (.func (.func 249) #[] #[]) rfl
    clear hat
    go_wp2
    refine bodyPost_ret (v := .tuple #[.agg #[.string ⟨#[115, 117, 98]⟩, .int .i64 2, .func (.func 249) #[] #[]], .bool true]) (by simp only [results, Tryz.results214]; first | (go_simp; done) | (go_simp; rfl)) rfl ⟨by unfold KindAny; rw [HB.out, if_pos rfl]; exact ⟨_, _, rfl⟩, ?_⟩
    exact ((KW.out.setCell (p := ⟨w.heap.size, 0, none⟩) (by simp) _).setCell (p := ⟨w.heap.size, 1, none⟩) (by simp) _).setCell (p := ⟨w.heap.size, 2, none⟩) (by simp) _
  · have k0 := hat 12 (.string ⟨#[109, 117, 108]⟩) rfl
    have k1 := hat 13 (.int .i64 2) rfl
    have k2 := hat 14 (.func (.func 250) #[] #[]) rfl
    clear hat
    go_wp2
    refine bodyPost_ret (v := .tuple #[.agg #[.string ⟨#[109, 117, 108]⟩, .int .i64 2, .func (.func 250) #[] #[]], .bool true]) (by simp only [results, Tryz.results214]; first | (go_simp; done) | (go_simp; rfl)) rfl ⟨by unfold KindAny; rw [HB.out, if_pos rfl]; exact ⟨_, _, rfl⟩, ?_⟩
    exact ((KW.out.setCell (p := ⟨w.heap.size, 0, none⟩) (by simp) _).setCell (p := ⟨w.heap.size, 1, none⟩) (by simp) _).setCell (p := ⟨w.heap.size, 2, none⟩) (by simp) _
  · have k0 := hat 15 (.string ⟨#[102, 109, 97]⟩) rfl
    have k1 := hat 16 (.int .i64 3) rfl
    have k2 := hat 17 (.func (.func 251) #[] #[]) rfl
    clear hat
    go_wp2
    refine bodyPost_ret (v := .tuple #[.agg #[.string ⟨#[102, 109, 97]⟩, .int .i64 3, .func (.func 251) #[] #[]], .bool true]) (by simp only [results, Tryz.results214]; first | (go_simp; done) | (go_simp; rfl)) rfl ⟨by unfold KindAny; rw [HB.out, if_pos rfl]; exact ⟨_, _, rfl⟩, ?_⟩
    exact ((KW.out.setCell (p := ⟨w.heap.size, 0, none⟩) (by simp) _).setCell (p := ⟨w.heap.size, 1, none⟩) (by simp) _).setCell (p := ⟨w.heap.size, 2, none⟩) (by simp) _
  · have k0 := hat 18 (.string ⟨#[109, 97, 120]⟩) rfl
    have k1 := hat 19 (.int .i64 2) rfl
    have k2 := hat 20 (.func (.func 252) #[] #[]) rfl
    clear hat
    go_wp2
    refine bodyPost_ret (v := .tuple #[.agg #[.string ⟨#[109, 97, 120]⟩, .int .i64 2, .func (.func 252) #[] #[]], .bool true]) (by simp only [results, Tryz.results214]; first | (go_simp; done) | (go_simp; rfl)) rfl ⟨by unfold KindAny; rw [HB.out, if_pos rfl]; exact ⟨_, _, rfl⟩, ?_⟩
    exact ((KW.out.setCell (p := ⟨w.heap.size, 0, none⟩) (by simp) _).setCell (p := ⟨w.heap.size, 1, none⟩) (by simp) _).setCell (p := ⟨w.heap.size, 2, none⟩) (by simp) _
  · have k0 := hat 21 (.string ⟨#[109, 105, 110]⟩) rfl
    have k1 := hat 22 (.int .i64 2) rfl
    have k2 := hat 23 (.func (.func 253) #[] #[]) rfl
    clear hat
    go_wp2
    refine bodyPost_ret (v := .tuple #[.agg #[.string ⟨#[109, 105, 110]⟩, .int .i64 2, .func (.func 253) #[] #[]], .bool true]) (by simp only [results, Tryz.results214]; first | (go_simp; done) | (go_simp; rfl)) rfl ⟨by unfold KindAny; rw [HB.out, if_pos rfl]; exact ⟨_, _, rfl⟩, ?_⟩
    exact ((KW.out.setCell (p := ⟨w.heap.size, 0, none⟩) (by simp) _).setCell (p := ⟨w.heap.size, 1, none⟩) (by simp) _).setCell (p := ⟨w.heap.size, 2, none⟩) (by simp) _
end Go.Proofs.YtnejicklenhpeaaGreat
namespace Go.Proofs.YtnejicklenhpeaaGreat
open Go.RowKit
theorem v11_l (x : Int) (w : World) : Calls Tryz.prog 217 #[.int .i64 x] w fun e w' => e = .returned (.bool (!btw (-3) x 3)) ∧ Below w.heap.size w w' := by
  generalize hb : btw (-3) x 3 = b
  have HB := Lib.hid hb; clear hb
  go_enter Tryz.func217, Tryz.ntmps217
  go_wp2_with (go_at_call 157; refine (rbetween_l _ _ _ _).mono ?_; go_must (rintro e w1 ⟨rfl, rfl⟩; rw [HB.out]))
  go_ret
  exact ⟨rfl, by repeat (first | exact Below.refl _ _ | assumption | (refine Below.drew ?_) | (refine below_drewN ?_ _) | (refine Below.alloc ?_ (by first | (simp; done) | (simp; omega) | omega) _) | (refine Below.setCell ?_ (by first | (simp; done) | (simp; omega) | omega) _) | (refine Below.trans ?_ (Below.mono (by assumption) (by first | (simp; done) | (simp; omega) | omega))))⟩
theorem by1_l (x : Int) (w : World) : Calls Tryz.prog 255 #[.int .i64 x] w fun e w' => e = .returned (.bool (!decide (x = 0))) ∧ Below w.heap.size w w' := by
  by_cases h : x = 0
  · subst h
    go_enter Tryz.func255, Tryz.ntmps255
    go_wp2
    go_ret
    exact ⟨by simp, by repeat (first | exact Below.refl _ _ | assumption | (refine Below.drew ?_) | (refine below_drewN ?_ _) | (refine Below.alloc ?_ (by first | (simp; done) | (simp; omega) | omega) _) | (refine Below.setCell ?_ (by first | (simp; done) | (simp; omega) | omega) _) | (refine Below.trans ?_ (Below.mono (by assumption) (by first | (simp; done) | (simp; omega) | omega))))⟩
  · go_enter Tryz.func255, Tryz.ntmps255
    go_wp2
    go_ret
    exact ⟨ret_bool (by simp [h]), by repeat (first | exact Below.refl _ _ | assumption | (refine Below.drew ?_) | (refine below_drewN ?_ _) | (refine Below.alloc ?_ (by first | (simp; done) | (simp; omega) | omega) _) | (refine Below.setCell ?_ (by first | (simp; done) | (simp; omega) | omega) _) | (refine Below.trans ?_ (Below.mono (by assumption) (by first | (simp; done) | (simp; omega) | omega))))⟩
theorem sz_v11 (W : World) : (sizeOf (Tryz.prog.elem 39)).run Tryz.prog W = .ok 1 W := by kernel_rfl
theorem un_v11 : Tryz.prog.underlying 39 = some (.slice (Tryz.prog.elem 39)) := by kernel_rfl
set_option maxHeartbeats 4000000 in
set_option maxRecDepth 100000 in
theorem idx_v11  (l : List Int) (p : Int → Bool) (w : World) (v : Value) (hv : SlOf w w.heap.size 1 encInt v l)
    (hf : ∀ q ∈ l, ∀ W, Below w.heap.size w W → Calls Tryz.prog 217 #[.int .i64 q] W fun e W' => e = .returned (.bool (p q)) ∧ Below W.heap.size W W') :
    Calls Tryz.prog 212 #[v, .func (.func 217) #[] #[]] w fun e w' => (∃ z : Int, e = .returned (.int .i64 z) ∧ decide (0 ≤ z) = l.any p) ∧ Below w.heap.size w w' := by
  obtain ⟨a, cap, g, off, rfl, hlc, hcm, hx⟩ := SlOf.at (enc := encInt) (fun _ => rfl) un_v11 sz_v11 hv
  have HX := Lib.hid hx; clear hx hv
  have HF := Lib.hid hf; clear hf
  unfold maxLen at hcm
  go_enter Tryz.func212, Tryz.ntmps212
  go_wp2
  go_loopw [8] (fun i wr => ∃ k : Nat, k ≤ l.length ∧ i = .int .i64 (k : Nat) ∧ (∀ j (h : j < l.length), j < k → p l[j] = false) ∧ Below w.heap.size w wr) (fun i _ => l.length - (intOf i).toNat)
  case atStart => exact ⟨0, Nat.zero_le _, rfl, fun j _ h => absurd h (by omega), Below.refl _ _⟩
  case round =>
    obtain ⟨k, hk, rfl, hno, hb⟩ := hrel
    have HNO := Lib.hid hno; clear hno
    by_cases hlt : k < l.length
    rotate_left
    · go_wp2
      go_ret
      refine ⟨⟨-1, rfl, ?_⟩, hb⟩
      have : l.any p = false := List.any_eq_false.2 (fun c hc => by
        obtain ⟨j, hj, rfl⟩ := List.getElem_of_mem hc
        rw [HNO.out j hj (by omega)]
        simp)
      rw [this]; rfl
    obtain ⟨-, hi, hg, hc⟩ := HX.out k hlt
    have rd := fun j hj => (hb.cell (p := ⟨g, off + 1 * k + j, none⟩) hg).trans (hc j hj)
    clear hc
    have HFK := Lib.hid (HF.out l[k] (List.getElem_mem hlt) wr hb)
    cases hbd : p l[k]
    · have HBD := Lib.hid hbd; clear hbd
      have HFK2 := Lib.hid (HBD.out ▸ HFK.out); clear HFK
      generalize l[k] = q at HFK2 rd
      skip
      have r0 : wr.cell? ⟨g, off + k, none⟩ = some (.int .i64 q) := by have := rd 0 (by omega); simpa [encInt] using this
      simp only [Nat.one_mul] at hi
      clear rd
      go_wp2_with (go_at_call 217; refine HFK2.out.mono ?_; go_must (rintro e w1 ⟨rfl, hb1⟩))
      go_roundw
      case rel =>
        refine ⟨k + 1, hlt, by simp, fun j h hj => ?_, hb.trans (hb1.mono hb.size)⟩
        by_cases he : j = k
        · subst he; exact HBD.out
        · exact HNO.out j h (by omega)
      case measure => simp only [intOf]; omega
    · have HBD := Lib.hid hbd; clear hbd
      have HFK2 := Lib.hid (HBD.out ▸ HFK.out); clear HFK
      generalize l[k] = q at HFK2 rd
      skip
      have r0 : wr.cell? ⟨g, off + k, none⟩ = some (.int .i64 q) := by have := rd 0 (by omega); simpa [encInt] using this
      simp only [Nat.one_mul] at hi
      clear rd
      go_wp2_with (go_at_call 217; refine HFK2.out.mono ?_; go_must (rintro e w1 ⟨rfl, hb1⟩))
      go_ret
      refine ⟨⟨(k : Int), rfl, ?_⟩, hb.trans (hb1.mono hb.size)⟩
      have : l.any p = true := List.any_eq_true.2 ⟨_, List.getElem_mem hlt, HBD.out⟩
      rw [this]; simp
set_option maxHeartbeats 4000000 in
theorem con_v11  (l : List Int) (p : Int → Bool) (w : World) (v : Value) (hv : SlOf w w.heap.size 1 encInt v l)
    (hf : ∀ q ∈ l, ∀ W, Below w.heap.size w W → Calls Tryz.prog 217 #[.int .i64 q] W fun e W' => e = .returned (.bool (p q)) ∧ Below W.heap.size W W') :
    Calls Tryz.prog 171 #[v, .func (.func 217) #[] #[]] w fun e w' => e = .returned (.bool (l.any p)) ∧ Below w.heap.size w w' := by
  have H := Lib.hid ((idx_v11 (l := l) (p := p) (w := w) (v := v) (hv := hv) (hf := hf)))
  clear hv hf
  go_enter Tryz.func171, Tryz.ntmps171
  go_wp2_with (go_at_call 212; refine H.out.mono ?_; clear H; go_must (rintro e w1 ⟨⟨z, rfl, hz⟩, hb1⟩; have HZ := Lib.hid hz; clear hz))
  go_ret
  exact ⟨ret_bool HZ.out, hb1⟩
theorem sz_by1 (W : World) : (sizeOf (Tryz.prog.elem 39)).run Tryz.prog W = .ok 1 W := by kernel_rfl
theorem un_by1 : Tryz.prog.underlying 39 = some (.slice (Tryz.prog.elem 39)) := by kernel_rfl
set_option maxHeartbeats 4000000 in
set_option maxRecDepth 100000 in
theorem idx_by1  (l : List Int) (p : Int → Bool) (w : World) (v : Value) (hv : SlOf w w.heap.size 1 encInt v l)
    (hf : ∀ q ∈ l, ∀ W, Below w.heap.size w W → Calls Tryz.prog 255 #[.int .i64 q] W fun e W' => e = .returned (.bool (p q)) ∧ Below W.heap.size W W') :
    Calls Tryz.prog 212 #[v, .func (.func 255) #[] #[]] w fun e w' => (∃ z : Int, e = .returned (.int .i64 z) ∧ decide (0 ≤ z) = l.any p) ∧ Below w.heap.size w w' := by
  obtain ⟨a, cap, g, off, rfl, hlc, hcm, hx⟩ := SlOf.at (enc := encInt) (fun _ => rfl) un_by1 sz_by1 hv
  have HX := Lib.hid hx; clear hx hv
  have HF := Lib.hid hf; clear hf
  unfold maxLen at hcm
  go_enter Tryz.func212, Tryz.ntmps212
  go_wp2
  go_loopw [8] (fun i wr => ∃ k : Nat, k ≤ l.length ∧ i = .int .i64 (k : Nat) ∧ (∀ j (h : j < l.length), j < k → p l[j] = false) ∧ Below w.heap.size w wr) (fun i _ => l.length - (intOf i).toNat)
  case atStart => exact ⟨0, Nat.zero_le _, rfl, fun j _ h => absurd h (by omega), Below.refl _ _⟩
  case round =>
    obtain ⟨k, hk, rfl, hno, hb⟩ := hrel
    have HNO := Lib.hid hno; clear hno
    by_cases hlt : k < l.length
    rotate_left
    · go_wp2
      go_ret
      refine ⟨⟨-1, rfl, ?_⟩, hb⟩
      have : l.any p = false := List.any_eq_false.2 (fun c hc => by
        obtain ⟨j, hj, rfl⟩ := List.getElem_of_mem hc
        rw [HNO.out j hj (by omega)]
        simp)
      rw [this]; rfl
    obtain ⟨-, hi, hg, hc⟩ := HX.out k hlt
    have rd := fun j hj => (hb.cell (p := ⟨g, off + 1 * k + j, none⟩) hg).trans (hc j hj)
    clear hc
    have HFK := Lib.hid (HF.out l[k] (List.getElem_mem hlt) wr hb)
    cases hbd : p l[k]
    · have HBD := Lib.hid hbd; clear hbd
      have HFK2 := Lib.hid (HBD.out ▸ HFK.out); clear HFK
      generalize l[k] = q at HFK2 rd
      skip
      have r0 : wr.cell? ⟨g, off + k, none⟩ = some (.int .i64 q) := by have := rd 0 (by omega); simpa [encInt] using this
      simp only [Nat.one_mul] at hi
      clear rd
      go_wp2_with (go_at_call 255; refine HFK2.out.mono ?_; go_must (rintro e w1 ⟨rfl, hb1⟩))
      go_roundw
      case rel =>
        refine ⟨k + 1, hlt, by simp, fun j h hj => ?_, hb.trans (hb1.mono hb.size)⟩
        by_cases he : j = k
        · subst he; exact HBD.out
        · exact HNO.out j h (by omega)
      case measure => simp only [intOf]; omega
    · have HBD := Lib.hid hbd; clear hbd
      have HFK2 := Lib.hid (HBD.out ▸ HFK.out); clear HFK
      generalize l[k] = q at HFK2 rd
      skip
      have r0 : wr.cell? ⟨g, off + k, none⟩ = some (.int .i64 q) := by have := rd 0 (by omega); simpa [encInt] using this
      simp only [Nat.one_mul] at hi
      clear rd
      go_wp2_with (go_at_call 255; refine HFK2.out.mono ?_; go_must (rintro e w1 ⟨rfl, hb1⟩))
      go_ret
      refine ⟨⟨(k : Int), rfl, ?_⟩, hb.trans (hb1.mono hb.size)⟩
      have : l.any p = true := List.any_eq_true.2 ⟨_, List.getElem_mem hlt, HBD.out⟩
      rw [this]; simp
set_option maxHeartbeats 4000000 in
theorem con_by1  (l : List Int) (p : Int → Bool) (w : World) (v : Value) (hv : SlOf w w.heap.size 1 encInt v l)
    (hf : ∀ q ∈ l, ∀ W, Below w.heap.size w W → Calls Tryz.prog 255 #[.int .i64 q] W fun e W' => e = .returned (.bool (p q)) ∧ Below W.heap.size W W') :
    Calls Tryz.prog 171 #[v, .func (.func 255) #[] #[]] w fun e w' => e = .returned (.bool (l.any p)) ∧ Below w.heap.size w w' := by
  have H := Lib.hid ((idx_by1 (l := l) (p := p) (w := w) (v := v) (hv := hv) (hf := hf)))
  clear hv hf
  go_enter Tryz.func171, Tryz.ntmps171
  go_wp2_with (go_at_call 212; refine H.out.mono ?_; clear H; go_must (rintro e w1 ⟨⟨z, rfl, hz⟩, hb1⟩; have HZ := Lib.hid hz; clear hz))
  go_ret
  exact ⟨ret_bool HZ.out, hb1⟩
theorem sl_ints {W : World} {b off n cap : Nat} (l : List Int) (hn : n = l.length) (hc : n ≤ cap) (hm : cap ≤ 1000) (hb : b < W.heap.size) (h : ∀ i (hi : i < l.length), W.cell? ⟨b, off + i, none⟩ = some (.int .i64 l[i])) : SlOf W W.heap.size 1 encInt (.slice (some ⟨b, off, none⟩) n cap) l := by
  subst hn
  refine ⟨_, cap, rfl, flat_len (enc := encInt) (sz := 1) (fun _ => rfl) l, hc, by unfold maxLen; omega, by simp, .inr ⟨b, off, rfl, hb, fun i hi => ?_⟩⟩
  have hi2 : i < l.length := by simpa using hi
  have h2 := flat_at (enc := encInt) (sz := 1) (fun _ => rfl) l i 0 hi2 (by omega)
  simp only [Nat.one_mul, Nat.add_zero] at h2
  rw [h i hi2, h2]; rfl
def beyB (n x1 x2 : Int) : Bool := (decide (1 < n) || decide (x1 = 0)) && (decide (2 < n) || decide (x2 = 0))
set_option maxHeartbeats 4000000 in
set_option maxRecDepth 100000 in
theorem beyond_l (n x0 x1 x2 : Int) (hn : 1 ≤ n ∧ n ≤ 3) (w : World) : Calls Tryz.prog 218 #[.agg #[.int .i64 x0, .int .i64 x1, .int .i64 x2], .int .i64 n] w fun e w' => e = .returned (.bool (!beyB n x1 x2)) ∧ Below w.heap.size w w' := by
  obtain ⟨W, hW⟩ : ∃ W : World, w.alloc (Obj.cells #[.int .i64 x0, .int .i64 x1, .int .i64 x2] 29) = W := ⟨_, rfl⟩
  have kw : Below w.heap.size w W := by rw [← hW]; exact (by repeat (first | exact Below.refl _ _ | assumption | (refine Below.drew ?_) | (refine below_drewN ?_ _) | (refine Below.alloc ?_ (by first | (simp; done) | (simp; omega) | omega) _) | (refine Below.setCell ?_ (by first | (simp; done) | (simp; omega) | omega) _) | (refine Below.trans ?_ (Below.mono (by assumption) (by first | (simp; done) | (simp; omega) | omega)))))
  have ks : W.heap.size = w.heap.size + 1 := by rw [← hW]; simp
  have y1 : W.cell? ⟨w.heap.size, 1, none⟩ = some (.int .i64 x1) := by subst hW; go_simp
  have y2 : W.cell? ⟨w.heap.size, 2, none⟩ = some (.int .i64 x2) := by subst hW; go_simp
  have HW := Lib.hid hW; have KW := Lib.hid kw; clear hW kw
  obtain rfl | rfl | rfl : n = 1 ∨ n = 2 ∨ n = 3 := by omega
  · have H := Lib.hid (con_by1 [x1, x2] (fun x => !decide (x = 0)) W (.slice (some ⟨w.heap.size, 1, none⟩) 2 2) (sl_ints [x1, x2] rfl (by omega) (by omega) (by omega) (fun i hi => by
      have : i = 0 ∨ i = 1 := by simp at hi; omega
      rcases this with rfl | rfl
      · exact y1
      · exact y2)) (fun q _ V _ => by1_l q V))
    have HR := Lib.hid (show ([x1, x2].any fun x => !decide (x = 0)) = !beyB 1 x1 x2 by simp [beyB])
    clear y1 y2
    go_enter Tryz.func218, Tryz.ntmps218
    go_wp2_with (go_at_call 171; rw [HW.out]; refine H.out.mono ?_; go_must (rintro e w1 ⟨rfl, hb1⟩; rw [HR.out]))
    go_ret
    exact ⟨rfl, below_at KW.out (by omega) hb1⟩
  · have H := Lib.hid (con_by1 [x2] (fun x => !decide (x = 0)) W (.slice (some ⟨w.heap.size, 2, none⟩) 1 1) (sl_ints [x2] rfl (by omega) (by omega) (by omega) (fun i hi => by
      have : i = 0 := by simp at hi; omega
      subst this; exact y2)) (fun q _ V _ => by1_l q V))
    have HR := Lib.hid (show ([x2].any fun x => !decide (x = 0)) = !beyB 2 x1 x2 by simp [beyB])
    clear y1 y2
    go_enter Tryz.func218, Tryz.ntmps218
    go_wp2_with (go_at_call 171; rw [HW.out]; refine H.out.mono ?_; go_must (rintro e w1 ⟨rfl, hb1⟩; rw [HR.out]))
    go_ret
    exact ⟨rfl, below_at KW.out (by omega) hb1⟩
  · have H := Lib.hid (fun o => con_by1 [] (fun x => !decide (x = 0)) W (.slice (some ⟨w.heap.size, o, none⟩) 0 0) (sl_ints [] rfl (by omega) (by omega) (by omega) (fun i hi => by simp at hi)) (fun q _ V _ => by1_l q V))
    have HR := Lib.hid (show (([] : List Int).any fun x => !decide (x = 0)) = !beyB 3 x1 x2 by simp [beyB])
    clear y1 y2
    go_enter Tryz.func218, Tryz.ntmps218
    go_wp2_with (go_at_call 171; rw [HW.out]; refine (H.out _).mono ?_; go_must (rintro e w1 ⟨rfl, hb1⟩; rw [HR.out]))
    go_ret
    exact ⟨rfl, below_at KW.out (by omega) hb1⟩
theorem argB_eq (n nv : Int) (a : ArgD) : argB n nv a = ((btw (-3) a.at_.1 3 && (btw (-3) a.at_.2.1 3 && btw (-3) a.at_.2.2 3)) && (beyB n a.at_.2.1 a.at_.2.2 && btw 0 a.var (nv - 1))) := by
  simp only [argB, flatB, beyB]
  cases btw (-3) a.at_.1 3 <;> cases btw (-3) a.at_.2.1 3 <;> cases btw (-3) a.at_.2.2 3 <;> simp [Bool.and_assoc]
set_option maxHeartbeats 4000000 in
set_option maxRecDepth 100000 in
theorem vv1_l (n nv : Int) (hn : 1 ≤ n ∧ n ≤ 3) (hv : 0 ≤ nv ∧ nv ≤ 1000000) (a : ArgD) (bn bv : Nat) (w : World) (l1 : bn < w.heap.size) (l2 : bv < w.heap.size) (c1 : w.cell? ⟨bn, 0, none⟩ = some (.int .i64 n)) (c2 : w.cell? ⟨bv, 0, none⟩ = some (.int .i64 nv)) :
    Calls Tryz.prog 216 #[.agg #[.int .i64 a.var, .int .i64 a.at_.1, .int .i64 a.at_.2.1, .int .i64 a.at_.2.2], .pointer (some ⟨bn, 0, none⟩), .pointer (some ⟨bv, 0, none⟩)] w fun e w' => e = .returned (.bool (!argB n nv a)) ∧ Below w.heap.size w w' := by
  rw [argB_eq n nv a]
  obtain ⟨av, x0, x1, x2⟩ := a
  simp only
  obtain ⟨hv0, hv1⟩ := hv
  have hz1 := z1 (show bn + 1 ≤ w.heap.size by omega)
  have hz2 := z1 (show bv + 1 ≤ w.heap.size by omega)
  obtain ⟨W, hW⟩ : ∃ W : World, w.alloc (Obj.cells #[.int .i64 av, .int .i64 x0, .int .i64 x1, .int .i64 x2] 223) = W := ⟨_, rfl⟩
  have kw : Below w.heap.size w W := by rw [← hW]; exact (by repeat (first | exact Below.refl _ _ | assumption | (refine Below.drew ?_) | (refine below_drewN ?_ _) | (refine Below.alloc ?_ (by first | (simp; done) | (simp; omega) | omega) _) | (refine Below.setCell ?_ (by first | (simp; done) | (simp; omega) | omega) _) | (refine Below.trans ?_ (Below.mono (by assumption) (by first | (simp; done) | (simp; omega) | omega)))))
  have ks : W.heap.size = w.heap.size + 1 := by rw [← hW]; simp
  have y0 : W.cell? ⟨w.heap.size, 0, none⟩ = some (.int .i64 av) := by subst hW; go_simp
  have y1 : W.cell? ⟨w.heap.size, 1, none⟩ = some (.int .i64 x0) := by subst hW; go_simp
  have y2 : W.cell? ⟨w.heap.size, 2, none⟩ = some (.int .i64 x1) := by subst hW; go_simp
  have y3 : W.cell? ⟨w.heap.size, 3, none⟩ = some (.int .i64 x2) := by subst hW; go_simp
  have d1 := (kw.cell (p := ⟨bn, 0, none⟩) l1).trans c1
  have d2 := (kw.cell (p := ⟨bv, 0, none⟩) l2).trans c2
  have HW := Lib.hid hW; have KW := Lib.hid kw; clear hW kw
  have H := Lib.hid (con_v11 [x0, x1, x2] (fun x => !btw (-3) x 3) W (.slice (some ⟨w.heap.size, 1, none⟩) 3 3) (sl_ints [x0, x1, x2] rfl (by omega) (by omega) (by omega) (fun i hi => by
      have : i = 0 ∨ i = 1 ∨ i = 2 := by simp at hi; omega
      rcases this with rfl | rfl | rfl
      · exact y1
      · exact y2
      · exact y3)) (fun q _ V _ => v11_l q V))
  have HR := Lib.hid (show ([x0, x1, x2].any fun x => !btw (-3) x 3) = !(btw (-3) x0 3 && (btw (-3) x1 3 && btw (-3) x2 3)) by simp [Bool.not_and])
  generalize hA : (btw (-3) x0 3 && (btw (-3) x1 3 && btw (-3) x2 3)) = A at *
  generalize hB : beyB n x1 x2 = B at *
  generalize hC : btw 0 av (nv - 1) = C at *
  have HB := Lib.hid hB; have HC := Lib.hid hC
  clear hA hB hC c1 c2
  have RD := Lib.hid (show ∀ V, Below W.heap.size W V → V.cell? ⟨w.heap.size, 0, none⟩ = some (.int .i64 av) ∧ V.cell? ⟨w.heap.size, 1, none⟩ = some (.int .i64 x0) ∧ V.cell? ⟨w.heap.size, 2, none⟩ = some (.int .i64 x1) ∧ V.cell? ⟨w.heap.size, 3, none⟩ = some (.int .i64 x2) ∧ V.cell? ⟨bn, 0, none⟩ = some (.int .i64 n) ∧ V.cell? ⟨bv, 0, none⟩ = some (.int .i64 nv) from
    fun V hV => ⟨(hV.cell (p := ⟨w.heap.size, 0, none⟩) (by simp; omega)).trans y0, (hV.cell (p := ⟨w.heap.size, 1, none⟩) (by simp; omega)).trans y1, (hV.cell (p := ⟨w.heap.size, 2, none⟩) (by simp; omega)).trans y2, (hV.cell (p := ⟨w.heap.size, 3, none⟩) (by simp; omega)).trans y3, (hV.cell (p := ⟨bn, 0, none⟩) (by simp; omega)).trans d1, (hV.cell (p := ⟨bv, 0, none⟩) (by simp; omega)).trans d2⟩)
  clear y0 y1 y2 y3 d1 d2
  cases A <;> cases B
  all_goals
    go_enter Tryz.func216, Tryz.ntmps216
    go_wp2_with (first | (go_at_call 171; rw [HW.out]; refine H.out.mono ?_; go_must (rintro e w1 ⟨rfl, hb1⟩; rw [HR.out]; have K := hb1; obtain ⟨q0, q1, q2, q3, q4, q5⟩ := RD.out _ K)) | (go_at_call 218; refine (beyond_l _ _ _ _ hn _).mono ?_; go_must (rintro e w2 ⟨rfl, hb2⟩; rw [HB.out]; have K' := below_at K (by have := hb1.size; omega) hb2; clear K q0 q1 q2 q3 q4 q5; have K := K'; clear K'; obtain ⟨q0, q1, q2, q3, q4, q5⟩ := RD.out _ K)) | (go_at_call 157; refine (rbetween_l _ _ _ _).mono ?_; go_must (rintro e w3 ⟨rfl, rfl⟩; rw [HC.out])))
    go_ret
    exact ⟨by simp, below_at KW.out (by omega) K⟩
end Go.Proofs.YtnejicklenhpeaaGreat
namespace Go.Proofs.YtnejicklenhpeaaGreat
open Go.RowKit
theorem ix4_0 (a b c d : Value) (w : World) : (Instr.index 83 (.agg #[a, b, c, d]) (.int .i64 0)).run Tryz.prog w = .ok a w := by kernel_rfl
theorem ix4_1 (a b c d : Value) (w : World) : (Instr.index 83 (.agg #[a, b, c, d]) (.int .i64 1)).run Tryz.prog w = .ok b w := by kernel_rfl
theorem ix4_2 (a b c d : Value) (w : World) : (Instr.index 83 (.agg #[a, b, c, d]) (.int .i64 2)).run Tryz.prog w = .ok c w := by kernel_rfl
theorem ix4_3 (a b c d : Value) (w : World) : (Instr.index 83 (.agg #[a, b, c, d]) (.int .i64 3)).run Tryz.prog w = .ok d w := by kernel_rfl
theorem sz_va (W : World) : (sizeOf (Tryz.prog.elem 82)).run Tryz.prog W = .ok 4 W := by kernel_rfl
theorem un_va : Tryz.prog.underlying 82 = some (.slice (Tryz.prog.elem 82)) := by kernel_rfl
set_option maxHeartbeats 4000000 in
set_option maxRecDepth 100000 in
theorem idx_va (b1 b2 : Value) (l : List ArgD) (p : ArgD → Bool) (w : World) (v : Value) (hv : SlOf w w.heap.size 4 encA v l)
    (hf : ∀ q ∈ l, ∀ W, Below w.heap.size w W → Calls Tryz.prog 216 #[.agg #[.int .i64 q.var, .int .i64 q.at_.1, .int .i64 q.at_.2.1, .int .i64 q.at_.2.2], b1, b2] W fun e W' => e = .returned (.bool (p q)) ∧ Below W.heap.size W W') :
    Calls Tryz.prog 254 #[v, .func (.func 216) #[] #[b1, b2]] w fun e w' => (∃ z : Int, e = .returned (.int .i64 z) ∧ decide (0 ≤ z) = l.any p) ∧ Below w.heap.size w w' := by
  obtain ⟨a, cap, g, off, rfl, hlc, hcm, hx⟩ := SlOf.at (enc := encA) (fun _ => rfl) un_va sz_va hv
  have HX := Lib.hid hx; clear hx hv
  have HF := Lib.hid hf; clear hf
  unfold maxLen at hcm
  go_enter Tryz.func254, Tryz.ntmps254
  go_wp2
  go_loopw [8] (fun i wr => ∃ k : Nat, k ≤ l.length ∧ i = .int .i64 (k : Nat) ∧ (∀ j (h : j < l.length), j < k → p l[j] = false) ∧ Below w.heap.size w wr) (fun i _ => l.length - (intOf i).toNat)
  case atStart => exact ⟨0, Nat.zero_le _, rfl, fun j _ h => absurd h (by omega), Below.refl _ _⟩
  case round =>
    obtain ⟨k, hk, rfl, hno, hb⟩ := hrel
    have HNO := Lib.hid hno; clear hno
    by_cases hlt : k < l.length
    rotate_left
    · go_wp2
      go_ret
      refine ⟨⟨-1, rfl, ?_⟩, hb⟩
      have : l.any p = false := List.any_eq_false.2 (fun c hc => by
        obtain ⟨j, hj, rfl⟩ := List.getElem_of_mem hc
        rw [HNO.out j hj (by omega)]
        simp)
      rw [this]; rfl
    obtain ⟨-, hi, hg, hc⟩ := HX.out k hlt
    have rd := fun j hj => (hb.cell (p := ⟨g, off + 4 * k + j, none⟩) hg).trans (hc j hj)
    clear hc
    have HFK := Lib.hid (HF.out l[k] (List.getElem_mem hlt) wr hb)
    cases hbd : p l[k]
    · have HBD := Lib.hid hbd; clear hbd
      have HFK2 := Lib.hid (HBD.out ▸ HFK.out); clear HFK
      generalize l[k] = q at HFK2 rd
      obtain ⟨q0, q1, q2, q3⟩ := q
      have r0 : wr.cell? ⟨g, off + 4 * k, none⟩ = some (.int .i64 q0) := rd 0 (by omega)
      have r1 : wr.cell? ⟨g, off + 4 * k + 1, none⟩ = some (.int .i64 q1) := rd 1 (by omega)
      have r2 : wr.cell? ⟨g, off + 4 * k + 2, none⟩ = some (.int .i64 q2) := rd 2 (by omega)
      have r3 : wr.cell? ⟨g, off + 4 * k + 3, none⟩ = some (.int .i64 q3) := rd 3 (by omega)
      clear rd
      go_wp2_with (go_at_call 216; refine HFK2.out.mono ?_; go_must (rintro e w1 ⟨rfl, hb1⟩))
      go_roundw
      case rel =>
        refine ⟨k + 1, hlt, by simp, fun j h hj => ?_, hb.trans (hb1.mono hb.size)⟩
        by_cases he : j = k
        · subst he; exact HBD.out
        · exact HNO.out j h (by omega)
      case measure => simp only [intOf]; omega
    · have HBD := Lib.hid hbd; clear hbd
      have HFK2 := Lib.hid (HBD.out ▸ HFK.out); clear HFK
      generalize l[k] = q at HFK2 rd
      obtain ⟨q0, q1, q2, q3⟩ := q
      have r0 : wr.cell? ⟨g, off + 4 * k, none⟩ = some (.int .i64 q0) := rd 0 (by omega)
      have r1 : wr.cell? ⟨g, off + 4 * k + 1, none⟩ = some (.int .i64 q1) := rd 1 (by omega)
      have r2 : wr.cell? ⟨g, off + 4 * k + 2, none⟩ = some (.int .i64 q2) := rd 2 (by omega)
      have r3 : wr.cell? ⟨g, off + 4 * k + 3, none⟩ = some (.int .i64 q3) := rd 3 (by omega)
      clear rd
      go_wp2_with (go_at_call 216; refine HFK2.out.mono ?_; go_must (rintro e w1 ⟨rfl, hb1⟩))
      go_ret
      refine ⟨⟨(k : Int), rfl, ?_⟩, hb.trans (hb1.mono hb.size)⟩
      have : l.any p = true := List.any_eq_true.2 ⟨_, List.getElem_mem hlt, HBD.out⟩
      rw [this]; simp
set_option maxHeartbeats 4000000 in
theorem con_va (b1 b2 : Value) (l : List ArgD) (p : ArgD → Bool) (w : World) (v : Value) (hv : SlOf w w.heap.size 4 encA v l)
    (hf : ∀ q ∈ l, ∀ W, Below w.heap.size w W → Calls Tryz.prog 216 #[.agg #[.int .i64 q.var, .int .i64 q.at_.1, .int .i64 q.at_.2.1, .int .i64 q.at_.2.2], b1, b2] W fun e W' => e = .returned (.bool (p q)) ∧ Below W.heap.size W W') :
    Calls Tryz.prog 215 #[v, .func (.func 216) #[] #[b1, b2]] w fun e w' => e = .returned (.bool (l.any p)) ∧ Below w.heap.size w w' := by
  have H := Lib.hid ((idx_va (l := l) (p := p) (w := w) (v := v) (hv := hv) (hf := hf)))
  clear hv hf
  go_enter Tryz.func215, Tryz.ntmps215
  go_wp2_with (go_at_call 254; refine H.out.mono ?_; clear H; go_must (rintro e w1 ⟨⟨z, rfl, hz⟩, hb1⟩; have HZ := Lib.hid hz; clear hz))
  go_ret
  exact ⟨ret_bool HZ.out, hb1⟩
/-- A variable, as a value. -/
def varV (v : VarD) : Value := .agg #[.string v.name, .int .i64 v.op, v.argsV, .int .i64 v.i0, .int .i64 v.i1, .int .i64 v.i2, .int .i64 v.i3]
theorem size1 {s : ByteArray} (h : s.size = 1) : ∃ c : UInt8, s = ⟨#[c]⟩ := by
  obtain ⟨⟨l⟩⟩ := s
  match l, h with
  | [c], _ => exact ⟨c, rfl⟩
set_option maxHeartbeats 4000000 in
set_option maxRecDepth 100000 in
theorem validVar_l (n nv : Int) (hn : 1 ≤ n ∧ n ≤ 3) (hnv : 0 ≤ nv ∧ nv ≤ 1000000) (v : VarD) (w : World) (hv : VarRd w v) :
    Calls Tryz.prog 158 #[.agg #[.string v.name, .int .i64 v.op, v.argsV, .int .i64 v.i0, .int .i64 v.i1, .int .i64 v.i2, .int .i64 v.i3], .int .i64 nv, .int .i64 n] w fun e w' => e = .returned (.bool (varB n nv v)) ∧ Below w.heap.size w w' := by
  obtain ⟨hsl, hnm⟩ := hv
  unfold maxLen at hnm
  obtain ⟨s, op, av, args, i0, i1, i2, i3⟩ := v
  simp only at hsl hnm ⊢
  have HV := Lib.hid hsl
  obtain ⟨aa, cap, rfl, hlm⟩ := hsl.shape
  clear hsl
  have EV := Lib.hid (show varB n nv ⟨s, op, .slice aa args.length cap, args, i0, i1, i2, i3⟩ = (btw 1 op 7 && (nameB s && (decide ((args.length : Int) = needsI op) && (initB n ⟨s, op, .slice aa args.length cap, args, i0, i1, i2, i3⟩ && args.all (argB n nv))))) from rfl)
  cases hop : btw 1 op 7
  · have EV2 := Lib.hid (show varB n nv ⟨s, op, .slice aa args.length cap, args, i0, i1, i2, i3⟩ = false by rw [EV.out, hop]; rfl)
    have HO := Lib.hid hop; clear hop EV
    go_enter Tryz.func158, Tryz.ntmps158
    go_wp2_with (go_at_call 214; refine (kindOf_l op _).mono ?_; go_must (rintro e w1 ⟨hk, hb1⟩; unfold KindAny at hk; rw [HO.out, if_neg (by simp)] at hk; subst hk; obtain ⟨hc1, hf1⟩ := bcell hb1; have hz1 := hb1.size; (try simp at hz1); (first | have z := z10 hz1 | have z := z9 hz1 | have z := z8 hz1 | have z := z7 hz1 | have z := z6 hz1 | have z := z5 hz1 | have z := z4 hz1 | have z := z3 hz1 | have z := z2 hz1 | have z := z1 hz1 | skip)))
    go_ret
    exact ⟨ret_bool EV2.out.symm, by repeat (first | exact Below.refl _ _ | assumption | (refine Below.drew ?_) | (refine below_drewN ?_ _) | (refine Below.alloc ?_ (by first | (simp; done) | (simp; omega) | omega) _) | (refine Below.setCell ?_ (by first | (simp; done) | (simp; omega) | omega) _) | (refine Below.trans ?_ (Below.mono (by assumption) (by first | (simp; done) | (simp; omega) | omega))))⟩
  have HO := Lib.hid hop
  have KO := Lib.hid (fun W => show Calls Tryz.prog 214 #[.int .i64 op] W fun e w' => KindR (needsI op) e ∧ Below W.heap.size W w' from (kindOf_l op W).mono fun e w' ⟨h, hb⟩ => ⟨by unfold KindAny at h; rwa [HO.out, if_pos rfl] at h, hb⟩)
  have HND := btw_out hop
  clear hop
  by_cases h1 : s.size = 1
  rotate_left
  · have EV2 := Lib.hid (show varB n nv ⟨s, op, .slice aa args.length cap, args, i0, i1, i2, i3⟩ = false by rw [EV.out]; simp [nameB, h1])
    clear EV
    go_enter Tryz.func158, Tryz.ntmps158
    go_wp2_with (go_at_call 214; refine (KO.out _).mono ?_; go_must (rintro e w1 ⟨⟨wd, fn, rfl⟩, hb1⟩; obtain ⟨hc1, hf1⟩ := bcell hb1; have hz1 := hb1.size; (try simp at hz1); (first | have z := z10 hz1 | have z := z9 hz1 | have z := z8 hz1 | have z := z7 hz1 | have z := z6 hz1 | have z := z5 hz1 | have z := z4 hz1 | have z := z3 hz1 | have z := z2 hz1 | have z := z1 hz1 | skip)))
    go_ret
    exact ⟨ret_bool EV2.out.symm, by repeat (first | exact Below.refl _ _ | assumption | (refine Below.drew ?_) | (refine below_drewN ?_ _) | (refine Below.alloc ?_ (by first | (simp; done) | (simp; omega) | omega) _) | (refine Below.setCell ?_ (by first | (simp; done) | (simp; omega) | omega) _) | (refine Below.trans ?_ (Below.mono (by assumption) (by first | (simp; done) | (simp; omega) | omega))))⟩
  obtain ⟨c, rfl⟩ := size1 h1
  clear h1
  have EC := Lib.hid (show nameB ⟨#[c]⟩ = (decide (97 ≤ (c.toNat : Int)) && decide ((c.toNat : Int) ≤ 122)) from rfl)
  have EI := Lib.hid (show initB n ⟨⟨#[c]⟩, op, .slice aa args.length cap, args, i0, i1, i2, i3⟩ = (btw 0 i0 10006 && btw 0 i1 10006 && (btw 0 i2 10006 && (decide (1 < n) || decide (i2 = 0))) && (btw 0 i3 10006 && (decide (2 < n) || decide (i3 = 0)))) from rfl)
  obtain ⟨W, hW⟩ : ∃ W : World, ((w.alloc (Obj.cells #[.string ⟨#[c]⟩, .int .i64 op, .slice aa args.length cap, .int .i64 i0, .int .i64 i1, .int .i64 i2, .int .i64 i3] 85)).alloc (Obj.cells #[.int .i64 nv] 3)).alloc (Obj.cells #[.int .i64 n] 3) = W := ⟨_, rfl⟩
  have kw : Below w.heap.size w W := by rw [← hW]; exact (by repeat (first | exact Below.refl _ _ | assumption | (refine Below.drew ?_) | (refine below_drewN ?_ _) | (refine Below.alloc ?_ (by first | (simp; done) | (simp; omega) | omega) _) | (refine Below.setCell ?_ (by first | (simp; done) | (simp; omega) | omega) _) | (refine Below.trans ?_ (Below.mono (by assumption) (by first | (simp; done) | (simp; omega) | omega)))))
  have ks : W.heap.size = w.heap.size + 3 := by rw [← hW]; simp
  have y1 : W.cell? ⟨w.heap.size + 1, 0, none⟩ = some (.int .i64 nv) := by subst hW; go_simp
  have y2 : W.cell? ⟨w.heap.size + 1 + 1, 0, none⟩ = some (.int .i64 n) := by subst hW; go_simp
  have HCA := Lib.hid (show ∀ V, Below W.heap.size W V → Calls Tryz.prog 215 #[.slice aa args.length cap, .func (.func 216) #[] #[.pointer (some ⟨w.heap.size + 1 + 1, 0, none⟩), .pointer (some ⟨w.heap.size + 1, 0, none⟩)]] V fun e w' => e = .returned (.bool (args.any fun q => !argB n nv q)) ∧ Below V.heap.size V w' from
    fun V hV => con_va _ _ args (fun q => !argB n nv q) V _ ((HV.out.below kw).below hV) (fun q _ U hU => vv1_l n nv hn hnv q _ _ U (by have := hV.size; have := hU.size; omega) (by have := hV.size; have := hU.size; omega) (((hU.cell (p := ⟨w.heap.size + 1 + 1, 0, none⟩) (by have := hV.size; simp; omega)).trans (hV.cell (p := ⟨w.heap.size + 1 + 1, 0, none⟩) (by simp; omega))).trans y2) (((hU.cell (p := ⟨w.heap.size + 1, 0, none⟩) (by have := hV.size; simp; omega)).trans (hV.cell (p := ⟨w.heap.size + 1, 0, none⟩) (by simp; omega))).trans y1)))
  have HR := Lib.hid (show (!(args.any fun q => !argB n nv q)) = args.all (argB n nv) from not_any_not _ _)
  have HW := Lib.hid hW; have KW := Lib.hid kw
  clear hW kw y1 y2 HV
  generalize hA : (args.any fun q => !argB n nv q) = A at *
  clear hA
  obtain ⟨hn1, hn3⟩ := hn
  generalize hB0 : btw 0 i0 10006 = B0 at EI
  generalize hB1 : btw 0 i1 10006 = B1 at EI
  generalize hB2 : btw 0 i2 10006 = B2 at EI
  generalize hB3 : btw 0 i3 10006 = B3 at EI
  have HB0 := Lib.hid hB0; have HB1 := Lib.hid hB1; have HB2 := Lib.hid hB2; have HB3 := Lib.hid hB3
  clear hB0 hB1 hB2 hB3
  have j0 := ix4_0; have j1 := ix4_1; have j2 := ix4_2; have j3 := ix4_3
  have EV9 := Lib.hid (EV.out.trans (by rw [HO.out, EC.out, EI.out, ← HR.out]))
  clear EV EC EI
  go_enter Tryz.func158, Tryz.ntmps158
  go_wp2_with (go_at_call 214; refine (KO.out _).mono ?_; go_must (rintro e w1 ⟨⟨wd, fn, rfl⟩, hb1⟩; have K := Lib.hid (show Below W.heap.size W w1 by rw [← HW.out]; exact hb1); obtain ⟨hc1, hf1⟩ := bcell hb1; have hz1 := hb1.size; (try simp at hz1); (first | have z := z10 hz1 | have z := z9 hz1 | have z := z8 hz1 | have z := z7 hz1 | have z := z6 hz1 | have z := z5 hz1 | have z := z4 hz1 | have z := z3 hz1 | have z := z2 hz1 | have z := z1 hz1 | skip)))
  all_goals (try (refine wp_loop_rounds 5 ?_))
  iterate 5 (all_goals (try (rw [rounds_succ]; go_wp2_with (first | (go_at_call 157; refine (rbetween_l _ _ _ _).mono ?_; go_must (rintro e w3 ⟨rfl, rfl⟩; first | rw [HB0.out] | rw [HB1.out] | rw [HB2.out] | rw [HB3.out])) | (go_at_call 215; refine (HCA.out _ (below_at K.out (by have := K.out.size; omega) (by repeat (first | exact Below.refl _ _ | assumption | (refine Below.drew ?_) | (refine below_drewN ?_ _) | (refine Below.alloc ?_ (by first | (simp; done) | (simp; omega) | omega) _) | (refine Below.setCell ?_ (by first | (simp; done) | (simp; omega) | omega) _) | (refine Below.trans ?_ (Below.mono (by assumption) (by first | (simp; done) | (simp; omega) | omega))))))).mono ?_; go_must (rintro e w5 ⟨rfl, hb5⟩))))))
  all_goals
    clear HCA HR HB0 HB1 HB2 HB3 j0 j1 j2 j3
    try (have hs5 := K.out.size)
    go_ret
    refine ⟨ret_bool ?_, by repeat (first | exact Below.refl _ _ | assumption | (refine Below.drew ?_) | (refine below_drewN ?_ _) | (refine Below.alloc ?_ (by first | (simp; done) | (simp; omega) | omega) _) | (refine Below.setCell ?_ (by first | (simp; done) | (simp; omega) | omega) _) | (refine Below.trans ?_ (Below.mono (by assumption) (by first | (simp; done) | (simp; omega) | omega))))⟩
    rw [EV9.out]
    clear EV9
    have hcc : ((⟨#[c]⟩ : ByteArray)[0]'(by simp [ByteArray.size])) = c := rfl
    simp_all <;> omega
end Go.Proofs.YtnejicklenhpeaaGreat
namespace Go.Proofs.YtnejicklenhpeaaGreat
open Go.RowKit
theorem str_keyed : Maps.Keyed Tryz.prog 9 := Maps.string_keyed Tryz.underlying9
def memN (s : ByteArray) (l : List ByteArray) : Bool := l.any fun t => decide (t = s)
theorem memN_iff (s : ByteArray) (l : List ByteArray) : memN s l = true ↔ s ∈ l := by simp [memN]
/-- Block b is the map of the names l, n entries at most. -/
def NMap (w : World) (b n : Nat) (l : List ByteArray) : Prop := MapV Tryz.prog 9 (fun s : ByteArray => Value.string s) w b n (fun s => if memN s l = true then some (.bool true) else none)
theorem NMap.made (w : World) : NMap (w.alloc (.map #[] 0)) w.heap.size 0 [] := by
  have := MapV.made Tryz.prog 9 (fun s : ByteArray => Value.string s) w
  unfold NMap
  simpa [memN] using this
theorem NMap.look {w : World} {b n : Nat} {l : List ByteArray} (h : NMap w b n l) (s : ByteArray) (hs : s.size ≤ maxLen) : (Instr.lookup 241 (.map (some b)) (.string s) false).run Tryz.prog w = .ok (.bool (memN s l)) w := by
  have := MapV.look h str_keyed (t := 241) Tryz.underlying241 (z := .bool false) (by kernel_rfl) (a := s) (WideMaps.keyOf_string_mk Tryz.underlying9 hs)
  rw [this]
  cases hm : memN s l <;> simp
theorem NMap.put {w : World} {b n : Nat} {l : List ByteArray} (h : NMap w b n l) (hn : n < 1000000) (s : ByteArray) (hs : s.size ≤ maxLen) : ∃ w', (Instr.mapUpdate 241 (.map (some b)) (.string s) (.bool true)).run Tryz.prog w = .ok () w' ∧ NMap w' b (n + 1) (l ++ [s]) ∧ w.grownBy w' (some b) := by
  obtain ⟨w', hr, hm, hg⟩ := MapV.put h str_keyed (t := 241) Tryz.underlying241 (fun x y e => by cases e; rfl) hn (a := s) (WideMaps.keyOf_string_mk Tryz.underlying9 hs) (.bool true)
  refine ⟨w', hr, ?_, hg⟩
  unfold NMap
  have e : (fun x => if x = s then some (Value.bool true) else if memN x l = true then some (Value.bool true) else none) = (fun x => if memN x (l ++ [s]) = true then some (Value.bool true) else none) := by
    funext x
    by_cases h1 : x = s
    · simp [h1, memN]
    · have h3 : ¬ s = x := fun e => h1 e.symm
      have e3 : memN x (l ++ [s]) = memN x l := by simp [memN, h3]
      rw [if_neg h1, e3]
  rwa [e] at hm
theorem sz_vars (W : World) : (sizeOf (Tryz.prog.elem 25)).run Tryz.prog W = .ok 7 W := by kernel_rfl
theorem un_vars : Tryz.prog.underlying 25 = some (.slice (Tryz.prog.elem 25)) := by kernel_rfl
/-- What the first k variables pay. -/
def okTo (n nv : Int) (vs : List VarD) (k : Nat) : Prop := (vs.take k).all (varB n nv) = true ∧ (names (vs.take k)).Nodup
theorem okTo_0 (n nv : Int) (vs : List VarD) : okTo n nv vs 0 := by simp [okTo, names]
theorem okTo_succ {n nv : Int} {vs : List VarD} {k : Nat} (h : okTo n nv vs k) (hk : k < vs.length) (h1 : varB n nv vs[k] = true) (h2 : vs[k].name ∉ names (vs.take k)) : okTo n nv vs (k + 1) := by
  unfold okTo names at *
  rw [List.take_succ_eq_append_getElem hk, List.all_append, List.map_append]
  refine ⟨by simp [h.1, h1], ?_⟩
  rw [List.nodup_append]
  refine ⟨h.2, by simp, fun a ha b hb => ?_⟩
  simp only [List.map_cons, List.map_nil, List.mem_singleton] at hb
  subst hb
  rintro rfl
  exact h2 ha
theorem validR_no1 {n : Int} {l : List IneqD} {vs : List VarD} {k : Nat} (hk : k < vs.length) (h : varB n vs.length vs[k] = false) : validR n l vs = false := by
  have : vs.all (varB n vs.length) = false := List.all_eq_false.2 ⟨_, List.getElem_mem hk, by rw [h]; simp⟩
  simp [validR, this]
theorem validR_no2 {n : Int} {l : List IneqD} {vs : List VarD} {k : Nat} (hk : k < vs.length) (h : vs[k].name ∈ names (vs.take k)) : validR n l vs = false := by
  have : ¬ (names vs).Nodup := fun hn => by
    have e : names vs = names (vs.take k) ++ (vs[k].name :: names (vs.drop (k + 1))) := by
      unfold names
      conv => lhs; rw [← List.take_append_drop k vs, List.drop_eq_getElem_cons hk, List.map_append, List.map_cons]
    rw [e, List.nodup_append] at hn
    exact hn.2.2 _ h _ (by simp) rfl
  simp [validR, this]
theorem validR_yes {n : Int} {l : List IneqD} {vs : List VarD} (h : okTo n vs.length vs vs.length) (hd : validD n l = true) (hl : (ptsL n l).length ≤ 1000) (h1 : 1 ≤ vs.length ∧ vs.length ≤ 4) : validR n l vs = true := by
  obtain ⟨h2, h3⟩ := h
  rw [List.take_length] at h2 h3
  simp [validR, hd, hl, h1, h3]
  simpa using h2
/-- A recurrence, as a value. -/
abbrev recVal (r : RecD) : Value := .agg #[.int .i64 r.n, r.lv, r.vv]
set_option maxHeartbeats 4000000 in
set_option maxRecDepth 100000 in
theorem rValid_l (r : RecD) (w : World) (hr : RecRd w r) :
    Calls Tryz.prog 112 #[.agg #[.int .i64 r.n, r.lv, r.vv]] w fun e w' => e = .returned (.bool (validR r.n r.l r.vars)) ∧ Below w.heap.size w w' := by
  obtain ⟨hl, hvs, heach⟩ := hr
  obtain ⟨n, lv, l, vv, vs⟩ := r
  simp only at hl hvs heach ⊢
  have HL := Lib.hid hl; clear hl
  obtain ⟨va, vcap, vg, voff, rfl, hlc, hcm, hx⟩ := SlOf.at (enc := encV) (fun _ => rfl) un_vars sz_vars hvs
  have HX := Lib.hid hx; clear hx hvs
  have HE := Lib.hid heach; clear heach
  unfold maxLen at hcm
  have HC := Lib.hid (fun (W : World) (hw : SlOf W W.heap.size 4 encI lv l) => Count_l n l W lv hw)
  obtain ⟨W0, hW0⟩ : ∃ W : World, w.alloc (Obj.cells #[.int .i64 n, lv, .slice va vs.length vcap] 27) = W := ⟨_, rfl⟩
  have kw : Below w.heap.size w W0 := by rw [← hW0]; exact (by repeat (first | exact Below.refl _ _ | assumption | (refine Below.drew ?_) | (refine below_drewN ?_ _) | (refine Below.alloc ?_ (by first | (simp; done) | (simp; omega) | omega) _) | (refine Below.setCell ?_ (by first | (simp; done) | (simp; omega) | omega) _) | (refine Below.trans ?_ (Below.mono (by assumption) (by first | (simp; done) | (simp; omega) | omega)))))
  have ks : W0.heap.size = w.heap.size + 1 := by rw [← hW0]; simp
  have y0 : W0.cell? ⟨w.heap.size, 0, none⟩ = some (.int .i64 n) := by subst hW0; go_simp
  have y2 : W0.cell? ⟨w.heap.size, 2, none⟩ = some (.slice va vs.length vcap) := by subst hW0; go_simp
  have HW := Lib.hid hW0; have KW := Lib.hid kw; clear hW0 kw
  cases hd : validD n l
  · have EV := Lib.hid (show validR n l vs = false by simp [validR, hd])
    have HD := Lib.hid hd; clear hd
    go_enter Tryz.func112, Tryz.ntmps112
    go_wp2_with (go_at_call 156; rw [HW.out]; refine (HC.out _ (HL.out.below KW.out)).mono ?_; go_must (rintro e w1 ⟨rfl, hb1⟩; rw [HD.out, if_neg (by simp)]))
    go_ret
    exact ⟨ret_bool EV.out.symm, below_at KW.out (by omega) hb1⟩
  have HD := Lib.hid hd; clear hd
  have hdn := (validD_out HD.out).1
  have hln := ptsL_len n l
  have EV0 := Lib.hid (show validR n l vs = (validD n l && (decide ((ptsL n l).length ≤ 1000) && (decide (1 ≤ vs.length ∧ vs.length ≤ 4) && (vs.all (varB n vs.length) && decide (names vs).Nodup)))) from rfl)
  by_cases h1000 : (ptsL n l).length ≤ 1000
  rotate_left
  · have EV := Lib.hid (show validR n l vs = false by rw [EV0.out]; simp [h1000])
    clear EV0
    generalize hN : (ptsL n l).length = N at *
    have HN := Lib.hid hN; clear hN
    go_enter Tryz.func112, Tryz.ntmps112
    go_wp2_with (go_at_call 156; rw [HW.out]; refine (HC.out _ (HL.out.below KW.out)).mono ?_; go_must (rintro e w1 ⟨rfl, hb1⟩; rw [HD.out, if_pos rfl]))
    go_ret
    exact ⟨ret_bool EV.out.symm, below_at KW.out (by omega) hb1⟩
  by_cases h14 : 1 ≤ vs.length ∧ vs.length ≤ 4
  rotate_left
  · have EV := Lib.hid (show validR n l vs = false by rw [EV0.out]; simp [h14])
    have HB := Lib.hid (show btw 1 (vs.length : Int) 4 = false by rw [← Bool.not_eq_true]; intro h; have := btw_out h; omega)
    clear EV0
    generalize hN : (ptsL n l).length = N at *
    have HN := Lib.hid hN; clear hN
    have y2' := fun (W : World) (h : Below W0.heap.size W0 W) => (h.cell (p := ⟨w.heap.size, 2, none⟩) (by simp; omega)).trans y2
    go_enter Tryz.func112, Tryz.ntmps112
    go_wp2_with (first | (go_at_call 156; rw [HW.out]; refine (HC.out _ (HL.out.below KW.out)).mono ?_; go_must (rintro e w1 ⟨rfl, hb1⟩; rw [HD.out, if_pos rfl]; have k2 := y2' _ hb1; clear y2')) | (go_at_call 157; refine (rbetween_l _ _ _ _).mono ?_; go_must (rintro e w2 ⟨rfl, rfl⟩; rw [HB.out])))
    go_ret
    exact ⟨ret_bool EV.out.symm, below_at KW.out (by omega) hb1⟩
  have EVY := Lib.hid (fun (h : okTo n vs.length vs vs.length) => validR_yes (l := l) h HD.out h1000 h14)
  clear EV0
  have HBT := Lib.hid (show btw 1 (vs.length : Int) 4 = true by simp [btw]; omega)
  generalize hN : (ptsL n l).length = N at *
  have HN := Lib.hid hN; clear hN
  have RD := Lib.hid (show ∀ V, Below W0.heap.size W0 V → V.cell? ⟨w.heap.size, 0, none⟩ = some (.int .i64 n) ∧ V.cell? ⟨w.heap.size, 2, none⟩ = some (.slice va vs.length vcap) from fun V h => ⟨(h.cell (p := ⟨w.heap.size, 0, none⟩) (by simp; omega)).trans y0, (h.cell (p := ⟨w.heap.size, 2, none⟩) (by simp; omega)).trans y2⟩)
  clear y0 y2
  have hmm := @run_makeMap Tryz.prog
  go_enter Tryz.func112, Tryz.ntmps112
  go_wp2_with (first | (go_at_call 156; rw [HW.out]; refine (HC.out _ (HL.out.below KW.out)).mono ?_; go_must (rintro e w1 ⟨rfl, hb1⟩; rw [HD.out, if_pos rfl]; obtain ⟨k0, k2⟩ := RD.out _ hb1; have hs1 := hb1.size; have zz := z1 (show w.heap.size + 1 ≤ w1.heap.size by omega))) | (go_at_call 157; refine (rbetween_l _ _ _ _).mono ?_; go_must (rintro e w1 ⟨rfl, rfl⟩; rw [HBT.out])))
  clear hmm k0 k2
  have KW1 := Lib.hid (below_at KW.out (by omega) hb1)
  have HB1 := Lib.hid hb1; clear hb1
  go_loopw [31] (fun t31 wr => ∃ k nn : Nat, k ≤ vs.length ∧ t31 = .int .i64 (k : Nat) ∧ Hid (okTo n vs.length vs k) ∧ Hid (NMap wr w1.heap.size nn (names (vs.take k))) ∧ nn ≤ k ∧ Below w1.heap.size w1 wr ∧ w1.heap.size < wr.heap.size) (fun t31 _ => vs.length - (intOf t31).toNat)
  case atStart => exact ⟨0, 0, Nat.zero_le _, rfl, Lib.hid (okTo_0 _ _ _), Lib.hid (NMap.made _), Nat.le_refl _, (Below.refl _ _).alloc (Nat.le_refl _) _, by simp⟩
  case round =>
    obtain ⟨k, nn, hk, rfl, HO, HM, hnn, hb, hsz⟩ := hrel
    by_cases hlt : k < vs.length
    rotate_left
    · have HK := Lib.hid (show k = vs.length by omega)
      go_wp2
      go_ret
      refine ⟨ret_bool ?_, below_at KW1.out (by omega) hb⟩
      have := HO.out
      rw [HK.out] at this
      exact (EVY.out this).symm
    obtain ⟨-, hi, hg, hc⟩ := HX.out k hlt
    have KR := below_at KW1.out (by omega) hb
    have rd := fun j hj => (KR.cell (p := ⟨vg, voff + 7 * k + j, none⟩) hg).trans (hc j hj)
    obtain ⟨k0, k2⟩ := RD.out wr (below_at HB1.out hs1 hb)
    clear hc
    have HVR := Lib.hid (HE.out vs[k] (List.getElem_mem hlt))
    have HVV := Lib.hid (show ∀ V, Below w.heap.size w V → Calls Tryz.prog 158 #[.agg #[.string vs[k].name, .int .i64 vs[k].op, vs[k].argsV, .int .i64 vs[k].i0, .int .i64 vs[k].i1, .int .i64 vs[k].i2, .int .i64 vs[k].i3], .int .i64 (vs.length : Nat), .int .i64 n] V fun e w' => e = .returned (.bool (varB n vs.length vs[k])) ∧ Below V.heap.size V w' from
      fun V hV => validVar_l n vs.length hdn ⟨by omega, by omega⟩ vs[k] V ⟨HVR.out.1.below hV, HVR.out.2⟩)
    have HN1 := Lib.hid (fun (h : varB n vs.length vs[k] = false) => validR_no1 (l := l) hlt h)
    have HN2 := Lib.hid (fun (h : vs[k].name ∈ names (vs.take k)) => validR_no2 (n := n) (l := l) hlt h)
    have HS := Lib.hid (fun (h1 : varB n vs.length vs[k] = true) (h2 : vs[k].name ∉ names (vs.take k)) => okTo_succ HO.out hlt h1 h2)
    have HT := Lib.hid (show names (vs.take (k + 1)) = names (vs.take k) ++ [vs[k].name] by unfold names; rw [List.take_succ_eq_append_getElem hlt, List.map_append]; rfl)
    have HSH := HVR.out.1.shape
    have HNM := Lib.hid HVR.out.2
    clear HVR HO
    generalize vs[k] = x at *
    obtain ⟨s, op, av, args, i0, i1, i2, i3⟩ := x
    simp only at HVV HSH HNM HN2 HS HT
    obtain ⟨aa, ac, rfl, -⟩ := HSH
    have r0 : wr.cell? ⟨vg, voff + 7 * k, none⟩ = some (.string s) := rd 0 (by omega)
    have r1 : wr.cell? ⟨vg, voff + 7 * k + 1, none⟩ = some (.int .i64 op) := rd 1 (by omega)
    have r2 : wr.cell? ⟨vg, voff + 7 * k + 2, none⟩ = some (.slice aa args.length ac) := rd 2 (by omega)
    have r3 : wr.cell? ⟨vg, voff + 7 * k + 3, none⟩ = some (.int .i64 i0) := rd 3 (by omega)
    have r4 : wr.cell? ⟨vg, voff + 7 * k + 4, none⟩ = some (.int .i64 i1) := rd 4 (by omega)
    have r5 : wr.cell? ⟨vg, voff + 7 * k + 5, none⟩ = some (.int .i64 i2) := rd 5 (by omega)
    have r6 : wr.cell? ⟨vg, voff + 7 * k + 6, none⟩ = some (.int .i64 i3) := rd 6 (by omega)
    clear rd
    have zq := z1 (show w.heap.size + 1 ≤ wr.heap.size by omega)
    generalize hvb : varB n vs.length ⟨s, op, .slice aa args.length ac, args, i0, i1, i2, i3⟩ = vb at *
    have HVB := Lib.hid hvb; clear hvb
    cases vb
    · go_wp2_with (first | (go_at_call 158; refine (HVV.out _ (by repeat (first | exact Below.refl _ _ | assumption | (refine Below.drew ?_) | (refine below_drewN ?_ _) | (refine Below.alloc ?_ (by first | (simp; done) | (simp; omega) | omega) _) | (refine Below.setCell ?_ (by first | (simp; done) | (simp; omega) | omega) _) | (refine Below.trans ?_ (Below.mono (by assumption) (by first | (simp; done) | (simp; omega) | omega)))))).mono ?_; go_must (rintro e w2 ⟨rfl, hb2⟩)))
      go_ret
      exact ⟨ret_bool (HN1.out (by simp)).symm, below_at KR (by omega) (by repeat (first | exact Below.refl _ _ | assumption | (refine Below.drew ?_) | (refine below_drewN ?_ _) | (refine Below.alloc ?_ (by first | (simp; done) | (simp; omega) | omega) _) | (refine Below.setCell ?_ (by first | (simp; done) | (simp; omega) | omega) _) | (refine Below.trans ?_ (Below.mono (by assumption) (by first | (simp; done) | (simp; omega) | omega)))))⟩
    generalize hmem : memN s (names (vs.take k)) = mb
    have HMB := Lib.hid hmem; clear hmem
    cases mb
    · go_wp2_with (first | (go_at_call 158; refine (HVV.out _ (by repeat (first | exact Below.refl _ _ | assumption | (refine Below.drew ?_) | (refine below_drewN ?_ _) | (refine Below.alloc ?_ (by first | (simp; done) | (simp; omega) | omega) _) | (refine Below.setCell ?_ (by first | (simp; done) | (simp; omega) | omega) _) | (refine Below.trans ?_ (Below.mono (by assumption) (by first | (simp; done) | (simp; omega) | omega)))))).mono ?_; go_must (rintro e w2 ⟨rfl, hb2⟩; obtain ⟨hc2, hf2⟩ := bcell hb2; have hz2 := hb2.size; (try simp at hz2); (first | have z := z10 hz2 | have z := z9 hz2 | have z := z8 hz2 | have z := z7 hz2 | have z := z6 hz2 | have z := z5 hz2 | have z := z4 hz2 | have z := z3 hz2 | have z := z2 hz2 | have z := z1 hz2 | skip); have hbE := Lib.hid (show Below wr.heap.size wr w2 from ((Below.refl wr.heap.size wr).alloc (Nat.le_refl _) _).trans (hb2.mono (by simp))); have HM2 := Lib.hid (MapV.kept HM.out hbE.out); have hlook := NMap.look HM2.out s HNM.out; rw [HMB.out] at hlook; obtain ⟨w6, hr6, hN6, hg6⟩ := NMap.put HM2.out (by omega) s HNM.out; have HN6 := Lib.hid hN6; clear hN6)))
      have hs6 := hg6.size
      go_roundw
      case rel =>
        refine ⟨k + 1, nn + 1, hlt, by simp, Lib.hid (HS.out (by simp) (fun hm => by have := HMB.out; rw [(memN_iff _ _).2 hm] at this; cases this)), Lib.hid ?_, by omega, ?_, by omega⟩
        · rw [HT.out]; exact HN6.out
        · exact (below_at hb (by omega) hbE.out).grown hg6 (by omega) (fun r e => by cases e; exact Nat.le_refl _)
      case measure => simp only [intOf]; omega
    · go_wp2_with (first | (go_at_call 158; refine (HVV.out _ (by repeat (first | exact Below.refl _ _ | assumption | (refine Below.drew ?_) | (refine below_drewN ?_ _) | (refine Below.alloc ?_ (by first | (simp; done) | (simp; omega) | omega) _) | (refine Below.setCell ?_ (by first | (simp; done) | (simp; omega) | omega) _) | (refine Below.trans ?_ (Below.mono (by assumption) (by first | (simp; done) | (simp; omega) | omega)))))).mono ?_; go_must (rintro e w2 ⟨rfl, hb2⟩; obtain ⟨hc2, hf2⟩ := bcell hb2; have hz2 := hb2.size; (try simp at hz2); (first | have z := z10 hz2 | have z := z9 hz2 | have z := z8 hz2 | have z := z7 hz2 | have z := z6 hz2 | have z := z5 hz2 | have z := z4 hz2 | have z := z3 hz2 | have z := z2 hz2 | have z := z1 hz2 | skip); have hbE := Lib.hid (show Below wr.heap.size wr w2 from ((Below.refl wr.heap.size wr).alloc (Nat.le_refl _) _).trans (hb2.mono (by simp))); have hlook := NMap.look (MapV.kept HM.out hbE.out) s HNM.out; rw [HMB.out] at hlook)))
      go_ret
      exact ⟨ret_bool (HN2.out ((memN_iff _ _).1 HMB.out)).symm, below_at KR (by omega) hbE.out⟩
end Go.Proofs.YtnejicklenhpeaaGreat
