/- Which recurrences are valid, plainly; and the small walks of package rec. -/
import Derived.Test.YtndfdgdahinkpaaRecI
import Derived.Test.YtndfdgdahinkpaaKitM
import Derived.Laws.EntriesVeiled
import Derived.Deep.MidRow
namespace Go.Proofs.Ytndfdgdahinkpaa
open Go.RowKit
def needsI (op : Int) : Int := if op = 1 then 1 else if op = 5 then 3 else if 1 ≤ op ∧ op ≤ 7 then 2 else 0
def chr0 (s : ByteArray) : Int := if h : 0 < s.size then (s[0].toNat : Int) else 0
def nameB (s : ByteArray) : Bool := decide (s.size = 1) && (decide (97 ≤ chr0 s) && decide (chr0 s ≤ 122))
def initB (n : Int) (v : VarD) : Bool := btw 0 v.i0 10006 && btw 0 v.i1 10006 && (btw 0 v.i2 10006 && (decide (1 < n) || decide (v.i2 = 0))) && (btw 0 v.i3 10006 && (decide (2 < n) || decide (v.i3 = 0)))
def argB (n nv : Int) (a : ArgD) : Bool := flatB n a.at_.1 a.at_.2.1 a.at_.2.2 3 && btw 0 a.var (nv - 1)
def varB (n nv : Int) (v : VarD) : Bool := btw 1 v.op 7 && (nameB v.name && (decide ((v.args.length : Int) = needsI v.op) && (initB n v && v.args.all (argB n nv))))
def names (l : List VarD) : List ByteArray := l.map (·.name)
def validR (n : Int) (l : List IneqD) (vs : List VarD) : Bool := validD n l && (decide ((ptsL n l).length ≤ 1000) && (decide (1 ≤ vs.length ∧ vs.length ≤ 4) && (vs.all (varB n vs.length) && decide (names vs).Nodup)))
def kindZ : Array Value := #[.string ⟨#[]⟩, .int .i64 0, .nilFunc, .string ⟨#[]⟩, .int .i64 0, .nilFunc, .string ⟨#[]⟩, .int .i64 0, .nilFunc, .string ⟨#[]⟩, .int .i64 0, .nilFunc, .string ⟨#[]⟩, .int .i64 0, .nilFunc, .string ⟨#[]⟩, .int .i64 0, .nilFunc, .string ⟨#[]⟩, .int .i64 0, .nilFunc, .string ⟨#[]⟩, .int .i64 0, .nilFunc]
def kindC : Array Value := #[.string ⟨#[]⟩, .int .i64 0, .nilFunc, .string ⟨#[99, 111, 112, 121]⟩, .int .i64 1, .func (.func 129) #[] #[], .string ⟨#[97, 100, 100]⟩, .int .i64 2, .func (.func 130) #[] #[], .string ⟨#[115, 117, 98]⟩, .int .i64 2, .func (.func 131) #[] #[], .string ⟨#[109, 117, 108]⟩, .int .i64 2, .func (.func 132) #[] #[], .string ⟨#[102, 109, 97]⟩, .int .i64 3, .func (.func 133) #[] #[], .string ⟨#[109, 97, 120]⟩, .int .i64 2, .func (.func 134) #[] #[], .string ⟨#[109, 105, 110]⟩, .int .i64 2, .func (.func 135) #[] #[]]
/-- The world in which the table of the operations lies. -/
def kindW0 (w : World) : World := (w.alloc (.cells #[.string ⟨#[]⟩, .int .i64 0, .nilFunc] 175)).alloc (.cells kindZ 194)
def kindW (w : World) : World := (kindW0 w).setCells (w.heap.size + 1) 0 kindC.toList
theorem kind_there (w : World) : (kindW0 w).there (w.heap.size + 1) 0 kindC.size := fun j hj => by
  have hj2 : j < kindZ.size := hj
  have hn := heap_alloc_new (w.alloc (.cells #[.string ⟨#[]⟩, .int .i64 0, .nilFunc] 175)) (.cells kindZ 194)
  rw [World.size_alloc] at hn
  simp only [Nat.zero_add]
  unfold kindW0
  refine ⟨?_, ?_⟩
  · simp only [World.cell?, hn]
    simp [hj2]
  · simp only [World.frozen?, hn]
    simp
theorem kindW_size (w : World) : (kindW w).heap.size = w.heap.size + 2 := by
  have h : ∀ (vs : List Value) (b o : Nat) (w : World), (w.setCells b o vs).heap.size = w.heap.size := fun vs => by
    induction vs with
    | nil => intro b o w; rfl
    | cons v r ih => intro b o w; rw [World.setCells, ih]; simp
  unfold kindW
  rw [h]
  unfold kindW0
  simp
theorem kindW_at (w : World) (j : Nat) (v : Value) (h : kindC.toList[j]? = some v) : (kindW w).cell? ⟨w.heap.size + 1, j, none⟩ = some v := by
  have := World.rangeAt_setCells_same (kindW0 w) (w.heap.size + 1) 0 kindC.toList (kind_there w) j v h
  rwa [Nat.zero_add] at this
theorem kindW0_below (w : World) : Below w.heap.size w (kindW0 w) := by
  unfold kindW0
  exact ((Below.refl _ _).alloc (Nat.le_refl _) _).alloc (by simp) _
theorem setCells_below {B : Nat} {a : World} {b : Nat} (hB : B ≤ b) : ∀ (vs : List Value) (o : Nat) {w : World}, Below B a w → Below B a (w.setCells b o vs)
  | [], _, _, h => h
  | v :: r, o, w, h => by
    rw [World.setCells]
    exact setCells_below hB r (o + 1) (h.setCell hB v)
theorem kindW_below (w : World) : Below w.heap.size w (kindW w) := setCells_below (by omega) _ _ (kindW0_below w)
theorem kindW_below1 (w : World) : Below (w.heap.size + 1) (w.alloc (.cells #[.string ⟨#[]⟩, .int .i64 0, .nilFunc] 175)) (kindW w) :=
  setCells_below (by omega) _ _ (by unfold kindW0; exact (Below.refl _ _).alloc (by simp) _)
def KindR (n : Int) (e : Ending) : Prop := ∃ (wd : ByteArray) (fn : Nat), e = .returned (.tuple #[.agg #[.string wd, .int .i64 n, .func (.func fn) #[] #[]], .bool true])
def KindAny (op : Int) (e : Ending) : Prop := if btw 1 op 7 = true then KindR (needsI op) e else e = .returned (.tuple #[.agg #[.string ⟨#[]⟩, .int .i64 0, .nilFunc], .bool false])
set_option maxHeartbeats 4000000 in
theorem kindOf_l (op : Int) (w : World) :
    Calls Try.prog 108 #[.int .i64 op] w fun e w' => KindAny op e ∧ Below w.heap.size w w' := by
  go_enter Try.func108, Try.ntmps108
  go_wp2_with (first | ((with_reducible refine wpList_store_mid (op := ⟨none, .store 194 (.tmp 4) (.tmp 12), _, _, _, _⟩) ?g1 194 (.tmp 4) (.tmp 12) ?g2 (w.heap.size + 1) 0 kindC ?g3 ?g4 ?g5 ?g6 ?g7 ?g8); go_must (case g1 => rfl); go_must (case g2 => rfl); go_must (case g3 => rfl); go_must (case g4 => rfl); go_must (case g5 => exact kind_there w); go_must (case g6 => kernel_rfl); go_must (case g7 => kernel_rfl); go_must (change wpList _ _ _ _ _ (kindW w))))
  have hsz := kindW_size w
  have KW := Lib.hid (kindW_below w)
  have y0 : (kindW w).cell? ⟨w.heap.size, 0, none⟩ = some (.string ⟨#[]⟩) := ((kindW_below1 w).cell (p := ⟨w.heap.size, 0, none⟩) (by simp)).trans (by go_simp)
  have y1 : (kindW w).cell? ⟨w.heap.size, 1, none⟩ = some (.int .i64 0) := ((kindW_below1 w).cell (p := ⟨w.heap.size, 1, none⟩) (by simp)).trans (by go_simp)
  have y2 : (kindW w).cell? ⟨w.heap.size, 2, none⟩ = some .nilFunc := ((kindW_below1 w).cell (p := ⟨w.heap.size, 2, none⟩) (by simp)).trans (by go_simp)
  have g0 : (kindW w).frozen? ⟨w.heap.size, 0, none⟩ = false := ((kindW_below1 w).frozen (p := ⟨w.heap.size, 0, none⟩) (by simp)).trans (by go_simp)
  have g1 : (kindW w).frozen? ⟨w.heap.size, 1, none⟩ = false := ((kindW_below1 w).frozen (p := ⟨w.heap.size, 1, none⟩) (by simp)).trans (by go_simp)
  have g2 : (kindW w).frozen? ⟨w.heap.size, 2, none⟩ = false := ((kindW_below1 w).frozen (p := ⟨w.heap.size, 2, none⟩) (by simp)).trans (by go_simp)
  refine (rbetween_l _ _ _ _).mono ?_
  rintro e w1 ⟨rfl, rfl⟩
  have hat := fun j v h => kindW_at w j v h
  generalize kindW w = W at *
  cases hb : btw 1 op 7
  · have HB := Lib.hid hb
    clear hat hb
    go_wp2
    refine bodyPost_ret (v := .tuple #[.agg #[.string ⟨#[]⟩, .int .i64 0, .nilFunc], .bool false]) (by simp only [results, Try.results108]; first | (go_simp; done) | (go_simp; rfl)) rfl ⟨by unfold KindAny; rw [HB.out]; simp, ?_⟩
    exact ((KW.out.setCell (p := ⟨w.heap.size, 0, none⟩) (by simp) _).setCell (p := ⟨w.heap.size, 1, none⟩) (by simp) _).setCell (p := ⟨w.heap.size, 2, none⟩) (by simp) _
  have HB := Lib.hid hb
  have hb2 := btw_out hb
  clear hb
  obtain rfl | rfl | rfl | rfl | rfl | rfl | rfl : op = 1 ∨ op = 2 ∨ op = 3 ∨ op = 4 ∨ op = 5 ∨ op = 6 ∨ op = 7 := by omega
  · have k0 := hat 3 (.string ⟨#[99, 111, 112, 121]⟩) rfl
    have k1 := hat 4 (.int .i64 1) rfl
    have k2 := hat 5 (.func (.func 129) #[] #[]) rfl
    clear hat
    go_wp2
    refine bodyPost_ret (v := .tuple #[.agg #[.string ⟨#[99, 111, 112, 121]⟩, .int .i64 1, .func (.func 129) #[] #[]], .bool true]) (by simp only [results, Try.results108]; first | (go_simp; done) | (go_simp; rfl)) rfl ⟨by unfold KindAny; rw [HB.out, if_pos rfl]; exact ⟨_, _, rfl⟩, ?_⟩
    exact ((KW.out.setCell (p := ⟨w.heap.size, 0, none⟩) (by simp) _).setCell (p := ⟨w.heap.size, 1, none⟩) (by simp) _).setCell (p := ⟨w.heap.size, 2, none⟩) (by simp) _
  · have k0 := hat 6 (.string ⟨#[97, 100, 100]⟩) rfl
    have k1 := hat 7 (.int .i64 2) rfl
    have k2 := hat 8 (.func (.func 130) #[] #[]) rfl
    clear hat
    go_wp2
    refine bodyPost_ret (v := .tuple #[.agg #[.string ⟨#[97, 100, 100]⟩, .int .i64 2, .func (.func 130) #[] #[]], .bool true]) (by simp only [results, Try.results108]; first | (go_simp; done) | (go_simp; rfl)) rfl ⟨by unfold KindAny; rw [HB.out, if_pos rfl]; exact ⟨_, _, rfl⟩, ?_⟩
    exact ((KW.out.setCell (p := ⟨w.heap.size, 0, none⟩) (by simp) _).setCell (p := ⟨w.heap.size, 1, none⟩) (by simp) _).setCell (p := ⟨w.heap.size, 2, none⟩) (by simp) _
  · have k0 := hat 9 (.string ⟨#[115, 117, 98]⟩) rfl
    have k1 := hat 10 (.int .i64 2) rfl
    have k2 := hat 11 (.func (.func 131) #[] #[]) rfl
    clear hat
    go_wp2
    refine bodyPost_ret (v := .tuple #[.agg #[.string ⟨#[115, 117, 98]⟩, .int .i64 2, .func (.func 131) #[] #[]], .bool true]) (by simp only [results, Try.results108]; first | (go_simp; done) | (go_simp; rfl)) rfl ⟨by unfold KindAny; rw [HB.out, if_pos rfl]; exact ⟨_, _, rfl⟩, ?_⟩
    exact ((KW.out.setCell (p := ⟨w.heap.size, 0, none⟩) (by simp) _).setCell (p := ⟨w.heap.size, 1, none⟩) (by simp) _).setCell (p := ⟨w.heap.size, 2, none⟩) (by simp) _
  · have k0 := hat 12 (.string ⟨#[109, 117, 108]⟩) rfl
    have k1 := hat 13 (.int .i64 2) rfl
    have k2 := hat 14 (.func (.func 132) #[] #[]) rfl
    clear hat
    go_wp2
    refine bodyPost_ret (v := .tuple #[.agg #[.string ⟨#[109, 117, 108]⟩, .int .i64 2, .func (.func 132) #[] #[]], .bool true]) (by simp only [results, Try.results108]; first | (go_simp; done) | (go_simp; rfl)) rfl ⟨by unfold KindAny; rw [HB.out, if_pos rfl]; exact ⟨_, _, rfl⟩, ?_⟩
    exact ((KW.out.setCell (p := ⟨w.heap.size, 0, none⟩) (by simp) _).setCell (p := ⟨w.heap.size, 1, none⟩) (by simp) _).setCell (p := ⟨w.heap.size, 2, none⟩) (by simp) _
  · have k0 := hat 15 (.string ⟨#[102, 109, 97]⟩) rfl
    have k1 := hat 16 (.int .i64 3) rfl
    have k2 := hat 17 (.func (.func 133) #[] #[]) rfl
    clear hat
    go_wp2
    refine bodyPost_ret (v := .tuple #[.agg #[.string ⟨#[102, 109, 97]⟩, .int .i64 3, .func (.func 133) #[] #[]], .bool true]) (by simp only [results, Try.results108]; first | (go_simp; done) | (go_simp; rfl)) rfl ⟨by unfold KindAny; rw [HB.out, if_pos rfl]; exact ⟨_, _, rfl⟩, ?_⟩
    exact ((KW.out.setCell (p := ⟨w.heap.size, 0, none⟩) (by simp) _).setCell (p := ⟨w.heap.size, 1, none⟩) (by simp) _).setCell (p := ⟨w.heap.size, 2, none⟩) (by simp) _
  · have k0 := hat 18 (.string ⟨#[109, 97, 120]⟩) rfl
    have k1 := hat 19 (.int .i64 2) rfl
    have k2 := hat 20 (.func (.func 134) #[] #[]) rfl
    clear hat
    go_wp2
    refine bodyPost_ret (v := .tuple #[.agg #[.string ⟨#[109, 97, 120]⟩, .int .i64 2, .func (.func 134) #[] #[]], .bool true]) (by simp only [results, Try.results108]; first | (go_simp; done) | (go_simp; rfl)) rfl ⟨by unfold KindAny; rw [HB.out, if_pos rfl]; exact ⟨_, _, rfl⟩, ?_⟩
    exact ((KW.out.setCell (p := ⟨w.heap.size, 0, none⟩) (by simp) _).setCell (p := ⟨w.heap.size, 1, none⟩) (by simp) _).setCell (p := ⟨w.heap.size, 2, none⟩) (by simp) _
  · have k0 := hat 21 (.string ⟨#[109, 105, 110]⟩) rfl
    have k1 := hat 22 (.int .i64 2) rfl
    have k2 := hat 23 (.func (.func 135) #[] #[]) rfl
    clear hat
    go_wp2
    refine bodyPost_ret (v := .tuple #[.agg #[.string ⟨#[109, 105, 110]⟩, .int .i64 2, .func (.func 135) #[] #[]], .bool true]) (by simp only [results, Try.results108]; first | (go_simp; done) | (go_simp; rfl)) rfl ⟨by unfold KindAny; rw [HB.out, if_pos rfl]; exact ⟨_, _, rfl⟩, ?_⟩
    exact ((KW.out.setCell (p := ⟨w.heap.size, 0, none⟩) (by simp) _).setCell (p := ⟨w.heap.size, 1, none⟩) (by simp) _).setCell (p := ⟨w.heap.size, 2, none⟩) (by simp) _
end Go.Proofs.Ytndfdgdahinkpaa
