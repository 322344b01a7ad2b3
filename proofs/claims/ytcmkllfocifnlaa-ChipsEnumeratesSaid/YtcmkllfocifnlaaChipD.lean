/- Contracts of package chips: the arithmetic on divisors. -/
import Derived.Test.YtcmkllfocifnlaaChipC
import Derived.RangeFuncNested
import Derived.Shelf.Abstract
namespace Go.Proofs.Ytcmkllfocifnlaa
open Go.RowKit Go.Shelf

theorem ret_i {k : IntKind} {a b : Int} (h : a = b) : Ending.returned (.int k a) = .returned (.int k b) := by rw [h]
theorem ret_b {a b : Bool} (h : a = b) : Ending.returned (.bool a) = .returned (.bool b) := by rw [h]
theorem clo2_of {P : Program} {w : World} {fn : FuncId} {F : Int → Int → Int} (hen : ∀ args W, (callFunc fn args).run P W = .ok (.enter fn args) W)
    (h : ∀ (x y : Int) (W : World), -1048576 ≤ x → x ≤ 1048576 → -1048576 ≤ y → y ≤ 1048576 → Calls P fn #[.int .i64 x, .int .i64 y] W fun e w' => e = .returned (.int .i64 (F x y)) ∧ W = w') :
    Clo2 P w (.func (.func fn) #[] #[]) F := ⟨fn, #[], rfl, hen, fun W _ x y a b c d => h x y W a b c d⟩

theorem add_clo (w : World) : Clo2 Try.prog w (.func (.func 74) #[] #[]) (fun x y => x + y) :=
  clo2_of (enters_of Try.func74 (by kernel_rfl) rfl) fun x y W a b c d => by
    go_enter Try.func74, Try.ntmps74
    go_wp2
    all_goals (go_ret; exact ⟨ret_i (by omega), rfl⟩)
theorem sub_clo (w : World) : Clo2 Try.prog w (.func (.func 77) #[] #[]) (fun x y => x - y) :=
  clo2_of (enters_of Try.func77 (by kernel_rfl) rfl) fun x y W a b c d => by
    go_enter Try.func77, Try.ntmps77
    go_wp2
    all_goals (go_ret; exact ⟨ret_i (by omega), rfl⟩)
theorem neg_clo (w : World) : Clo2 Try.prog w (.func (.func 82) #[] #[]) (fun x _ => -x) :=
  clo2_of (enters_of Try.func82 (by kernel_rfl) rfl) fun x y W a b c d => by
    go_enter Try.func82, Try.ntmps82
    go_wp2
    all_goals (go_ret; exact ⟨ret_i (by omega), rfl⟩)
theorem meet_clo (w : World) : Clo2 Try.prog w (.func (.func 61) #[] #[]) (fun x y => min x y) :=
  clo2_of (enters_of Try.func61 (by kernel_rfl) rfl) fun x y W a b c d => by
    go_enter Try.func61, Try.ntmps61
    go_wp2
    all_goals (go_ret; exact ⟨ret_i (by omega), rfl⟩)
theorem join_clo (w : World) : Clo2 Try.prog w (.func (.func 62) #[] #[]) (fun x y => max x y) :=
  clo2_of (enters_of Try.func62 (by kernel_rfl) rfl) fun x y W a b c d => by
    go_enter Try.func62, Try.ntmps62
    go_wp2
    all_goals (go_ret; exact ⟨ret_i (by omega), rfl⟩)
theorem up_clo (w : World) : Clo2 Try.prog w (.func (.func 75) #[] #[]) (fun x _ => max x 0) :=
  clo2_of (enters_of Try.func75 (by kernel_rfl) rfl) fun x y W a b c d => by
    go_enter Try.func75, Try.ntmps75
    go_wp2
    all_goals (go_ret; exact ⟨ret_i (by omega), rfl⟩)
theorem down_clo (w : World) : Clo2 Try.prog w (.func (.func 76) #[] #[]) (fun x _ => max (-x) 0) :=
  clo2_of (enters_of Try.func76 (by kernel_rfl) rfl) fun x y W a b c d => by
    go_enter Try.func76, Try.ntmps76
    go_wp2
    all_goals (go_ret; exact ⟨ret_i (by omega), rfl⟩)

def Pair (w : World) (l : List Int × Int) (e : Ending) (w' : World) : Prop := ∃ v, e = .returned (.tuple #[v, .int .i64 l.2]) ∧ OI w' w.heap.size v l.1 ∧ Below w.heap.size w w'

theorem Add_any (va vb : Value) (xs ys : List Int) (w : World) (ha : RI w va xs) (hb : RI w vb ys) :
    Calls Try.prog 30 #[va, vb] w (Pair w (eachL (fun x y => x + y) xs ys)) := by
  have h := Lib.hid (each_any va vb _ xs ys _ w ha hb (add_clo w))
  clear ha hb
  go_enter Try.func30, Try.ntmps30
  go_wp2_with (go_at_call 60; refine h.out.mono ?_; rintro e w' ⟨v, rfl, ho, hb'⟩)
  go_ret2
  exact ⟨v, rfl, ho, hb'⟩

theorem Sub_any (va vb : Value) (xs ys : List Int) (w : World) (ha : RI w va xs) (hb : RI w vb ys) :
    Calls Try.prog 42 #[va, vb] w (Pair w (eachL (fun x y => x - y) xs ys)) := by
  have h := Lib.hid (each_any va vb _ xs ys _ w ha hb (sub_clo w))
  clear ha hb
  go_enter Try.func42, Try.ntmps42
  go_wp2_with (go_at_call 60; refine h.out.mono ?_; rintro e w' ⟨v, rfl, ho, hb'⟩)
  go_ret2
  exact ⟨v, rfl, ho, hb'⟩

theorem Neg_any (va : Value) (xs : List Int) (w : World) (ha : RI w va xs) :
    Calls Try.prog 51 #[va] w (Pair w (eachL (fun x _ => -x) xs xs)) := by
  have h := Lib.hid (each_any va va _ xs xs _ w ha ha (neg_clo w))
  clear ha
  go_enter Try.func51, Try.ntmps51
  go_wp2_with (go_at_call 60; refine h.out.mono ?_; rintro e w' ⟨v, rfl, ho, hb'⟩)
  go_ret2
  exact ⟨v, rfl, ho, hb'⟩

theorem Meet_any (va vb : Value) (xs ys : List Int) (w : World) (ha : RI w va xs) (hb : RI w vb ys) :
    Calls Try.prog 18 #[va, vb] w (Pair w (eachL (fun x y => min x y) xs ys)) := by
  have h := Lib.hid (each_any va vb _ xs ys _ w ha hb (meet_clo w))
  clear ha hb
  go_enter Try.func18, Try.ntmps18
  go_wp2_with (go_at_call 60; refine h.out.mono ?_; rintro e w' ⟨v, rfl, ho, hb'⟩)
  go_ret2
  exact ⟨v, rfl, ho, hb'⟩

theorem Join_any (va vb : Value) (xs ys : List Int) (w : World) (ha : RI w va xs) (hb : RI w vb ys) :
    Calls Try.prog 20 #[va, vb] w (Pair w (eachL (fun x y => max x y) xs ys)) := by
  have h := Lib.hid (each_any va vb _ xs ys _ w ha hb (join_clo w))
  clear ha hb
  go_enter Try.func20, Try.ntmps20
  go_wp2_with (go_at_call 60; refine h.out.mono ?_; rintro e w' ⟨v, rfl, ho, hb'⟩)
  go_ret2
  exact ⟨v, rfl, ho, hb'⟩

def scaleF (k x : Int) : Int := if x = 0 then 0 else if InB k then k * x else 1048577

theorem mul_bd {k x : Int} (hk : -1048576 ≤ k) (hk' : k ≤ 1048576) (hx : -1048576 ≤ x) (hx' : x ≤ 1048576) : -1099511627776 ≤ k * x ∧ k * x ≤ 1099511627776 := by
  have a1 : (1048576 - k) * (1048576 + x) ≥ 0 := Int.mul_nonneg (by omega) (by omega)
  have a2 : (1048576 + k) * (1048576 - x) ≥ 0 := Int.mul_nonneg (by omega) (by omega)
  have a3 : (1048576 - k) * (1048576 - x) ≥ 0 := Int.mul_nonneg (by omega) (by omega)
  have a4 : (1048576 + k) * (1048576 + x) ≥ 0 := Int.mul_nonneg (by omega) (by omega)
  simp only [Int.sub_mul, Int.add_mul, Int.mul_add, Int.mul_sub] at a1 a2 a3 a4
  generalize k * x = p at *
  omega

theorem scale_clo (w : World) (k : Int) : Clo2 Try.prog (w.alloc (.cells #[.int .i64 k] 3)) (.func (.func 83) #[] #[.pointer (some ⟨w.heap.size, 0, none⟩)]) (fun x _ => scaleF k x) := by
  refine ⟨_, _, rfl, (enters_of Try.func83 (by kernel_rfl) rfl), fun W hW x y a b c d => ?_⟩
  have hc : W.cell? ⟨w.heap.size, 0, none⟩ = some (.int .i64 k) := (hW.cell (p := ⟨w.heap.size, 0, none⟩) (by simp)).trans (cell_of_one (heap_alloc_new w _))
  show Calls _ _ #[.int .i64 x, .int .i64 y, .pointer (some ⟨w.heap.size, 0, none⟩)] _ _
  by_cases h0 : x = 0
  · have hx : (x == 0) = true := by simp [h0]
    go_enter Try.func83, Try.ntmps83
    go_wp2
    go_ret
    exact ⟨ret_i (by simp [scaleF, h0]), rfl⟩
  · have hx : (x == 0) = false := by simp [h0]
    have H0 := Lib.hid h0
    clear h0
    cases hk : InB k
    · go_enter Try.func83, Try.ntmps83
      go_wp2_with (go_at_call 78; refine (within_any _ _).mono ?_; rintro e w' ⟨rfl, rfl⟩)
      go_ret
      exact ⟨ret_i (by simp [scaleF, H0.out, hk]), rfl⟩
    · have hkb := (inB_iff k).1 hk
      have hm := mul_bd hkb.1 hkb.2 a b
      go_enter Try.func83, Try.ntmps83
      go_wp2_with (go_at_call 78; refine (within_any _ _).mono ?_; rintro e w' ⟨rfl, rfl⟩)
      go_ret
      refine ⟨ret_i ?_, rfl⟩
      simp [scaleF, H0.out, hk]
theorem Scale_any (va : Value) (xs : List Int) (k : Int) (w : World) (ha : RI w va xs) :
    Calls Try.prog 53 #[va, .int .i64 k] w (Pair w (eachL (fun x _ => scaleF k x) xs xs)) := by
  have ha1 := ha.below (below_alloc w (.cells #[.int .i64 k] 3))
  have h := Lib.hid (each_any va va _ xs xs _ _ ha1 ha1 (scale_clo w k))
  clear ha ha1
  go_enter Try.func53, Try.ntmps53
  go_wp2_with (go_at_call 60; refine h.out.mono ?_; rintro e w' ⟨v, rfl, ho, hb'⟩)
  go_ret2
  exact ⟨v, rfl, OV.mono ho (by simp), (below_alloc w _).trans (hb'.mono (by simp))⟩
end Go.Proofs.Ytcmkllfocifnlaa
